/- Plain algebra in one text: rings and fields, polynomials, the integers modulo a prime, residues, finite fields, descriptions of fields, irreducible polynomials. No program, no condition. -/
import Derived.Test.YtibbdjkboglepaaMultMath
import Derived.Test.YtibbdjkboglepaaAux
set_option linter.unusedVariables false
set_option linter.unusedSimpArgs false
set_option linter.unusedSectionVars false
/- Commutative rings and fields, powers, and power series with convolution. Plain algebra, no program, no condition. -/
namespace Go.Proofs.Ytibbdjkboglepaa.Alg

class CR (α : Type) extends Add α, Mul α, Neg α, Zero α, One α where
  add_assoc : ∀ a b c : α, a + b + c = a + (b + c)
  add_comm : ∀ a b : α, a + b = b + a
  zero_add : ∀ a : α, 0 + a = a
  neg_add : ∀ a : α, -a + a = 0
  mul_assoc : ∀ a b c : α, a * b * c = a * (b * c)
  mul_comm : ∀ a b : α, a * b = b * a
  one_mul : ∀ a : α, 1 * a = a
  mul_add : ∀ a b c : α, a * (b + c) = a * b + a * c

section ring
variable {α : Type} [CR α]
theorem add_assoc (a b c : α) : a + b + c = a + (b + c) := CR.add_assoc a b c
theorem add_comm (a b : α) : a + b = b + a := CR.add_comm a b
theorem zero_add (a : α) : 0 + a = a := CR.zero_add a
theorem neg_add (a : α) : -a + a = 0 := CR.neg_add a
theorem mul_assoc (a b c : α) : a * b * c = a * (b * c) := CR.mul_assoc a b c
theorem mul_comm (a b : α) : a * b = b * a := CR.mul_comm a b
theorem one_mul (a : α) : 1 * a = a := CR.one_mul a
theorem mul_add (a b c : α) : a * (b + c) = a * b + a * c := CR.mul_add a b c
theorem add_zero (a : α) : a + 0 = a := by rw [add_comm, zero_add]
theorem add_neg (a : α) : a + -a = 0 := by rw [add_comm, neg_add]
theorem mul_one (a : α) : a * 1 = a := by rw [mul_comm, one_mul]
theorem add_mul (a b c : α) : (a + b) * c = a * c + b * c := by rw [mul_comm, mul_add, mul_comm c a, mul_comm c b]
theorem add_left_comm (a b c : α) : a + (b + c) = b + (a + c) := by rw [← add_assoc, add_comm a b, add_assoc]
theorem mul_left_comm (a b c : α) : a * (b * c) = b * (a * c) := by rw [← mul_assoc, mul_comm a b, mul_assoc]
theorem add_left_cancel {a b c : α} (h : a + b = a + c) : b = c := by
  have := congrArg (-a + ·) h
  simpa [← add_assoc, neg_add, zero_add] using this
theorem add_right_cancel {a b c : α} (h : b + a = c + a) : b = c := add_left_cancel (a := a) (by rw [add_comm a b, add_comm a c, h])
theorem zero_mul (a : α) : 0 * a = 0 := by
  have h : 0 * a + 0 * a = 0 * a + 0 := by rw [← add_mul, zero_add, add_zero]
  exact add_left_cancel h
theorem mul_zero (a : α) : a * 0 = 0 := by rw [mul_comm, zero_mul]
theorem eq_neg_of_add {a b : α} (h : a + b = 0) : a = -b := add_right_cancel (a := b) (by rw [h, neg_add])
theorem neg_eq_of_add {a b : α} (h : a + b = 0) : -a = b := (eq_neg_of_add (by rw [add_comm]; exact h)).symm
theorem neg_zero : -(0 : α) = 0 := neg_eq_of_add (zero_add 0)
theorem neg_neg (a : α) : - -a = a := neg_eq_of_add (neg_add a)
theorem neg_mul (a b : α) : -a * b = -(a * b) := (neg_eq_of_add (by rw [← add_mul, add_neg, zero_mul])).symm
theorem mul_neg (a b : α) : a * -b = -(a * b) := by rw [mul_comm, neg_mul, mul_comm]
theorem neg_add' (a b : α) : -(a + b) = -a + -b := neg_eq_of_add (by rw [add_assoc, add_left_comm b (-a), ← add_assoc a, add_neg, add_neg, zero_add])
theorem sub_eq_zero {a b : α} (h : a + -b = 0) : a = b := by rw [eq_neg_of_add h, neg_neg]
theorem neg_inj {a b : α} (h : -a = -b) : a = b := by rw [← neg_neg a, h, neg_neg]

def pow (a : α) : Nat → α
  | 0 => 1
  | n + 1 => a * pow a n
theorem pow_zero (a : α) : pow a 0 = 1 := rfl
theorem pow_succ (a : α) (n : Nat) : pow a (n + 1) = a * pow a n := rfl
theorem pow_one (a : α) : pow a 1 = a := by rw [pow_succ, pow_zero, mul_one]
theorem pow_add (a : α) (m n : Nat) : pow a (m + n) = pow a m * pow a n := by
  induction m with
  | zero => rw [Nat.zero_add, pow_zero, one_mul]
  | succ m ih => rw [show m + 1 + n = (m + n) + 1 by omega, pow_succ, ih, pow_succ, mul_assoc]
theorem one_pow (n : Nat) : pow (1 : α) n = 1 := by
  induction n with
  | zero => rfl
  | succ n ih => rw [pow_succ, ih, one_mul]
theorem mul_pow (a b : α) (n : Nat) : pow (a * b) n = pow a n * pow b n := by
  induction n with
  | zero => rw [pow_zero, pow_zero, pow_zero, one_mul]
  | succ n ih => rw [pow_succ, pow_succ, pow_succ, ih, mul_assoc, mul_assoc, mul_left_comm b]
theorem pow_mul (a : α) (m n : Nat) : pow a (m * n) = pow (pow a m) n := by
  induction n with
  | zero => rw [Nat.mul_zero, pow_zero, pow_zero]
  | succ n ih => rw [Nat.mul_succ, pow_add, ih, pow_succ, mul_comm]
theorem zero_pow {n : Nat} (h : 0 < n) : pow (0 : α) n = 0 := by
  obtain ⟨m, rfl⟩ : ∃ m, n = m + 1 := ⟨n - 1, by omega⟩
  rw [pow_succ, zero_mul]

/-- The sum of f 0 .. f (n - 1). -/
def sum (n : Nat) (f : Nat → α) : α := match n with
  | 0 => 0
  | n + 1 => sum n f + f n
theorem sum_zero (f : Nat → α) : sum 0 f = 0 := rfl
theorem sum_succ (n : Nat) (f : Nat → α) : sum (n + 1) f = sum n f + f n := rfl
theorem sum_congr {n : Nat} {f g : Nat → α} (h : ∀ i, i < n → f i = g i) : sum n f = sum n g := by
  induction n with
  | zero => rfl
  | succ n ih => rw [sum_succ, sum_succ, ih (fun i hi => h i (by omega)), h n (by omega)]
theorem sum_const_zero (n : Nat) : sum n (fun _ => (0 : α)) = 0 := by
  induction n with
  | zero => rfl
  | succ n ih => rw [sum_succ, ih, add_zero]
theorem sum_eq_zero {n : Nat} {f : Nat → α} (h : ∀ i, i < n → f i = 0) : sum n f = 0 := by
  rw [sum_congr (g := fun _ => 0) h, sum_const_zero]
theorem sum_add (n : Nat) (f g : Nat → α) : sum n (fun i => f i + g i) = sum n f + sum n g := by
  induction n with
  | zero => rw [sum_zero, sum_zero, sum_zero, add_zero]
  | succ n ih => simp only [sum_succ, ih, add_assoc, add_left_comm, add_comm]
theorem mul_sum (a : α) (n : Nat) (f : Nat → α) : a * sum n f = sum n (fun i => a * f i) := by
  induction n with
  | zero => rw [sum_zero, sum_zero, mul_zero]
  | succ n ih => rw [sum_succ, sum_succ, mul_add, ih]
theorem sum_mul (a : α) (n : Nat) (f : Nat → α) : sum n f * a = sum n (fun i => f i * a) := by
  rw [mul_comm, mul_sum]; exact sum_congr fun i _ => mul_comm _ _
theorem sum_neg (n : Nat) (f : Nat → α) : -sum n f = sum n (fun i => -f i) := by
  induction n with
  | zero => rw [sum_zero, sum_zero, neg_zero]
  | succ n ih => rw [sum_succ, sum_succ, neg_add', ih]
theorem sum_swap (m n : Nat) (f : Nat → Nat → α) : sum m (fun i => sum n (fun j => f i j)) = sum n (fun j => sum m (fun i => f i j)) := by
  induction m with
  | zero => rw [sum_zero, sum_eq_zero (fun i _ => sum_zero _)]
  | succ m ih =>
    rw [sum_succ, ih, ← sum_add]
    exact sum_congr fun j _ => (sum_succ _ _).symm
theorem sum_head (n : Nat) (f : Nat → α) : sum (n + 1) f = f 0 + sum n (fun i => f (i + 1)) := by
  induction n with
  | zero => rw [sum_succ, sum_zero, sum_zero, zero_add, add_zero]
  | succ n ih => rw [sum_succ, ih, sum_succ, add_assoc]
theorem sum_one {n k : Nat} (f : Nat → α) (hk : k < n) (h : ∀ i, i < n → i ≠ k → f i = 0) : sum n f = f k := by
  induction n with
  | zero => omega
  | succ n ih =>
    rw [sum_succ]
    by_cases e : k = n
    · subst e
      rw [sum_eq_zero (fun i hi => h i (by omega) (by omega)), zero_add]
    · rw [ih (by omega) (fun i hi => h i (by omega)), h n (by omega) (by omega), add_zero]
theorem sum_split (m n : Nat) (f : Nat → α) : sum (m + n) f = sum m f + sum n (fun i => f (m + i)) := by
  induction n with
  | zero => rw [Nat.add_zero, sum_zero, add_zero]
  | succ n ih => rw [show m + (n + 1) = m + n + 1 by omega, sum_succ, ih, sum_succ, add_assoc]
end ring

class Fd (α : Type) extends CR α where
  inv : α → α
  mul_inv : ∀ a : α, a ≠ 0 → a * inv a = 1
  one_ne : (1 : α) ≠ 0

section field
variable {α : Type} [Fd α]
def inv (a : α) : α := Fd.inv a
theorem mul_inv (a : α) (h : a ≠ 0) : a * inv a = 1 := Fd.mul_inv a h
theorem one_ne : (1 : α) ≠ 0 := Fd.one_ne
theorem inv_mul {a : α} (h : a ≠ 0) : inv a * a = 1 := by rw [mul_comm, mul_inv a h]
theorem mul_eq_zero {a b : α} (h : a * b = 0) : a = 0 ∨ b = 0 := by
  apply Classical.or_iff_not_imp_left.2
  intro ha
  have := congrArg (inv a * ·) h
  simpa [← mul_assoc, inv_mul ha, one_mul, mul_zero] using this
theorem mul_ne_zero {a b : α} (ha : a ≠ 0) (hb : b ≠ 0) : a * b ≠ 0 := fun h => by
  rcases mul_eq_zero h with h | h
  · exact ha h
  · exact hb h
theorem pow_ne_zero {a : α} (ha : a ≠ 0) (n : Nat) : pow a n ≠ 0 := by
  induction n with
  | zero => exact one_ne
  | succ n ih => exact mul_ne_zero ha ih
theorem mul_left_cancel {a b c : α} (ha : a ≠ 0) (h : a * b = a * c) : b = c := by
  have := congrArg (inv a * ·) h
  simpa [← mul_assoc, inv_mul ha, one_mul] using this
theorem inv_ne_zero {a : α} (ha : a ≠ 0) : inv a ≠ 0 := fun h => by
  have := mul_inv a ha
  rw [h, mul_zero] at this
  exact one_ne this.symm
theorem inv_unique {a b : α} (ha : a ≠ 0) (h : a * b = 1) : inv a = b := mul_left_cancel ha (by rw [mul_inv a ha, h])
end field
end Go.Proofs.Ytibbdjkboglepaa.Alg

/- Polynomials as functions from exponents to coefficients: convolution, evaluation, division by a monic polynomial, roots. Plain algebra, no program, no condition. -/
namespace Go.Proofs.Ytibbdjkboglepaa.Alg

def Pol (α : Type) : Type := Nat → α
section ring
variable {α : Type} [CR α]
def tail (f : Pol α) : Pol α := fun n => f (n + 1)
def padd (f g : Pol α) : Pol α := fun n => f n + g n
def pneg (f : Pol α) : Pol α := fun n => -f n
def smul (a : α) (f : Pol α) : Pol α := fun n => a * f n
def pzero : Pol α := fun _ => 0
def C (a : α) : Pol α := fun n => if n = 0 then a else 0
/-- x times f. -/
def xmul (f : Pol α) : Pol α := fun n => match n with
  | 0 => 0
  | n + 1 => f n
def conv (f g : Pol α) (n : Nat) : α := match n with
  | 0 => f 0 * g 0
  | n + 1 => f 0 * g (n + 1) + conv (tail f) g n
def pmul (f g : Pol α) : Pol α := fun n => conv f g n
theorem conv_zero (f g : Pol α) : conv f g 0 = f 0 * g 0 := rfl
theorem conv_succ (f g : Pol α) (n : Nat) : conv f g (n + 1) = f 0 * g (n + 1) + conv (tail f) g n := rfl
theorem conv_add_left (f f' g : Pol α) (n : Nat) : conv (padd f f') g n = conv f g n + conv f' g n := by
  induction n generalizing f f' with
  | zero => simp only [conv_zero, padd, add_mul]
  | succ n ih =>
    have e : tail (padd f f') = padd (tail f) (tail f') := rfl
    rw [conv_succ, conv_succ, conv_succ, e, ih]
    simp only [padd, add_mul, add_assoc, add_left_comm]
theorem conv_add_right (f g g' : Pol α) (n : Nat) : conv f (padd g g') n = conv f g n + conv f g' n := by
  induction n generalizing f with
  | zero => simp only [conv_zero, padd, mul_add]
  | succ n ih =>
    rw [conv_succ, conv_succ, conv_succ, ih]
    simp only [padd, mul_add, add_assoc, add_left_comm]
theorem conv_smul_left (a : α) (f g : Pol α) (n : Nat) : conv (smul a f) g n = a * conv f g n := by
  induction n generalizing f with
  | zero => simp only [conv_zero, smul, mul_assoc]
  | succ n ih =>
    have e : tail (smul a f) = smul a (tail f) := rfl
    rw [conv_succ, conv_succ, e, ih, mul_add]
    simp only [smul, mul_assoc]
theorem conv_zero_left (g : Pol α) (n : Nat) : conv pzero g n = 0 := by
  induction n with
  | zero => simp only [conv_zero, pzero, zero_mul]
  | succ n ih =>
    have e : tail (pzero : Pol α) = pzero := rfl
    rw [conv_succ, e, ih]
    simp only [pzero, zero_mul, add_zero]
theorem conv_succ_right (f g : Pol α) (n : Nat) : conv f g (n + 1) = f (n + 1) * g 0 + conv f (tail g) n := by
  induction n generalizing f with
  | zero =>
    rw [conv_succ, conv_zero, conv_zero, add_comm]
    rfl
  | succ n ih =>
    rw [conv_succ, ih, conv_succ f (tail g), add_left_comm]
    rfl
theorem conv_comm (f g : Pol α) (n : Nat) : conv f g n = conv g f n := by
  induction n generalizing f g with
  | zero => rw [conv_zero, conv_zero, mul_comm]
  | succ n ih => rw [conv_succ, conv_succ_right, ih, mul_comm]
theorem conv_assoc (f g h : Pol α) (n : Nat) : conv (pmul f g) h n = conv f (pmul g h) n := by
  induction n generalizing f with
  | zero => simp only [conv_zero, pmul, mul_assoc]
  | succ n ih =>
    have e : tail (pmul f g) = padd (smul (f 0) (tail g)) (pmul (tail f) g) := rfl
    rw [conv_succ, e, conv_add_left, conv_smul_left, ih, conv_succ f]
    have e2 : pmul g h (n + 1) = g 0 * h (n + 1) + conv (tail g) h n := rfl
    rw [e2, mul_add, ← add_assoc]
    simp only [pmul, conv_zero, mul_assoc]
theorem pmul_comm (f g : Pol α) : pmul f g = pmul g f := funext fun n => conv_comm f g n
theorem pmul_assoc (f g h : Pol α) : pmul (pmul f g) h = pmul f (pmul g h) := funext fun n => conv_assoc f g h n
theorem padd_assoc (f g h : Pol α) : padd (padd f g) h = padd f (padd g h) := funext fun n => add_assoc _ _ _
theorem padd_comm (f g : Pol α) : padd f g = padd g f := funext fun n => add_comm _ _
theorem pzero_padd (f : Pol α) : padd pzero f = f := funext fun n => zero_add _
theorem padd_pzero (f : Pol α) : padd f pzero = f := funext fun n => add_zero _
theorem pneg_padd (f : Pol α) : padd (pneg f) f = pzero := funext fun n => neg_add _
theorem padd_pneg (f : Pol α) : padd f (pneg f) = pzero := funext fun n => add_neg _
theorem pmul_padd (f g h : Pol α) : pmul f (padd g h) = padd (pmul f g) (pmul f h) := funext fun n => conv_add_right f g h n
theorem padd_pmul (f g h : Pol α) : pmul (padd f g) h = padd (pmul f h) (pmul g h) := funext fun n => conv_add_left f g h n
theorem smul_pmul (a : α) (f g : Pol α) : pmul (smul a f) g = smul a (pmul f g) := funext fun n => conv_smul_left a f g n
theorem pmul_smul (a : α) (f g : Pol α) : pmul f (smul a g) = smul a (pmul f g) := by rw [pmul_comm, smul_pmul, pmul_comm]
theorem pzero_pmul (f : Pol α) : pmul pzero f = pzero := funext fun n => conv_zero_left f n
theorem pmul_pzero (f : Pol α) : pmul f pzero = pzero := by rw [pmul_comm, pzero_pmul]
theorem C_pmul (a : α) (f : Pol α) : pmul (C a) f = smul a f := by
  funext n
  cases n with
  | zero => rfl
  | succ n =>
    have e : tail (C a) = pzero := rfl
    show conv (C a) f (n + 1) = _
    rw [conv_succ, e, conv_zero_left, add_zero]
    rfl
theorem one_smul (f : Pol α) : smul 1 f = f := funext fun n => one_mul _
theorem zero_smul (f : Pol α) : smul 0 f = pzero := funext fun n => zero_mul _
theorem smul_smul (a b : α) (f : Pol α) : smul a (smul b f) = smul (a * b) f := funext fun n => (mul_assoc _ _ _).symm
theorem smul_padd (a : α) (f g : Pol α) : smul a (padd f g) = padd (smul a f) (smul a g) := funext fun n => mul_add _ _ _
theorem C_one_pmul (f : Pol α) : pmul (C 1) f = f := by rw [C_pmul, one_smul]
theorem pneg_pmul (f g : Pol α) : pmul (pneg f) g = pneg (pmul f g) := by
  have e : pneg f = smul (-1) f := funext fun n => by simp only [pneg, smul, neg_mul, one_mul]
  rw [e, smul_pmul]
  exact funext fun n => by simp only [pneg, smul, neg_mul, one_mul]
theorem pmul_pneg (f g : Pol α) : pmul f (pneg g) = pneg (pmul f g) := by rw [pmul_comm, pneg_pmul, pmul_comm]
theorem xmul_pmul (f g : Pol α) : pmul (xmul f) g = xmul (pmul f g) := by
  funext n
  cases n with
  | zero => show conv (xmul f) g 0 = 0; rw [conv_zero]; exact zero_mul _
  | succ n =>
    show conv (xmul f) g (n + 1) = conv f g n
    rw [conv_succ]
    have e : tail (xmul f) = f := rfl
    have e0 : xmul f 0 = 0 := rfl
    rw [e, e0, zero_mul, zero_add]
theorem pmul_xmul (f g : Pol α) : pmul f (xmul g) = xmul (pmul f g) := by rw [pmul_comm, xmul_pmul, pmul_comm]
theorem split (f : Pol α) : f = padd (C (f 0)) (xmul (tail f)) := by
  funext n
  cases n with
  | zero => exact (add_zero _).symm
  | succ n => exact (zero_add _).symm

/-- All coefficients from n on are 0. -/
def DegLt (f : Pol α) (n : Nat) : Prop := ∀ i, n ≤ i → f i = 0
theorem DegLt.mono {f : Pol α} {m n : Nat} (h : DegLt f m) (hmn : m ≤ n) : DegLt f n := fun i hi => h i (by omega)
theorem DegLt.tail {f : Pol α} {n : Nat} (h : DegLt f (n + 1)) : DegLt (tail f) n := fun i hi => h (i + 1) (by omega)
theorem DegLt.add {f g : Pol α} {n : Nat} (h : DegLt f n) (h' : DegLt g n) : DegLt (padd f g) n := fun i hi => by simp only [padd, h i hi, h' i hi, add_zero]
theorem DegLt.neg {f : Pol α} {n : Nat} (h : DegLt f n) : DegLt (pneg f) n := fun i hi => by simp only [pneg, h i hi, neg_zero]
theorem DegLt.smul {f : Pol α} {n : Nat} (a : α) (h : DegLt f n) : DegLt (smul a f) n := fun i hi => by simp only [Alg.smul, h i hi, mul_zero]
theorem DegLt.xmul {f : Pol α} {n : Nat} (h : DegLt f n) : DegLt (xmul f) (n + 1) := fun i hi => by
  obtain ⟨j, rfl⟩ : ∃ j, i = j + 1 := ⟨i - 1, by omega⟩
  exact h j (by omega)
theorem DegLt.C (a : α) : DegLt (C a) 1 := fun i hi => if_neg (by omega)
theorem DegLt.zero {f : Pol α} (h : DegLt f 0) : f = pzero := funext fun n => h n (by omega)
theorem DegLt.pzero (n : Nat) : DegLt (pzero : Pol α) n := fun _ _ => rfl
theorem DegLt.pmul {f g : Pol α} {m n : Nat} (hf : DegLt f (m + 1)) (hg : DegLt g n) : DegLt (pmul f g) (m + n) := by
  induction m generalizing f with
  | zero =>
    have e : f = Alg.C (f 0) := by
      rw [split f]
      have := (hf.tail).zero
      rw [this]
      funext n
      cases n with
      | zero => rfl
      | succ n => exact zero_add _
    rw [e, C_pmul, Nat.zero_add]
    exact hg.smul _
  | succ m ih =>
    rw [split f, padd_pmul, C_pmul, xmul_pmul]
    refine DegLt.add ((hg.smul _).mono (by omega)) ?_
    rw [show m + 1 + n = (m + n) + 1 by omega]
    exact (ih hf.tail).xmul
theorem eq_C {f : Pol α} (h : DegLt f 1) : f = C (f 0) := by
  funext n
  cases n with
  | zero => rfl
  | succ n => exact h (n + 1) (by omega)

/-- The value at x of the first n coefficients. -/
def ev (n : Nat) (f : Pol α) (x : α) : α := match n with
  | 0 => 0
  | n + 1 => f 0 + x * ev n (tail f) x
theorem ev_zero (f : Pol α) (x : α) : ev 0 f x = 0 := rfl
theorem ev_succ (n : Nat) (f : Pol α) (x : α) : ev (n + 1) f x = f 0 + x * ev n (tail f) x := rfl
theorem ev_pzero (n : Nat) (x : α) : ev n pzero x = 0 := by
  induction n with
  | zero => rfl
  | succ n ih =>
    have e : tail (pzero : Pol α) = pzero := rfl
    rw [ev_succ, e, ih, mul_zero]
    exact zero_add _
theorem ev_add (n : Nat) (f g : Pol α) (x : α) : ev n (padd f g) x = ev n f x + ev n g x := by
  induction n generalizing f g with
  | zero => exact (zero_add _).symm
  | succ n ih =>
    have e : tail (padd f g) = padd (tail f) (tail g) := rfl
    rw [ev_succ, e, ih, ev_succ, ev_succ, mul_add]
    simp only [padd, add_assoc, add_left_comm]
theorem ev_smul (n : Nat) (a : α) (f : Pol α) (x : α) : ev n (smul a f) x = a * ev n f x := by
  induction n generalizing f with
  | zero => exact (mul_zero _).symm
  | succ n ih =>
    have e : tail (smul a f) = smul a (tail f) := rfl
    rw [ev_succ, e, ih, ev_succ, mul_add, mul_left_comm]
    rfl
theorem ev_neg (n : Nat) (f : Pol α) (x : α) : ev n (pneg f) x = -ev n f x := by
  have e : pneg f = smul (-1) f := funext fun n => by simp only [pneg, smul, neg_mul, one_mul]
  rw [e, ev_smul, neg_mul, one_mul]
theorem ev_mono {n m : Nat} {f : Pol α} (h : DegLt f n) (hm : n ≤ m) (x : α) : ev m f x = ev n f x := by
  induction n generalizing m f with
  | zero => rw [h.zero, ev_pzero, ev_pzero]
  | succ n ih =>
    obtain ⟨k, rfl⟩ : ∃ k, m = k + 1 := ⟨m - 1, by omega⟩
    rw [ev_succ, ev_succ, ih h.tail (by omega)]
theorem ev_xmul (n : Nat) (f : Pol α) (x : α) : ev (n + 1) (xmul f) x = x * ev n f x := by
  rw [ev_succ]
  exact zero_add _
theorem ev_C (n : Nat) (a : α) (x : α) : ev (n + 1) (C a) x = a := by
  have e : tail (C a) = pzero := rfl
  rw [ev_succ, e, ev_pzero, mul_zero, add_zero]
  rfl
theorem ev_mul {m n : Nat} {f g : Pol α} (hf : DegLt f (m + 1)) (hg : DegLt g n) (x : α) : ev (m + n) (pmul f g) x = ev (m + 1) f x * ev n g x := by
  induction m generalizing f with
  | zero =>
    rw [eq_C hf, C_pmul, Nat.zero_add, ev_smul, Nat.zero_add, ev_C]
  | succ m ih =>
    have h1 : ev (m + 1 + n) (pmul f g) x = ev (m + 1 + n) (padd (smul (f 0) g) (xmul (pmul (tail f) g))) x := by
      conv => lhs; rw [split f, padd_pmul, C_pmul, xmul_pmul]
    rw [h1, ev_add, ev_smul, ev_mono hg (by omega), show m + 1 + n = (m + n) + 1 by omega, ev_xmul, ih hf.tail, ev_succ (m + 1) f, add_mul, mul_assoc]
theorem ev_sum (n : Nat) (f : Pol α) (x : α) : ev n f x = sum n (fun i => f i * pow x i) := by
  induction n generalizing f with
  | zero => rfl
  | succ n ih =>
    rw [ev_succ, ih, sum_head, pow_zero, mul_one, mul_sum]
    congr 1
    exact sum_congr fun i _ => by rw [pow_succ, mul_left_comm]; rfl

/-- d is monic of degree m. -/
def Monic (d : Pol α) (m : Nat) : Prop := d m = 1 ∧ DegLt d (m + 1)
theorem Monic.top {d : Pol α} {m : Nat} (h : Monic d m) {q : Pol α} {k : Nat} (hq : DegLt q (k + 1)) : pmul q d (k + m) = q k := by
  induction k generalizing q with
  | zero => rw [eq_C hq, C_pmul, Nat.zero_add]; show q 0 * d m = _; rw [h.1, mul_one]; rfl
  | succ k ih =>
    have e : k + 1 + m = (k + m) + 1 := by omega
    rw [e]
    show conv q d (k + m + 1) = _
    rw [conv_succ, h.2 (k + m + 1) (by omega), mul_zero, zero_add]
    exact ih hq.tail
theorem Monic.mul {c d : Pol α} {m n : Nat} (hc : Monic c m) (hd : Monic d n) : Monic (pmul c d) (m + n) :=
  ⟨by rw [hd.top hc.2, hc.1], by have := hc.2.pmul hd.2; rwa [show m + n + 1 = m + (n + 1) by omega]⟩
theorem Monic.divides {d : Pol α} {m : Nat} (hd : Monic d m) : ∀ (n : Nat) (f : Pol α), DegLt f n → ∃ q r, f = padd (pmul q d) r ∧ DegLt r m ∧ DegLt q n := by
  intro n
  induction n with
  | zero =>
    intro f hf
    exact ⟨pzero, pzero, by rw [pzero_pmul, pzero_padd]; exact hf.zero, DegLt.pzero _, DegLt.pzero _⟩
  | succ n ih =>
    intro f hf
    obtain ⟨q, r, he, hr, hq⟩ := ih (tail f) hf.tail
    have h1 : f = padd (pmul (xmul q) d) (padd (C (f 0)) (xmul r)) := by
      have : f = padd (C (f 0)) (xmul (tail f)) := split f
      rw [xmul_pmul]
      conv => lhs; rw [this, he]
      funext i
      cases i with
      | zero => show _ + 0 = 0 + (_ + 0); rw [zero_add]
      | succ i => show 0 + (_ + _) = _ + (0 + _); rw [zero_add, zero_add]; rfl
    generalize hs : padd (C (f 0)) (xmul r) = s at h1
    have hsd : DegLt s (m + 1) := by rw [← hs]; exact ((DegLt.C _).mono (by omega)).add hr.xmul
    refine ⟨padd (xmul q) (C (s m)), padd s (pneg (smul (s m) d)), ?_, ?_, hq.xmul.add ((DegLt.C _).mono (by omega))⟩
    · rw [padd_pmul, C_pmul]
      conv => lhs; rw [h1]
      funext i
      simp only [padd, pneg]
      rw [add_assoc, add_left_comm (smul (s m) d i), add_neg, add_zero]
    · intro i hi
      by_cases e : i = m
      · subst e
        show s i + -(s i * d i) = 0
        rw [hd.1, mul_one, add_neg]
      · show s i + -(s m * d i) = 0
        rw [hsd i (by omega), hd.2 i (by omega), mul_zero, neg_zero, add_zero]
theorem Monic.unique {d : Pol α} {m : Nat} (hd : Monic d m) {q : Pol α} {n : Nat} (hq : DegLt q n) (h : DegLt (pmul q d) m) : q = pzero := by
  induction n with
  | zero => exact hq.zero
  | succ n ih =>
    have := hd.top hq
    rw [h (n + m) (by omega)] at this
    exact ih (fun i hi => by
      by_cases e : i = n
      · subst e; exact this.symm
      · exact hq i (by omega))
/-- x - a. -/
def lin (a : α) : Pol α := fun n => if n = 0 then -a else if n = 1 then 1 else 0
theorem lin_monic (a : α) : Monic (lin a) 1 := ⟨rfl, fun i hi => by unfold lin; rw [if_neg (by omega), if_neg (by omega)]⟩
theorem ev_lin (a x : α) : ev 2 (lin a) x = x + -a := by
  show -a + x * (1 + x * 0) = _
  rw [mul_zero, add_zero, mul_one, add_comm]
/-- The factor theorem. -/
theorem factor {f : Pol α} {n : Nat} (hf : DegLt f (n + 1)) {a : α} (h : ev (n + 1) f a = 0) : ∃ g, f = pmul g (lin a) ∧ DegLt g n := by
  obtain ⟨q, r, he, hr, hq⟩ := (lin_monic a).divides (n + 1) f hf
  have hr0 : r 0 = 0 := by
    have h2 : ev (n + 1 + 2) f a = 0 := by rw [ev_mono hf (by omega), h]
    rw [he, ev_add] at h2
    have h3 : ev (n + 1 + 2) (pmul q (lin a)) a = 0 := by
      rw [ev_mul (hq.mono (by omega) : DegLt q (n + 1 + 1)) (lin_monic a).2]
      show _ * ev 2 (lin a) a = 0
      rw [ev_lin, add_neg, mul_zero]
    rw [h3, zero_add, ev_mono hr (by omega)] at h2
    have h4 : ev 1 r a = r 0 := by rw [ev_succ, ev_zero, mul_zero, add_zero]
    rw [← h4]; exact h2
  have hrz : r = pzero := by
    rw [eq_C hr, hr0]
    funext i
    show (if i = 0 then (0 : α) else 0) = 0
    split <;> rfl
  rw [hrz, padd_pzero] at he
  refine ⟨q, he, ?_⟩
  intro i hi
  by_cases e : n + 1 ≤ i
  · exact hq i e
  · obtain rfl : i = n := by omega
    have := (lin_monic a).top (hq.mono (Nat.le_refl _))
    rw [← he, hf (i + 1) (by omega)] at this
    exact this.symm
end ring

section field
variable {α : Type} [Fd α]
/-- A polynomial of degree below n with n distinct roots is 0. -/
theorem roots_bound : ∀ (n : Nat) (f : Pol α) (l : List α), DegLt f n → l.Nodup → (∀ a ∈ l, ev n f a = 0) → n ≤ l.length → f = pzero := by
  intro n
  induction n with
  | zero => intro f l hf _ _ _; exact hf.zero
  | succ n ih =>
    intro f l hf hl hr hn
    match l, hl, hr, hn with
    | a :: l, hl, hr, hn =>
      obtain ⟨g, he, hg⟩ := factor hf (hr a List.mem_cons_self)
      have hl' := List.nodup_cons.1 hl
      have : g = pzero := ih g l hg hl'.2 (fun b hb => by
        have h1 := hr b (List.mem_cons_of_mem _ hb)
        have h2 : ev (n + 2) f b = 0 := by rw [ev_mono hf (by omega), h1]
        rw [he, ev_mul (hg.mono (by omega) : DegLt g (n + 1)) (lin_monic a).2] at h2
        rcases mul_eq_zero h2 with h3 | h3
        · rw [← ev_mono hg (by omega : n ≤ n + 1)]; exact h3
        · exfalso
          have h4 : ev 2 (lin a) b = 0 := h3
          rw [ev_lin] at h4
          exact hl'.1 ((sub_eq_zero h4) ▸ hb)) (by simpa using hn)
      rw [he, this, pzero_pmul]
/-- A nonzero polynomial, made monic. -/
theorem make_monic {f : Pol α} {n : Nat} (hf : DegLt f n) (h : f ≠ pzero) : ∃ k c, k < n ∧ c ≠ 0 ∧ Monic (smul c f) k := by
  induction n with
  | zero => exact absurd hf.zero h
  | succ n ih =>
    by_cases e : f n = 0
    · obtain ⟨k, c, hk, hc, hm⟩ := ih (fun i hi => by
        by_cases e' : i = n
        · subst e'; exact e
        · exact hf i (by omega))
      exact ⟨k, c, by omega, hc, hm⟩
    · exact ⟨n, inv (f n), by omega, inv_ne_zero e, inv_mul e, hf.smul _⟩
end field
end Go.Proofs.Ytibbdjkboglepaa.Alg

/- The integers modulo a prime as a field. Plain algebra, no program, no condition. -/
namespace Go.Proofs.Ytibbdjkboglepaa.Alg
open Go.Proofs.Ytibbdjkboglepaa.My

structure Pr where
  p : Int
  two : 2 ≤ p
  prime : ∀ d : Int, 2 ≤ d → d < p → ¬ d ∣ p
def Zp (P : Pr) : Type := {x : Int // 0 ≤ x ∧ x < P.p}
section
variable {P : Pr}
theorem Pr.pos (P : Pr) : 0 < P.p := by have := P.two; omega
theorem Pr.ne (P : Pr) : P.p ≠ 0 := by have := P.two; omega
def of (P : Pr) (x : Int) : Zp P := ⟨x % P.p, Int.emod_nonneg x P.ne, Int.emod_lt_of_pos x P.pos⟩
theorem of_val (x : Int) : (of P x).1 = x % P.p := rfl
theorem of_eq {x y : Int} : of P x = of P y ↔ x % P.p = y % P.p := ⟨fun h => congrArg Subtype.val h, fun h => Subtype.ext h⟩
theorem of_self (a : Zp P) : of P a.1 = a := Subtype.ext (Int.emod_eq_of_lt a.2.1 a.2.2)
instance : Add (Zp P) := ⟨fun a b => of P (a.1 + b.1)⟩
instance : Mul (Zp P) := ⟨fun a b => of P (a.1 * b.1)⟩
instance : Neg (Zp P) := ⟨fun a => of P (-a.1)⟩
instance : Zero (Zp P) := ⟨of P 0⟩
instance : One (Zp P) := ⟨of P 1⟩
instance : DecidableEq (Zp P) := fun a b => decidable_of_iff (a.1 = b.1) ⟨fun h => Subtype.ext h, fun h => congrArg _ h⟩
theorem mod_add_mod' (a b n : Int) : (a % n + b % n) % n = (a + b) % n := by rw [Int.emod_add_emod, Int.add_emod_emod]
theorem mod_mul_mod' (a b n : Int) : (a % n * (b % n)) % n = (a * b) % n := (Int.mul_emod a b n).symm
theorem of_add (x y : Int) : of P x + of P y = of P (x + y) := of_eq.2 (mod_add_mod' x y P.p)
theorem of_mul (x y : Int) : of P x * of P y = of P (x * y) := of_eq.2 (mod_mul_mod' x y P.p)
theorem of_neg (x : Int) : -of P x = of P (-x) := of_eq.2 (by
  show -(x % P.p) % P.p = -x % P.p
  rw [mod_eq_iff]
  have := Int.mul_ediv_add_emod x P.p
  exact ⟨x / P.p, by omega⟩)
theorem of_zero : of P 0 = 0 := rfl
theorem of_one : of P 1 = 1 := rfl
theorem of_cases (a : Zp P) : ∃ x, a = of P x := ⟨a.1, (of_self a).symm⟩
instance : CR (Zp P) where
  add_assoc a b c := by
    obtain ⟨x, rfl⟩ := of_cases a; obtain ⟨y, rfl⟩ := of_cases b; obtain ⟨z, rfl⟩ := of_cases c
    rw [of_add, of_add, of_add, of_add, Int.add_assoc]
  add_comm a b := by
    obtain ⟨x, rfl⟩ := of_cases a; obtain ⟨y, rfl⟩ := of_cases b
    rw [of_add, of_add, Int.add_comm]
  zero_add a := by
    obtain ⟨x, rfl⟩ := of_cases a
    rw [← of_zero, of_add, Int.zero_add]
  neg_add a := by
    obtain ⟨x, rfl⟩ := of_cases a
    rw [of_neg, of_add, Int.add_left_neg, of_zero]
  mul_assoc a b c := by
    obtain ⟨x, rfl⟩ := of_cases a; obtain ⟨y, rfl⟩ := of_cases b; obtain ⟨z, rfl⟩ := of_cases c
    rw [of_mul, of_mul, of_mul, of_mul, Int.mul_assoc]
  mul_comm a b := by
    obtain ⟨x, rfl⟩ := of_cases a; obtain ⟨y, rfl⟩ := of_cases b
    rw [of_mul, of_mul, Int.mul_comm]
  one_mul a := by
    obtain ⟨x, rfl⟩ := of_cases a
    rw [← of_one, of_mul, Int.one_mul]
  mul_add a b c := by
    obtain ⟨x, rfl⟩ := of_cases a; obtain ⟨y, rfl⟩ := of_cases b; obtain ⟨z, rfl⟩ := of_cases c
    rw [of_add, of_mul, of_mul, of_mul, of_add, Int.mul_add]
theorem of_eq_zero {x : Int} : of P x = 0 ↔ P.p ∣ x := by
  rw [← of_zero, of_eq, mod_eq_iff]
  simp
theorem Pr.coprime (P : Pr) {x : Int} (h : ¬ P.p ∣ x) : Int.gcd x P.p = 1 := by
  have h1 := Int.gcd_dvd_left x P.p
  have h2 := Int.gcd_dvd_right x P.p
  generalize Int.gcd x P.p = g at *
  have hg : (g : Int) ≤ P.p := Int.le_of_dvd P.pos h2
  by_cases e : g = 1
  · exact e
  · exfalso
    have hg0 : g ≠ 0 := by
      intro e0
      subst e0
      have := Int.zero_dvd.1 h2
      have := P.two
      omega
    by_cases e2 : (g : Int) = P.p
    · exact h (e2 ▸ h1)
    · exact P.prime g (by omega) (by omega) h2
theorem Zp_inv (a : Zp P) (h : a ≠ 0) : ∃ b, a * b = 1 := by
  obtain ⟨x, rfl⟩ := of_cases a
  obtain ⟨u, hu, _⟩ := inverse_mod (P.coprime (fun hd => h (of_eq_zero.2 hd)))
  refine ⟨of P u, ?_⟩
  rw [of_mul, ← of_one, of_eq, mod_eq_iff, Int.mul_comm]
  exact hu
open Classical in
noncomputable instance : Fd (Zp P) where
  inv a := if h : a = 0 then 0 else (Zp_inv a h).choose
  mul_inv a h := by
    simp only [h, dite_false]
    exact (Zp_inv a h).choose_spec
  one_ne h := by
    have h1 := of_eq_zero.1 (h : of P 1 = 0)
    have := Int.le_of_dvd (by omega) h1
    have := P.two
    omega
end
end Go.Proofs.Ytibbdjkboglepaa.Alg

/- The field of the residues of polynomials modulo an irreducible one, its elements written as whole numbers. Plain algebra, no program, no condition. -/
namespace Go.Proofs.Ytibbdjkboglepaa.Alg
open Go.Proofs.Ytibbdjkboglepaa.My

section cong
variable {α : Type} [CR α]
/-- f and g differ by a multiple of F. -/
def Cong (F f g : Pol α) : Prop := ∃ q n, DegLt q n ∧ f = padd g (pmul q F)
theorem Cong.refl (F f : Pol α) : Cong F f f := ⟨pzero, 0, DegLt.pzero _, by rw [pzero_pmul, padd_pzero]⟩
theorem Cong.symm {F f g : Pol α} (h : Cong F f g) : Cong F g f := by
  obtain ⟨q, n, hq, rfl⟩ := h
  exact ⟨pneg q, n, hq.neg, by rw [pneg_pmul, padd_assoc, padd_pneg, padd_pzero]⟩
theorem DegLt.max_add {f g : Pol α} {m n : Nat} (h : DegLt f m) (h' : DegLt g n) : DegLt (padd f g) (m + n) := (h.mono (by omega)).add (h'.mono (by omega))
theorem Cong.trans {F f g h : Pol α} (a : Cong F f g) (b : Cong F g h) : Cong F f h := by
  obtain ⟨q, n, hq, rfl⟩ := a
  obtain ⟨q', n', hq', rfl⟩ := b
  exact ⟨padd q' q, n' + n, hq'.max_add hq, by rw [padd_pmul, padd_assoc]⟩
theorem Cong.add {F f g f' g' : Pol α} (a : Cong F f g) (b : Cong F f' g') : Cong F (padd f f') (padd g g') := by
  obtain ⟨q, n, hq, rfl⟩ := a
  obtain ⟨q', n', hq', rfl⟩ := b
  refine ⟨padd q q', n + n', hq.max_add hq', ?_⟩
  rw [padd_pmul]
  funext i
  simp only [padd, add_assoc, add_left_comm]
theorem Cong.mul {F f g h : Pol α} {n : Nat} (a : Cong F f g) (hh : DegLt h n) : Cong F (pmul f h) (pmul g h) := by
  obtain ⟨q, k, hq, rfl⟩ := a
  refine ⟨pmul q h, k + n, (hq.mono (by omega) : DegLt q (k + 1)).pmul hh, ?_⟩
  rw [padd_pmul, pmul_assoc, pmul_assoc, pmul_comm F h]
theorem Cong.mul2 {F f g f' g' : Pol α} {n n' : Nat} (a : Cong F f g) (b : Cong F f' g') (h : DegLt f' n) (h' : DegLt g n') : Cong F (pmul f f') (pmul g g') := by
  refine (a.mul h).trans ?_
  rw [pmul_comm g f', pmul_comm g g']
  exact b.mul h'
theorem Cong.neg {F f g : Pol α} (a : Cong F f g) : Cong F (pneg f) (pneg g) := by
  obtain ⟨q, n, hq, rfl⟩ := a
  refine ⟨pneg q, n, hq.neg, ?_⟩
  rw [pneg_pmul]
  exact funext fun i => neg_add' _ _
theorem Cong.unique {F f g : Pol α} {m : Nat} (hF : Monic F m) (h : Cong F f g) (hf : DegLt f m) (hg : DegLt g m) : f = g := by
  obtain ⟨q, n, hq, he⟩ := h
  have h1 : pmul q F = padd f (pneg g) := by
    rw [he, padd_comm g, padd_assoc, padd_pneg, padd_pzero]
  have := hF.unique hq (by rw [h1]; exact hf.add hg.neg)
  rw [this, pzero_pmul, padd_pzero] at he
  exact he
theorem Cong.exists {F f : Pol α} {m n : Nat} (hF : Monic F m) (hf : DegLt f n) : ∃ r, Cong F f r ∧ DegLt r m := by
  obtain ⟨q, r, he, hr, hq⟩ := hF.divides n f hf
  exact ⟨r, ⟨q, n, hq, by rw [he, padd_comm]⟩, hr⟩
end cong

section digits
variable {P : Pr}
/-- The digits of x in base p, as a polynomial. -/
def dig (P : Pr) (x : Int) : Pol (Zp P) := fun i => of P (x / P.p ^ i)
theorem dig_zero (x : Int) : dig P x 0 = of P x := by simp [dig]
theorem dig_tail (x : Int) : tail (dig P x) = dig P (x / P.p) := by
  funext i
  show of P (x / P.p ^ (i + 1)) = of P (x / P.p / P.p ^ i)
  rw [Int.pow_succ, Int.mul_comm, Int.ediv_ediv, if_neg (by have := P.two; omega), Int.sub_zero]
def pval (m : Nat) (r : Pol (Zp P)) : Int := match m with
  | 0 => 0
  | m + 1 => (r 0).1 + P.p * pval m (tail r)
theorem pval_succ (m : Nat) (r : Pol (Zp P)) : pval (m + 1) r = (r 0).1 + P.p * pval m (tail r) := rfl
theorem pow_pos (P : Pr) (m : Nat) : 0 < P.p ^ m := Int.pow_pos P.pos
theorem pow_le (P : Pr) {m n : Nat} (h : m ≤ n) : P.p ^ m ≤ P.p ^ n := by
  obtain ⟨k, rfl⟩ : ∃ k, n = m + k := ⟨n - m, by omega⟩
  rw [Int.pow_add]
  have h1 := pow_pos P m
  have h2 := pow_pos P k
  have := Int.mul_le_mul_of_nonneg_left (show 1 ≤ P.p ^ k by omega) (show 0 ≤ P.p ^ m by omega)
  omega
theorem pval_range (m : Nat) (r : Pol (Zp P)) : 0 ≤ pval m r ∧ pval m r < P.p ^ m := by
  induction m generalizing r with
  | zero => exact ⟨by simp [pval], by simp [pval]⟩
  | succ m ih =>
    obtain ⟨h1, h2⟩ := ih (tail r)
    have h3 := (r 0).2
    have h4 : P.p * pval m (tail r) ≤ P.p * (P.p ^ m - 1) := Int.mul_le_mul_of_nonneg_left (by omega) (by have := P.pos; omega)
    have h5 : 0 ≤ P.p * pval m (tail r) := Int.mul_nonneg (by have := P.pos; omega) h1
    have h6 : P.p ^ (m + 1) = P.p * P.p ^ m := by rw [Int.pow_succ, Int.mul_comm]
    rw [Int.mul_sub, Int.mul_one, ← h6] at h4
    rw [pval_succ]
    omega
theorem dig_pval (m : Nat) (r : Pol (Zp P)) (h : DegLt r m) : dig P (pval m r) = r := by
  induction m generalizing r with
  | zero =>
    rw [h.zero]
    funext i
    show of P ((0 : Int) / _) = 0
    rw [Int.zero_ediv]; rfl
  | succ m ih =>
    have h0 := (r 0).2
    have e1 : (pval (m + 1) r) / P.p = pval m (tail r) := by
      rw [pval_succ, Int.add_mul_ediv_left _ _ P.ne, Int.ediv_eq_zero_of_lt h0.1 h0.2, Int.zero_add]
    rw [split (dig P (pval (m + 1) r)), dig_tail, e1, ih _ h.tail, dig_zero]
    have e2 : of P (pval (m + 1) r) = r 0 := by
      rw [pval_succ]
      conv => rhs; rw [← of_self (r 0)]
      rw [of_eq, Int.add_mul_emod_self_left]
    rw [e2, ← split r]
theorem pval_dig (m : Nat) (x : Int) (h0 : 0 ≤ x) (h : x < P.p ^ m) : pval m (dig P x) = x := by
  induction m generalizing x with
  | zero => simp at h; simp [pval]; omega
  | succ m ih =>
    have h1 : x / P.p < P.p ^ m := by
      apply Int.ediv_lt_of_lt_mul P.pos
      rwa [← Int.pow_succ]
    rw [pval_succ, dig_tail, ih _ (Int.ediv_nonneg h0 (by have := P.pos; omega)) h1, dig_zero, of_val]
    have := Int.emod_add_mul_ediv x P.p
    omega
theorem dig_deg (m : Nat) (x : Int) (h0 : 0 ≤ x) (h : x < P.p ^ m) : DegLt (dig P x) m := by
  intro i hi
  show of P (x / P.p ^ i) = 0
  rw [Int.ediv_eq_zero_of_lt h0 (Int.lt_of_lt_of_le h ?_)]
  · rfl
  · exact pow_le P hi
theorem dig_inj (m : Nat) {x y : Int} (h0 : 0 ≤ x) (h : x < P.p ^ m) (h0' : 0 ≤ y) (h' : y < P.p ^ m) (e : dig P x = dig P y) : x = y := by
  rw [← pval_dig m x h0 h, e, pval_dig m y h0' h']
end digits

/-- What describes a field: a prime, a degree, and an irreducible polynomial of this degree. -/
structure FD extends Pr where
  m : Nat
  hm : 1 ≤ m
  F : Pol (Zp toPr)
  monic : Monic F m
  irr : ∀ (k : Nat) (g h : Pol (Zp toPr)), 1 ≤ k → k < m → Monic g k → Monic h (m - k) → pmul g h ≠ F
def FD.q (D : FD) : Int := D.p ^ D.m
def GF (D : FD) : Type := {x : Int // 0 ≤ x ∧ x < D.q}
section gf
variable {D : FD}
theorem FD.q_pos (D : FD) : 0 < D.q := pow_pos D.toPr D.m
theorem FD.two_q (D : FD) : 2 ≤ D.q := by
  unfold FD.q
  obtain ⟨k, hk⟩ : ∃ k, D.m = k + 1 := ⟨D.m - 1, by have := D.hm; omega⟩
  have h1 := pow_pos D.toPr k
  have h2 : D.p * 1 ≤ D.p * D.p ^ k := Int.mul_le_mul_of_nonneg_left (by omega) (by have := D.two; omega)
  rw [hk, Int.pow_succ, Int.mul_comm]
  have := D.two
  omega
def GF.dg (a : GF D) : Pol (Zp D.toPr) := dig D.toPr a.1
theorem GF.deg (a : GF D) : DegLt a.dg D.m := dig_deg D.m a.1 a.2.1 a.2.2
theorem GF.ext {a b : GF D} (h : a.dg = b.dg) : a = b := Subtype.ext (dig_inj D.m a.2.1 a.2.2 b.2.1 b.2.2 h)
theorem GF.ext_cong {a b : GF D} (h : Cong D.F a.dg b.dg) : a = b := GF.ext (h.unique D.monic a.deg b.deg)
def gval (D : FD) (r : Pol (Zp D.toPr)) : GF D := ⟨pval D.m r, (pval_range D.m r).1, (pval_range D.m r).2⟩
theorem dg_gval {r : Pol (Zp D.toPr)} (h : DegLt r D.m) : (gval D r).dg = r := dig_pval D.m r h
theorem GF.mul_ex (a b : GF D) : ∃ c : GF D, Cong D.F (pmul a.dg b.dg) c.dg := by
  obtain ⟨r, hr, hd⟩ := Cong.exists D.monic ((a.deg.mono (by omega) : DegLt a.dg (D.m + 1)).pmul b.deg)
  exact ⟨gval D r, by rw [dg_gval hd]; exact hr⟩
noncomputable instance : Mul (GF D) := ⟨fun a b => (GF.mul_ex a b).choose⟩
instance : Add (GF D) := ⟨fun a b => gval D (padd a.dg b.dg)⟩
instance : Neg (GF D) := ⟨fun a => gval D (pneg a.dg)⟩
instance : Zero (GF D) := ⟨⟨0, by omega, D.q_pos⟩⟩
instance : One (GF D) := ⟨⟨1, by omega, by have := D.two_q; omega⟩⟩
instance : DecidableEq (GF D) := fun a b => decidable_of_iff (a.1 = b.1) ⟨fun h => Subtype.ext h, fun h => congrArg _ h⟩
theorem dg_mul (a b : GF D) : Cong D.F (pmul a.dg b.dg) (a * b).dg := (GF.mul_ex a b).choose_spec
theorem dg_add (a b : GF D) : (a + b).dg = padd a.dg b.dg := dg_gval (a.deg.add b.deg)
theorem dg_neg (a : GF D) : (-a).dg = pneg a.dg := dg_gval a.deg.neg
theorem dg_zero : (0 : GF D).dg = pzero := by
  funext i
  show of D.toPr ((0 : Int) / _) = 0
  rw [Int.zero_ediv]; rfl
theorem dg_one : (1 : GF D).dg = C 1 := by
  funext i
  show of D.toPr ((1 : Int) / D.p ^ i) = _
  cases i with
  | zero => simp [C]; rfl
  | succ i =>
    rw [Int.ediv_eq_zero_of_lt (by omega) (Int.lt_of_lt_of_le (show 1 < D.p by have := D.two; omega) ?_)]
    · rfl
    · have h1 := pow_pos D.toPr i
      rw [Int.pow_succ, Int.mul_comm]
      have := Int.mul_le_mul_of_nonneg_left (show 1 ≤ D.p ^ i by omega) (show 0 ≤ D.p by have := D.two; omega)
      omega
theorem one_val : (1 : GF D).1 = 1 := rfl
theorem zero_val : (0 : GF D).1 = 0 := rfl
noncomputable instance : CR (GF D) where
  add_assoc a b c := GF.ext (by rw [dg_add, dg_add, dg_add, dg_add, padd_assoc])
  add_comm a b := GF.ext (by rw [dg_add, dg_add, padd_comm])
  zero_add a := GF.ext (by rw [dg_add, dg_zero, pzero_padd])
  neg_add a := GF.ext (by rw [dg_add, dg_neg, dg_zero, pneg_padd])
  mul_assoc a b c := GF.ext_cong (by
    have h1 := (dg_mul (a * b) c).symm.trans (((dg_mul a b).symm.mul c.deg))
    have h2 := (dg_mul a (b * c)).symm.trans ((Cong.refl D.F a.dg).mul2 (dg_mul b c).symm (b * c).deg a.deg)
    refine h1.trans ?_
    rw [pmul_assoc]
    exact h2.symm)
  mul_comm a b := GF.ext_cong (by
    refine (dg_mul a b).symm.trans ?_
    rw [pmul_comm]
    exact dg_mul b a)
  one_mul a := GF.ext_cong (by
    refine (dg_mul 1 a).symm.trans ?_
    rw [dg_one, C_one_pmul]
    exact Cong.refl _ _)
  mul_add a b c := GF.ext_cong (by
    refine (dg_mul a (b + c)).symm.trans ?_
    rw [dg_add, dg_add, pmul_padd]
    exact (dg_mul a b).add (dg_mul a c))
/-- A nonzero element has an inverse. -/
theorem GF.inv_ex (a : GF D) (ha : a ≠ 0) : ∃ b : GF D, a * b = 1 := by
  classical
  -- the ideal of a and F
  let I : Pol (Zp D.toPr) → Prop := fun f => ∃ u v n, DegLt u n ∧ DegLt v n ∧ f = padd (pmul u a.dg) (pmul v D.F)
  have hsm : ∀ c f, I f → I (smul c f) := by
    rintro c f ⟨u, v, n, hu, hv, rfl⟩
    exact ⟨smul c u, smul c v, n, hu.smul c, hv.smul c, by rw [smul_pmul, smul_pmul, smul_padd]⟩
  have hadz : a.dg ≠ pzero := fun h => ha (GF.ext (by rw [h, dg_zero]))
  have hIa : I a.dg := ⟨C 1, pzero, 1, DegLt.C _, DegLt.pzero _, by rw [C_one_pmul, pzero_pmul, padd_pzero]⟩
  let S : Nat → Prop := fun k => ∃ g, I g ∧ Monic g k
  obtain ⟨k0, c0, hk0, hc0, hm0⟩ := make_monic a.deg hadz
  have hS : S k0 := ⟨smul c0 a.dg, hsm _ _ hIa, hm0⟩
  -- the least degree
  have hleast : ∃ k, S k ∧ ∀ j, j < k → ¬ S j := by
    have : ∀ n, (∃ k, k ≤ n ∧ S k) → ∃ k, S k ∧ ∀ j, j < k → ¬ S j := by
      intro n
      induction n with
      | zero => rintro ⟨k, hk, hs⟩; exact ⟨k, hs, fun j hj => by omega⟩
      | succ n ih =>
        rintro ⟨k, hk, hs⟩
        by_cases h : ∃ j, j ≤ n ∧ S j
        · exact ih h
        · exact ⟨k, hs, fun j hj hs' => h ⟨j, by omega, hs'⟩⟩
    exact this k0 ⟨k0, Nat.le_refl _, hS⟩
  obtain ⟨k, ⟨g, hIg, hg⟩, hmin⟩ := hleast
  have hkm : k < D.m := Nat.lt_of_le_of_lt (Nat.le_of_not_lt fun h => hmin k0 h hS) hk0
  obtain ⟨q, r, he, hr, hq⟩ := hg.divides (D.m + 1) D.F D.monic.2
  obtain ⟨u, v, n, hu, hv, hgu⟩ := hIg
  have hrz : r = pzero := by
    apply Decidable.byContradiction
    intro hne
    obtain ⟨j, c, hj, hc, hmj⟩ := make_monic hr hne
    refine hmin j hj ⟨smul c r, hsm _ _ ?_, hmj⟩
    refine ⟨pneg (pmul q u), padd (C 1) (pneg (pmul q v)), D.m + 1 + n + 1, ?_, ?_, ?_⟩
    · exact (((hq.mono (by omega) : DegLt q (D.m + 1 + 1)).pmul hu).mono (by omega)).neg
    · exact ((DegLt.C 1).mono (by omega)).add (((hq.mono (by omega) : DegLt q (D.m + 1 + 1)).pmul hv).mono (by omega)).neg
    · have h1 : r = padd (pneg (pmul q g)) D.F := by
        rw [he, ← padd_assoc, pneg_padd, pzero_padd]
      have h2 : pmul q g = padd (pmul (pmul q u) a.dg) (pmul (pmul q v) D.F) := by
        rw [hgu, pmul_padd, pmul_assoc, pmul_assoc]
      rw [h1, h2, pneg_pmul, padd_pmul, C_one_pmul, pneg_pmul]
      funext i
      simp only [padd, pneg]
      rw [neg_add', add_assoc, add_comm (-_ : Zp D.toPr) (D.F i)]
  rw [hrz, padd_pzero] at he
  have hk : k = 0 := by
    apply Decidable.byContradiction
    intro hk
    -- q is monic of degree m - k
    have hqm : Monic q (D.m - k) := by
      have hdq : ∀ e, DegLt q (D.m - k + 1 + e) → DegLt q (D.m - k + 1) := by
        intro e
        induction e with
        | zero => exact fun h => h
        | succ e ih =>
          intro h
          apply ih
          intro i hi
          by_cases e' : i = D.m - k + 1 + e
          · have := hg.top (q := q) (k := i) (by rw [e']; exact h)
            rw [← he, D.monic.2 (i + k) (by omega)] at this
            exact this.symm
          · exact h i (by omega)
      have hd : DegLt q (D.m - k + 1) := hdq k (hq.mono (by omega))
      refine ⟨?_, hd⟩
      have := hg.top hd
      rw [← he, show D.m - k + k = D.m by omega, D.monic.1] at this
      exact this.symm
    exact D.irr k g q (by omega) hkm hg hqm (by rw [pmul_comm]; exact he.symm)
  subst hk
  have hg1 : g = C 1 := by rw [eq_C hg.2, hg.1]
  have h1 : Cong D.F (pmul u a.dg) (C 1) := by
    refine ⟨pneg v, n, hv.neg, ?_⟩
    rw [← hg1, hgu, padd_assoc, pneg_pmul, padd_pneg, padd_pzero]
  obtain ⟨b, hb, hbd⟩ := Cong.exists D.monic hu
  refine ⟨gval D b, GF.ext_cong ?_⟩
  refine (dg_mul a (gval D b)).symm.trans ?_
  rw [dg_gval hbd, dg_one, pmul_comm]
  exact (hb.symm.mul a.deg).trans h1
open Classical in
noncomputable instance : Fd (GF D) where
  inv a := if h : a = 0 then 0 else (GF.inv_ex a h).choose
  mul_inv a h := by
    simp only [h, dite_false]
    exact (GF.inv_ex a h).choose_spec
  one_ne h := by
    have := congrArg Subtype.val h
    rw [one_val, zero_val] at this
    omega
end gf
end Go.Proofs.Ytibbdjkboglepaa.Alg

/- Finite fields: orders of elements, Fermat's theorem, a primitive element. Plain algebra, no program, no condition. -/
namespace Go.Proofs.Ytibbdjkboglepaa.Alg

section lists
variable {α : Type} [DecidableEq α]
theorem nodup_le {l l' : List α} (h : l.Nodup) (hs : ∀ a ∈ l, a ∈ l') : l.length ≤ l'.length := by
  induction l generalizing l' with
  | nil => simp
  | cons a l ih =>
    have hn := List.nodup_cons.1 h
    have ha := hs a List.mem_cons_self
    have := ih (l' := l'.erase a) hn.2 (fun b hb => (List.mem_erase_of_ne (fun e => hn.1 (by rw [← e]; exact hb))).2 (hs b (List.mem_cons_of_mem _ hb)))
    rw [List.length_erase_of_mem ha] at this
    have : 0 < l'.length := List.length_pos_of_mem ha
    simp; omega
theorem nodup_full {l l' : List α} (h : l.Nodup) (hs : ∀ a ∈ l, a ∈ l') (hl : l'.length ≤ l.length) (h' : l'.Nodup) : ∀ a ∈ l', a ∈ l := by
  intro a ha
  apply Decidable.byContradiction
  intro hn
  have := nodup_le (l := a :: l) (l' := l') (List.nodup_cons.2 ⟨hn, h⟩) (fun b hb => by
    rcases List.mem_cons.1 hb with rfl | hb
    · exact ha
    · exact hs b hb)
  simp at this; omega
theorem nodup_map {β : Type} {l : List α} {f : α → β} (h : l.Nodup) (hf : ∀ a ∈ l, ∀ b ∈ l, f a = f b → a = b) : (l.map f).Nodup := by
  induction l with
  | nil => simp
  | cons a l ih =>
    have hn := List.nodup_cons.1 h
    rw [List.map_cons, List.nodup_cons]
    refine ⟨?_, ih hn.2 (fun b hb c hc => hf b (List.mem_cons_of_mem _ hb) c (List.mem_cons_of_mem _ hc))⟩
    intro hm
    obtain ⟨b, hb, e⟩ := List.mem_map.1 hm
    exact hn.1 (hf b (List.mem_cons_of_mem _ hb) a List.mem_cons_self e ▸ hb)
end lists

theorem least_nat (S : Nat → Prop) : ∀ n, S n → ∃ k, k ≤ n ∧ S k ∧ ∀ j, j < k → ¬ S j := by
  classical
  intro n
  induction n using Nat.strongRecOn with
  | _ n ih =>
    intro h
    by_cases e : ∃ j, j < n ∧ S j
    · obtain ⟨j, hj, hs⟩ := e
      obtain ⟨k, hk, h1, h2⟩ := ih j hj hs
      exact ⟨k, by omega, h1, h2⟩
    · exact ⟨n, Nat.le_refl _, h, fun j hj hs => e ⟨j, hj, hs⟩⟩

section monoid
variable {α : Type} [CR α]
/-- k is the order of x. -/
def IsOrd (x : α) (k : Nat) : Prop := 1 ≤ k ∧ pow x k = 1 ∧ ∀ j, 1 ≤ j → j < k → pow x j ≠ 1
theorem IsOrd.dvd {x : α} {k : Nat} (h : IsOrd x k) {j : Nat} : pow x j = 1 ↔ k ∣ j := by
  constructor
  · intro hj
    have e := Nat.div_add_mod j k
    rw [← e, pow_add, pow_mul, h.2.1, one_pow, one_mul] at hj
    have hlt := Nat.mod_lt j (show 0 < k by have := h.1; omega)
    by_cases e0 : j % k = 0
    · exact Nat.dvd_of_mod_eq_zero e0
    · exact absurd hj (h.2.2 _ (by omega) hlt)
  · rintro ⟨c, rfl⟩
    rw [pow_mul, h.2.1, one_pow]
theorem IsOrd.unique {x : α} {k j : Nat} (h : IsOrd x k) (h' : IsOrd x j) : k = j :=
  Nat.dvd_antisymm (h.dvd.1 h'.2.1) (h'.dvd.1 h.2.1)
theorem IsOrd.of_dvd {x : α} {k : Nat} (hk : 1 ≤ k) (h : ∀ j, pow x j = 1 ↔ k ∣ j) : IsOrd x k :=
  ⟨hk, (h k).2 (Nat.dvd_refl k), fun j hj hj' e => by
    have := Nat.le_of_dvd (by omega) ((h j).1 e)
    omega⟩
theorem ord_ex {x : α} {n : Nat} (hn : 1 ≤ n) (h : pow x n = 1) : ∃ k, IsOrd x k ∧ k ≤ n := by
  obtain ⟨k, hk, ⟨h1, h2⟩, h3⟩ := least_nat (fun k => 1 ≤ k ∧ pow x k = 1) n ⟨hn, h⟩
  exact ⟨k, ⟨h1, h2, fun j hj hj' e => h3 j hj' ⟨hj, e⟩⟩, hk⟩
theorem IsOrd.pow_mod {x : α} {k : Nat} (h : IsOrd x k) (j : Nat) : pow x (j % k) = pow x j := by
  conv => rhs; rw [← Nat.div_add_mod j k, pow_add, pow_mul, h.2.1, one_pow, one_mul]
theorem IsOrd.pow_pow {x : α} {k : Nat} (h : IsOrd x k) (i : Nat) : IsOrd (pow x i) (k / Nat.gcd k i) := by
  have hk := h.1
  have hg : 0 < Nat.gcd k i := Nat.gcd_pos_of_pos_left i (by omega)
  obtain ⟨a, ha⟩ := Nat.gcd_dvd_left k i
  obtain ⟨b, hb⟩ := Nat.gcd_dvd_right k i
  generalize hgg : Nat.gcd k i = g at *
  have hka : k / g = a := by rw [ha, Nat.mul_div_cancel_left a hg]
  rw [hka]
  have hco : Nat.Coprime a b := by
    have : g * Nat.gcd a b = g := by
      rw [← Nat.gcd_mul_left, ← ha, ← hb, hgg]
    have h1 : g * Nat.gcd a b = g * 1 := by rw [this, Nat.mul_one]
    exact Nat.eq_of_mul_eq_mul_left hg h1
  refine IsOrd.of_dvd ?_ (fun j => ?_)
  · apply Nat.pos_of_ne_zero
    intro e
    rw [e, Nat.mul_zero] at ha
    omega
  · rw [← pow_mul, h.dvd, ha, hb, Nat.mul_assoc]
    constructor
    · intro hd
      have := Nat.dvd_of_mul_dvd_mul_left hg hd
      exact hco.dvd_of_dvd_mul_left this
    · rintro ⟨c, rfl⟩
      exact ⟨b * c, by rw [Nat.mul_assoc, Nat.mul_left_comm b a c]⟩
/-- The product of elements of coprime orders. -/
theorem IsOrd.mul {x y : α} {a b : Nat} (hx : IsOrd x a) (hy : IsOrd y b) (hco : Nat.Coprime a b) : IsOrd (x * y) (a * b) := by
  refine IsOrd.of_dvd (Nat.mul_pos hx.1 hy.1) (fun j => ?_)
  rw [mul_pow]
  constructor
  · intro h
    have h1 : pow y (j * a) = 1 := by
      have := congrArg (fun z => pow z a) h
      simp only [mul_pow, ← pow_mul, one_pow] at this
      rwa [show j * a = a * j from Nat.mul_comm _ _, pow_mul, hx.2.1, one_pow, one_mul, ← Nat.mul_comm j a] at this
    have h2 : pow x (j * b) = 1 := by
      have := congrArg (fun z => pow z b) h
      simp only [mul_pow, ← pow_mul, one_pow] at this
      rwa [show pow y (j * b) = 1 by rw [Nat.mul_comm, pow_mul, hy.2.1, one_pow], mul_one] at this
    exact hco.mul_dvd_of_dvd_of_dvd (hco.dvd_of_dvd_mul_right (hx.dvd.1 h2)) (hco.symm.dvd_of_dvd_mul_right (hy.dvd.1 h1))
  · rintro ⟨c, rfl⟩
    rw [hx.dvd.2 ⟨b * c, Nat.mul_assoc _ _ _⟩, hy.dvd.2 ⟨a * c, by rw [Nat.mul_comm a b, Nat.mul_assoc]⟩, one_mul]
end monoid

/-- A prime divisor. -/
theorem prime_dvd {n : Nat} (h : 2 ≤ n) : ∃ r, 2 ≤ r ∧ r ∣ n ∧ ∀ d, 2 ≤ d → d < r → ¬ d ∣ r := by
  obtain ⟨r, hr, ⟨h1, h2⟩, h3⟩ := least_nat (fun d => 2 ≤ d ∧ d ∣ n) n ⟨h, Nat.dvd_refl n⟩
  exact ⟨r, h1, h2, fun d hd hd' hdr => h3 d hd' ⟨hd, Nat.dvd_trans hdr h2⟩⟩
theorem prime_coprime {r n : Nat} (h2 : 2 ≤ r) (hp : ∀ d, 2 ≤ d → d < r → ¬ d ∣ r) (h : ¬ r ∣ n) : Nat.Coprime r n := by
  have h1 := Nat.gcd_dvd_left r n
  have h3 := Nat.gcd_dvd_right r n
  have hle := Nat.le_of_dvd (by omega) h1
  have hpos := Nat.gcd_pos_of_pos_left n (show 0 < r by omega)
  show Nat.gcd r n = 1
  generalize Nat.gcd r n = g at *
  by_cases e : g = 1
  · exact e
  · exfalso
    by_cases e2 : g = r
    · exact h (e2 ▸ h3)
    · exact hp g (by omega) (by omega) h1
theorem pow_part {r : Nat} (h2 : 2 ≤ r) (n : Nat) (hn : 1 ≤ n) : ∃ j n', n = r ^ j * n' ∧ ¬ r ∣ n' ∧ 1 ≤ n' := by
  induction n using Nat.strongRecOn with
  | _ n ih =>
    by_cases e : r ∣ n
    · obtain ⟨c, rfl⟩ := e
      have hc : 1 ≤ c := by
        apply Nat.pos_of_ne_zero
        intro e0; subst e0; simp at hn
      have hlt : c < r * c := by
        have := Nat.mul_le_mul_right c h2
        omega
      obtain ⟨j, n', h1, h3, h4⟩ := ih c hlt hc
      exact ⟨j + 1, n', by conv => lhs; rw [h1]
                           rw [Nat.pow_succ, ← Nat.mul_assoc, Nat.mul_comm r], h3, h4⟩
    · exact ⟨0, n, by simp, e, hn⟩

section field
variable {α : Type} [Fd α] [DecidableEq α]
/-- A list of all elements of a field. -/
structure Full (L : List α) : Prop where
  nodup : L.Nodup
  all : ∀ a, a ∈ L
def prod (l : List α) : α := l.foldr (· * ·) 1
theorem prod_perm {l l' : List α} (h : l.Perm l') : prod l = prod l' := by
  induction h with
  | nil => rfl
  | cons a _ ih => exact congrArg (a * ·) ih
  | swap a b l => exact mul_left_comm _ _ _
  | trans _ _ ih1 ih2 => exact ih1.trans ih2
theorem prod_map (x : α) (l : List α) : prod (l.map (x * ·)) = pow x l.length * prod l := by
  induction l with
  | nil => exact (one_mul _).symm
  | cons a l ih =>
    show x * a * prod (l.map (x * ·)) = x * pow x l.length * (a * prod l)
    rw [ih, mul_assoc, mul_assoc, mul_left_comm a]
theorem prod_ne {l : List α} (h : ∀ a ∈ l, a ≠ 0) : prod l ≠ 0 := by
  induction l with
  | nil => exact one_ne
  | cons a l ih => exact mul_ne_zero (h a List.mem_cons_self) (ih fun b hb => h b (List.mem_cons_of_mem _ hb))
theorem Full.erase {L : List α} (h : Full L) : (L.erase 0).Nodup ∧ (∀ a, a ∈ L.erase 0 ↔ a ≠ 0) ∧ (L.erase 0).length = L.length - 1 :=
  ⟨h.nodup.erase 0, fun a => by rw [h.nodup.mem_erase_iff]; exact ⟨fun h => h.1, fun hn => ⟨hn, h.all a⟩⟩, List.length_erase_of_mem (h.all 0)⟩
theorem Full.two {L : List α} (h : Full L) : 2 ≤ L.length := by
  have := nodup_le (l := [(0 : α), 1]) (l' := L) (by simp; exact fun e => one_ne e.symm) (fun a _ => h.all a)
  simpa using this
/-- Fermat. -/
theorem Full.fermat {L : List α} (h : Full L) {x : α} (hx : x ≠ 0) : pow x (L.length - 1) = 1 := by
  obtain ⟨h1, h2, h3⟩ := h.erase
  have hp : ((L.erase 0).map (x * ·)).Perm (L.erase 0) := by
    have hnd : ((L.erase 0).map (x * ·)).Nodup := nodup_map h1 (fun a _ b _ e => mul_left_cancel hx e)
    rw [List.perm_ext_iff_of_nodup hnd h1]
    have hsub : ∀ a ∈ (L.erase 0).map (x * ·), a ∈ L.erase 0 := by
      intro a ha
      obtain ⟨b, hb, rfl⟩ := List.mem_map.1 ha
      exact (h2 _).2 (mul_ne_zero hx ((h2 b).1 hb))
    exact fun a => ⟨hsub a, nodup_full hnd hsub (by simp) h1 a⟩
  have := prod_perm hp
  rw [prod_map, h3] at this
  have hne := prod_ne (l := L.erase 0) (fun a ha => (h2 a).1 ha)
  have h4 : prod (L.erase 0) * pow x (L.length - 1) = prod (L.erase 0) * 1 := by rw [mul_one, mul_comm, this]
  exact mul_left_cancel hne h4
theorem Full.ord {L : List α} (h : Full L) {x : α} (hx : x ≠ 0) : ∃ k, IsOrd x k ∧ k ∣ L.length - 1 := by
  obtain ⟨k, hk, _⟩ := ord_ex (by have := h.two; omega) (h.fermat hx)
  exact ⟨k, hk, hk.dvd.1 (h.fermat hx)⟩
theorem ord_ne_zero {x : α} {k : Nat} (h : IsOrd x k) : x ≠ 0 := by
  intro e
  have := h.2.1
  rw [e, zero_pow (by have := h.1; omega)] at this
  exact one_ne this.symm
/-- x^n - 1 has at most n roots. -/
theorem few_roots {l : List α} {n : Nat} (hn : 1 ≤ n) (hl : l.Nodup) (h : ∀ a ∈ l, pow a n = 1) : l.length ≤ n := by
  apply Decidable.byContradiction
  intro hlt
  let f : Pol α := fun i => if i = n then 1 else if i = 0 then -1 else 0
  have hf : DegLt f (n + 1) := fun i hi => by
    show (if i = n then (1 : α) else if i = 0 then -1 else 0) = 0
    rw [if_neg (by omega), if_neg (by omega)]
  have hev : ∀ a, ev (n + 1) f a = -1 + pow a n := by
    intro a
    obtain ⟨m, rfl⟩ : ∃ m, n = m + 1 := ⟨n - 1, by omega⟩
    rw [ev_sum, sum_succ, sum_head, pow_zero, mul_one, sum_eq_zero, add_zero]
    · show (if 0 = m + 1 then (1 : α) else if 0 = 0 then -1 else 0) + (if m + 1 = m + 1 then (1 : α) else _) * _ = _
      rw [if_neg (by omega), if_pos rfl, if_pos rfl, one_mul]
    · intro i hi
      show (if i + 1 = m + 1 then (1 : α) else if i + 1 = 0 then -1 else 0) * _ = 0
      rw [if_neg (by omega), if_neg (by omega), zero_mul]
  have := roots_bound (n + 1) f l hf hl (fun a ha => by rw [hev, h a ha, neg_add]) (by omega)
  have h1 : f n = 0 := by rw [this]; rfl
  have h2 : f n = 1 := if_pos rfl
  rw [h2] at h1
  exact one_ne h1
/-- The multiplicative group is cyclic. -/
theorem Full.primitive {L : List α} (h : Full L) : ∃ g : α, IsOrd g (L.length - 1) := by
  have h2 := h.two
  -- an element of greatest order
  have hmax : ∃ (g : α) (n : Nat), IsOrd g n ∧ ∀ (y : α) b, IsOrd y b → b ≤ n := by
    obtain ⟨k, hk, ⟨g, hg⟩, hm⟩ := least_nat (fun k => ∃ g : α, IsOrd g (L.length - k)) (L.length - 1) ⟨1, by
      rw [show L.length - (L.length - 1) = 1 by omega]
      exact ⟨Nat.le_refl 1, pow_one 1, fun j hj hj' => by omega⟩⟩
    refine ⟨g, L.length - k, hg, fun y b hy => ?_⟩
    apply Decidable.byContradiction
    intro hlt
    obtain ⟨c, hc, hcd⟩ := h.ord (ord_ne_zero hy)
    have hbc := hy.unique hc
    have := Nat.le_of_dvd (by omega) hcd
    exact hm (L.length - b) (by omega) ⟨y, by rw [show L.length - (L.length - b) = b by omega]; exact hy⟩
  obtain ⟨g, n, hg, hmax⟩ := hmax
  have hdiv : ∀ y : α, y ≠ 0 → pow y n = 1 := by
    intro y hy
    obtain ⟨b, hb, _⟩ := h.ord hy
    rw [hb.dvd]
    apply Decidable.byContradiction
    intro hnd
    have hb1 := hb.1
    have hn1 := hg.1
    have hgp := Nat.gcd_pos_of_pos_left n (show 0 < b by omega)
    obtain ⟨t, ht⟩ := Nat.gcd_dvd_left b n
    have ht2 : 2 ≤ t := by
      apply Decidable.byContradiction
      intro hlt
      have : t = 0 ∨ t = 1 := by omega
      rcases this with e | e
      · rw [e, Nat.mul_zero] at ht; omega
      · rw [e, Nat.mul_one] at ht
        exact hnd (ht ▸ Nat.gcd_dvd_right b n)
    obtain ⟨r, hr2, hrt, hrp⟩ := prime_dvd ht2
    obtain ⟨j, n', hn', hrn', hn'1⟩ := pow_part hr2 n hn1
    have hall : ∀ i, i ≤ j → r ^ (i + 1) ∣ b := by
      intro i
      induction i with
      | zero =>
        intro _
        rw [Nat.zero_add, Nat.pow_one, ht]
        exact Nat.dvd_trans hrt (Nat.dvd_mul_left _ _)
      | succ i ih =>
        intro hi
        have h1 : r ^ (i + 1) ∣ n := by
          rw [hn']
          exact Nat.dvd_trans (Nat.pow_dvd_pow r hi) (Nat.dvd_mul_right _ _)
        have h3 := Nat.dvd_gcd (ih (by omega)) h1
        rw [Nat.pow_succ, ht]
        exact Nat.mul_dvd_mul h3 hrt
    obtain ⟨e, he⟩ := hall j (Nat.le_refl j)
    have hrj : 0 < r ^ (j + 1) := Nat.pow_pos (by omega)
    have he1 : 1 ≤ e := by
      apply Nat.pos_of_ne_zero
      intro e0
      rw [e0, Nat.mul_zero] at he
      omega
    have hy' : IsOrd (pow y e) (r ^ (j + 1)) := by
      have := hb.pow_pow e
      rwa [show Nat.gcd b e = e by rw [he]; exact Nat.gcd_mul_left_left _ _, he, Nat.mul_div_cancel _ (by omega)] at this
    have hg' : IsOrd (pow g (r ^ j)) n' := by
      have := hg.pow_pow (r ^ j)
      rwa [show Nat.gcd n (r ^ j) = r ^ j by rw [hn']; exact Nat.gcd_mul_right_left _ _, hn', Nat.mul_div_cancel_left _ (Nat.pow_pos (by omega))] at this
    have hco : Nat.Coprime (r ^ (j + 1)) n' := Nat.Coprime.pow_left _ (prime_coprime hr2 hrp hrn')
    have := hmax _ _ (hy'.mul hg' hco)
    rw [hn', Nat.pow_succ] at this
    have h5 : r ^ j * n' * 2 ≤ r ^ j * n' * r := Nat.mul_le_mul_left _ hr2
    have h6 : 1 ≤ r ^ j * n' := Nat.mul_pos (Nat.pow_pos (by omega)) hn'1
    have h7 : r ^ j * r * n' = r ^ j * n' * r := by rw [Nat.mul_assoc, Nat.mul_comm r, ← Nat.mul_assoc]
    omega
  obtain ⟨e1, e2, e3⟩ := h.erase
  have := few_roots hg.1 e1 (fun a ha => hdiv a ((e2 a).1 ha))
  obtain ⟨k, hk, hkd⟩ := h.ord (ord_ne_zero hg)
  have := Nat.le_of_dvd (by omega) hkd
  have := hg.unique hk
  have hne : n = L.length - 1 := by omega
  exact ⟨g, hne ▸ hg⟩
/-- The powers of a primitive element are all nonzero elements. -/
theorem Full.powers {L : List α} (h : Full L) {g : α} (hg : IsOrd g (L.length - 1)) {x : α} (hx : x ≠ 0) : ∃ i, i < L.length - 1 ∧ pow g i = x := by
  obtain ⟨e1, e2, e3⟩ := h.erase
  have hgn := ord_ne_zero hg
  have hinj : ∀ i, i < L.length - 1 → ∀ j, j < L.length - 1 → pow g i = pow g j → i = j := by
    have key : ∀ i j, i ≤ j → j < L.length - 1 → pow g i = pow g j → i = j := by
      intro i j hij hj e
      obtain ⟨d, rfl⟩ : ∃ d, j = i + d := ⟨j - i, by omega⟩
      rw [pow_add] at e
      have : pow g i * 1 = pow g i * pow g d := by rw [mul_one]; exact e
      have := mul_left_cancel (pow_ne_zero hgn i) this
      have := hg.dvd.1 this.symm
      have := Nat.eq_zero_of_dvd_of_lt this (by omega)
      omega
    intro i hi j hj e
    rcases Nat.le_total i j with hij | hij
    · exact key i j hij hj e
    · exact (key j i hij hi e.symm).symm
  have hnd : ((List.range (L.length - 1)).map (pow g)).Nodup := nodup_map List.nodup_range (fun a ha b hb => hinj a (List.mem_range.1 ha) b (List.mem_range.1 hb))
  have := nodup_full hnd (l' := L.erase 0) (fun a ha => by
    obtain ⟨i, hi, rfl⟩ := List.mem_map.1 ha
    exact (e2 _).2 (pow_ne_zero hgn i)) (by simp [e3]) e1 x ((e2 x).2 hx)
  obtain ⟨i, hi, e⟩ := List.mem_map.1 this
  exact ⟨i, List.mem_range.1 hi, e⟩
end field
end Go.Proofs.Ytibbdjkboglepaa.Alg

/- A field and its description as Go has it; lists of digits. Plain, no program, no condition. -/
namespace Go.Proofs.Ytibbdjkboglepaa.Alg
open Go.RowKit Go.Proofs.YtibbdjkboglepaaW.PrintWords Go.Proofs.YtibbdjkboglepaaW.PrintMore Go.Proofs.Ytibbdjkboglepaa.My

theorem list_ext_rd {l l' : List Int} (h : l.length = l'.length) (he : ∀ i : Int, 0 ≤ i → i < l.length → rd l i = rd l' i) : l = l' := by
  apply List.ext_getElem h
  intro i h1 h2
  have := he i (by omega) (by omega)
  unfold rd at this
  simpa [List.getD_eq_getElem?_getD, List.getElem?_eq_getElem, h1, h2] using this
theorem rd_map_range {n : Nat} {f : Nat → Int} {i : Int} (h0 : 0 ≤ i) (h : i < n) : rd ((List.range n).map f) i = f i.toNat := by
  unfold rd
  rw [List.getD_eq_getElem?_getD, List.getElem?_map, List.getElem?_range (by omega)]
  rfl
theorem rd_take {l : List Int} {n : Nat} {i : Int} (h0 : 0 ≤ i) (h : i < n) : rd (l.take n) i = rd l i := by
  unfold rd
  rw [List.getD_eq_getElem?_getD, List.getD_eq_getElem?_getD, List.getElem?_take_of_lt (by omega)]
theorem rd_replicate {n : Nat} {i : Int} : rd (List.replicate n 0) i = 0 := by
  unfold rd
  rw [List.getD_eq_getElem?_getD, List.getElem?_replicate]
  split <;> rfl
theorem rd_cons_succ {x : Int} {l : List Int} {i : Int} (h : 0 ≤ i) : rd (x :: l) (i + 1) = rd l i := by
  unfold rd
  rw [show (i + 1).toNat = i.toNat + 1 by omega]
  rfl
theorem rd_cons_zero {x : Int} {l : List Int} : rd (x :: l) 0 = x := rfl

/-- The polynomial of a list of whole numbers. -/
def lp (P : Pr) (l : List Int) : Pol (Zp P) := fun i => if i < l.length then of P (rd l i) else 0
theorem lp_deg (P : Pr) (l : List Int) : DegLt (lp P l) l.length := fun i hi => if_neg (by omega)
theorem lp_at {P : Pr} {l : List Int} {i : Nat} (h : i < l.length) : lp P l i = of P (rd l i) := if_pos h
theorem lp_cons (P : Pr) (x : Int) (l : List Int) : tail (lp P (x :: l)) = lp P l := by
  funext i
  show lp P (x :: l) (i + 1) = _
  unfold lp
  by_cases h : i < l.length
  · rw [if_pos h, if_pos (by simp; omega), show ((i + 1 : Nat) : Int) = (i : Int) + 1 by omega, rd_cons_succ (by omega)]
  · rw [if_neg h, if_neg (by simp; omega)]
/-- The number with the digits l in base p. -/
def lval (p : Int) (l : List Int) : Int := l.foldr (fun d a => d + p * a) 0
theorem lval_cons (p x : Int) (l : List Int) : lval p (x :: l) = x + p * lval p l := rfl
theorem lval_pval {P : Pr} {l : List Int} (h : ∀ d ∈ l, 0 ≤ d ∧ d < P.p) : lval P.p l = pval l.length (lp P l) := by
  induction l with
  | nil => rfl
  | cons x l ih =>
    have hx := h x List.mem_cons_self
    rw [lval_cons, List.length_cons, pval_succ, lp_cons, ih fun d hd => h d (List.mem_cons_of_mem _ hd)]
    congr 1
    rw [lp_at (by simp), show ((0 : Nat) : Int) = 0 from rfl, rd_cons_zero, of_val, Int.emod_eq_of_lt hx.1 hx.2]

/-- D is the field that P, M and Mod describe. -/
structure Desc (D : FD) (P M : Int) (Mod : List Int) : Prop where
  hp : D.p = P
  hm : (D.m : Int) = M
  hm8 : M ≤ 8
  hq : D.q ≤ 256
  one : M = 1 → Mod = []
  len : 1 < M → (Mod.length : Int) = M
  low : 1 < M → ∀ i : Nat, i < D.m → rd Mod i = (D.F i).1
section
variable {D : FD} {P M : Int} {Mod : List Int}
theorem Desc.m1 (h : Desc D P M Mod) : 1 ≤ M := by have := D.hm; have := h.hm; omega
theorem Desc.p2 (h : Desc D P M Mod) : 2 ≤ P := by have := D.two; have := h.hp; omega
theorem Desc.pq (h : Desc D P M Mod) : P ≤ D.q := by
  have := h.hp
  have e : D.q = D.p ^ D.m := rfl
  have h1 := pow_le D.toPr D.hm
  rw [e]
  rw [Int.pow_succ, Int.pow_zero, Int.one_mul] at h1
  omega
theorem Desc.p256 (h : Desc D P M Mod) : P ≤ 256 := by have := h.pq; have := h.hq; omega
/-- The element that a whole number stands for: itself, or 0. -/
def inn (D : FD) (x : Int) : GF D := ⟨if 0 ≤ x ∧ x < D.q then x else 0, by have := D.q_pos; split <;> omega⟩
theorem inn_val (D : FD) (x : Int) : (inn D x).1 = if 0 ≤ x ∧ x < D.q then x else 0 := rfl
theorem inn_of {x : Int} (h0 : 0 ≤ x) (h : x < D.q) : (inn D x).1 = x := by rw [inn_val, if_pos ⟨h0, h⟩]
theorem inn_self (a : GF D) : inn D a.1 = a := Subtype.ext (inn_of a.2.1 a.2.2)
theorem inn_zero : inn D 0 = 0 := inn_self 0
theorem inn_one : inn D 1 = 1 := inn_self 1
theorem GF.lt (a : GF D) (h : Desc D P M Mod) : 0 ≤ a.1 ∧ a.1 < 256 := by have := a.2; have := h.hq; omega
theorem GF.val_eq {a b : GF D} : a.1 = b.1 ↔ a = b := ⟨Subtype.ext, fun h => congrArg _ h⟩
theorem GF.val_zero {a : GF D} : a.1 = 0 ↔ a = 0 := GF.val_eq (b := (0 : GF D))
theorem GF.val_one {a : GF D} : a.1 = 1 ↔ a = 1 := GF.val_eq (b := (1 : GF D))
/-- All elements. -/
def elems (D : FD) : List (GF D) := (List.range D.q.toNat).map fun i : Nat => inn D (i : Int)
theorem elems_full (D : FD) : Full (elems D) where
  nodup := nodup_map (f := fun i : Nat => inn D (i : Int)) List.nodup_range (fun a ha b hb e => by
    have h1 := List.mem_range.1 ha
    have h2 := List.mem_range.1 hb
    have := congrArg Subtype.val e
    rw [inn_of (by omega) (by omega), inn_of (by omega) (by omega)] at this
    omega)
  all a := List.mem_map.2 ⟨a.1.toNat, List.mem_range.2 (by have := a.2; omega), by
    rw [show ((a.1.toNat : Nat) : Int) = a.1 by have := a.2; omega, inn_self]⟩
theorem elems_length (D : FD) : ((elems D).length : Int) = D.q := by
  unfold elems
  have := D.q_pos
  simp; omega
/-- The digits of an element. -/
def digL (a : GF D) : List Int := (List.range D.m).map fun i => (a.dg i).1
theorem digL_length (a : GF D) : (digL a).length = D.m := by simp [digL]
theorem digL_rd (a : GF D) {i : Int} (h0 : 0 ≤ i) (h : i < D.m) : rd (digL a) i = (a.dg i.toNat).1 := rd_map_range h0 h
theorem digL_mem (a : GF D) : ∀ d ∈ digL a, 0 ≤ d ∧ d < D.p := by
  intro d hd
  obtain ⟨i, _, rfl⟩ := List.mem_map.1 hd
  exact (a.dg i).2
theorem lp_digL (a : GF D) : lp D.toPr (digL a) = a.dg := by
  funext i
  unfold lp
  rw [digL_length]
  by_cases h : i < D.m
  · rw [if_pos h, digL_rd a (by omega) (by omega)]
    exact of_self _
  · rw [if_neg h, a.deg i (by omega)]
theorem lval_digL (a : GF D) : lval D.p (digL a) = a.1 := by
  rw [lval_pval (digL_mem a), lp_digL, digL_length]
  exact pval_dig D.m a.1 a.2.1 a.2.2
/-- The digits, as divisions tell them. -/
theorem digL_div (a : GF D) {i : Int} (h0 : 0 ≤ i) (h : i < D.m) : rd (digL a) i = a.1 / D.p ^ i.toNat % D.p := digL_rd a h0 h
/-- An element out of its digits. -/
theorem lval_elem {l : List Int} (hl : l.length = D.m) (h : ∀ d ∈ l, 0 ≤ d ∧ d < D.p) : lval D.p l = (gval D (lp D.toPr l)).1 := by
  rw [lval_pval h, hl]; rfl
theorem lval_bd {p : Int} {l : List Int} (hp : 2 ≤ p) (h : ∀ d ∈ l, 0 ≤ d ∧ d < p) : 0 ≤ lval p l ∧ lval p l < p ^ l.length := by
  induction l with
  | nil => exact ⟨by simp [lval], by simp [lval]⟩
  | cons x l ih =>
    have hx := h x List.mem_cons_self
    obtain ⟨h1, h2⟩ := ih fun d hd => h d (List.mem_cons_of_mem _ hd)
    have h4 : p * lval p l ≤ p * (p ^ l.length - 1) := Int.mul_le_mul_of_nonneg_left (by omega) (by omega)
    have h5 : 0 ≤ p * lval p l := Int.mul_nonneg (by omega) h1
    have h6 : p ^ (l.length + 1) = p * p ^ l.length := by rw [Int.pow_succ, Int.mul_comm]
    rw [Int.mul_sub, Int.mul_one, ← h6] at h4
    rw [lval_cons, List.length_cons]
    omega
end
end Go.Proofs.Ytibbdjkboglepaa.Alg

/- Coefficients of products as sums, monomials, truncation. Plain algebra, no program, no condition. -/
namespace Go.Proofs.Ytibbdjkboglepaa.Alg
open Go.Proofs.YtibbdjkboglepaaW.PrintWords
section
variable {α : Type} [CR α]
def cf (a b : Pol α) (i t : Nat) : α := if i ≤ t then a i * b (t - i) else 0
theorem conv_cf (a b : Pol α) (n : Nat) (h : DegLt a n) (t : Nat) : conv a b t = sum n (fun i => cf a b i t) := by
  induction t generalizing a n with
  | zero =>
    match n with
    | 0 => rw [h.zero, conv_zero_left]; rfl
    | n + 1 =>
      rw [sum_head, sum_eq_zero, add_zero]
      · rfl
      · intro i hi
        unfold cf
        rw [if_neg (by omega)]
  | succ t ih =>
    match n with
    | 0 => rw [h.zero, conv_zero_left]; rfl
    | n + 1 =>
      rw [sum_head, conv_succ, ih (tail a) n h.tail]
      congr 1
      apply sum_congr
      intro i hi
      unfold cf
      by_cases e : i ≤ t
      · rw [if_pos e, if_pos (by omega), show t + 1 - (i + 1) = t - i by omega]; rfl
      · rw [if_neg e, if_neg (by omega)]
def monom (k : Nat) (a : α) : Pol α := fun t => if t = k then a else 0
theorem monom_deg (k : Nat) (a : α) : DegLt (monom k a) (k + 1) := fun i hi => if_neg (by omega)
theorem monom_pmul (k : Nat) (a : α) (f : Pol α) (t : Nat) : pmul (monom k a) f t = if k ≤ t then a * f (t - k) else 0 := by
  show conv (monom k a) f t = _
  rw [conv_cf _ _ (k + 1) (monom_deg k a), sum_one (k := k) _ (by omega)]
  · unfold cf
    by_cases e : k ≤ t
    · rw [if_pos e, if_pos e]; unfold monom; rw [if_pos rfl]
    · rw [if_neg e, if_neg e]
  · intro i hi hne
    unfold cf monom
    split
    · first | rw [zero_mul] | rw [if_neg hne, zero_mul]
    · rfl
end
/-- The polynomial of a list, cut at n. -/
def cut (P : Pr) (n : Nat) (l : List Int) : Pol (Zp P) := fun t => if t < n then of P (rd l t) else 0

theorem cut_take {P : Pr} {n : Nat} {l : List Int} (h : n ≤ l.length) : lp P (l.take n) = cut P n l := by
  funext t
  unfold lp cut
  rw [List.length_take, Nat.min_eq_left h]
  by_cases e : t < n
  · rw [if_pos e, if_pos e, rd_take (by omega) (by omega)]
  · rw [if_neg e, if_neg e]
theorem cut_deg (P : Pr) (n : Nat) (l : List Int) : DegLt (cut P n l) n := fun t ht => if_neg (by omega)
theorem lp_cut {P : Pr} {l : List Int} : lp P l = cut P l.length l := rfl
end Go.Proofs.Ytibbdjkboglepaa.Alg

/- Descriptions of fields: their shape, and irreducible polynomials by trial. Plain algebra, no program, no condition. -/
namespace Go.Proofs.Ytibbdjkboglepaa.Alg
open Go.Proofs.YtibbdjkboglepaaW.PrintWords Go.Proofs.Ytibbdjkboglepaa.My
/-- The monic polynomial of degree m with the low coefficients l. -/
def mon (P : Pr) (m : Nat) (l : List Int) : Pol (Zp P) := fun i => if i < m then of P (rd l i) else if i = m then 1 else 0
theorem mon_monic (P : Pr) (m : Nat) (l : List Int) : Monic (mon P m l) m := ⟨by unfold mon; rw [if_neg (by omega), if_pos rfl], fun i hi => by unfold mon; rw [if_neg (by omega), if_neg (by omega)]⟩
theorem Monic.cofactor {α : Type} [CR α] {g F q : Pol α} {k m n : Nat} (hg : Monic g k) (hF : Monic F m) (hq : DegLt q n) (he : F = pmul q g) (hk : k ≤ m) : Monic q (m - k) := by
  have hdq : ∀ e, DegLt q (m - k + 1 + e) → DegLt q (m - k + 1) := by
    intro e
    induction e with
    | zero => exact fun h => h
    | succ e ih =>
      intro h
      apply ih
      intro i hi
      by_cases e' : i = m - k + 1 + e
      · have := hg.top (q := q) (k := i) (by rw [e']; exact h)
        rw [← he, hF.2 (i + k) (by omega)] at this
        exact this.symm
      · exact h i (by omega)
  have hd : DegLt q (m - k + 1) := hdq n (hq.mono (by omega))
  refine ⟨?_, hd⟩
  have := hg.top hd
  rw [← he, show m - k + k = m by omega, hF.1] at this
  exact this.symm
section
variable {Q : Pr}
def DLn (p : Int) (c : List Int) : Prop := ∀ t : Int, 0 ≤ t → t < c.length → 0 ≤ rd c t ∧ rd c t < p
theorem DLn.set {p : Int} {c : List Int} (h : DLn p c) {t v : Int} (ht : 0 ≤ t) (ht' : t < c.length) (h0 : 0 ≤ v) (hv : v < p) : DLn p (c.set t.toNat v) := by
  intro s hs hs'
  rw [List.length_set] at hs'
  by_cases e : t = s
  · subst e; rw [rd_set_self ht ht']; exact ⟨h0, hv⟩
  · rw [rd_set_ne ht hs e]; exact h s hs hs'
theorem cong_zero {α : Type} [CR α] {G F : Pol α} : Cong G F pzero ↔ ∃ h n, DegLt h n ∧ F = pmul h G := by
  constructor
  · rintro ⟨q, n, hq, he⟩; exact ⟨q, n, hq, by rw [he, pzero_padd]⟩
  · rintro ⟨q, n, hq, he⟩; exact ⟨q, n, hq, by rw [he, pzero_padd]⟩
/-- P, M and the order are in range. -/
def InR (P M : Int) : Prop := 2 ≤ P ∧ 1 ≤ M ∧ M ≤ 8 ∧ P ^ M.toNat ≤ 256
theorem pow_mono {P : Int} (h : 1 ≤ P) {m n : Nat} (hmn : m ≤ n) : P ^ m ≤ P ^ n := by
  obtain ⟨k, rfl⟩ : ∃ k, n = m + k := ⟨n - m, by omega⟩
  rw [Int.pow_add]
  have h1 : 0 < P ^ m := Int.pow_pos (by omega)
  have h2 : 0 < P ^ k := Int.pow_pos (by omega)
  have := Int.mul_le_mul_of_nonneg_left (show 1 ≤ P ^ k by omega) (show 0 ≤ P ^ m by omega)
  omega
/-- No monic polynomial of a degree from 1 to half of m divides the one with the low coefficients md. -/
def Irr (Q : Pr) (md : List Int) (d : Nat) : Prop := ∀ low : List Int, low.length = d → DLn Q.p low → ¬ ∃ h n, DegLt h n ∧ mon Q md.length md = pmul h (mon Q low.length low)
/-- The coefficients of a polynomial as a list. -/
def lowL (m : Nat) (f : Pol (Zp Q)) : List Int := (List.range m).map fun i => (f i).1
theorem lowL_length (m : Nat) (f : Pol (Zp Q)) : (lowL m f).length = m := by simp [lowL]
theorem lowL_DLn (m : Nat) (f : Pol (Zp Q)) : DLn Q.p (lowL m f) := fun t h0 h1 => by
  rw [lowL_length] at h1
  unfold lowL
  rw [rd_map_range h0 h1]
  exact (f t.toNat).2
theorem mon_lowL {m : Nat} {f : Pol (Zp Q)} (h : Monic f m) : mon Q (lowL m f).length (lowL m f) = f := by
  rw [lowL_length]
  funext i
  unfold mon
  by_cases e : i < m
  · rw [if_pos e]
    unfold lowL
    rw [rd_map_range (by omega) (by omega)]
    exact of_self _
  · rw [if_neg e]
    by_cases e2 : i = m
    · rw [if_pos e2, e2, h.1]
    · rw [if_neg e2, h.2 i (by omega)]
/-- Irreducible by trial means irreducible. -/
theorem Irr_all {md : List Int} (h : ∀ d', 1 ≤ d' → 2 * d' ≤ md.length → Irr Q md d') : ∀ (k : Nat) (g h : Pol (Zp Q)), 1 ≤ k → k < md.length → Monic g k → Monic h (md.length - k) → pmul g h ≠ mon Q md.length md := by
  intro k g g' hk hk' hg hg' he
  by_cases e : 2 * k ≤ md.length
  · exact h k hk e (lowL k g) (lowL_length _ _) (lowL_DLn _ _) ⟨g', _, hg'.2, by rw [mon_lowL hg, ← he, pmul_comm]⟩
  · exact h (md.length - k) (by omega) (by omega) (lowL _ g') (lowL_length _ _) (lowL_DLn _ _) ⟨g, _, hg.2, by rw [mon_lowL hg', ← he]⟩
end
section
variable {P M : Int} {Mod : List Int}
/-- The low coefficients of the field's polynomial. -/
def lowOf (M : Int) (Mod : List Int) : List Int := if M = 1 then [0] else Mod
/-- Conditions on P, M and Mod that Check looks at before the trial divisions. -/
def Shp (P M : Int) (Mod : List Int) : Prop := InR P M ∧ (∀ c : Int, 2 ≤ c → c < P → ¬ c ∣ P) ∧ (M = 1 → Mod = []) ∧ (1 < M → (Mod.length : Int) = M ∧ DLn P Mod)
theorem Shp.make {Q : Pr} (hQ : Q.p = P) (h : Shp P M Mod) (hI : 1 < M → ∀ d', 1 ≤ d' → 2 * d' ≤ Mod.length → Irr Q Mod d') : ∃ D : FD, Desc D P M Mod := by
  obtain ⟨⟨h1, h2, h3, h4⟩, h5, h6, h7⟩ := h
  by_cases e : M = 1
  · refine ⟨{ Q with m := 1, hm := Nat.le_refl 1, F := monom 1 1, monic := ⟨if_pos rfl, monom_deg 1 1⟩, irr := fun k g h hk hk' => by omega }, ?_⟩
    refine ⟨hQ, e.symm, h3, ?_, h6, fun h => by omega, fun h => by omega⟩
    show Q.p ^ 1 ≤ 256
    rw [hQ]
    rw [show M.toNat = 1 by omega] at h4
    exact h4
  · obtain ⟨h8, h9⟩ := h7 (by omega)
    have hm : Mod.length = M.toNat := by omega
    refine ⟨{ Q with m := Mod.length, hm := by omega, F := mon Q Mod.length Mod, monic := mon_monic Q _ _, irr := Irr_all (hI (by omega)) }, ?_⟩
    refine ⟨hQ, h8, h3, ?_, h6, fun _ => h8, fun _ i hi => ?_⟩
    · show Q.p ^ Mod.length ≤ 256
      rw [hQ, hm]; exact h4
    · show rd Mod i = (mon Q Mod.length Mod i).1
      have hi' : i < Mod.length := hi
      unfold mon
      rw [if_pos hi', of_val, hQ]
      have := h9 i (by omega) (by omega)
      rw [Int.emod_eq_of_lt this.1 this.2]
theorem Desc.shp {D : FD} (h : Desc D P M Mod) : Shp P M Mod := by
  have hm := h.hm
  refine ⟨⟨h.p2, h.m1, h.hm8, ?_⟩, ?_, h.one, fun h1 => ⟨h.len h1, fun t h0 h2 => ?_⟩⟩
  · have := h.hq
    have e : D.q = D.p ^ D.m := rfl
    rw [e, h.hp, show D.m = M.toNat by omega] at this
    exact this
  · have := D.prime
    rw [h.hp] at this
    exact this
  · have hl := h.len h1
    have := h.low h1 t.toNat (by omega)
    rw [show ((t.toNat : Nat) : Int) = t by omega] at this
    rw [this, ← h.hp]
    exact (D.F t.toNat).2
theorem Desc.F_eq {D : FD} (h : Desc D P M Mod) (h1 : 1 < M) : D.F = mon D.toPr Mod.length Mod := by
  have hl := h.len h1
  have hm := h.hm
  funext i
  unfold mon
  by_cases e : i < Mod.length
  · rw [if_pos e, h.low h1 i (by omega), of_self]
  · rw [if_neg e]
    by_cases e2 : i = Mod.length
    · rw [if_pos e2, show i = D.m by omega, D.monic.1]
    · rw [if_neg e2, D.monic.2 i (by omega)]
theorem Desc.irr {D : FD} (h : Desc D P M Mod) (h1 : 1 < M) : ∀ d', 1 ≤ d' → 2 * d' ≤ Mod.length → Irr D.toPr Mod d' := by
  have hl := h.len h1
  have hm := h.hm
  rintro d hd hd2 low hlow hDL ⟨g, n, hg, he⟩
  rw [hlow] at he
  have hmon := (mon_monic D.toPr d low).cofactor (mon_monic D.toPr Mod.length Mod) hg he (by omega)
  exact D.irr d (mon D.toPr d low) g hd (by omega) (mon_monic _ _ _) (by rw [show D.m = Mod.length by omega]; exact hmon) (by rw [pmul_comm, ← he, ← h.F_eq h1])
end
end Go.Proofs.Ytibbdjkboglepaa.Alg

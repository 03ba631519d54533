/- Runs of exponents modulo n, the bounds that they prove, and the greatest of these. No program here, no condition. -/
import Derived.Test.YtibbdjkboglepaaAux
namespace Go.Proofs.Ytibbdjkboglepaa.My
open Go.RowKit Go.Proofs.YtibbdjkboglepaaW.PrintWords Go.Proofs.YtibbdjkboglepaaW.PrintMore

/-- x is modulo n one of zs. -/
def InS (n : Int) (zs : List Int) (x : Int) : Prop := ∃ z ∈ zs, z % n = x % n
theorem InS.congr {n : Int} {zs : List Int} {x y : Int} (e : x % n = y % n) : InS n zs x ↔ InS n zs y := by
  unfold InS; rw [e]
theorem InS_mod {n : Int} {zs : List Int} {x : Int} : InS n zs (x % n) ↔ InS n zs x := InS.congr (Int.emod_emod_of_dvd x (Int.dvd_refl n))
theorem InS_nil {n x : Int} : ¬ InS n [] x := by rintro ⟨z, h, _⟩; cases h
theorem InS_cons {n x z : Int} {zs : List Int} : InS n (z :: zs) x ↔ (z % n = x % n ∨ InS n zs x) := by
  unfold InS
  constructor
  · rintro ⟨y, hy, e⟩
    rcases List.mem_cons.1 hy with rfl | hy
    · exact .inl e
    · exact .inr ⟨y, hy, e⟩
  · rintro (e | ⟨y, hy, e⟩)
    · exact ⟨z, List.mem_cons_self, e⟩
    · exact ⟨y, List.mem_cons_of_mem _ hy, e⟩

/-- All exponents start + i step + j cross, i below count, j up to more, are in the list. -/
def Rect (n : Int) (zs : List Int) (s t c x m : Int) : Prop := ∀ i j : Int, 0 ≤ i → i < c → 0 ≤ j → j ≤ m → InS n zs (s + i * t + j * x)
/-- The run proves its bound c + 1 + m. -/
def Proves (n : Int) (zs : List Int) (s t c x m : Int) : Prop :=
  1 ≤ c ∧ c ≤ n ∧ 0 ≤ m ∧ m ≤ n ∧ gc (t % n) n = 1 ∧ (0 < m → gc (x % n) n ≤ c) ∧ Rect n zs s t c x m
/-- b is the greatest bound of the runs with More up to most (1 if there is none). -/
def IsBest (n : Int) (zs : List Int) (most b : Int) : Prop :=
  (b = 1 ∨ ∃ s t c x m, Proves n zs s t c x m ∧ m ≤ most ∧ b = c + 1 + m) ∧ ∀ s t c x m, Proves n zs s t c x m → m ≤ most → c + 1 + m ≤ b

theorem emod_lin (n s t x i j : Int) : (s + i * t + j * x) % n = (s % n + i * (t % n) + j * (x % n)) % n := by
  have h1 : n ∣ (s + i * t + j * x) - (s % n + i * (t % n) + j * (x % n)) := by
    have e1 := Int.mul_ediv_add_emod s n
    have e2 := Int.mul_ediv_add_emod t n
    have e3 := Int.mul_ediv_add_emod x n
    refine ⟨s / n + i * (t / n) + j * (x / n), ?_⟩
    generalize s / n = a at *
    generalize t / n = b at *
    generalize x / n = c at *
    generalize s % n = a' at *
    generalize t % n = b' at *
    generalize x % n = c' at *
    subst e1 e2 e3
    grind
  exact Int.emod_eq_emod_iff_emod_sub_eq_zero.2 (Int.emod_eq_zero_of_dvd h1)
theorem Rect_mod {n : Int} {zs : List Int} {s t c x m : Int} : Rect n zs s t c x m ↔ Rect n zs (s % n) (t % n) c (x % n) m := by
  unfold Rect
  constructor
  · intro h i j h1 h2 h3 h4
    exact (InS.congr (emod_lin n s t x i j)).1 (h i j h1 h2 h3 h4)
  · intro h i j h1 h2 h3 h4
    exact (InS.congr (emod_lin n s t x i j)).2 (h i j h1 h2 h3 h4)
theorem mod_mod' (a n : Int) : a % n % n = a % n := Int.emod_emod_of_dvd a (Int.dvd_refl n)
theorem Proves_mod {n : Int} {zs : List Int} {s t c x m : Int} : Proves n zs s t c x m ↔ Proves n zs (s % n) (t % n) c (x % n) m := by
  unfold Proves
  rw [Rect_mod, mod_mod', mod_mod']
theorem Rect_zero {n : Int} {zs : List Int} {s t c x y : Int} (h : Rect n zs s t c x 0) : Rect n zs s t c y 0 := by
  intro i j h1 h2 h3 h4
  obtain rfl : j = 0 := by omega
  have := h i 0 h1 h2 h3 h4
  simpa using this
theorem Proves_zero {n : Int} {zs : List Int} {s t c x y : Int} (h : Proves n zs s t c x 0) : Proves n zs s t c y 0 :=
  ⟨h.1, h.2.1, h.2.2.1, h.2.2.2.1, h.2.2.2.2.1, fun h => by omega, Rect_zero h.2.2.2.2.2.2⟩
theorem IsBest.unique {n : Int} {zs : List Int} {most b b' : Int} (h : IsBest n zs most b) (h' : IsBest n zs most b') (h1 : 1 ≤ b) (h1' : 1 ≤ b') : b = b' := by
  have key : ∀ {b b'}, IsBest n zs most b → IsBest n zs most b' → 1 ≤ b' → b ≤ b' := by
    intro b b' h h' h1
    rcases h.1 with rfl | ⟨s, t, c, x, m, hp, hm, rfl⟩
    · exact h1
    · exact h'.2 _ _ _ _ _ hp hm
  have := key h h' h1'
  have := key h' h h1
  omega
theorem mul_bd {a b : Int} (h1 : 0 ≤ a) (h2 : a ≤ 64) (h3 : 0 ≤ b) (h4 : b ≤ 64) : 0 ≤ a * b ∧ a * b ≤ 4096 := by
  constructor
  · exact Int.mul_nonneg h1 h3
  · exact Int.mul_le_mul h2 h4 h3 (by omega)
end Go.Proofs.Ytibbdjkboglepaa.My

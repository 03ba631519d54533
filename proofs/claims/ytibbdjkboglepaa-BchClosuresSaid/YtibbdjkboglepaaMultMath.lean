/- Runs under one more zero, and under multiplication by a unit modulo n. No program here, no condition. -/
import Derived.Test.YtibbdjkboglepaaRunMath
namespace Go.Proofs.Ytibbdjkboglepaa.My
open Go.RowKit Go.Proofs.YtibbdjkboglepaaW.PrintWords Go.Proofs.YtibbdjkboglepaaW.PrintMore

theorem mod_eq_iff {a b n : Int} : a % n = b % n ↔ n ∣ a - b := by
  rw [Int.emod_eq_emod_iff_emod_sub_eq_zero]
  exact ⟨Int.dvd_of_emod_eq_zero, Int.emod_eq_zero_of_dvd⟩
theorem gc_int {a n : Int} (ha : 0 ≤ a) (hn : 0 ≤ n) : gc a n = (Int.gcd a n : Int) := by
  unfold gc Int.gcd
  rw [show a.toNat = a.natAbs by omega, show n.toNat = n.natAbs by omega]
theorem gcd_mod (a n : Int) : Int.gcd (a % n) n = Int.gcd a n := by
  have e := Int.mul_ediv_add_emod a n
  have h := Int.gcd_add_mul_right_left n (a % n) (a / n)
  rw [← h]
  congr 1
  rw [Int.mul_comm]
  omega
theorem gc_mod {a n : Int} (hn : 0 < n) : gc (a % n) n = (Int.gcd a n : Int) := by
  rw [gc_int (Int.emod_nonneg _ (by omega)) (by omega), gcd_mod]
theorem gcd_mul_unit {u x n : Int} (h : Int.gcd u n = 1) : Int.gcd (u * x) n = Int.gcd x n := by
  unfold Int.gcd at h ⊢
  rw [Int.natAbs_mul]
  exact Nat.Coprime.gcd_mul_left_cancel _ h
theorem bezout_nat (a b : Nat) : ∃ x y : Int, x * a + y * b = (Nat.gcd a b : Nat) := by
  induction a, b using Nat.gcd.induction with
  | H0 n => exact ⟨0, 1, by simp⟩
  | H1 m n hm ih =>
    obtain ⟨x, y, h⟩ := ih
    refine ⟨y - x * (n / m : Nat), x, ?_⟩
    rw [Nat.gcd_rec, ← h]
    have e : (n : Int) = (m : Int) * (n / m : Nat) + (n % m : Nat) := by
      have := Nat.div_add_mod n m
      exact_mod_cast this.symm
    generalize ((n / m : Nat) : Int) = q at *
    generalize ((n % m : Nat) : Int) = r at *
    rw [e]
    grind
theorem bezout (a b : Int) : ∃ x y : Int, x * a + y * b = (Int.gcd a b : Int) := by
  obtain ⟨x, y, h⟩ := bezout_nat a.natAbs b.natAbs
  have ha : ∃ s : Int, (a.natAbs : Int) = s * a := by
    rcases Int.natAbs_eq a with e | e
    · exact ⟨1, by omega⟩
    · exact ⟨-1, by omega⟩
  have hb : ∃ s : Int, (b.natAbs : Int) = s * b := by
    rcases Int.natAbs_eq b with e | e
    · exact ⟨1, by omega⟩
    · exact ⟨-1, by omega⟩
  obtain ⟨s, hs⟩ := ha
  obtain ⟨t, ht⟩ := hb
  refine ⟨x * s, y * t, ?_⟩
  unfold Int.gcd
  rw [← h, hs, ht, Int.mul_assoc, Int.mul_assoc]
theorem inverse_mod {b n : Int} (h : Int.gcd b n = 1) : ∃ u, n ∣ u * b - 1 ∧ Int.gcd u n = 1 := by
  obtain ⟨x, y, e⟩ := bezout b n
  rw [h] at e
  refine ⟨x, ⟨-y, by grind⟩, ?_⟩
  have h1 := Int.gcd_dvd_left x n
  have h2 := Int.gcd_dvd_right x n
  obtain ⟨p, hp⟩ := h1
  obtain ⟨q, hq⟩ := h2
  generalize hg : Int.gcd x n = g at *
  have : (g : Int) ∣ 1 := ⟨p * b + y * q, by
    have e' : x * b + y * n = 1 := by simpa using e
    rw [hp, hq] at e'
    grind⟩
  have := Int.natCast_dvd_natCast.1 (show (g : Int) ∣ ((1 : Nat) : Int) from this)
  exact Nat.dvd_one.1 this

theorem Proves.mono {n : Int} {zs ws : List Int} {s t c x m : Int} (h : Proves n zs s t c x m) (hi : ∀ y, InS n zs y → InS n ws y) : Proves n ws s t c x m :=
  ⟨h.1, h.2.1, h.2.2.1, h.2.2.2.1, h.2.2.2.2.1, h.2.2.2.2.2.1, fun i j a b c d => hi _ (h.2.2.2.2.2.2 i j a b c d)⟩
theorem IsBest.mono {n most : Int} {zs ws : List Int} {b d : Int} (h : IsBest n zs most b) (h' : IsBest n ws most d) (hd : 1 ≤ d) (hi : ∀ y, InS n zs y → InS n ws y) : b ≤ d := by
  rcases h.1 with rfl | ⟨s, t, c, x, m, hp, hm, rfl⟩
  · exact hd
  · exact h'.2 _ _ _ _ _ (hp.mono hi) hm
theorem IsBest.wider {n most most' b d : Int} {zs : List Int} (h : IsBest n zs most b) (h' : IsBest n zs most' d) (hd : 1 ≤ d) (hm : most ≤ most') : b ≤ d := by
  rcases h.1 with rfl | ⟨s, t, c, x, m, hp, hm', rfl⟩
  · exact hd
  · exact h'.2 _ _ _ _ _ hp (by omega)
theorem IsBest.two {n most b y : Int} {zs : List Int} (hn : 1 ≤ n) (hm : 0 ≤ most) (h : IsBest n zs most b) (hy : InS n zs y) : 2 ≤ b := by
  have g : gc (1 % n) n = 1 := by rw [gc_mod (by omega)]; simp
  have := h.2 y 1 1 0 0 ⟨by omega, hn, by omega, by omega, g, fun h => by omega, fun i j a b c d => by
    obtain rfl : i = 0 := by omega
    obtain rfl : j = 0 := by omega
    simpa using hy⟩ hm
  omega
/-- A run multiplied by a unit. -/
theorem Proves.times {n u : Int} {zs ws : List Int} {s t c x m : Int} (hn : 1 ≤ n) (hu : Int.gcd u n = 1) (h : Proves n zs s t c x m) (hi : ∀ y, InS n zs y → InS n ws (u * y)) : Proves n ws (u * s) (u * t) c (u * x) m := by
  refine ⟨h.1, h.2.1, h.2.2.1, h.2.2.2.1, ?_, fun hm => ?_, fun i j a b c' d => ?_⟩
  · have := h.2.2.2.2.1
    rw [gc_mod (by omega)] at this ⊢
    rw [gcd_mul_unit hu]; exact this
  · have := h.2.2.2.2.2.1 hm
    rw [gc_mod (by omega)] at this ⊢
    rw [gcd_mul_unit hu]; exact this
  · have := hi _ (h.2.2.2.2.2.2 i j a b c' d)
    rwa [show u * (s + i * t + j * x) = u * s + i * (u * t) + j * (u * x) by grind] at this
theorem IsBest.times {n u most b d : Int} {zs ws : List Int} (hn : 1 ≤ n) (hu : Int.gcd u n = 1) (h : IsBest n zs most b) (h' : IsBest n ws most d) (hd : 1 ≤ d) (hi : ∀ y, InS n zs y → InS n ws (u * y)) : b ≤ d := by
  rcases h.1 with rfl | ⟨s, t, c, x, m, hp, hm, rfl⟩
  · exact hd
  · exact h'.2 _ _ _ _ _ (hp.times hn hu hi) hm
/-- The zeros, each multiplied by b. -/
def turned (n b : Int) (zs : List Int) : List Int := zs.map fun z => z % n * b
theorem turned_in {n b : Int} {zs : List Int} (y : Int) (h : InS n zs y) : InS n (turned n b zs) (b * y) := by
  obtain ⟨z, hz, e⟩ := h
  refine ⟨z % n * b, List.mem_map.2 ⟨z, hz, rfl⟩, ?_⟩
  rw [e, Int.mul_comm b y, Int.mul_emod, Int.emod_emod, ← Int.mul_emod]
theorem turned_out {n b u : Int} {zs : List Int} (hu : n ∣ u * b - 1) (y : Int) (h : InS n (turned n b zs) y) : InS n zs (u * y) := by
  obtain ⟨z', hz', e⟩ := h
  obtain ⟨z, hz, rfl⟩ := List.mem_map.1 hz'
  refine ⟨z, hz, ?_⟩
  rw [mod_eq_iff] at e ⊢
  obtain ⟨p, hp⟩ := e
  obtain ⟨q, hq⟩ := hu
  have e' := Int.mul_ediv_add_emod z n
  generalize z / n = a at *
  generalize z % n = r at *
  subst e'
  refine ⟨a + u * p - r * q, ?_⟩
  have h1 : y = r * b - n * p := by omega
  have h2 : u * b = n * q + 1 := by omega
  subst h1
  have : u * (r * b - n * p) = r * (u * b) - n * (u * p) := by grind
  rw [this, h2]
  grind
end Go.Proofs.Ytibbdjkboglepaa.My

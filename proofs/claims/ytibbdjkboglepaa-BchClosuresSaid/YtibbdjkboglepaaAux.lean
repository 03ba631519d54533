/- Small words for proofs over printed functions: rounds, wrapping, remainders, greatest common divisors. No condition. -/
import Derived.Test.YtibbdjkboglepaaWWords
import Derived.Test.YtibbdjkboglepaaWMore
namespace Go.Proofs.Ytibbdjkboglepaa.My
open Go.RowKit Go.Proofs.YtibbdjkboglepaaW.PrintWords Go.Proofs.YtibbdjkboglepaaW.PrintMore

theorem ev_succ {α : Type} {g : Nat → Option α} {r : α} (h : Ev (fun k => g (k + 1)) r) : Ev g r :=
  Ev.step (fun _ => rfl) h
theorem ev_now {α : Type} {g : Nat → Option α} {r : α} (h : ∀ k, g k = some r) : Ev g r := ⟨0, fun k _ => h k⟩
theorem ev_det {α : Type} {g : Nat → Option α} {r s : α} (h : Ev g r) (h' : Ev g s) : r = s := by
  obtain ⟨K, h⟩ := h
  obtain ⟨K', h'⟩ := h'
  have h1 := h (max K K') (Nat.le_max_left _ _)
  have h2 := h' (max K K') (Nat.le_max_right _ _)
  rw [h1] at h2
  injection h2
theorem ev_bind {α β : Type} {g : Nat → Option α} {f : Nat → α → Option β} {a : α} {r : β} (h : Ev g a) (k : Ev (fun n => f n a) r) : Ev (fun n => (g n).bind (f n)) r := Ev.bind h k
theorem ev_of_eq {α : Type} {g : Nat → Option α} {r s : α} (h : Ev g r) (e : r = s) : Ev g s := e ▸ h

theorem w64 {x : Int} (h1 : -9223372036854775808 ≤ x) (h2 : x < 9223372036854775808) : wrap64 x = x := by
  unfold wrap64
  omega
theorem tmod_nn {a b : Int} (h : 0 ≤ a) : Int.tmod a b = a % b := Int.tmod_eq_emod_of_nonneg h

/-- The remainder as Go computes it: tmod, add n, tmod. -/
theorem mod_go {a n : Int} (h1 : 1 ≤ n) (h2 : n < 4611686018427387904) : Int.tmod (wrap64 (Int.tmod a n + n)) n = a % n := by
  have hb : -n < Int.tmod a n ∧ Int.tmod a n < n := by
    rw [Int.tmod_eq_emod]
    have h3 := Int.emod_nonneg a (show n ≠ 0 by omega)
    have h4 := Int.emod_lt_of_pos a (show 0 < n by omega)
    have h5 : (n.natAbs : Int) = n := by omega
    split <;> rename_i hc
    · simp; omega
    · have : a % n ≠ 0 := fun e => hc (Or.inr (Int.dvd_of_emod_eq_zero e))
      omega
  rw [w64 (by omega) (by omega), tmod_nn (by omega), Int.add_emod_right, Int.tmod_eq_emod]
  split
  · simp
  · have h5 : (n.natAbs : Int) = n := by omega
    rw [h5, Int.sub_emod, Int.emod_self]; simp

/-- gcd of Ints that are not negative, by Nat.gcd. -/
def gc (a b : Int) : Int := (Nat.gcd a.toNat b.toNat : Nat)
theorem gc_zero {a : Int} (h : 0 ≤ a) : gc a 0 = a := by simp [gc]; omega
theorem gc_zero_left {a : Int} (h : 0 ≤ a) : gc 0 a = a := by simp [gc]; omega
theorem gc_step {a b : Int} (ha : 0 ≤ a) (hb : 0 ≤ b) : gc b (a % b) = gc a b := by
  unfold gc
  rw [show (a % b).toNat = a.toNat % b.toNat from Int.toNat_emod ha hb, Nat.gcd_comm a.toNat b.toNat, Nat.gcd_rec b.toNat a.toNat, Nat.gcd_comm]
theorem gc_pos {a b : Int} (hb : 0 < b) : 0 < gc a b := by
  unfold gc
  have := Nat.gcd_pos_of_pos_right a.toNat (show 0 < b.toNat by omega)
  omega
theorem gc_nonneg (a b : Int) : 0 ≤ gc a b := by unfold gc; omega

theorem rd_set_self {xs : List Int} {i : Int} {v : Int} (h0 : 0 ≤ i) (h : i < xs.length) : rd (xs.set i.toNat v) i = v := by
  unfold rd
  rw [List.getD_eq_getElem?_getD, List.getElem?_set_self (by omega)]; rfl
theorem rd_set_ne {xs : List Int} {i j : Int} {v : Int} (h0 : 0 ≤ i) (hj : 0 ≤ j) (h : i ≠ j) : rd (xs.set i.toNat v) j = rd xs j := by
  unfold rd
  rw [List.getD_eq_getElem?_getD, List.getElem?_set_ne (by omega), ← List.getD_eq_getElem?_getD]
theorem rdOf_set_self {α : Type} {d : α} {xs : List α} {i : Int} {v : α} (h0 : 0 ≤ i) (h : i < xs.length) : rdOf d (xs.set i.toNat v) i = v := by
  unfold rdOf
  rw [List.getD_eq_getElem?_getD, List.getElem?_set_self (by omega)]; rfl
theorem rdOf_set_ne {α : Type} {d : α} {xs : List α} {i j : Int} {v : α} (h0 : 0 ≤ i) (hj : 0 ≤ j) (h : i ≠ j) : rdOf d (xs.set i.toNat v) j = rdOf d xs j := by
  unfold rdOf
  rw [List.getD_eq_getElem?_getD, List.getElem?_set_ne (by omega), ← List.getD_eq_getElem?_getD]
theorem rd_mem {xs : List Int} {i : Int} (h0 : 0 ≤ i) (h : i < xs.length) : rd xs i ∈ xs := by
  unfold rd
  rw [List.getD_eq_getElem?_getD, List.getElem?_eq_getElem (by omega)]
  simp
theorem mem_rd {xs : List Int} {x : Int} (h : x ∈ xs) : ∃ i : Int, 0 ≤ i ∧ i < xs.length ∧ rd xs i = x := by
  obtain ⟨i, hi, rfl⟩ := List.getElem_of_mem h
  refine ⟨i, by omega, by omega, ?_⟩
  unfold rd
  rw [List.getD_eq_getElem?_getD, List.getElem?_eq_getElem (by omega)]
  simp
theorem rd_append_left {xs ys : List Int} {i : Int} (h0 : 0 ≤ i) (h : i < xs.length) : rd (xs ++ ys) i = rd xs i := by
  unfold rd
  rw [List.getD_eq_getElem?_getD, List.getD_eq_getElem?_getD, List.getElem?_append_left (by omega)]
theorem rd_append_self {xs : List Int} {y : Int} : rd (xs ++ [y]) xs.length = y := by
  unfold rd
  simp
theorem wf64 {x : Int} (h : (Lit.int .i64 x).wf = true) : -9223372036854775808 ≤ x ∧ x ≤ 9223372036854775807 := by
  simp [Lit.wf, IntKind.min, IntKind.max, IntKind.signed, IntKind.bits] at h
  omega
theorem wfu8 {x : Int} (h : (Lit.int .u8 x).wf = true) : 0 ≤ x ∧ x ≤ 255 := by
  simp [Lit.wf, IntKind.min, IntKind.max, IntKind.signed, IntKind.bits] at h
  omega
end Go.Proofs.Ytibbdjkboglepaa.My

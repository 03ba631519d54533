/- Plain law of cyclotomic cosets: orbits of multiplication by q modulo n, and lists in order. No program in sight. -/
import Derived.Test.YtibbdjkboglepaaMultMath
import Derived.Test.YtibbdjkboglepaaSortW
namespace Go.Proofs.Ytibbdjkboglepaa.My
open Go.RowKit Go.Proofs.YtibbdjkboglepaaW.PrintWords
/-- i times q to the t, modulo n. -/
def itr (q n i : Int) (t : Nat) : Int := i * q ^ t % n
def Orb (q n i j : Int) : Prop := ∃ t : Nat, j = itr q n i t
section
variable {q n : Int}
theorem itr_range (hn : 1 ≤ n) (i : Int) (t : Nat) : 0 ≤ itr q n i t ∧ itr q n i t < n := ⟨Int.emod_nonneg _ (by omega), Int.emod_lt_of_pos _ (by omega)⟩
theorem itr_zero {i : Int} (h0 : 0 ≤ i) (h1 : i < n) : itr q n i 0 = i := by
  unfold itr
  rw [Int.pow_zero, Int.mul_one, Int.emod_eq_of_lt h0 h1]
theorem itr_succ (i : Int) (t : Nat) : itr q n i (t + 1) = itr q n i t * q % n := by
  unfold itr
  rw [Int.pow_succ, ← Int.mul_assoc, Int.mul_emod, Int.mul_emod (i * q ^ t % n) q, Int.emod_emod_of_dvd _ (Int.dvd_refl n)]
theorem itr_itr (i : Int) (s t : Nat) : itr q n (itr q n i s) t = itr q n i (s + t) := by
  induction t with
  | zero =>
    unfold itr
    rw [Int.pow_zero, Int.mul_one, Int.emod_emod_of_dvd _ (Int.dvd_refl n), Nat.add_zero]
  | succ t ih => rw [itr_succ, ih, ← Nat.add_assoc, itr_succ]
theorem Orb.range (hn : 1 ≤ n) {i j : Int} (h : Orb q n i j) : 0 ≤ j ∧ j < n := by
  obtain ⟨t, rfl⟩ := h
  exact itr_range hn i t
theorem Orb.refl {i : Int} (h0 : 0 ≤ i) (h1 : i < n) : Orb q n i i := ⟨0, (itr_zero h0 h1).symm⟩
theorem Orb.trans {i j l : Int} (h : Orb q n i j) (h' : Orb q n j l) : Orb q n i l := by
  obtain ⟨s, rfl⟩ := h
  obtain ⟨t, rfl⟩ := h'
  exact ⟨s + t, itr_itr i s t⟩
theorem cancel_q (hg : Int.gcd q n = 1) {z : Int} (h : n ∣ z * q) : n ∣ z := by
  obtain ⟨u, hu, _⟩ := inverse_mod hg
  obtain ⟨a, ha⟩ := h
  obtain ⟨b, hb⟩ := hu
  refine ⟨u * a - z * b, ?_⟩
  have e1 : n * (u * a - z * b) = u * (n * a) - z * (n * b) := by rw [Int.mul_sub, Int.mul_left_comm, Int.mul_left_comm n z]
  have e2 : u * (z * q) = z * (u * q) := by rw [Int.mul_left_comm]
  rw [e1, ← ha, ← hb, e2, Int.mul_sub]
  omega
theorem cancel_pow (hg : Int.gcd q n = 1) {z : Int} : ∀ (t : Nat), n ∣ z * q ^ t → n ∣ z
  | 0, h => by rwa [Int.pow_zero, Int.mul_one] at h
  | t + 1, h => cancel_pow hg t (cancel_q hg (by rwa [Int.mul_assoc, ← Int.pow_succ]))
theorem itr_cancel (hg : Int.gcd q n = 1) {i : Int} {s d : Nat} (h : itr q n i s = itr q n i (s + d)) : itr q n i 0 = itr q n i d := by
  unfold itr at h ⊢
  rw [mod_eq_iff] at h ⊢
  rw [Int.pow_zero, Int.mul_one]
  refine cancel_pow hg s ?_
  rw [Int.sub_mul]
  rw [show i * q ^ d * q ^ s = i * q ^ (s + d) by rw [Int.mul_assoc, ← Int.pow_add, Nat.add_comm]]
  exact h
/-- Some power of q brings i back. -/
theorem itr_back (hn : 1 ≤ n) (hg : Int.gcd q n = 1) {i : Int} (h0 : 0 ≤ i) (h1 : i < n) : ∃ T : Nat, 1 ≤ T ∧ itr q n i T = i := by
  apply Classical.byContradiction
  intro hno
  have hinj : ∀ s d : Nat, itr q n i s = itr q n i (s + d) → d = 0 := by
    intro s d h
    apply Classical.byContradiction
    intro hd
    exact hno ⟨d, by omega, by rw [← itr_cancel hg h, itr_zero h0 h1]⟩
  have hnd : ((List.range (n.toNat + 1)).map (fun t => (itr q n i t).toNat)).Nodup := by
    rw [List.nodup_iff_pairwise_ne, List.pairwise_map]
    refine List.Pairwise.imp_of_mem ?_ List.pairwise_lt_range
    intro a b _ _ hab e
    have ha := itr_range (q := q) hn i a
    have hb := itr_range (q := q) hn i b
    have := hinj a (b - a) (by rw [show a + (b - a) = b by omega]; omega)
    omega
  have := hnd.length_le_of_subset (l₂ := List.range n.toNat) (by
    intro x hx
    obtain ⟨t, _, rfl⟩ := List.mem_map.1 hx
    have := itr_range (q := q) hn i t
    exact List.mem_range.2 (by omega))
  simp at this
  omega
theorem Orb.symm (hn : 1 ≤ n) (hg : Int.gcd q n = 1) {i j : Int} (h0 : 0 ≤ i) (h1 : i < n) (h : Orb q n i j) : Orb q n j i := by
  obtain ⟨t, rfl⟩ := h
  obtain ⟨T, hT, hb⟩ := itr_back hn hg h0 h1
  have hm : ∀ m : Nat, itr q n i (T * m) = i := by
    intro m
    induction m with
    | zero => rw [Nat.mul_zero, itr_zero h0 h1]
    | succ m ih => rw [Nat.mul_succ, ← itr_itr, ih, hb]
  have hle : t ≤ T * t := Nat.le_mul_of_pos_left t (by omega)
  exact ⟨T * t - t, by rw [itr_itr, show t + (T * t - t) = T * t by omega, hm]⟩
/-- The first t of the orbit. -/
def Upto (q n i : Int) (t : Nat) (x : Int) : Prop := ∃ s, s < t ∧ x = itr q n i s
/-- None of the first t occurs twice. -/
def Fresh (q n i : Int) (t : Nat) : Prop := ∀ a b : Nat, a < b → b < t → itr q n i a ≠ itr q n i b
theorem Fresh.zero (i : Int) : Fresh q n i 0 := fun _ _ _ h => absurd h (Nat.not_lt_zero _)
theorem Fresh.succ {i : Int} {t : Nat} (h : Fresh q n i t) (hn : ¬ Upto q n i t (itr q n i t)) : Fresh q n i (t + 1) := by
  intro a b hab hb
  by_cases e : b = t
  · subst e
    exact fun e => hn ⟨a, hab, e.symm⟩
  · exact h a b hab (by omega)
theorem Fresh.le (hn : 1 ≤ n) {i : Int} {t : Nat} (h : Fresh q n i t) : (t : Int) ≤ n := by
  have hnd : ((List.range t).map (fun t => (itr q n i t).toNat)).Nodup := by
    rw [List.nodup_iff_pairwise_ne, List.pairwise_map]
    refine List.Pairwise.imp_of_mem ?_ List.pairwise_lt_range
    intro a b _ hb hab e
    have ha := itr_range (q := q) hn i a
    have hb' := itr_range (q := q) hn i b
    exact h a b hab (List.mem_range.1 hb) (by omega)
  have := hnd.length_le_of_subset (l₂ := List.range n.toNat) (by
    intro x hx
    obtain ⟨t, _, rfl⟩ := List.mem_map.1 hx
    have := itr_range (q := q) hn i t
    exact List.mem_range.2 (by omega))
  simp at this
  omega
theorem Upto.orb {i x : Int} {t : Nat} (h : Upto q n i t x) : Orb q n i x := by
  obtain ⟨s, _, e⟩ := h
  exact ⟨s, e⟩
/-- Once the next is among the first, these are the whole orbit. -/
theorem Upto.all {i : Int} {t : Nat} (h : Upto q n i t (itr q n i t)) (x : Int) : Orb q n i x ↔ Upto q n i t x := by
  constructor
  · rintro ⟨s, rfl⟩
    induction s with
    | zero =>
      obtain ⟨a, ha, _⟩ := h
      exact ⟨0, by omega, rfl⟩
    | succ s ih =>
      obtain ⟨a, ha, e⟩ := ih
      rw [itr_succ, e, ← itr_succ]
      by_cases e2 : a + 1 = t
      · rw [e2]; exact h
      · exact ⟨a + 1, by omega, rfl⟩
  · exact Upto.orb
end
/-- The list holds just the numbers from 0 to n - 1 with S, in ascending order. -/
def IsList (n : Int) (S : Int → Prop) (l : List Int) : Prop := l.Pairwise (· < ·) ∧ ∀ x, x ∈ l ↔ 0 ≤ x ∧ x < n ∧ S x
theorem IsList.unique {n : Int} {S : Int → Prop} {l l' : List Int} (h : IsList n S l) (h' : IsList n S l') : l = l' := by
  have nd : ∀ {m : List Int}, m.Pairwise (· < ·) → m.Nodup := fun hm => List.nodup_iff_pairwise_ne.2 (hm.imp fun h => by omega)
  refine List.Perm.eq_of_pairwise (le := (· < ·)) (fun a b _ _ h1 h2 => by omega) h.1 h'.1 ?_
  rw [List.perm_ext_iff_of_nodup (nd h.1) (nd h'.1)]
  intro a
  rw [h.2, h'.2]
theorem IsList.congr {n : Int} {S T : Int → Prop} {l : List Int} (h : IsList n S l) (e : ∀ x, 0 ≤ x → x < n → (S x ↔ T x)) : IsList n T l := by
  refine ⟨h.1, fun x => ?_⟩
  rw [h.2]
  constructor
  · rintro ⟨a, b, c⟩; exact ⟨a, b, (e x a b).1 c⟩
  · rintro ⟨a, b, c⟩; exact ⟨a, b, (e x a b).2 c⟩
theorem sorted_mem {l : List Int} {x : Int} : x ∈ sorted l ↔ x ∈ l := (List.mergeSort_perm l _).mem_iff
theorem sorted_list {n : Int} {S : Int → Prop} {l : List Int} (hd : l.Nodup) (h : ∀ x, x ∈ l ↔ 0 ≤ x ∧ x < n ∧ S x) : IsList n S (sorted l) := by
  refine ⟨?_, fun x => by rw [sorted_mem, h]⟩
  have h1 := List.pairwise_mergeSort (le := fun x y : Int => decide (x ≤ y)) (fun a b c h1 h2 => by simp at *; omega) (fun a b => by simp; omega) l
  have h2 : (sorted l).Nodup := (List.mergeSort_perm l _).nodup_iff.2 hd
  rw [List.nodup_iff_pairwise_ne] at h2
  refine (List.pairwise_and_iff.2 ⟨h1, h2⟩).imp ?_
  rintro a b ⟨h3, h4⟩
  simp at h3
  omega
/-- The marks hold just at S. -/
def Mk (m : List Bool) (n : Int) (S : Int → Prop) : Prop := (m.length : Int) = n ∧ ∀ x, 0 ≤ x → x < n → (rdOf false m x = true ↔ S x)
theorem Mk.none {n : Int} (hn : 0 ≤ n) : Mk (List.replicate n.toNat false) n fun _ => False := by
  refine ⟨by simp; omega, fun x _ _ => ?_⟩
  unfold rdOf
  rw [List.getD_eq_getElem?_getD, List.getElem?_replicate]
  split <;> simp
theorem Mk.set {m : List Bool} {n : Int} {S : Int → Prop} (h : Mk m n S) {y : Int} (h0 : 0 ≤ y) (h1 : y < n) : Mk (m.set y.toNat true) n fun x => S x ∨ x = y := by
  refine ⟨by rw [List.length_set]; exact h.1, fun x hx hx' => ?_⟩
  by_cases e : y = x
  · subst e
    rw [rdOf_set_self h0 (by have := h.1; omega)]
    simp
  · rw [rdOf_set_ne h0 hx e, h.2 x hx hx']
    constructor
    · exact .inl
    · rintro (h | h)
      · exact h
      · exact absurd h.symm e
theorem Mk.congr {m : List Bool} {n : Int} {S T : Int → Prop} (h : Mk m n S) (e : ∀ x, 0 ≤ x → x < n → (S x ↔ T x)) : Mk m n T := ⟨h.1, fun x h0 h1 => (h.2 x h0 h1).trans (e x h0 h1)⟩
end Go.Proofs.Ytibbdjkboglepaa.My

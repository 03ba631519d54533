/- The program's MulOrder by logarithms, the reference's Root, over a description of a field. No further condition. -/
import Derived.Test.YtibbdjkboglepaaPNewQBchRoots
import Derived.Test.YtibbdjkboglepaaNewWQBchRoots
import Derived.Test.YtibbdjkboglepaaQBchRootsx9
set_option linter.unusedVariables false
set_option linter.unusedSimpArgs false
set_option linter.unusedSectionVars false
namespace Go.Proofs.Ytibbdjkboglepaa.MyQBchRoots
open Go.RowKit Go.Proofs.YtibbdjkboglepaaW.PrintWords Go.Proofs.YtibbdjkboglepaaW.PrintMore Go.Proofs.Ytibbdjkboglepaa.My Go.Proofs.Ytibbdjkboglepaa.Alg Go.Proofs.Ytibbdjkboglepaa.QBchRoots
/-- Few numbers: one count of rounds serves all. -/
theorem ev_all {α : Type} {g : Nat → Nat → Option α} {r : Nat → α} : ∀ n : Nat, (∀ x, x < n → Ev (g x) (r x)) → ∃ K, ∀ k, K ≤ k → ∀ x, x < n → g x k = some (r x) := by
  intro n
  induction n with
  | zero => exact fun _ => ⟨0, fun k _ x hx => by omega⟩
  | succ n ih =>
    intro h
    obtain ⟨K, hK⟩ := ih fun x hx => h x (by omega)
    obtain ⟨K', hK'⟩ := h n (by omega)
    refine ⟨max K K', fun k hk x hx => ?_⟩
    by_cases e : x = n
    · subst e; exact hK' k (by omega)
    · exact hK k (by omega) x (by omega)
section
variable {D : FD} {P M : Int} {Mod : List Int}
open Classical in
/-- The order of an element, or 0. -/
noncomputable def ordn (a : GF D) : Nat := if h : ∃ n, IsOrd a n then h.choose else 0
theorem ordn_of {a : GF D} {n : Nat} (h : IsOrd a n) : ordn a = n := by
  have hex : ∃ n, IsOrd a n := ⟨n, h⟩
  unfold ordn
  rw [dif_pos hex]
  exact hex.choose_spec.unique h
theorem ordn_zero : ordn (0 : GF D) = 0 := by
  unfold ordn
  rw [dif_neg]
  rintro ⟨n, h⟩
  exact ord_ne_zero h rfl
theorem ordn_spec {a : GF D} (h : a ≠ 0) : IsOrd a (ordn a) := by
  obtain ⟨k, hk, _⟩ := (elems_full D).ord h
  rw [ordn_of hk]
  exact hk
/-- The list of the powers of a primitive element. -/
noncomputable def expL (g : GF D) : List Int := (List.range (D.q - 1).toNat).map fun i => (Alg.pow g i).1
theorem expL_length (g : GF D) : (expL g).length = (D.q - 1).toNat := by rw [expL, List.length_map, List.length_range]
theorem expL_rd (g : GF D) {i : Nat} (hi : i < (D.q - 1).toNat) : rd (expL g) i = (Alg.pow g i).1 := by
  unfold expL
  exact rd_map_range (by omega) (by omega)
theorem expL_inj {g : GF D} (hg : IsOrd g (D.q - 1).toNat) {i j : Nat} (hi : i < (D.q - 1).toNat) (hj : j < (D.q - 1).toNat) (e : Alg.pow g i = Alg.pow g j) : i = j := by
  have hg0 := ord_ne_zero hg
  have key : ∀ i j : Nat, i < j → j < (D.q - 1).toNat → Alg.pow g i = Alg.pow g j → False := by
    intro i j hij hj e
    rw [show j = i + (j - i) by omega, Alg.pow_add] at e
    have := Alg.mul_left_cancel (Alg.pow_ne_zero hg0 i) (show Alg.pow g i * Alg.pow g (j - i) = Alg.pow g i * 1 by rw [← e, Alg.mul_one])
    exact hg.2.2 (j - i) (by omega) (by omega) this
  rcases Nat.lt_trichotomy i j with h | h | h
  · exact (key i j h hj e).elim
  · exact h
  · exact (key j i h hi e.symm).elim
theorem logs_at {g : GF D} (hg : IsOrd g (D.q - 1).toNat) : ∀ (n i : Nat), i < n → n ≤ (D.q - 1).toNat → rd (logs (expL g) (List.replicate D.q.toNat 0) n) (Alg.pow g i).1 = i := by
  intro n
  induction n with
  | zero => intro i hi; omega
  | succ n ih =>
    intro i hi hn
    have hr : rd (expL g) (n : Int) = (Alg.pow g n).1 := expL_rd g (by omega)
    have hl : (logs (expL g) (List.replicate D.q.toNat 0) n).length = D.q.toNat := by rw [logs_length, List.length_replicate]
    have h1 := (Alg.pow g n).2
    have h2 := (Alg.pow g i).2
    rw [logs, hr]
    by_cases e : i = n
    · subst e
      exact rd_set_self h1.1 (by rw [hl]; omega)
    · rw [rd_set_ne h1.1 h2.1 (fun hc => e (expL_inj hg (by omega) (by omega) (GF.val_eq.1 hc.symm)))]
      exact ih i (by omega) (by omega)
theorem MO_l0 {q : Int} (hq : 2 ≤ q) (hq' : q ≤ 256) (ex lg : List Int) : ∀ (n : Nat) (a b : Int), b.toNat ≤ n → 0 ≤ a → 0 ≤ b → a ≤ 256 → b ≤ 256 → (0 < a ∨ 0 < b) →
    Ev (fun k => field_GF_MulOrder.l0 k a b P M Mod q ex lg) ((q - 1) / gc a b, 0, P, M, q) := by
  intro n
  induction n with
  | zero =>
    intro a b hn ha hb ha' hb' hor
    have e : b = 0 := by omega
    subst e
    refine ev_succ (ev_now fun k => ?_)
    have h0 : 0 ≤ (q - 1) / a := Int.ediv_nonneg (by omega) ha
    have h1 : (q - 1) / a ≤ q - 1 := Int.ediv_le_self _ (by omega)
    rw [field_GF_MulOrder.l0, if_neg (by omega), if_neg (by omega), w64 (x := q - 1) (by omega) (by omega), Int.tdiv_eq_ediv_of_nonneg (by omega), w64 (by omega) (by omega), gc_zero ha]
  | succ n ih =>
    intro a b hn ha hb ha' hb' hor
    by_cases e : b = 0
    · exact ih a b (by omega) ha hb ha' hb' hor
    · have h0 := Int.emod_nonneg a e
      have h1 := Int.emod_lt_of_pos a (show 0 < b by omega)
      have := ih b (a % b) (by omega) hb h0 hb' (by omega) (.inl (by omega))
      rw [gc_step ha hb] at this
      exact Ev.step (fun k => by rw [field_GF_MulOrder.l0, if_pos (by omega), if_neg e, tmod_nn ha]) this
/-- MulOrder is the order. -/
theorem MulOrder_log (h : Desc D P M Mod) {g : GF D} (hg : IsOrd g (D.q - 1).toNat) (x : GF D) :
    Ev (fun k => field_GF_MulOrder.f k P M Mod D.q (expL g) (logs (expL g) (List.replicate D.q.toNat 0) (expL g).length) x.1) ((ordn x : Int), (if x.1 = 0 then 7 else 0), P, M, D.q) := by
  have hx := x.2
  have hq := h.hq
  have hq2 := D.two_q
  have hin : ∀ k : Nat, field_GF_in.f P M Mod D.q (expL g) (logs (expL g) (List.replicate D.q.toNat 0) (expL g).length) x.1 = some (x.1, P, M, D.q) := by
    intro k
    unfold field_GF_in.f field_GF_Is.f
    rw [if_pos (by omega)]
    simp only [Option.bind_some]
    rw [if_pos (by simpa using hx.2)]
  by_cases e : x.1 = 0
  · refine ev_now fun k => ?_
    unfold field_GF_MulOrder.f
    rw [hin k]
    simp only [Option.bind_some]
    have e0 : x = 0 := GF.val_zero.1 e
    rw [if_pos e, if_pos e, e0, ordn_zero]
    rfl
  · have hx0 : x ≠ 0 := fun hc => e (GF.val_zero.2 hc)
    have hel := elems_length D
    obtain ⟨i, hi, hxi⟩ := (elems_full D).powers (g := g) (by rw [show (elems D).length - 1 = (D.q - 1).toNat by omega]; exact hg) hx0
    have hi' : i < (D.q - 1).toNat := by omega
    have hlog : rd (logs (expL g) (List.replicate D.q.toNat 0) (expL g).length) x.1 = i := by
      rw [← hxi, expL_length]
      exact logs_at hg _ i hi' (Nat.le_refl _)
    have hl : (logs (expL g) (List.replicate D.q.toNat 0) (expL g).length).length = D.q.toNat := by rw [logs_length, List.length_replicate]
    have hord : IsOrd x ((D.q - 1).toNat / Nat.gcd (D.q - 1).toNat i) := by rw [← hxi]; exact hg.pow_pow i
    have hev := MO_l0 (P := P) (M := M) (Mod := Mod) hq2 hq (expL g) (logs (expL g) (List.replicate D.q.toNat 0) (expL g).length) i (D.q - 1) i (by omega) (by omega) (by omega) (by omega) (by omega) (.inl (by omega))
    have e3 : (D.q - 1) / gc (D.q - 1) i = (ordn x : Int) := by
      rw [ordn_of hord]
      unfold gc
      rw [show ((i : Int)).toNat = i by omega, Int.natCast_ediv, show (((D.q - 1).toNat : Nat) : Int) = D.q - 1 by omega]
    rw [e3] at hev
    rw [if_neg e]
    refine Ev.congr (fun k => ?_) hev
    unfold field_GF_MulOrder.f
    rw [hin k]
    simp only [Option.bind_some]
    rw [if_neg e, if_pos hx.1, if_pos (by rw [hl]; omega), w64 (x := D.q - 1) (by omega) (by omega), hlog]
/-- The reference's Root. -/
theorem RootRef_l0 (h : Desc D P M Mod) (n : Int) : ∀ (d x : Nat), (x : Int) + d = D.q → 1 ≤ x →
    ∃ r, Ev (fun k => codewrightref17_Root.l0 k n x P M Mod) r ∧
      ((∃ z : Nat, x ≤ z ∧ (z : Int) < D.q ∧ (ordn (inn D z) : Int) = n ∧ (∀ y : Nat, x ≤ y → y < z → (ordn (inn D y) : Int) ≠ n) ∧ r = z) ∨ ((∀ y : Nat, x ≤ y → (y : Int) < D.q → (ordn (inn D y) : Int) ≠ n) ∧ r = 0)) := by
  have hq := h.hq
  intro d
  induction d with
  | zero =>
    intro x hx hx1
    refine ⟨0, Ev.step (f := fun k => (codewrightref04_Order.f k P M Mod).bind fun t213 => (if (x : Int) < t213 then ((codewrightref04_MulOrder.f k P M Mod x).bind fun t214 => (if t214 = n then (some (x : Int)) else (codewrightref17_Root.l0 k n (wrap64 ((x : Int) + 1)) P M Mod))) else (some 0))) (fun k => by rw [codewrightref17_Root.l0]) (Ev.bind (Order_eq h) (ev_now fun k => if_neg (by omega))), .inr ⟨fun y h1 h2 => by omega, rfl⟩⟩
  | succ d ih =>
    intro x hx hx1
    have hxv : (inn D (x : Int)).1 = x := inn_of (by omega) (by omega)
    have hx0 : inn D (x : Int) ≠ 0 := fun hc => by have := GF.val_zero.2 hc; omega
    have hm := MulOrder_eq h (inn D (x : Int)) hx0 _ (ordn_spec hx0)
    rw [hxv] at hm
    have hstep : ∀ r, Ev (fun k => if ((ordn (inn D (x : Int)) : Nat) : Int) = n then (some (x : Int)) else (codewrightref17_Root.l0 k n (wrap64 ((x : Int) + 1)) P M Mod)) r → Ev (fun k => codewrightref17_Root.l0 k n x P M Mod) r := by
      intro r hr
      refine Ev.step (f := fun k => (codewrightref04_Order.f k P M Mod).bind fun t213 => (if (x : Int) < t213 then ((codewrightref04_MulOrder.f k P M Mod x).bind fun t214 => (if t214 = n then (some (x : Int)) else (codewrightref17_Root.l0 k n (wrap64 ((x : Int) + 1)) P M Mod))) else (some 0))) (fun k => by rw [codewrightref17_Root.l0]) (Ev.bind (Order_eq h) (Ev.congr (fun k => if_pos (by omega)) (Ev.bind hm hr)))
    by_cases e : (ordn (inn D (x : Int)) : Int) = n
    · exact ⟨x, hstep _ (ev_now fun k => if_pos e), .inl ⟨x, Nat.le_refl x, by omega, e, fun y h1 h2 => by omega, rfl⟩⟩
    · obtain ⟨r, hr, hor⟩ := ih (x + 1) (by omega) (by omega)
      refine ⟨r, hstep _ (Ev.congr (fun k => by rw [if_neg e, w64 (by omega) (by omega)]; rfl) hr), ?_⟩
      rcases hor with ⟨z, h1, h2, h3, h4, h5⟩ | ⟨h1, h2⟩
      · refine .inl ⟨z, by omega, h2, h3, fun y hy1 hy2 => ?_, h5⟩
        by_cases e' : y = x
        · subst e'; exact e
        · exact h4 y (by omega) hy2
      · refine .inr ⟨fun y hy1 hy2 => ?_, h2⟩
        by_cases e' : y = x
        · subst e'; exact e
        · exact h1 y (by omega) hy2
theorem RootRef_eq (h : Desc D P M Mod) (n : Int) : ∃ r, Ev (fun k => codewrightref17_Root.f k P M Mod n) r ∧
      ((∃ z : Nat, 1 ≤ z ∧ (z : Int) < D.q ∧ (ordn (inn D z) : Int) = n ∧ (∀ y : Nat, 1 ≤ y → y < z → (ordn (inn D y) : Int) ≠ n) ∧ r = z) ∨ ((∀ y : Nat, 1 ≤ y → (y : Int) < D.q → (ordn (inn D y) : Int) ≠ n) ∧ r = 0)) := by
  have hq2 := D.two_q
  exact RootRef_l0 h n (D.q - 1).toNat 1 (by omega) (Nat.le_refl 1)
end
end Go.Proofs.Ytibbdjkboglepaa.MyQBchRoots

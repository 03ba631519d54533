/- The printed function Check of the reference of layer 17: the bound of a run that proves it, or an error. Lengths of the list up to 2^43. -/
import Derived.Test.YtibbdjkboglepaaResRefBchChecks
namespace Go.Proofs.Ytibbdjkboglepaa.MyBchChecks
open Go.RowKit Go.Proofs.YtibbdjkboglepaaW.PrintWords Go.Proofs.YtibbdjkboglepaaW.PrintMore Go.Proofs.Ytibbdjkboglepaa.My Go.Proofs.Ytibbdjkboglepaa.PBchChecks

/-- The answer of Check for a run whose numbers are in range. -/
def ChkQ (n : Int) (zs : List Int) (s t c x m : Int) (r : Int × Int) : Prop := (Proves n zs s t c x m → r = (c + 1 + m, 0)) ∧ (¬ Proves n zs s t c x m → r = (0, 13))
def Wd (n s t c x m : Int) : Prop := -2147483648 ≤ s ∧ s ≤ 2147483648 ∧ -2147483648 ≤ t ∧ t ≤ 2147483648 ∧ -2147483648 ≤ x ∧ x ≤ 2147483648 ∧ 1 ≤ c ∧ c ≤ n ∧ 0 ≤ m ∧ m ≤ n
theorem mul_bd2 {a b : Int} (h1 : 0 ≤ a) (h2 : a ≤ 64) (h3 : -2147483648 ≤ b) (h4 : b ≤ 2147483648) : -137438953472 ≤ a * b ∧ a * b ≤ 137438953472 := by
  have e1 : a * b ≤ a * 2147483648 := Int.mul_le_mul_of_nonneg_left h4 h1
  have e2 : a * (-2147483648) ≤ a * b := Int.mul_le_mul_of_nonneg_left h3 h1
  omega
theorem Check_l1 {n s t c x m i : Int} {zs : List Int} (h1 : 1 ≤ n) (h2 : n ≤ 64) (hz : zs.length ≤ 4611686018427387904) (hW : Wd n s t c x m) (hi : 0 ≤ i) (hi' : i < c) (Q : Int × Int → Prop)
    (hk : (∀ j, 0 ≤ j → j ≤ m → InS n zs (s + i * t + j * x)) → ∃ r, Ev (fun k => codewrightref17_Check.l0 k n (zs.map (· % n)) (i + 1) s t c x m) r ∧ Q r) (hno : ¬ Rect n zs s t c x m → Q (0, 13)) :
    ∀ (d : Nat) (j : Int), 0 ≤ j → j + d = m + 1 → (∀ j', 0 ≤ j' → j' < j → InS n zs (s + i * t + j' * x)) → ∃ r, Ev (fun k => codewrightref17_Check.l1 k n (zs.map (· % n)) i j s t c x m) r ∧ Q r := by
  obtain ⟨w1, w2, w3, w4, w5, w6, w7, w8, w9, w10⟩ := hW
  intro d
  induction d with
  | zero =>
    intro j hj hd h
    obtain ⟨r, hr, hq⟩ := hk (fun j' a b => h j' a (by omega))
    exact ⟨r, Ev.step (fun k => by rw [codewrightref17_Check.l1, if_neg (by omega), w64 (by omega) (by omega)]) hr, hq⟩
  | succ d ih =>
    intro j hj hd h
    have b1 := mul_bd2 (a := i) (b := t) hi (by omega) w3 w4
    have b2 := mul_bd2 (a := j) (b := x) hj (by omega) w5 w6
    have hw : codewrightref17_Mod.f (wrap64 (wrap64 (s + wrap64 (i * t)) + wrap64 (j * x))) n = some ((s + i * t + j * x) % n) := by
      rw [w64 (x := i * t) (by omega) (by omega), w64 (x := s + i * t) (by omega) (by omega), w64 (x := j * x) (by omega) (by omega), w64 (by omega) (by omega), Mod_eq h1 h2]
    by_cases e : InS n zs (s + i * t + j * x)
    · obtain ⟨r, hr, hq⟩ := ih (j + 1) (by omega) (by omega) (by
        intro j' a b
        by_cases e' : j' = j
        · subst e'; exact e
        · exact h j' a (by omega))
      exact ⟨r, Ev.step (fun k => by rw [codewrightref17_Check.l1, if_pos (by omega), hw, Option.bind_some]) (Ev.bind (has_res hz e) (Ev.congr (fun k => by rw [if_pos rfl, w64 (by omega) (by omega)]) hr)), hq⟩
    · exact ⟨(0, 13), Ev.step (fun k => by rw [codewrightref17_Check.l1, if_pos (by omega), hw, Option.bind_some]) (Ev.bind (has_res_not hz e) (ev_now fun k => by rw [if_neg (by simp)])), hno (fun hR => e (hR i j hi hi' hj (by omega)))⟩
theorem Check_l0 {n s t c x m : Int} {zs : List Int} (h1 : 1 ≤ n) (h2 : n ≤ 64) (hz : zs.length ≤ 4611686018427387904) (hW : Wd n s t c x m) :
    ∀ (d : Nat) (i : Int), 0 ≤ i → i + d = c → (∀ i' j, 0 ≤ i' → i' < i → 0 ≤ j → j ≤ m → InS n zs (s + i' * t + j * x)) →
      ∃ r, Ev (fun k => codewrightref17_Check.l0 k n (zs.map (· % n)) i s t c x m) r ∧ ((Rect n zs s t c x m → r = (c + 1 + m, 0)) ∧ (¬ Rect n zs s t c x m → r = (0, 13))) := by
  have hW' := hW
  obtain ⟨w1, w2, w3, w4, w5, w6, w7, w8, w9, w10⟩ := hW
  intro d
  induction d with
  | zero =>
    intro i hi hd h
    refine ⟨(c + 1 + m, 0), ev_succ (ev_now fun k => by rw [codewrightref17_Check.l0, if_neg (by omega), w64 (x := c + 1) (by omega) (by omega), w64 (by omega) (by omega)]), fun _ => rfl, fun hn => ?_⟩
    exact absurd (fun i' j a b c' d' => h i' j a (by omega) c' d') hn
  | succ d ih =>
    intro i hi hd h
    obtain ⟨r, hr, hq⟩ := Check_l1 (zs := zs) h1 h2 hz hW' hi (by omega) (fun r => (Rect n zs s t c x m → r = (c + 1 + m, 0)) ∧ (¬ Rect n zs s t c x m → r = (0, 13))) (by
      intro hrow
      refine ih (i + 1) (by omega) (by omega) ?_
      intro i' j a b c' d'
      by_cases e : i' = i
      · subst e; exact hrow j c' d'
      · exact h i' j a (by omega) c' d') (fun hn => ⟨fun hR => absurd hR hn, fun _ => rfl⟩) (m + 1).toNat 0 (by omega) (by omega) (fun j' a b => by omega)
    exact ⟨r, Ev.step (fun k => by rw [codewrightref17_Check.l0, if_pos (by omega)]) hr, hq⟩
theorem wide_eq {a : Int} : codewrightref17_wide.f a = some (decide (-2147483648 ≤ a ∧ a ≤ 2147483648)) := by
  unfold codewrightref17_wide.f
  by_cases h : a ≥ -2147483648
  · rw [if_pos h]; congr 1; simp; intro _; omega
  · rw [if_neg h]; congr 1; symm; simp; omega
theorem CheckArgs_ok {n s t c x m : Int} (h1 : 1 ≤ n) (h2 : n ≤ 64) (hW : Wd n s t c x m) : Ev (fun k => codewrightref17_CheckArgs.f k n s t c x m) 0 := by
  obtain ⟨w1, w2, w3, w4, w5, w6, w7, w8, w9, w10⟩ := hW
  refine Ev.congr (fun k => by unfold codewrightref17_CheckArgs.f; rw [if_neg (by omega)]) (ev_succ (ev_now fun k => ?_))
  rw [codewrightref17_CheckArgs.j0, if_neg (by simp; omega), wide_eq, Option.bind_some, if_pos (by simp; omega), wide_eq, Option.bind_some, if_pos (by simp; omega), wide_eq, Option.bind_some, if_pos (by simp; omega), if_neg (by omega), if_neg (by omega), if_neg (by omega), if_neg (by omega)]
theorem Check_in {n s t c x m : Int} {zs : List Int} (h1 : 1 ≤ n) (h2 : n ≤ 64) (hz : zs.length ≤ 17592186044415) (hW : Wd n s t c x m) :
    ∃ r, Ev (fun k => codewrightref17_Check.f k n zs s t c x m) r ∧ ChkQ n zs s t c x m r := by
  have ht := RGcd_eq (a := t % n) (n := n) (Int.emod_nonneg t (by omega)) (by omega)
  have hx := RGcd_eq (a := x % n) (n := n) (Int.emod_nonneg x (by omega)) (by omega)
  obtain ⟨r, hr, hq⟩ := Check_l0 (zs := zs) h1 h2 (by omega) hW c.toNat 0 (by omega) (by have := hW.2.2.2.2.2.2.1; omega) (fun i' j a b => by omega)
  have h13 : ¬ Proves n zs s t c x m → ∃ r : Int × Int, Ev (fun k => codewrightref17_Check.j0 k n zs true s t c x m) r ∧ ChkQ n zs s t c x m r := fun hn =>
    ⟨(0, 13), ev_succ (ev_now fun k => by rw [codewrightref17_Check.j0, if_pos rfl]), fun hp => absurd hp hn, fun _ => rfl⟩
  have hgo : gc (t % n) n = 1 → (0 < m → gc (x % n) n ≤ c) → ∃ r : Int × Int, Ev (fun k => codewrightref17_Check.j0 k n zs false s t c x m) r ∧ ChkQ n zs s t c x m r := fun hg hg' =>
    ⟨r, Ev.step (fun k => by rw [codewrightref17_Check.j0, if_neg (by simp)]) (Ev.bind (residues_eq h1 h2 hz) hr), fun hp => hq.1 hp.2.2.2.2.2.2, fun hn => hq.2 (fun hR => hn ⟨hW.2.2.2.2.2.2.1, hW.2.2.2.2.2.2.2.1, hW.2.2.2.2.2.2.2.2.1, hW.2.2.2.2.2.2.2.2.2, hg, hg', hR⟩)⟩
  have start : ∀ {r : Int × Int}, Ev (fun k => ((codewrightref17_Gcd.f k (t % n) n).bind fun t115 => (if t115 = 1 then (if m > 0 then ((codewrightref17_Mod.f x n).bind fun t116 => ((codewrightref17_Gcd.f k t116 n).bind fun t117 => (codewrightref17_Check.j0 k n zs (decide (t117 > c)) s t c x m))) else (codewrightref17_Check.j0 k n zs false s t c x m)) else (codewrightref17_Check.j0 k n zs true s t c x m)))) r → Ev (fun k => codewrightref17_Check.f k n zs s t c x m) r := by
    intro r h
    unfold codewrightref17_Check.f
    exact Ev.bind (CheckArgs_ok h1 h2 hW) (Ev.congr (fun k => by rw [if_pos rfl, Mod_eq h1 h2, Option.bind_some]) h)
  by_cases e1 : gc (t % n) n = 1
  · by_cases e2 : m > 0
    · by_cases e3 : gc (x % n) n ≤ c
      · obtain ⟨r, hr, hq⟩ := hgo e1 (fun _ => e3)
        exact ⟨r, start (Ev.bind ht (Ev.congr (fun k => by rw [if_pos e1, if_pos e2, Mod_eq h1 h2, Option.bind_some]) (Ev.bind hx (Ev.congr (fun k => by rw [decide_eq_false (by omega)]) hr)))), hq⟩
      · obtain ⟨r, hr, hq⟩ := h13 (fun hp => e3 (hp.2.2.2.2.2.1 e2))
        exact ⟨r, start (Ev.bind ht (Ev.congr (fun k => by rw [if_pos e1, if_pos e2, Mod_eq h1 h2, Option.bind_some]) (Ev.bind hx (Ev.congr (fun k => by rw [decide_eq_true (by omega)]) hr)))), hq⟩
    · obtain ⟨r, hr, hq⟩ := hgo e1 (fun h => absurd h e2)
      exact ⟨r, start (Ev.bind ht (Ev.congr (fun k => by rw [if_pos e1, if_neg e2]) hr)), hq⟩
  · obtain ⟨r, hr, hq⟩ := h13 (fun hp => e1 hp.2.2.2.2.1)
    exact ⟨r, start (Ev.bind ht (Ev.congr (fun k => by rw [if_neg e1]) hr)), hq⟩
end Go.Proofs.Ytibbdjkboglepaa.MyBchChecks

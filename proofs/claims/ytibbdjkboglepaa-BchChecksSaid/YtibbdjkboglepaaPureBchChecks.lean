/- BchChecks: Check of package bch and Check of the reference return the same bound and the same error, for every n, run and list of at most 200 zeros. No further condition. -/
import Derived.Test.YtibbdjkboglepaaMemProgBchChecks
import Derived.Test.YtibbdjkboglepaaCheckRefBchChecks
namespace Go.Proofs.Ytibbdjkboglepaa.MyBchChecks
open Go.RowKit Go.Proofs.YtibbdjkboglepaaW.PrintWords Go.Proofs.YtibbdjkboglepaaW.PrintMore Go.Proofs.Ytibbdjkboglepaa.My Go.Proofs.Ytibbdjkboglepaa.PBchChecks

theorem PCheck_l1 {n s t c x m i : Int} {zs : List Int} {inl : List Bool} (h1 : 1 ≤ n) (h2 : n ≤ 64) (hin : InB n zs inl) (hW : Wd n s t c x m) (hi : 0 ≤ i) (hi' : i < c) (Q : Int × Int → Prop)
    (hk : (∀ j, 0 ≤ j → j ≤ m → InS n zs (s + i * t + j * x)) → ∃ r, Ev (fun k => bch_Check.l0 k n inl c (i + 1) s t c x m) r ∧ Q r) (hno : ¬ Rect n zs s t c x m → Q (0, 13)) :
    ∀ (d : Nat) (j : Int), 0 ≤ j → j + d = m + 1 → (∀ j', 0 ≤ j' → j' < j → InS n zs (s + i * t + j' * x)) → ∃ r, Ev (fun k => bch_Check.l1 k n inl i c i (m + 1) j s t c x m) r ∧ Q r := by
  obtain ⟨w1, w2, w3, w4, w5, w6, w7, w8, w9, w10⟩ := hW
  intro d
  induction d with
  | zero =>
    intro j hj hd h
    obtain ⟨r, hr, hq⟩ := hk (fun j' a b => h j' a (by omega))
    exact ⟨r, Ev.step (fun k => by rw [bch_Check.l1, if_neg (by omega), w64 (by omega) (by omega)]) hr, hq⟩
  | succ d ih =>
    intro j hj hd h
    have b1 := mul_bd2 (a := i) (b := t) hi (by omega) w3 w4
    have b2 := mul_bd2 (a := j) (b := x) hj (by omega) w5 w6
    have h3 := Int.emod_nonneg (s + i * t + j * x) (show n ≠ 0 by omega)
    have h4 := Int.emod_lt_of_pos (s + i * t + j * x) (show 0 < n by omega)
    have hw : bch_modulo.f (wrap64 (wrap64 (s + wrap64 (i * t)) + wrap64 (j * x))) n = some ((s + i * t + j * x) % n) := by
      rw [w64 (x := i * t) (by omega) (by omega), w64 (x := s + i * t) (by omega) (by omega), w64 (x := j * x) (by omega) (by omega), w64 (by omega) (by omega), modulo_eq h1 h2]
    by_cases e : InS n zs (s + i * t + j * x)
    · obtain ⟨r, hr, hq⟩ := ih (j + 1) (by omega) (by omega) (by
        intro j' a b
        by_cases e' : j' = j
        · subst e'; exact e
        · exact h j' a (by omega))
      have e2 := (hin.2 _ h3 h4).2 (InS_mod.2 e)
      exact ⟨r, Ev.step (fun k => by rw [bch_Check.l1, if_pos (by omega), hw, Option.bind_some, if_pos h3, if_pos (by rw [hin.1]; exact h4), if_pos e2, w64 (by omega) (by omega)]) hr, hq⟩
    · have e2 : ¬ rdOf false inl ((s + i * t + j * x) % n) = true := fun h => e (InS_mod.1 ((hin.2 _ h3 h4).1 h))
      exact ⟨(0, 13), ev_succ (ev_now fun k => by rw [bch_Check.l1, if_pos (by omega), hw, Option.bind_some, if_pos h3, if_pos (by rw [hin.1]; exact h4), if_neg e2]), hno (fun hR => e (hR i j hi hi' hj (by omega)))⟩
theorem PCheck_l0 {n s t c x m : Int} {zs : List Int} {inl : List Bool} (h1 : 1 ≤ n) (h2 : n ≤ 64) (hin : InB n zs inl) (hW : Wd n s t c x m) :
    ∀ (d : Nat) (i : Int), 0 ≤ i → i + d = c → (∀ i' j, 0 ≤ i' → i' < i → 0 ≤ j → j ≤ m → InS n zs (s + i' * t + j * x)) →
      ∃ r, Ev (fun k => bch_Check.l0 k n inl c i s t c x m) r ∧ ((Rect n zs s t c x m → r = (c + 1 + m, 0)) ∧ (¬ Rect n zs s t c x m → r = (0, 13))) := by
  have hW' := hW
  obtain ⟨w1, w2, w3, w4, w5, w6, w7, w8, w9, w10⟩ := hW
  intro d
  induction d with
  | zero =>
    intro i hi hd h
    refine ⟨(c + 1 + m, 0), ev_succ (ev_now fun k => by rw [bch_Check.l0, if_neg (by omega), w64 (x := c + 1) (by omega) (by omega), w64 (by omega) (by omega)]), fun _ => rfl, fun hn => ?_⟩
    exact absurd (fun i' j a b c' d' => h i' j a (by omega) c' d') hn
  | succ d ih =>
    intro i hi hd h
    obtain ⟨r, hr, hq⟩ := PCheck_l1 (zs := zs) h1 h2 hin hW' hi (by omega) (fun r => (Rect n zs s t c x m → r = (c + 1 + m, 0)) ∧ (¬ Rect n zs s t c x m → r = (0, 13))) (by
      intro hrow
      refine ih (i + 1) (by omega) (by omega) ?_
      intro i' j a b c' d'
      by_cases e : i' = i
      · subst e; exact hrow j c' d'
      · exact h i' j a (by omega) c' d') (fun hn => ⟨fun hR => absurd hR hn, fun _ => rfl⟩) (m + 1).toNat 0 (by omega) (by omega) (fun j' a b => by omega)
    exact ⟨r, Ev.step (fun k => by rw [bch_Check.l0, if_pos (by omega), w64 (by omega) (by omega)]) hr, hq⟩
theorem far_eq {a : Int} : bch_far.f a = some (decide (¬ (-2147483648 ≤ a ∧ a ≤ 2147483648))) := by
  unfold bch_far.f
  by_cases h : a < -2147483648
  · rw [if_pos h]; congr 1; symm; rw [decide_eq_true_iff]; omega
  · rw [if_neg h]; congr 1; rw [decide_eq_decide]; omega
theorem PCheck_in {n s t c x m : Int} {zs : List Int} (h1 : 1 ≤ n) (h2 : n ≤ 64) (hz : zs.length ≤ 17592186044415) (hW : Wd n s t c x m) :
    ∃ r, Ev (fun k => bch_Check.f k n zs s t c x m) r ∧ ChkQ n zs s t c x m r := by
  obtain ⟨inl, hinl, hin⟩ := members_eq (zs := zs) h1 h2 (by omega)
  obtain ⟨r, hr, hq⟩ := PCheck_l0 (zs := zs) h1 h2 hin hW c.toNat 0 (by omega) (by have := hW.2.2.2.2.2.2.1; omega) (fun i' j a b => by omega)
  have hW' := hW
  obtain ⟨w1, w2, w3, w4, w5, w6, w7, w8, w9, w10⟩ := hW
  have start : ∀ {r : Int × Int}, Ev (fun k => ((bch_divisor.f k t n).bind fun t120 => (if t120 = 1 then (if m > 0 then ((bch_divisor.f k x n).bind fun t121 => (if t121 > c then (some (0, 13)) else (bch_Check.j2 k n zs s t c x m))) else (bch_Check.j2 k n zs s t c x m)) else (some (0, 13))))) r → Ev (fun k => bch_Check.f k n zs s t c x m) r := by
    intro r h
    refine Ev.congr (fun k => by unfold bch_Check.f; rw [if_neg (by omega)]) ?_
    refine Ev.step (fun k => by rw [bch_Check.j0, if_neg (by simp; omega), far_eq, Option.bind_some, if_neg (by simp; omega), far_eq, Option.bind_some, if_neg (by simp; omega), far_eq, Option.bind_some, if_neg (by simp; omega), if_neg (by omega), if_neg (by omega), if_neg (by omega)]) ?_
    exact Ev.step (fun k => by rw [bch_Check.j1, if_neg (by simp; omega)]) h
  have hgo : gc (t % n) n = 1 → (0 < m → gc (x % n) n ≤ c) → ∃ r : Int × Int, Ev (fun k => bch_Check.j2 k n zs s t c x m) r ∧ ChkQ n zs s t c x m r := fun hg hg' =>
    ⟨r, Ev.step (fun k => by rw [bch_Check.j2]) (Ev.bind hinl hr), fun hp => hq.1 hp.2.2.2.2.2.2, fun hn => hq.2 (fun hR => hn ⟨w7, w8, w9, w10, hg, hg', hR⟩)⟩
  have ht := divisor_eq (a := t) h1 h2
  have hx := divisor_eq (a := x) h1 h2
  by_cases e1 : gc (t % n) n = 1
  · by_cases e2 : m > 0
    · by_cases e3 : gc (x % n) n ≤ c
      · obtain ⟨r, hr, hq⟩ := hgo e1 (fun _ => e3)
        exact ⟨r, start (Ev.bind ht (Ev.congr (fun k => by rw [if_pos e1, if_pos e2]) (Ev.bind hx (Ev.congr (fun k => by rw [if_neg (by omega)]) hr)))), hq⟩
      · exact ⟨(0, 13), start (Ev.bind ht (Ev.congr (fun k => by rw [if_pos e1, if_pos e2]) (Ev.bind hx (ev_now fun k => by rw [if_pos (by omega)])))), fun hp => absurd (hp.2.2.2.2.2.1 e2) e3, fun _ => rfl⟩
    · obtain ⟨r, hr, hq⟩ := hgo e1 (fun h => absurd h e2)
      exact ⟨r, start (Ev.bind ht (Ev.congr (fun k => by rw [if_pos e1, if_neg e2]) hr)), hq⟩
  · exact ⟨(0, 13), start (Ev.bind ht (ev_now fun k => by rw [if_neg e1])), fun hp => absurd hp.2.2.2.2.1 e1, fun _ => rfl⟩
theorem PCheck_out {n s t c x m : Int} {zs : List Int} (h : n < 1 ∨ 64 < n) : Ev (fun k => bch_Check.f k n zs s t c x m) (0, 4) := by
  have fin : Ev (fun k => bch_Check.j0 k n zs true s t c x m) (0, 4) := ev_succ (ev_now fun k => by rw [bch_Check.j0, if_pos rfl])
  by_cases e : n < 1
  · exact Ev.congr (fun k => by unfold bch_Check.f; rw [if_pos e]) fin
  · exact Ev.congr (fun k => by unfold bch_Check.f; rw [if_neg e, decide_eq_true (by omega)]) fin
theorem PCheck_far {n s t c x m : Int} {zs : List Int} (h1 : 1 ≤ n) (h2 : n ≤ 64) (hW : ¬ Wd n s t c x m) : Ev (fun k => bch_Check.f k n zs s t c x m) (0, 6) := by
  have fin : Ev (fun k => bch_Check.j1 k n zs true s t c x m) (0, 6) := ev_succ (ev_now fun k => by rw [bch_Check.j1, if_pos rfl])
  refine Ev.congr (fun k => by unfold bch_Check.f; rw [if_neg (by omega)]) ?_
  refine Ev.step (fun k => by rw [bch_Check.j0, if_neg (by simp; omega), far_eq, Option.bind_some]) ?_
  by_cases a1 : -2147483648 ≤ s ∧ s ≤ 2147483648
  · refine Ev.congr (fun k => by rw [if_neg (by simp; omega), far_eq, Option.bind_some]) ?_
    by_cases a2 : -2147483648 ≤ t ∧ t ≤ 2147483648
    · refine Ev.congr (fun k => by rw [if_neg (by simp; omega), far_eq, Option.bind_some]) ?_
      by_cases a3 : -2147483648 ≤ x ∧ x ≤ 2147483648
      · refine Ev.congr (fun k => by rw [if_neg (by simp; omega)]) ?_
        by_cases a4 : c < 1
        · exact Ev.congr (fun k => by rw [if_pos a4]) fin
        · by_cases a5 : c > n
          · exact Ev.congr (fun k => by rw [if_neg a4, if_pos a5]) fin
          · by_cases a6 : m < 0
            · exact Ev.congr (fun k => by rw [if_neg a4, if_neg a5, if_pos a6]) fin
            · by_cases a7 : m > n
              · exact Ev.congr (fun k => by rw [if_neg a4, if_neg a5, if_neg a6, decide_eq_true a7]) fin
              · exact absurd ⟨a1.1, a1.2, a2.1, a2.2, a3.1, a3.2, by omega, by omega, by omega, by omega⟩ hW
      · exact Ev.congr (fun k => by rw [if_pos (by simp; omega)]) fin
    · exact Ev.congr (fun k => by rw [if_pos (by simp; omega)]) fin
  · exact Ev.congr (fun k => by rw [if_pos (by simp; omega)]) fin
theorem RCheck_out {n s t c x m : Int} {zs : List Int} (h : n < 1 ∨ 64 < n) : Ev (fun k => codewrightref17_Check.f k n zs s t c x m) (0, 4) := by
  have fin : Ev (fun k => codewrightref17_CheckArgs.j0 k n true s t c x m) 4 := ev_succ (ev_now fun k => by rw [codewrightref17_CheckArgs.j0, if_pos rfl])
  have fin2 : Ev (fun k => codewrightref17_CheckArgs.f k n s t c x m) 4 := by
    by_cases e : n < 1
    · exact Ev.congr (fun k => by unfold codewrightref17_CheckArgs.f; rw [if_pos e]) fin
    · exact Ev.congr (fun k => by unfold codewrightref17_CheckArgs.f; rw [if_neg e, decide_eq_true (by omega)]) fin
  unfold codewrightref17_Check.f
  exact Ev.bind fin2 (ev_now fun k => by rw [if_neg (by omega)])
theorem RCheck_far {n s t c x m : Int} {zs : List Int} (h1 : 1 ≤ n) (h2 : n ≤ 64) (hW : ¬ Wd n s t c x m) : Ev (fun k => codewrightref17_Check.f k n zs s t c x m) (0, 6) := by
  have fin2 : Ev (fun k => codewrightref17_CheckArgs.f k n s t c x m) 6 := by
    refine Ev.congr (fun k => by unfold codewrightref17_CheckArgs.f; rw [if_neg (by omega)]) (ev_succ (ev_now fun k => ?_))
    rw [codewrightref17_CheckArgs.j0, if_neg (by simp; omega), wide_eq, Option.bind_some]
    by_cases a1 : -2147483648 ≤ s ∧ s ≤ 2147483648
    · rw [if_pos (by simp; omega), wide_eq, Option.bind_some]
      by_cases a2 : -2147483648 ≤ t ∧ t ≤ 2147483648
      · rw [if_pos (by simp; omega), wide_eq, Option.bind_some]
        by_cases a3 : -2147483648 ≤ x ∧ x ≤ 2147483648
        · rw [if_pos (by simp; omega)]
          by_cases a4 : c < 1
          · rw [if_pos a4]
          · by_cases a5 : c > n
            · rw [if_neg a4, if_pos a5]
            · by_cases a6 : m < 0
              · rw [if_neg a4, if_neg a5, if_pos a6]
              · by_cases a7 : m > n
                · rw [if_neg a4, if_neg a5, if_neg a6, if_pos a7]
                · exact absurd ⟨a1.1, a1.2, a2.1, a2.2, a3.1, a3.2, by omega, by omega, by omega, by omega⟩ hW
        · rw [if_neg (by simp; omega)]
      · rw [if_neg (by simp; omega)]
    · rw [if_neg (by simp; omega)]
  unfold codewrightref17_Check.f
  exact Ev.bind fin2 (ev_now fun k => by rw [if_neg (by omega)])
theorem same {n s t c x m : Int} {zs : List Int} (hz : zs.length ≤ 200) : ∃ r, Ev (fun k => bch_Check.f k n zs s t c x m) r ∧ Ev (fun k => codewrightref17_Check.f k n zs s t c x m) r := by
  by_cases h1 : 1 ≤ n
  · by_cases h2 : n ≤ 64
    · by_cases hW : Wd n s t c x m
      · obtain ⟨r, hr, hq⟩ := PCheck_in (zs := zs) h1 h2 (by omega) hW
        obtain ⟨r', hr', hq'⟩ := Check_in (zs := zs) h1 h2 (by omega) hW
        refine ⟨r, hr, ?_⟩
        have e : r = r' := by
          by_cases hp : Proves n zs s t c x m
          · rw [hq.1 hp, hq'.1 hp]
          · rw [hq.2 hp, hq'.2 hp]
        rw [e]; exact hr'
      · exact ⟨_, PCheck_far h1 h2 hW, RCheck_far h1 h2 hW⟩
    · exact ⟨_, PCheck_out (by omega), RCheck_out (by omega)⟩
  · exact ⟨_, PCheck_out (by omega), RCheck_out (by omega)⟩
/-- The law itself: some number of rounds is enough, and it answers true. -/
theorem law (n : Int) (zs : List Int) (s t c x m : Int) : ∃ k, codewrightlaw17_BchChecks.f k n zs s t c x m = some true := by
  apply Ev.rounds
  unfold codewrightlaw17_BchChecks.f
  by_cases e : (zs.length : Int) > 200
  · exact ev_now fun k => by rw [if_pos e]
  · refine Ev.congr (fun k => by rw [if_neg e]) ?_
    obtain ⟨r, h1, h2⟩ := same (n := n) (s := s) (t := t) (c := c) (x := x) (m := m) (zs := zs) (by omega)
    refine Ev.bind h1 (Ev.bind h2 (ev_now fun k => ?_))
    rw [if_pos rfl]
    simp
end Go.Proofs.Ytibbdjkboglepaa.MyBchChecks

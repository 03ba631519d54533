/- BchBounds: Bound and Tzeng return the greatest bounds that runs prove, with runs that prove them, for lengths from 1 to 12 and lists of at most 200 zeros, and the error elsewhere. No further condition. -/
import Derived.Test.YtibbdjkboglepaaBestMaxBchBounds
import Derived.Test.YtibbdjkboglepaaCheckRefBchBounds
namespace Go.Proofs.Ytibbdjkboglepaa.MyBchBounds
open Go.RowKit Go.Proofs.YtibbdjkboglepaaW.PrintWords Go.Proofs.YtibbdjkboglepaaW.PrintMore Go.Proofs.Ytibbdjkboglepaa.My Go.Proofs.Ytibbdjkboglepaa.PBchBounds

theorem Bound_ev {n : Int} {zs : List Int} {r : Int × Int × Int × Int × Int × Int × Int} (h : Ev (fun k => bch_best.f k n zs 0) r) : Ev (fun k => bch_Bound.f k n zs) r := by
  unfold bch_Bound.f
  exact Ev.bind h (ev_now fun k => rfl)
theorem Tzeng_ev {n : Int} {zs : List Int} {r : Int × Int × Int × Int × Int × Int × Int} (h : Ev (fun k => bch_best.f k n zs n) r) : Ev (fun k => bch_Tzeng.f k n zs) r := by
  unfold bch_Tzeng.f
  exact Ev.bind h (ev_now fun k => rfl)
theorem law_in {n : Int} {zs : List Int} (h1 : 1 ≤ n) (h2 : n ≤ 64) (hz : zs.length ≤ 200) : Ev (fun k => codewrightlaw17_BchBounds.j0 k n zs false) true := by
  obtain ⟨_, hB, b, s, t, c, x, m, rfl, gB, iB, zB⟩ := best_eq (most := 0) (zs := zs) h1 h2 (by omega) (by omega) (by omega)
  obtain ⟨_, hT, d, s', t', c', x', m', rfl, gT, iT, zT⟩ := best_eq (most := n) (zs := zs) h1 h2 (by omega) (by omega) (by omega)
  obtain ⟨rb, hRB, iRB, oRB⟩ := Best_eq (most := 0) (zs := zs) h1 h2 (by omega) (by omega) (by omega)
  obtain ⟨rt, hRT, iRT, oRT⟩ := Best_eq (most := n) (zs := zs) h1 h2 (by omega) (by omega) (by omega)
  obtain rfl := iB.unique iRB gB.ge oRB
  obtain rfl := iT.unique iRT gT.ge oRT
  have hm : m = 0 := by
    rcases gB with ⟨_, _, _, _, _, h⟩ | ⟨hp, hm, _⟩
    · exact h
    · have := hp.2.2.1; omega
  have hx0 := zB hm
  subst hm hx0
  refine Ev.step (fun k => by rw [codewrightlaw17_BchBounds.j0, if_neg (by simp)]) ?_
  refine Ev.bind (Bound_ev hB) (Ev.bind (Tzeng_ev hT) ?_)
  refine Ev.congr (fun k => by rw [if_neg (by omega)]) ?_
  refine Ev.step (fun k => by rw [codewrightlaw17_BchBounds.j1, if_neg (by simp; omega), if_pos rfl, if_pos rfl]) ?_
  refine Ev.bind hRB ?_
  refine Ev.congr (fun k => by rw [if_pos rfl]) ?_
  refine Ev.bind hRT ?_
  have e1 : (d != d) = false := by simp
  refine Ev.congr (fun k => by rw [e1]) ?_
  by_cases e : b = 1
  · subst e
    have z1 : s = 0 ∧ t = 0 ∧ c = 0 := by
      rcases gB with ⟨_, h⟩ | ⟨hp, _, h, _⟩
      · exact ⟨h.1, h.2.1, h.2.2.1⟩
      · have := hp.1; omega
    have z2 : d = 1 ∧ s' = 0 ∧ t' = 0 ∧ c' = 0 ∧ x' = 0 ∧ m' = 0 := by
      rcases gT with h | ⟨hp, _, h, _⟩
      · exact h
      · exfalso
        have hr := hp.2.2.2.2.2.2
        have := iB.2 s' t' 1 x' 0 ⟨by omega, h1, by omega, by omega, hp.2.2.2.2.1, fun h => by omega, fun i j a b c d => hr i j a (by have := hp.1; omega) c (by have := hp.2.2.1; omega)⟩ (by omega)
        omega
    obtain ⟨rfl, rfl, rfl⟩ := z1
    obtain ⟨rfl, rfl, rfl, rfl, rfl, rfl⟩ := z2
    exact ev_succ (ev_now fun k => by rw [codewrightlaw17_BchBounds.j2, if_neg (by simp), if_pos rfl, if_pos (by simp), if_pos (by simp)]; rfl)
  · have pB : Proves n zs s t c 0 0 ∧ b = c + 1 + 0 ∧ Wd n s t c 0 0 := by
      rcases gB with ⟨h, _⟩ | ⟨hp, hm, h, h3, h4, h5, h6, h7, h8⟩
      · exact absurd h e
      · have := hp.1; have := hp.2.1; exact ⟨hp, h, by omega, by omega, by omega, by omega, by omega, by omega, by omega, by omega, by omega, by omega⟩
    have pT : Proves n zs s' t' c' x' m' ∧ d = c' + 1 + m' ∧ Wd n s' t' c' x' m' := by
      rcases gT with ⟨h, _⟩ | ⟨hp, hm, h, h3, h4, h5, h6, h7, h8⟩
      · exfalso
        have := iT.2 _ _ _ _ _ pB.1 (by omega)
        have := pB.1.1
        omega
      · have := hp.1; have := hp.2.1; have := hp.2.2.1; exact ⟨hp, h, by omega, by omega, by omega, by omega, by omega, by omega, by omega, by omega, by omega, by omega⟩
    obtain ⟨r1, hr1, q1⟩ := Check_in (zs := zs) h1 h2 (by omega) pB.2.2
    obtain ⟨r2, hr2, q2⟩ := Check_in (zs := zs) h1 h2 (by omega) pT.2.2
    obtain rfl := q1.1 pB.1
    obtain rfl := q2.1 pT.1
    refine Ev.step (fun k => by rw [codewrightlaw17_BchBounds.j2, if_neg (by simp), if_neg e]) ?_
    refine Ev.bind hr1 (Ev.bind hr2 (ev_now fun k => ?_))
    rw [if_pos rfl, if_pos rfl, if_pos pB.2.1.symm, if_pos pT.2.1.symm, if_pos rfl]
    rfl
theorem law_out {n : Int} {zs : List Int} (h : n < 1 ∨ 64 < n) : Ev (fun k => codewrightlaw17_BchBounds.j0 k n zs false) true := by
  have hB := best_out (most := 0) (zs := zs) h
  have hT := best_out (most := n) (zs := zs) h
  refine Ev.step (fun k => by rw [codewrightlaw17_BchBounds.j0, if_neg (by simp)]) ?_
  refine Ev.bind (Bound_ev hB) (Ev.bind (Tzeng_ev hT) ?_)
  have fin : Ev (fun k => codewrightlaw17_BchBounds.j1 k n zs 0 4 0 4 true 0 0 0 0 0 0 0 0 0 0) true :=
    ev_succ (ev_now fun k => by rw [codewrightlaw17_BchBounds.j1, if_pos rfl, if_pos rfl, if_pos rfl, if_pos rfl, if_pos rfl, if_pos (by simp)]; rfl)
  by_cases e : n < 1
  · exact Ev.congr (fun k => by rw [if_pos e]) fin
  · refine Ev.congr (fun k => by rw [if_neg e, decide_eq_true (show n > 64 by omega)]) fin
end Go.Proofs.Ytibbdjkboglepaa.MyBchBounds
namespace Go.Proofs.Ytibbdjkboglepaa.Pure
open Go.RowKit Go.Proofs.Ytibbdjkboglepaa.PBchBounds Go.Proofs.YtibbdjkboglepaaW.PrintWords Go.Proofs.YtibbdjkboglepaaW.PrintLast Go.Proofs.Ytibbdjkboglepaa.My Go.Proofs.Ytibbdjkboglepaa.MyBchBounds
theorem BchBounds : codewrightlaw17_BchBounds.Pure := by
  intro n zs hn hz hz' hw
  apply Ev.rounds
  unfold codewrightlaw17_BchBounds.f
  have skip : Ev (fun k => codewrightlaw17_BchBounds.j0 k n zs true) true := ev_succ (ev_now fun k => by rw [codewrightlaw17_BchBounds.j0, if_pos rfl])
  by_cases e1 : (zs.length : Int) > 200
  · exact Ev.congr (fun k => by rw [if_pos e1]) skip
  · by_cases e2 : n > 12
    · by_cases e3 : n ≤ 64
      · exact Ev.congr (fun k => by rw [if_neg e1, if_pos e2, decide_eq_true e3]) skip
      · exact Ev.congr (fun k => by rw [if_neg e1, if_pos e2, decide_eq_false e3]) (law_out (by omega))
    · refine Ev.congr (fun k => by rw [if_neg e1, if_neg e2]) ?_
      by_cases e4 : 1 ≤ n
      · exact law_in e4 (by omega) (by omega)
      · exact law_out (by omega)
end Go.Proofs.Ytibbdjkboglepaa.Pure

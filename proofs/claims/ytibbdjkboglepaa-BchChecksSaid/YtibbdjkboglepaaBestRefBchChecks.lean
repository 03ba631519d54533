/- The printed functions of the reference of layer 17: remainders, divisors, Best (the greatest bound of runs) and Check. Lengths n from 1 to 64. -/
import Derived.Test.YtibbdjkboglepaaRunMath
import Derived.Test.YtibbdjkboglepaaPBchChecksx4
namespace Go.Proofs.Ytibbdjkboglepaa.MyBchChecks
open Go.RowKit Go.Proofs.YtibbdjkboglepaaW.PrintWords Go.Proofs.YtibbdjkboglepaaW.PrintMore Go.Proofs.Ytibbdjkboglepaa.My Go.Proofs.Ytibbdjkboglepaa.PBchChecks

theorem Mod_eq {a n : Int} (h1 : 1 ≤ n) (h2 : n ≤ 64) : codewrightref17_Mod.f a n = some (a % n) := by
  unfold codewrightref17_Mod.f
  rw [if_neg (by omega), mod_go h1 (by omega)]
theorem Common_l0 (d : Nat) : ∀ (a b : Int), 0 ≤ a → 0 ≤ b → b ≤ d → Ev (fun k => codewrightref16_Common.l0 k a b) (gc a b) := by
  induction d with
  | zero =>
    intro a b ha hb hd
    obtain rfl : b = 0 := by omega
    exact ev_succ (ev_now fun k => by rw [codewrightref16_Common.l0, if_neg (by omega), gc_zero ha])
  | succ d ih =>
    intro a b ha hb hd
    by_cases e : b = 0
    · subst e
      exact ev_succ (ev_now fun k => by rw [codewrightref16_Common.l0, if_neg (by omega), gc_zero ha])
    · have h3 := Int.emod_nonneg a e
      have h4 := Int.emod_lt_of_pos a (show 0 < b by omega)
      refine ev_of_eq (Ev.step (fun k => by rw [codewrightref16_Common.l0, if_pos (by omega), if_neg e, tmod_nn ha]) (ih b (a % b) hb h3 (by omega))) (gc_step ha hb)
theorem RGcd_eq {a n : Int} (ha : 0 ≤ a) (hn : 0 ≤ n) : Ev (fun k => codewrightref17_Gcd.f k a n) (gc a n) := by
  by_cases e : a = 0
  · subst e
    refine ev_now fun k => ?_
    unfold codewrightref17_Gcd.f
    rw [if_pos rfl, gc_zero_left hn]
  · refine Ev.congr (f := fun k => (codewrightref16_Common.l0 k a n).bind some) (fun k => by unfold codewrightref17_Gcd.f; rw [if_neg e]; rfl) (Ev.bind (Common_l0 n.toNat a n ha hn (by omega)) (ev_now fun k => rfl))
end Go.Proofs.Ytibbdjkboglepaa.MyBchChecks

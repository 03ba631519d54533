-- PRINTED BY print.sh 35421559b90ae4d0a3588c463048766b98c2df88dd9212a6774a882060cdf62d: not written by this session
import Derived.Test.YtibbdjkboglepaaPBchBoundsx0
import Derived.Test.YtibbdjkboglepaaPBchBoundsx1
import Derived.Test.YtibbdjkboglepaaPBchBoundsx3
import Derived.Test.YtibbdjkboglepaaPBchBoundsx6
namespace Go.Proofs.Ytibbdjkboglepaa.PBchBounds
open Go.RowKit Go.Proofs.YtibbdjkboglepaaW.PrintWords Go.Proofs.YtibbdjkboglepaaW.PrintLast Go.Proofs.YtibbdjkboglepaaW.PrintMore
attribute [local go_sem] max2_int min2_int max_two min_two max_three min_three max_four min_four   -- for this text's walks alone
set_option linter.unusedVariables false
set_option linter.unusedSimpArgs false

attribute [local go_sem high] eqA24
/-! ### codewrightlaw17_BchBounds: function 4 -/
mutual
def codewrightlaw17_BchBounds.j0 : Nat → Int → List Int → Bool → Option (Bool)
  | 0, _, _, _ => none
  | k + 1, x0, x1, x25 => if x25 = true then (some true) else ((bch_Bound.f k x0 x1).bind fun bt182 => ((bch_Tzeng.f k x0 x1).bind fun bt190 => (if x0 < 1 then (codewrightlaw17_BchBounds.j1 k x0 x1 bt182.1 bt182.2.2.2.2.2.2 bt190.1 bt190.2.2.2.2.2.2 true bt182.2.1 bt182.2.2.1 bt182.2.2.2.1 bt182.2.2.2.2.1 bt182.2.2.2.2.2.1 bt190.2.1 bt190.2.2.1 bt190.2.2.2.1 bt190.2.2.2.2.1 bt190.2.2.2.2.2.1) else (codewrightlaw17_BchBounds.j1 k x0 x1 bt182.1 bt182.2.2.2.2.2.2 bt190.1 bt190.2.2.2.2.2.2 (decide (x0 > 64)) bt182.2.1 bt182.2.2.1 bt182.2.2.2.1 bt182.2.2.2.2.1 bt182.2.2.2.2.2.1 bt190.2.1 bt190.2.2.1 bt190.2.2.2.1 bt190.2.2.2.2.1 bt190.2.2.2.2.2.1))))
def codewrightlaw17_BchBounds.j1 : Nat → Int → List Int → Int → Int → Int → Int → Bool → Int → Int → Int → Int → Int → Int → Int → Int → Int → Int → Option (Bool)
  | 0, _, _, _, _, _, _, _, _, _, _, _, _, _, _, _, _, _ => none
  | k + 1, x0, x1, x5, x7, x8, x10, x45, x190000, x190001, x190002, x190003, x190004, x198000, x198001, x198002, x198003, x198004 => if x45 = true then (if x7 = 4 then (if x10 = 4 then (if x5 = 0 then (if x8 = 0 then (if (x190000 == 0 && (x190001 == 0 && (x190002 == 0 && (x190003 == 0 && (x190004 == 0))))) = true then (some (x198000 == 0 && (x198001 == 0 && (x198002 == 0 && (x198003 == 0 && (x198004 == 0)))))) else (some false)) else (some false)) else (some false)) else (some false)) else (some false)) else (if x7 = 0 then (if x10 = 0 then ((codewrightref17_Best.f k x0 x1 0).bind fun t198 => (if x5 = t198 then ((codewrightref17_Best.f k x0 x1 x0).bind fun t199 => (codewrightlaw17_BchBounds.j2 k x0 x1 x5 x8 (x8 != t199) x190000 x190001 x190002 x190003 x190004 x198000 x198001 x198002 x198003 x198004)) else (codewrightlaw17_BchBounds.j2 k x0 x1 x5 x8 true x190000 x190001 x190002 x190003 x190004 x198000 x198001 x198002 x198003 x198004))) else (codewrightlaw17_BchBounds.j2 k x0 x1 x5 x8 true x190000 x190001 x190002 x190003 x190004 x198000 x198001 x198002 x198003 x198004)) else (codewrightlaw17_BchBounds.j2 k x0 x1 x5 x8 true x190000 x190001 x190002 x190003 x190004 x198000 x198001 x198002 x198003 x198004))
def codewrightlaw17_BchBounds.j2 : Nat → Int → List Int → Int → Int → Bool → Int → Int → Int → Int → Int → Int → Int → Int → Int → Int → Option (Bool)
  | 0, _, _, _, _, _, _, _, _, _, _, _, _, _, _, _ => none
  | k + 1, x0, x1, x5, x8, x90, x190000, x190001, x190002, x190003, x190004, x198000, x198001, x198002, x198003, x198004 => if x90 = true then (some false) else (if x5 = 1 then (if (x190000 == 0 && (x190001 == 0 && (x190002 == 0 && (x190003 == 0 && (x190004 == 0))))) = true then (if (x198000 == 0 && (x198001 == 0 && (x198002 == 0 && (x198003 == 0 && (x198004 == 0))))) = true then (some (x8 == 1)) else (some false)) else (some false)) else ((codewrightref17_Check.f k x0 x1 x190000 x190001 x190002 x190003 x190004).bind fun bt200 => ((codewrightref17_Check.f k x0 x1 x198000 x198001 x198002 x198003 x198004).bind fun bt202 => (if bt200.2 = 0 then (if bt202.2 = 0 then (if bt200.1 = x5 then (if bt202.1 = x8 then (if x190003 = 0 then (some (x190004 == 0)) else (some false)) else (some false)) else (some false)) else (some false)) else (some false)))))
end
def codewrightlaw17_BchBounds.f (k : Nat) (a0 : Int) (l1 : List Int) : Option (Bool) := if (l1.length : Int) > 200 then (codewrightlaw17_BchBounds.j0 k a0 l1 true) else (if a0 > 12 then (codewrightlaw17_BchBounds.j0 k a0 l1 (decide (a0 ≤ 64))) else (codewrightlaw17_BchBounds.j0 k a0 l1 false))
theorem codewrightlaw17_BchBounds.mono_l : ∀ k, (∀ y0 y1 y2, LeO (codewrightlaw17_BchBounds.j0 k y0 y1 y2) (codewrightlaw17_BchBounds.j0 (k + 1) y0 y1 y2)) ∧ (∀ y0 y1 y2 y3 y4 y5 y6 y7 y8 y9 y10 y11 y12 y13 y14 y15 y16, LeO (codewrightlaw17_BchBounds.j1 k y0 y1 y2 y3 y4 y5 y6 y7 y8 y9 y10 y11 y12 y13 y14 y15 y16) (codewrightlaw17_BchBounds.j1 (k + 1) y0 y1 y2 y3 y4 y5 y6 y7 y8 y9 y10 y11 y12 y13 y14 y15 y16)) ∧ (∀ y0 y1 y2 y3 y4 y5 y6 y7 y8 y9 y10 y11 y12 y13 y14, LeO (codewrightlaw17_BchBounds.j2 k y0 y1 y2 y3 y4 y5 y6 y7 y8 y9 y10 y11 y12 y13 y14) (codewrightlaw17_BchBounds.j2 (k + 1) y0 y1 y2 y3 y4 y5 y6 y7 y8 y9 y10 y11 y12 y13 y14))
  | 0 => ⟨fun _ _ _ r h => by simp [codewrightlaw17_BchBounds.j0] at h, fun _ _ _ _ _ _ _ _ _ _ _ _ _ _ _ _ _ r h => by simp [codewrightlaw17_BchBounds.j1] at h, fun _ _ _ _ _ _ _ _ _ _ _ _ _ _ _ r h => by simp [codewrightlaw17_BchBounds.j2] at h⟩
  | k + 1 => by
    obtain ⟨ih0, ih1, ih2⟩ := codewrightlaw17_BchBounds.mono_l k
    refine ⟨?_, ?_, ?_⟩
    · intro y0 y1 y2
      unfold codewrightlaw17_BchBounds.j0
      repeat' first
      | (with_reducible exact ih0 _ _ _)
      | (with_reducible exact ih1 _ _ _ _ _ _ _ _ _ _ _ _ _ _ _ _ _)
      | (with_reducible exact ih2 _ _ _ _ _ _ _ _ _ _ _ _ _ _ _)
      | (with_reducible exact bch_Bound.mono _ _ _)
      | (with_reducible exact bch_Tzeng.mono _ _ _)
      | (with_reducible exact codewrightref17_Best.mono _ _ _ _)
      | (with_reducible exact codewrightref17_Check.mono _ _ _ _ _ _ _ _)
      | (with_reducible exact LeO.refl _)
      | (with_reducible exact LeO.none _)
      | (with_reducible refine LeO.ite ?_ ?_)
      | (with_reducible refine LeO.bind ?_ (fun _ => ?_))
      | exact ih0 _ _ _
      | exact ih1 _ _ _ _ _ _ _ _ _ _ _ _ _ _ _ _ _
      | exact ih2 _ _ _ _ _ _ _ _ _ _ _ _ _ _ _
      | exact bch_Bound.mono _ _ _
      | exact bch_Tzeng.mono _ _ _
      | exact codewrightref17_Best.mono _ _ _ _
      | exact codewrightref17_Check.mono _ _ _ _ _ _ _ _
      | exact LeO.none _
      | refine LeO.ite ?_ ?_
      | refine LeO.bind ?_ (fun _ => ?_)
    · intro y0 y1 y2 y3 y4 y5 y6 y7 y8 y9 y10 y11 y12 y13 y14 y15 y16
      unfold codewrightlaw17_BchBounds.j1
      repeat' first
      | (with_reducible exact ih0 _ _ _)
      | (with_reducible exact ih1 _ _ _ _ _ _ _ _ _ _ _ _ _ _ _ _ _)
      | (with_reducible exact ih2 _ _ _ _ _ _ _ _ _ _ _ _ _ _ _)
      | (with_reducible exact bch_Bound.mono _ _ _)
      | (with_reducible exact bch_Tzeng.mono _ _ _)
      | (with_reducible exact codewrightref17_Best.mono _ _ _ _)
      | (with_reducible exact codewrightref17_Check.mono _ _ _ _ _ _ _ _)
      | (with_reducible exact LeO.refl _)
      | (with_reducible exact LeO.none _)
      | (with_reducible refine LeO.ite ?_ ?_)
      | (with_reducible refine LeO.bind ?_ (fun _ => ?_))
      | exact ih0 _ _ _
      | exact ih1 _ _ _ _ _ _ _ _ _ _ _ _ _ _ _ _ _
      | exact ih2 _ _ _ _ _ _ _ _ _ _ _ _ _ _ _
      | exact bch_Bound.mono _ _ _
      | exact bch_Tzeng.mono _ _ _
      | exact codewrightref17_Best.mono _ _ _ _
      | exact codewrightref17_Check.mono _ _ _ _ _ _ _ _
      | exact LeO.none _
      | refine LeO.ite ?_ ?_
      | refine LeO.bind ?_ (fun _ => ?_)
    · intro y0 y1 y2 y3 y4 y5 y6 y7 y8 y9 y10 y11 y12 y13 y14
      unfold codewrightlaw17_BchBounds.j2
      repeat' first
      | (with_reducible exact ih0 _ _ _)
      | (with_reducible exact ih1 _ _ _ _ _ _ _ _ _ _ _ _ _ _ _ _ _)
      | (with_reducible exact ih2 _ _ _ _ _ _ _ _ _ _ _ _ _ _ _)
      | (with_reducible exact bch_Bound.mono _ _ _)
      | (with_reducible exact bch_Tzeng.mono _ _ _)
      | (with_reducible exact codewrightref17_Best.mono _ _ _ _)
      | (with_reducible exact codewrightref17_Check.mono _ _ _ _ _ _ _ _)
      | (with_reducible exact LeO.refl _)
      | (with_reducible exact LeO.none _)
      | (with_reducible refine LeO.ite ?_ ?_)
      | (with_reducible refine LeO.bind ?_ (fun _ => ?_))
      | exact ih0 _ _ _
      | exact ih1 _ _ _ _ _ _ _ _ _ _ _ _ _ _ _ _ _
      | exact ih2 _ _ _ _ _ _ _ _ _ _ _ _ _ _ _
      | exact bch_Bound.mono _ _ _
      | exact bch_Tzeng.mono _ _ _
      | exact codewrightref17_Best.mono _ _ _ _
      | exact codewrightref17_Check.mono _ _ _ _ _ _ _ _
      | exact LeO.none _
      | refine LeO.ite ?_ ?_
      | refine LeO.bind ?_ (fun _ => ?_)
theorem codewrightlaw17_BchBounds.mono : ∀ a0 a1 k, LeO (codewrightlaw17_BchBounds.f k a0 a1) (codewrightlaw17_BchBounds.f (k + 1) a0 a1) := by
  intro a0 a1 k
  obtain ⟨ih0, ih1, ih2⟩ := codewrightlaw17_BchBounds.mono_l k
  unfold codewrightlaw17_BchBounds.f
  repeat' first
      | (with_reducible exact ih0 _ _ _)
      | (with_reducible exact ih1 _ _ _ _ _ _ _ _ _ _ _ _ _ _ _ _ _)
      | (with_reducible exact ih2 _ _ _ _ _ _ _ _ _ _ _ _ _ _ _)
      | (with_reducible exact bch_Bound.mono _ _ _)
      | (with_reducible exact bch_Tzeng.mono _ _ _)
      | (with_reducible exact codewrightref17_Best.mono _ _ _ _)
      | (with_reducible exact codewrightref17_Check.mono _ _ _ _ _ _ _ _)
      | (with_reducible exact LeO.refl _)
      | (with_reducible exact LeO.none _)
      | (with_reducible refine LeO.ite ?_ ?_)
      | (with_reducible refine LeO.bind ?_ (fun _ => ?_))
      | exact ih0 _ _ _
      | exact ih1 _ _ _ _ _ _ _ _ _ _ _ _ _ _ _ _ _
      | exact ih2 _ _ _ _ _ _ _ _ _ _ _ _ _ _ _
      | exact bch_Bound.mono _ _ _
      | exact bch_Tzeng.mono _ _ _
      | exact codewrightref17_Best.mono _ _ _ _
      | exact codewrightref17_Check.mono _ _ _ _ _ _ _ _
      | exact LeO.none _
      | refine LeO.ite ?_ ?_
      | refine LeO.bind ?_ (fun _ => ?_)
set_option maxHeartbeats 8000000 in
set_option maxRecDepth 100000 in
theorem codewrightlaw17_BchBounds.calls (k : Nat) (a0 : Int) (A1 : Option Addr) (c1 : Nat) (l1 : List Int) (r : Bool) (w : World) (hr1 : Kd.C (Kd.int .i64) w A1 l1.length l1) (hc1 : l1.length ≤ c1) (h : codewrightlaw17_BchBounds.f k a0 l1 = some r) :
    Calls Try.prog 4 #[.int .i64 a0, .slice A1 l1.length c1] w fun e w' => e = .returned (.bool r) ∧ Below w.heap.size w w' := by
  have hu24 := Try.underlying24
  have HR1 := Aside0.mk hr1
  have HC1 := Aside0.mk hc1
  clear hr1 hc1
  have HB := Aside0.mk (Below.refl w.heap.size w)
  have H : (if (l1.length : Int) > 200 then (codewrightlaw17_BchBounds.j0 k a0 l1 true) else (if a0 > 12 then (codewrightlaw17_BchBounds.j0 k a0 l1 (decide (a0 ≤ 64))) else (codewrightlaw17_BchBounds.j0 k a0 l1 false))) = some r := h
  clear h
  have HC3 := Aside0.mk H
  clear H
  go_enter Try.func4, Try.ntmps4
  go_upto_region 1 with (fail)
  go_cut [25] (fun v25 wc => ∃ (kq : Nat) (x25_2 : Bool), v25 = .bool x25_2 ∧ Aside0 (codewrightlaw17_BchBounds.j0 kq a0 l1 x25_2 = some r) ∧ Aside0 (kq ≤ k) ∧ Aside0 (Below w.heap.size w wc))
  case first =>
    have H := HC3.out
    clear HC3
    by_cases c4 : (l1.length : Int) > 200
    · rw [if_pos c4] at H
      have c4b0 : decide (200 < (l1.length : Int)) = true := decide_eq_true c4
      have c4b1 : decide (200 < l1.length) = true := decide_eq_true (by omega)
      clear c4
      (first | rw [c4b0] | (simp only [i64_w, i32_w]; rw [c4b0]) | skip)
      have H' := Aside0.mk H
      clear H
      go_wp2
      go_meet
      case rel => exact ⟨_, (true), (by first | rfl | (simp; done) | (simp [*]; done)), H', ⟨by first | omega | exact Nat.le_refl _⟩, ⟨by repeat (first | (with_reducible first | exact HB.out | apply below_alloc | apply pw_below_drewN | apply below_drew1) | exact HB.out)⟩⟩
    · rw [if_neg c4] at H
      have c4b0 : decide (200 < (l1.length : Int)) = false := decide_eq_false c4
      have c4b1 : decide (200 < l1.length) = false := decide_eq_false (by omega)
      clear c4
      (first | rw [c4b0] | (simp only [i64_w, i32_w]; rw [c4b0]) | skip)
      by_cases c5 : a0 > 12
      · rw [if_pos c5] at H
        have c5b0 : decide (12 < a0) = true := decide_eq_true c5
        clear c5
        have H' := Aside0.mk H
        clear H
        go_wp2
        go_meet
        case rel => exact ⟨_, (decide (a0 ≤ 64)), (by first | rfl | (simp; done) | (simp [*]; done)), H', ⟨by first | omega | exact Nat.le_refl _⟩, ⟨by repeat (first | (with_reducible first | exact HB.out | apply below_alloc | apply pw_below_drewN | apply below_drew1) | exact HB.out)⟩⟩
      · rw [if_neg c5] at H
        have c5b0 : decide (12 < a0) = false := decide_eq_false c5
        clear c5
        have H' := Aside0.mk H
        clear H
        go_wp2
        go_meet
        case rel => exact ⟨_, (false), (by first | rfl | (simp; done) | (simp [*]; done)), H', ⟨by first | omega | exact Nat.le_refl _⟩, ⟨by repeat (first | (with_reducible first | exact HB.out | apply below_alloc | apply pw_below_drewN | apply below_drew1) | exact HB.out)⟩⟩
  case rest =>
    clear HC3
    try clear c1
    try clear p2
    try clear c4
    try clear c4b0
    try clear c4b1
    try clear c5
    try clear c5b0
    obtain ⟨kq, x25_2, rfl, HA, HJ2, HB⟩ := hcut
    cases kq with
    | zero => exact absurd HA.out (by simp [codewrightlaw17_BchBounds.j0])
    | succ kj2 =>
      have H := HA.out
      clear HA
      simp only [codewrightlaw17_BchBounds.j0] at H
      by_cases c6 : x25_2 = true
      · subst c6
        have H1 : (some true) = some r := by rw [if_pos rfl] at H; exact H
        clear H
        have H := H1
        clear H1
        obtain rfl := Option.some.inj H
        go_wp2
        go_ret
        exact ⟨by first | rfl | (simp [errW_none, errW_some] <;> rfl) | (simp [*, errW_none, errW_some] <;> rfl), by repeat (first | (with_reducible first | exact HB.out | apply below_alloc | apply pw_below_drewN | apply below_drew1) | exact HB.out)⟩
      · replace c6 := Bool.eq_false_iff.mpr c6
        subst c6
        have H1 : ((bch_Bound.f kj2 a0 l1).bind fun bt182 => ((bch_Tzeng.f kj2 a0 l1).bind fun bt190 => (if a0 < 1 then (codewrightlaw17_BchBounds.j1 kj2 a0 l1 bt182.1 bt182.2.2.2.2.2.2 bt190.1 bt190.2.2.2.2.2.2 true bt182.2.1 bt182.2.2.1 bt182.2.2.2.1 bt182.2.2.2.2.1 bt182.2.2.2.2.2.1 bt190.2.1 bt190.2.2.1 bt190.2.2.2.1 bt190.2.2.2.2.1 bt190.2.2.2.2.2.1) else (codewrightlaw17_BchBounds.j1 kj2 a0 l1 bt182.1 bt182.2.2.2.2.2.2 bt190.1 bt190.2.2.2.2.2.2 (decide (a0 > 64)) bt182.2.1 bt182.2.2.1 bt182.2.2.2.1 bt182.2.2.2.2.1 bt182.2.2.2.2.2.1 bt190.2.1 bt190.2.2.1 bt190.2.2.2.1 bt190.2.2.2.2.1 bt190.2.2.2.2.2.1)))) = some r := by rw [if_neg (show ¬ (false = true) by decide)] at H; exact H
        clear H
        have H := H1
        clear H1
        replace H := Option.bind_eq_some_iff.mp H
        obtain ⟨⟨t182, t183, t184, t185, t186, t187, t188⟩, A70, H⟩ := H
        replace H : ((bch_Tzeng.f kj2 a0 l1).bind fun bt190 => (if a0 < 1 then (codewrightlaw17_BchBounds.j1 kj2 a0 l1 t182 t188 bt190.1 bt190.2.2.2.2.2.2 true t183 t184 t185 t186 t187 bt190.2.1 bt190.2.2.1 bt190.2.2.2.1 bt190.2.2.2.2.1 bt190.2.2.2.2.2.1) else (codewrightlaw17_BchBounds.j1 kj2 a0 l1 t182 t188 bt190.1 bt190.2.2.2.2.2.2 (decide (a0 > 64)) t183 t184 t185 t186 t187 bt190.2.1 bt190.2.2.1 bt190.2.2.2.1 bt190.2.2.2.2.1 bt190.2.2.2.2.2.1))) = some r := H
        have A7 := Aside0.mk A70
        clear A70
        replace H := Option.bind_eq_some_iff.mp H
        obtain ⟨⟨t190, t191, t192, t193, t194, t195, t196⟩, A80, H⟩ := H
        replace H : (if a0 < 1 then (codewrightlaw17_BchBounds.j1 kj2 a0 l1 t182 t188 t190 t196 true t183 t184 t185 t186 t187 t191 t192 t193 t194 t195) else (codewrightlaw17_BchBounds.j1 kj2 a0 l1 t182 t188 t190 t196 (decide (a0 > 64)) t183 t184 t185 t186 t187 t191 t192 t193 t194 t195)) = some r := H
        have A8 := Aside0.mk A80
        clear A80
        have HC9 := Aside0.mk H
        clear H
        go_upto_region 5 with (first | ((with_reducible refine gate_callee (f := 11) rfl ?_); refine goesL_ (some 29) rfl rfl Try.func11 (by kernel_rfl) rfl #[.int .i64 a0, .slice A1 l1.length c1] rfl (by (try simp only [List.map_toArray, List.map_cons, List.map_nil]); first | done | rfl | (simp only [List.length_drop, List.length_take]; rfl)) ?_; (with_reducible refine (bch_Bound.calls kj2 a0 _ _ l1 t182 t183 t184 t185 t186 t187 t188 _ ?side1 ?side2 A7.out).mono ?_); (case side1 => repeat (first | exact (Kd.C_below HR1.out HB.out) | (with_reducible refine Kd.C_alloc ?_ _) | (with_reducible refine Kd.C_drewN ?_ _) | (with_reducible refine Kd.C_drew ?_))); (case side2 => exact HC1.out); rintro e w10 ⟨rfl, hb⟩; refine ⟨_, rfl, ?_⟩; have n0_ := Aside0.mk (below_step (by repeat (first | (with_reducible first | exact HB.out | apply below_alloc | apply pw_below_drewN | apply below_drew1) | exact HB.out)) hb); clear HB; have HB := n0_; clear n0_; (try clear hb); (try clear hb2); (try clear hk); (try clear hi)) | ((with_reducible refine gate_dst (N := 6) rfl ?_); refine box_event ?hg (N := 6) ?hd (cs := #[.int .i64 0, .int .i64 0, .int .i64 0, .int .i64 0, .int .i64 0]) (t := 24) ?hr ?_; (case hd => rfl); (case hg => rfl); (case hr => first | (go_simp; done) | (go_simp; rfl)); intro gb189 hg w11 hbox hb; have n0_ := Aside0.mk (below_step (by repeat (first | (with_reducible first | exact HB.out | apply below_alloc | apply pw_below_drewN | apply below_drew1) | exact HB.out)) hb); have n1_ := Aside0.mk (hbox); have n2_ := Aside0.mk ((by rw [hg]; exact (below_size (by repeat (first | (with_reducible first | exact HB.out | apply below_alloc | apply pw_below_drewN | apply below_drew1) | exact HB.out))) : w.heap.size ≤ gb189)); have n3_ := Aside0.mk ((by rw [hg]; exact (below_size (by repeat (first | (with_reducible first | exact HB.out | apply below_alloc | apply pw_below_drewN | apply below_drew1) | exact HB.out))) : w.heap.size ≤ gb189)); clear HB; have HB := n0_; have BK189 := n1_; have GW189 := n2_; have GE189 := n3_; clear n0_ n1_ n2_ n3_; clear hb hbox hg; have hcz12_0 : w11.cell? ⟨gb189, 0, none⟩ = some (.int .i64 0) := (blk_cell BK189.out 0).trans rfl; have hcz12_1 : w11.cell? ⟨gb189, 1, none⟩ = some (.int .i64 0) := (blk_cell BK189.out 1).trans rfl; have hcz12_2 : w11.cell? ⟨gb189, 2, none⟩ = some (.int .i64 0) := (blk_cell BK189.out 2).trans rfl; have hcz12_3 : w11.cell? ⟨gb189, 3, none⟩ = some (.int .i64 0) := (blk_cell BK189.out 3).trans rfl; have hcz12_4 : w11.cell? ⟨gb189, 4, none⟩ = some (.int .i64 0) := (blk_cell BK189.out 4).trans rfl; have hfz12_0 := blk_frozen BK189.out 0; have hfz12_1 := blk_frozen BK189.out 1; have hfz12_2 := blk_frozen BK189.out 2; have hfz12_3 := blk_frozen BK189.out 3; have hfz12_4 := blk_frozen BK189.out 4) | ((with_reducible refine gate_callee (f := 12) rfl ?_); refine goesL_ (some 36) rfl rfl Try.func12 (by kernel_rfl) rfl #[.int .i64 a0, .slice A1 l1.length c1] rfl (by (try simp only [List.map_toArray, List.map_cons, List.map_nil]); first | done | rfl | (simp only [List.length_drop, List.length_take]; rfl)) ?_; (with_reducible refine (bch_Tzeng.calls kj2 a0 _ _ l1 t190 t191 t192 t193 t194 t195 t196 _ ?side1 ?side2 A8.out).mono ?_); (case side1 => exact Kd.C_below HR1.out (by repeat (first | (with_reducible first | exact HB.out | apply below_alloc | apply pw_below_drewN | apply below_drew1 | refine below_set ?_ GE189.out) | exact HB.out))); (case side2 => exact HC1.out); rintro e w13 ⟨rfl, hb⟩; refine ⟨_, rfl, ?_⟩; have n0_ := Aside0.mk (blk_below (g := gb189) (o := .cells #[.int .i64 t183, .int .i64 t184, .int .i64 t185, .int .i64 t186, .int .i64 t187] 24 (0, 0)) (by (with_reducible repeat (first | refine blk_drewN ?_ _ | refine blk_drew ?_ | refine blk_alloc ?_ _)); refine blk_put (cs := #[.int .i64 t183, .int .i64 t184, .int .i64 t185, .int .i64 t186, .int .i64 0]) ?_ 4 _ rfl; (with_reducible repeat (first | refine blk_drewN ?_ _ | refine blk_drew ?_ | refine blk_alloc ?_ _)); refine blk_put (cs := #[.int .i64 t183, .int .i64 t184, .int .i64 t185, .int .i64 0, .int .i64 0]) ?_ 3 _ rfl; (with_reducible repeat (first | refine blk_drewN ?_ _ | refine blk_drew ?_ | refine blk_alloc ?_ _)); refine blk_put (cs := #[.int .i64 t183, .int .i64 t184, .int .i64 0, .int .i64 0, .int .i64 0]) ?_ 2 _ rfl; (with_reducible repeat (first | refine blk_drewN ?_ _ | refine blk_drew ?_ | refine blk_alloc ?_ _)); refine blk_put (cs := #[.int .i64 t183, .int .i64 0, .int .i64 0, .int .i64 0, .int .i64 0]) ?_ 1 _ rfl; (with_reducible repeat (first | refine blk_drewN ?_ _ | refine blk_drew ?_ | refine blk_alloc ?_ _)); refine blk_put (cs := #[.int .i64 0, .int .i64 0, .int .i64 0, .int .i64 0, .int .i64 0]) ?_ 0 _ rfl; (with_reducible repeat (first | refine blk_drewN ?_ _ | refine blk_drew ?_ | refine blk_alloc ?_ _)); exact BK189.out) hb); have n1_ := Aside0.mk (below_step (by repeat (first | (with_reducible first | exact HB.out | apply below_alloc | apply pw_below_drewN | apply below_drew1 | refine below_set ?_ GE189.out) | exact HB.out)) hb); clear BK189; clear HB; have BK189 := n0_; have HB := n1_; clear n0_ n1_; (try clear hb); (try clear hb2); (try clear hk); (try clear hi)) | ((with_reducible refine gate_dst (N := 9) rfl ?_); refine box_event ?hg (N := 9) ?hd (cs := #[.int .i64 0, .int .i64 0, .int .i64 0, .int .i64 0, .int .i64 0]) (t := 24) ?hr ?_; (case hd => rfl); (case hg => rfl); (case hr => first | (go_simp; done) | (go_simp; rfl)); intro gb197 hg w14 hbox hb; have n0_ := Aside0.mk (blk_below (g := gb189) (o := .cells #[.int .i64 t183, .int .i64 t184, .int .i64 t185, .int .i64 t186, .int .i64 t187] 24 (0, 0)) (by (with_reducible repeat (first | refine blk_drewN ?_ _ | refine blk_drew ?_ | refine blk_alloc ?_ _)); exact BK189.out) hb); have n1_ := Aside0.mk (below_step (by repeat (first | (with_reducible first | exact HB.out | apply below_alloc | apply pw_below_drewN | apply below_drew1 | refine below_set ?_ GE189.out) | exact HB.out)) hb); have n2_ := Aside0.mk (hbox); have n3_ := Aside0.mk ((by rw [hg]; exact (below_size (by repeat (first | (with_reducible first | exact HB.out | apply below_alloc | apply pw_below_drewN | apply below_drew1 | refine below_set ?_ GE189.out) | exact HB.out))) : w.heap.size ≤ gb197)); have n4_ := Aside0.mk ((by rw [hg]; exact (below_size (by repeat (first | (with_reducible first | exact HB.out | apply below_alloc | apply pw_below_drewN | apply below_drew1 | refine below_set ?_ GE189.out) | exact HB.out))) : w.heap.size ≤ gb197)); have n5_ := Aside0.mk ((by rw [hg]; exact Nat.ne_of_lt (blk_lt (g := gb189) (o := .cells #[.int .i64 t183, .int .i64 t184, .int .i64 t185, .int .i64 t186, .int .i64 t187] 24 (0, 0)) (by (with_reducible repeat (first | refine blk_drewN ?_ _ | refine blk_drew ?_ | refine blk_alloc ?_ _)); exact BK189.out)) : gb189 ≠ gb197)); have n6_ := Aside0.mk ((by rw [hg]; exact Nat.ne_of_gt (blk_lt (g := gb189) (o := .cells #[.int .i64 t183, .int .i64 t184, .int .i64 t185, .int .i64 t186, .int .i64 t187] 24 (0, 0)) (by (with_reducible repeat (first | refine blk_drewN ?_ _ | refine blk_drew ?_ | refine blk_alloc ?_ _)); exact BK189.out)) : gb197 ≠ gb189)); clear BK189; clear HB; have BK189 := n0_; have HB := n1_; have BK197 := n2_; have GW197 := n3_; have GE197 := n4_; have NB189_197 := n5_; have NB197_189 := n6_; clear n0_ n1_ n2_ n3_ n4_ n5_ n6_; clear hb hbox hg; have hnb15 := NB197_189.out; have hnc15 := NB189_197.out; have hcz16_0 : w14.cell? ⟨gb197, 0, none⟩ = some (.int .i64 0) := (blk_cell BK197.out 0).trans rfl; have hcz16_1 : w14.cell? ⟨gb197, 1, none⟩ = some (.int .i64 0) := (blk_cell BK197.out 1).trans rfl; have hcz16_2 : w14.cell? ⟨gb197, 2, none⟩ = some (.int .i64 0) := (blk_cell BK197.out 2).trans rfl; have hcz16_3 : w14.cell? ⟨gb197, 3, none⟩ = some (.int .i64 0) := (blk_cell BK197.out 3).trans rfl; have hcz16_4 : w14.cell? ⟨gb197, 4, none⟩ = some (.int .i64 0) := (blk_cell BK197.out 4).trans rfl; have hfz16_0 := blk_frozen BK197.out 0; have hfz16_1 := blk_frozen BK197.out 1; have hfz16_2 := blk_frozen BK197.out 2; have hfz16_3 := blk_frozen BK197.out 3; have hfz16_4 := blk_frozen BK197.out 4))
        (try simp only [Act.put, List.setIfInBounds_toArray, List.set_cons_zero, List.set_cons_succ])
        go_cut [45] (fun v45 wc => ∃ (kq : Nat) (x45_8 : Bool), v45 = .bool x45_8 ∧ Aside0 (codewrightlaw17_BchBounds.j1 kq a0 l1 t182 t188 t190 t196 x45_8 t183 t184 t185 t186 t187 t191 t192 t193 t194 t195 = some r) ∧ Aside0 (kq ≤ kj2) ∧ Aside0 (wc.heap[gb189]? = some (.cells #[.int .i64 t183, .int .i64 t184, .int .i64 t185, .int .i64 t186, .int .i64 t187] 24 (0, 0))) ∧ Aside0 (wc.heap[gb197]? = some (.cells #[.int .i64 t191, .int .i64 t192, .int .i64 t193, .int .i64 t194, .int .i64 t195] 24 (0, 0))) ∧ Aside0 (Below w.heap.size w wc))
        case first =>
          have H := HC9.out
          clear HC9
          by_cases c17 : a0 < 1
          · rw [if_pos c17] at H
            have c17b0 : decide (a0 < 1) = true := decide_eq_true c17
            clear c17
            (first | rw [c17b0] | (simp only [i64_w, i32_w]; rw [c17b0]) | skip)
            have H' := Aside0.mk H
            clear H
            go_wp2
            go_meet
            case rel => exact ⟨_, (true), (by first | rfl | (simp; done) | (simp [*]; done)), H', ⟨by have := HJ2.out; first | omega | exact Nat.le_refl _⟩, ⟨by (with_reducible repeat (first | refine blk_drewN ?_ _ | refine blk_drew ?_ | refine blk_alloc ?_ _)); refine blk_far ?_ NB189_197.out _; (with_reducible repeat (first | refine blk_drewN ?_ _ | refine blk_drew ?_ | refine blk_alloc ?_ _)); refine blk_far ?_ NB189_197.out _; (with_reducible repeat (first | refine blk_drewN ?_ _ | refine blk_drew ?_ | refine blk_alloc ?_ _)); refine blk_far ?_ NB189_197.out _; (with_reducible repeat (first | refine blk_drewN ?_ _ | refine blk_drew ?_ | refine blk_alloc ?_ _)); refine blk_far ?_ NB189_197.out _; (with_reducible repeat (first | refine blk_drewN ?_ _ | refine blk_drew ?_ | refine blk_alloc ?_ _)); refine blk_far ?_ NB189_197.out _; (with_reducible repeat (first | refine blk_drewN ?_ _ | refine blk_drew ?_ | refine blk_alloc ?_ _)); exact BK189.out⟩, ⟨by (with_reducible repeat (first | refine blk_drewN ?_ _ | refine blk_drew ?_ | refine blk_alloc ?_ _)); refine blk_put (cs := #[.int .i64 t191, .int .i64 t192, .int .i64 t193, .int .i64 t194, .int .i64 0]) ?_ 4 _ rfl; (with_reducible repeat (first | refine blk_drewN ?_ _ | refine blk_drew ?_ | refine blk_alloc ?_ _)); refine blk_put (cs := #[.int .i64 t191, .int .i64 t192, .int .i64 t193, .int .i64 0, .int .i64 0]) ?_ 3 _ rfl; (with_reducible repeat (first | refine blk_drewN ?_ _ | refine blk_drew ?_ | refine blk_alloc ?_ _)); refine blk_put (cs := #[.int .i64 t191, .int .i64 t192, .int .i64 0, .int .i64 0, .int .i64 0]) ?_ 2 _ rfl; (with_reducible repeat (first | refine blk_drewN ?_ _ | refine blk_drew ?_ | refine blk_alloc ?_ _)); refine blk_put (cs := #[.int .i64 t191, .int .i64 0, .int .i64 0, .int .i64 0, .int .i64 0]) ?_ 1 _ rfl; (with_reducible repeat (first | refine blk_drewN ?_ _ | refine blk_drew ?_ | refine blk_alloc ?_ _)); refine blk_put (cs := #[.int .i64 0, .int .i64 0, .int .i64 0, .int .i64 0, .int .i64 0]) ?_ 0 _ rfl; (with_reducible repeat (first | refine blk_drewN ?_ _ | refine blk_drew ?_ | refine blk_alloc ?_ _)); exact BK197.out⟩, ⟨by repeat (first | (with_reducible first | exact HB.out | apply below_alloc | apply pw_below_drewN | apply below_drew1 | refine below_set ?_ GE189.out | refine below_set ?_ GE197.out) | exact HB.out)⟩⟩
          · rw [if_neg c17] at H
            have c17b0 : decide (a0 < 1) = false := decide_eq_false c17
            clear c17
            (first | rw [c17b0] | (simp only [i64_w, i32_w]; rw [c17b0]) | skip)
            have H' := Aside0.mk H
            clear H
            go_wp2
            go_meet
            case rel => exact ⟨_, (decide (a0 > 64)), (by first | rfl | (simp; done) | (simp [*]; done)), H', ⟨by have := HJ2.out; first | omega | exact Nat.le_refl _⟩, ⟨by (with_reducible repeat (first | refine blk_drewN ?_ _ | refine blk_drew ?_ | refine blk_alloc ?_ _)); refine blk_far ?_ NB189_197.out _; (with_reducible repeat (first | refine blk_drewN ?_ _ | refine blk_drew ?_ | refine blk_alloc ?_ _)); refine blk_far ?_ NB189_197.out _; (with_reducible repeat (first | refine blk_drewN ?_ _ | refine blk_drew ?_ | refine blk_alloc ?_ _)); refine blk_far ?_ NB189_197.out _; (with_reducible repeat (first | refine blk_drewN ?_ _ | refine blk_drew ?_ | refine blk_alloc ?_ _)); refine blk_far ?_ NB189_197.out _; (with_reducible repeat (first | refine blk_drewN ?_ _ | refine blk_drew ?_ | refine blk_alloc ?_ _)); refine blk_far ?_ NB189_197.out _; (with_reducible repeat (first | refine blk_drewN ?_ _ | refine blk_drew ?_ | refine blk_alloc ?_ _)); exact BK189.out⟩, ⟨by (with_reducible repeat (first | refine blk_drewN ?_ _ | refine blk_drew ?_ | refine blk_alloc ?_ _)); refine blk_put (cs := #[.int .i64 t191, .int .i64 t192, .int .i64 t193, .int .i64 t194, .int .i64 0]) ?_ 4 _ rfl; (with_reducible repeat (first | refine blk_drewN ?_ _ | refine blk_drew ?_ | refine blk_alloc ?_ _)); refine blk_put (cs := #[.int .i64 t191, .int .i64 t192, .int .i64 t193, .int .i64 0, .int .i64 0]) ?_ 3 _ rfl; (with_reducible repeat (first | refine blk_drewN ?_ _ | refine blk_drew ?_ | refine blk_alloc ?_ _)); refine blk_put (cs := #[.int .i64 t191, .int .i64 t192, .int .i64 0, .int .i64 0, .int .i64 0]) ?_ 2 _ rfl; (with_reducible repeat (first | refine blk_drewN ?_ _ | refine blk_drew ?_ | refine blk_alloc ?_ _)); refine blk_put (cs := #[.int .i64 t191, .int .i64 0, .int .i64 0, .int .i64 0, .int .i64 0]) ?_ 1 _ rfl; (with_reducible repeat (first | refine blk_drewN ?_ _ | refine blk_drew ?_ | refine blk_alloc ?_ _)); refine blk_put (cs := #[.int .i64 0, .int .i64 0, .int .i64 0, .int .i64 0, .int .i64 0]) ?_ 0 _ rfl; (with_reducible repeat (first | refine blk_drewN ?_ _ | refine blk_drew ?_ | refine blk_alloc ?_ _)); exact BK197.out⟩, ⟨by repeat (first | (with_reducible first | exact HB.out | apply below_alloc | apply pw_below_drewN | apply below_drew1 | refine below_set ?_ GE189.out | refine below_set ?_ GE197.out) | exact HB.out)⟩⟩
        case rest =>
          clear HC9
          try clear c1
          try clear p2
          try clear c4
          try clear c4b0
          try clear c4b1
          try clear c5
          try clear c5b0
          try clear c6
          try clear c11
          try clear c12
          try clear c15
          try clear c17
          try clear c17b0
          try clear hcz12_0
          try clear hcz12_1
          try clear hcz12_2
          try clear hcz12_3
          try clear hcz12_4
          try clear hcz16_0
          try clear hcz16_1
          try clear hcz16_2
          try clear hcz16_3
          try clear hcz16_4
          try clear hfz12_0
          try clear hfz12_1
          try clear hfz12_2
          try clear hfz12_3
          try clear hfz12_4
          try clear hfz16_0
          try clear hfz16_1
          try clear hfz16_2
          try clear hfz16_3
          try clear hfz16_4
          try clear p2
          obtain ⟨kq, x45_8, rfl, HA, HJ8, BK189, BK197, HB⟩ := hcut
          cases kq with
          | zero => exact absurd HA.out (by simp [codewrightlaw17_BchBounds.j1])
          | succ kj8 =>
            have H := HA.out
            clear HA
            simp only [codewrightlaw17_BchBounds.j1] at H
            by_cases c18 : x45_8 = true
            · subst c18
              have H1 : (if t188 = 4 then (if t196 = 4 then (if t182 = 0 then (if t190 = 0 then (if (t183 == 0 && (t184 == 0 && (t185 == 0 && (t186 == 0 && (t187 == 0))))) = true then (some (t191 == 0 && (t192 == 0 && (t193 == 0 && (t194 == 0 && (t195 == 0)))))) else (some false)) else (some false)) else (some false)) else (some false)) else (some false)) = some r := by rw [if_pos rfl] at H; exact H
              clear H
              have H := H1
              clear H1
              by_cases c19 : t188 = 4
              · rw [if_pos c19] at H
                have c19b0 : (t188 == 4) = true := beq_iff_eq.mpr c19
                have c19b1 : (t188 != 4) = false := bne_eq_false_iff_eq.mpr c19
                clear c19
                by_cases c20 : t196 = 4
                · rw [if_pos c20] at H
                  have c20b0 : (t196 == 4) = true := beq_iff_eq.mpr c20
                  have c20b1 : (t196 != 4) = false := bne_eq_false_iff_eq.mpr c20
                  clear c20
                  by_cases c21 : t182 = 0
                  · rw [if_pos c21] at H
                    have c21b0 : (t182 == 0) = true := beq_iff_eq.mpr c21
                    have c21b1 : (t182 != 0) = false := bne_eq_false_iff_eq.mpr c21
                    clear c21
                    by_cases c22 : t190 = 0
                    · rw [if_pos c22] at H
                      have c22b0 : (t190 == 0) = true := beq_iff_eq.mpr c22
                      have c22b1 : (t190 != 0) = false := bne_eq_false_iff_eq.mpr c22
                      clear c22
                      by_cases c23 : (t183 == 0 && (t184 == 0 && (t185 == 0 && (t186 == 0 && (t187 == 0))))) = true
                      · rw [if_pos c23] at H
                        have c23b0 : (t183 == 0 && (t184 == 0 && (t185 == 0 && (t186 == 0 && (t187 == 0))))) = true := c23
                        (try (have c23b1 : decide (t183 = 0 && (t184 == 0 && (t185 == 0 && (t186 == 0 && (t187 == 0))))) = true := by simpa using c23))
                        (try (have c23b2 : (t183 == 0 && (t184 == 0 && (t185 == 0 && (t186 == 0 && (t187 == 0))))) = true := by simpa using c23))
                        clear c23
                        obtain rfl := Option.some.inj H
                        have hnb24 := NB189_197.out
                        have hnc24 := NB197_189.out
                        have hcz25_0 : wc.cell? ⟨gb189, 0, none⟩ = some (.int .i64 t183) := (blk_cell BK189.out 0).trans rfl
                        have hcz25_1 : wc.cell? ⟨gb189, 1, none⟩ = some (.int .i64 t184) := (blk_cell BK189.out 1).trans rfl
                        have hcz25_2 : wc.cell? ⟨gb189, 2, none⟩ = some (.int .i64 t185) := (blk_cell BK189.out 2).trans rfl
                        have hcz25_3 : wc.cell? ⟨gb189, 3, none⟩ = some (.int .i64 t186) := (blk_cell BK189.out 3).trans rfl
                        have hcz25_4 : wc.cell? ⟨gb189, 4, none⟩ = some (.int .i64 t187) := (blk_cell BK189.out 4).trans rfl
                        have hfz25_0 := blk_frozen BK189.out 0
                        have hfz25_1 := blk_frozen BK189.out 1
                        have hfz25_2 := blk_frozen BK189.out 2
                        have hfz25_3 := blk_frozen BK189.out 3
                        have hfz25_4 := blk_frozen BK189.out 4
                        have hcz26_0 : wc.cell? ⟨gb197, 0, none⟩ = some (.int .i64 t191) := (blk_cell BK197.out 0).trans rfl
                        have hcz26_1 : wc.cell? ⟨gb197, 1, none⟩ = some (.int .i64 t192) := (blk_cell BK197.out 1).trans rfl
                        have hcz26_2 : wc.cell? ⟨gb197, 2, none⟩ = some (.int .i64 t193) := (blk_cell BK197.out 2).trans rfl
                        have hcz26_3 : wc.cell? ⟨gb197, 3, none⟩ = some (.int .i64 t194) := (blk_cell BK197.out 3).trans rfl
                        have hcz26_4 : wc.cell? ⟨gb197, 4, none⟩ = some (.int .i64 t195) := (blk_cell BK197.out 4).trans rfl
                        have hfz26_0 := blk_frozen BK197.out 0
                        have hfz26_1 := blk_frozen BK197.out 1
                        have hfz26_2 := blk_frozen BK197.out 2
                        have hfz26_3 := blk_frozen BK197.out 3
                        have hfz26_4 := blk_frozen BK197.out 4
                        go_wp2
                        go_ret
                        exact ⟨by first | rfl | (simp [errW_none, errW_some] <;> rfl) | (simp [*, errW_none, errW_some] <;> rfl), by repeat (first | (with_reducible first | exact HB.out | apply below_alloc | apply pw_below_drewN | apply below_drew1 | refine below_set ?_ GE189.out | refine below_set ?_ GE197.out) | exact HB.out)⟩
                      · rw [if_neg c23] at H
                        have c23b0 : (t183 == 0 && (t184 == 0 && (t185 == 0 && (t186 == 0 && (t187 == 0))))) = false := by simpa using c23
                        (try (have c23b1 : decide (t183 = 0 && (t184 == 0 && (t185 == 0 && (t186 == 0 && (t187 == 0))))) = false := by simpa using c23))
                        (try (have c23b2 : (t183 == 0 && (t184 == 0 && (t185 == 0 && (t186 == 0 && (t187 == 0))))) = false := by simpa using c23))
                        (try (have c23b3 : ¬ (t183 = 0 && (t184 == 0 && (t185 == 0 && (t186 == 0 && (t187 == 0))))) := by simpa using c23))
                        clear c23
                        obtain rfl := Option.some.inj H
                        have hnb27 := NB189_197.out
                        have hnc27 := NB197_189.out
                        have hcz28_0 : wc.cell? ⟨gb189, 0, none⟩ = some (.int .i64 t183) := (blk_cell BK189.out 0).trans rfl
                        have hcz28_1 : wc.cell? ⟨gb189, 1, none⟩ = some (.int .i64 t184) := (blk_cell BK189.out 1).trans rfl
                        have hcz28_2 : wc.cell? ⟨gb189, 2, none⟩ = some (.int .i64 t185) := (blk_cell BK189.out 2).trans rfl
                        have hcz28_3 : wc.cell? ⟨gb189, 3, none⟩ = some (.int .i64 t186) := (blk_cell BK189.out 3).trans rfl
                        have hcz28_4 : wc.cell? ⟨gb189, 4, none⟩ = some (.int .i64 t187) := (blk_cell BK189.out 4).trans rfl
                        have hfz28_0 := blk_frozen BK189.out 0
                        have hfz28_1 := blk_frozen BK189.out 1
                        have hfz28_2 := blk_frozen BK189.out 2
                        have hfz28_3 := blk_frozen BK189.out 3
                        have hfz28_4 := blk_frozen BK189.out 4
                        go_wp2
                        go_ret
                        exact ⟨by first | rfl | (simp [errW_none, errW_some] <;> rfl) | (simp [*, errW_none, errW_some] <;> rfl), by repeat (first | (with_reducible first | exact HB.out | apply below_alloc | apply pw_below_drewN | apply below_drew1 | refine below_set ?_ GE189.out | refine below_set ?_ GE197.out) | exact HB.out)⟩
                    · rw [if_neg c22] at H
                      have c22b0 : (t190 == 0) = false := beq_eq_false_iff_ne.mpr c22
                      have c22b1 : (t190 != 0) = true := bne_iff_ne.mpr c22
                      obtain rfl := Option.some.inj H
                      go_wp2
                      go_ret
                      exact ⟨by first | rfl | (simp [errW_none, errW_some] <;> rfl) | (simp [*, errW_none, errW_some] <;> rfl), by repeat (first | (with_reducible first | exact HB.out | apply below_alloc | apply pw_below_drewN | apply below_drew1 | refine below_set ?_ GE189.out | refine below_set ?_ GE197.out) | exact HB.out)⟩
                  · rw [if_neg c21] at H
                    have c21b0 : (t182 == 0) = false := beq_eq_false_iff_ne.mpr c21
                    have c21b1 : (t182 != 0) = true := bne_iff_ne.mpr c21
                    obtain rfl := Option.some.inj H
                    go_wp2
                    go_ret
                    exact ⟨by first | rfl | (simp [errW_none, errW_some] <;> rfl) | (simp [*, errW_none, errW_some] <;> rfl), by repeat (first | (with_reducible first | exact HB.out | apply below_alloc | apply pw_below_drewN | apply below_drew1 | refine below_set ?_ GE189.out | refine below_set ?_ GE197.out) | exact HB.out)⟩
                · rw [if_neg c20] at H
                  have c20b0 : (t196 == 4) = false := beq_eq_false_iff_ne.mpr c20
                  have c20b1 : (t196 != 4) = true := bne_iff_ne.mpr c20
                  obtain rfl := Option.some.inj H
                  go_wp2
                  go_ret
                  exact ⟨by first | rfl | (simp [errW_none, errW_some] <;> rfl) | (simp [*, errW_none, errW_some] <;> rfl), by repeat (first | (with_reducible first | exact HB.out | apply below_alloc | apply pw_below_drewN | apply below_drew1 | refine below_set ?_ GE189.out | refine below_set ?_ GE197.out) | exact HB.out)⟩
              · rw [if_neg c19] at H
                have c19b0 : (t188 == 4) = false := beq_eq_false_iff_ne.mpr c19
                have c19b1 : (t188 != 4) = true := bne_iff_ne.mpr c19
                obtain rfl := Option.some.inj H
                go_wp2
                go_ret
                exact ⟨by first | rfl | (simp [errW_none, errW_some] <;> rfl) | (simp [*, errW_none, errW_some] <;> rfl), by repeat (first | (with_reducible first | exact HB.out | apply below_alloc | apply pw_below_drewN | apply below_drew1 | refine below_set ?_ GE189.out | refine below_set ?_ GE197.out) | exact HB.out)⟩
            · replace c18 := Bool.eq_false_iff.mpr c18
              subst c18
              have H1 : (if t188 = 0 then (if t196 = 0 then ((codewrightref17_Best.f kj8 a0 l1 0).bind fun t198 => (if t182 = t198 then ((codewrightref17_Best.f kj8 a0 l1 a0).bind fun t199 => (codewrightlaw17_BchBounds.j2 kj8 a0 l1 t182 t190 (t190 != t199) t183 t184 t185 t186 t187 t191 t192 t193 t194 t195)) else (codewrightlaw17_BchBounds.j2 kj8 a0 l1 t182 t190 true t183 t184 t185 t186 t187 t191 t192 t193 t194 t195))) else (codewrightlaw17_BchBounds.j2 kj8 a0 l1 t182 t190 true t183 t184 t185 t186 t187 t191 t192 t193 t194 t195)) else (codewrightlaw17_BchBounds.j2 kj8 a0 l1 t182 t190 true t183 t184 t185 t186 t187 t191 t192 t193 t194 t195)) = some r := by rw [if_neg (show ¬ (false = true) by decide)] at H; exact H
              clear H
              have H := H1
              clear H1
              have HC29 := Aside0.mk H
              clear H
              go_upto_region 7 with (fail)
              go_cut [90] (fun v90 wc => ∃ (kq : Nat) (x90_28 : Bool), v90 = .bool x90_28 ∧ Aside0 (codewrightlaw17_BchBounds.j2 kq a0 l1 t182 t190 x90_28 t183 t184 t185 t186 t187 t191 t192 t193 t194 t195 = some r) ∧ Aside0 (kq ≤ kj8) ∧ Aside0 (wc.heap[gb189]? = some (.cells #[.int .i64 t183, .int .i64 t184, .int .i64 t185, .int .i64 t186, .int .i64 t187] 24 (0, 0))) ∧ Aside0 (wc.heap[gb197]? = some (.cells #[.int .i64 t191, .int .i64 t192, .int .i64 t193, .int .i64 t194, .int .i64 t195] 24 (0, 0))) ∧ Aside0 (Below w.heap.size w wc))
              case first =>
                have H := HC29.out
                clear HC29
                by_cases c30 : t188 = 0
                · rw [if_pos c30] at H
                  have c30b0 : (t188 == 0) = true := beq_iff_eq.mpr c30
                  have c30b1 : (t188 != 0) = false := bne_eq_false_iff_eq.mpr c30
                  clear c30
                  (first | rw [c30b0] | (simp only [i64_w, i32_w]; rw [c30b0]) | skip)
                  by_cases c31 : t196 = 0
                  · rw [if_pos c31] at H
                    have c31b0 : (t196 == 0) = true := beq_iff_eq.mpr c31
                    have c31b1 : (t196 != 0) = false := bne_eq_false_iff_eq.mpr c31
                    clear c31
                    replace H := Option.bind_eq_some_iff.mp H
                    obtain ⟨t198, A320, H⟩ := H
                    replace H : (if t182 = t198 then ((codewrightref17_Best.f kj8 a0 l1 a0).bind fun t199 => (codewrightlaw17_BchBounds.j2 kj8 a0 l1 t182 t190 (t190 != t199) t183 t184 t185 t186 t187 t191 t192 t193 t194 t195)) else (codewrightlaw17_BchBounds.j2 kj8 a0 l1 t182 t190 true t183 t184 t185 t186 t187 t191 t192 t193 t194 t195)) = some r := H
                    have A32 := Aside0.mk A320
                    clear A320
                    by_cases c33 : t182 = t198
                    · rw [if_pos c33] at H
                      have c33b0 : (t182 == t198) = true := beq_iff_eq.mpr c33
                      have c33b1 : (t182 != t198) = false := bne_eq_false_iff_eq.mpr c33
                      clear c33
                      replace H := Option.bind_eq_some_iff.mp H
                      obtain ⟨t199, A340, H⟩ := H
                      replace H : (codewrightlaw17_BchBounds.j2 kj8 a0 l1 t182 t190 (t190 != t199) t183 t184 t185 t186 t187 t191 t192 t193 t194 t195) = some r := H
                      have A34 := Aside0.mk A340
                      clear A340
                      have H' := Aside0.mk H
                      clear H
                      go_wp2_with (first | (go_at_call 13; (with_reducible refine (codewrightref17_Best.calls kj8 a0 _ _ l1 0 t198 _ ?side1 ?side2 A32.out).mono ?_); (case side1 => repeat (first | exact (Kd.C_below HR1.out HB.out) | (with_reducible refine Kd.C_alloc ?_ _) | (with_reducible refine Kd.C_drewN ?_ _) | (with_reducible refine Kd.C_drew ?_))); (case side2 => exact HC1.out); rintro e w35 ⟨rfl, hb⟩; have n0_ := Aside0.mk (blk_below (g := gb189) (o := .cells #[.int .i64 t183, .int .i64 t184, .int .i64 t185, .int .i64 t186, .int .i64 t187] 24 (0, 0)) (by (with_reducible repeat (first | refine blk_drewN ?_ _ | refine blk_drew ?_ | refine blk_alloc ?_ _)); exact BK189.out) hb); have n1_ := Aside0.mk (blk_below (g := gb197) (o := .cells #[.int .i64 t191, .int .i64 t192, .int .i64 t193, .int .i64 t194, .int .i64 t195] 24 (0, 0)) (by (with_reducible repeat (first | refine blk_drewN ?_ _ | refine blk_drew ?_ | refine blk_alloc ?_ _)); exact BK197.out) hb); have n2_ := Aside0.mk (below_step (by repeat (first | (with_reducible first | exact HB.out | apply below_alloc | apply pw_below_drewN | apply below_drew1 | refine below_set ?_ GE189.out | refine below_set ?_ GE197.out) | exact HB.out)) hb); clear BK189; clear BK197; clear HB; have BK189 := n0_; have BK197 := n1_; have HB := n2_; clear n0_ n1_ n2_; (try clear hb); (try clear hb2); (try clear hk); (try clear hi)) | (go_at_call 13; (with_reducible refine (codewrightref17_Best.calls kj8 a0 _ _ l1 a0 t199 _ ?side1 ?side2 A34.out).mono ?_); (case side1 => repeat (first | exact (Kd.C_below HR1.out HB.out) | (with_reducible refine Kd.C_alloc ?_ _) | (with_reducible refine Kd.C_drewN ?_ _) | (with_reducible refine Kd.C_drew ?_))); (case side2 => exact HC1.out); rintro e w36 ⟨rfl, hb⟩; have n0_ := Aside0.mk (blk_below (g := gb189) (o := .cells #[.int .i64 t183, .int .i64 t184, .int .i64 t185, .int .i64 t186, .int .i64 t187] 24 (0, 0)) (by (with_reducible repeat (first | refine blk_drewN ?_ _ | refine blk_drew ?_ | refine blk_alloc ?_ _)); exact BK189.out) hb); have n1_ := Aside0.mk (blk_below (g := gb197) (o := .cells #[.int .i64 t191, .int .i64 t192, .int .i64 t193, .int .i64 t194, .int .i64 t195] 24 (0, 0)) (by (with_reducible repeat (first | refine blk_drewN ?_ _ | refine blk_drew ?_ | refine blk_alloc ?_ _)); exact BK197.out) hb); have n2_ := Aside0.mk (below_step (by repeat (first | (with_reducible first | exact HB.out | apply below_alloc | apply pw_below_drewN | apply below_drew1 | refine below_set ?_ GE189.out | refine below_set ?_ GE197.out) | exact HB.out)) hb); clear BK189; clear BK197; clear HB; have BK189 := n0_; have BK197 := n1_; have HB := n2_; clear n0_ n1_ n2_; (try clear hb); (try clear hb2); (try clear hk); (try clear hi)))
                      go_meet
                      case rel => exact ⟨_, ((t190 != t199)), (by first | rfl | (simp; done) | (simp [*]; done)), H', ⟨by have := HJ2.out; have := HJ8.out; first | omega | exact Nat.le_refl _⟩, ⟨by (with_reducible repeat (first | refine blk_drewN ?_ _ | refine blk_drew ?_ | refine blk_alloc ?_ _)); exact BK189.out⟩, ⟨by (with_reducible repeat (first | refine blk_drewN ?_ _ | refine blk_drew ?_ | refine blk_alloc ?_ _)); exact BK197.out⟩, ⟨by repeat (first | (with_reducible first | exact HB.out | apply below_alloc | apply pw_below_drewN | apply below_drew1 | refine below_set ?_ GE189.out | refine below_set ?_ GE197.out) | exact HB.out)⟩⟩
                    · rw [if_neg c33] at H
                      have c33b0 : (t182 == t198) = false := beq_eq_false_iff_ne.mpr c33
                      have c33b1 : (t182 != t198) = true := bne_iff_ne.mpr c33
                      have H' := Aside0.mk H
                      clear H
                      go_wp2_with (first | (go_at_call 13; (with_reducible refine (codewrightref17_Best.calls kj8 a0 _ _ l1 0 t198 _ ?side1 ?side2 A32.out).mono ?_); (case side1 => repeat (first | exact (Kd.C_below HR1.out HB.out) | (with_reducible refine Kd.C_alloc ?_ _) | (with_reducible refine Kd.C_drewN ?_ _) | (with_reducible refine Kd.C_drew ?_))); (case side2 => exact HC1.out); rintro e w37 ⟨rfl, hb⟩; have n0_ := Aside0.mk (blk_below (g := gb189) (o := .cells #[.int .i64 t183, .int .i64 t184, .int .i64 t185, .int .i64 t186, .int .i64 t187] 24 (0, 0)) (by (with_reducible repeat (first | refine blk_drewN ?_ _ | refine blk_drew ?_ | refine blk_alloc ?_ _)); exact BK189.out) hb); have n1_ := Aside0.mk (blk_below (g := gb197) (o := .cells #[.int .i64 t191, .int .i64 t192, .int .i64 t193, .int .i64 t194, .int .i64 t195] 24 (0, 0)) (by (with_reducible repeat (first | refine blk_drewN ?_ _ | refine blk_drew ?_ | refine blk_alloc ?_ _)); exact BK197.out) hb); have n2_ := Aside0.mk (below_step (by repeat (first | (with_reducible first | exact HB.out | apply below_alloc | apply pw_below_drewN | apply below_drew1 | refine below_set ?_ GE189.out | refine below_set ?_ GE197.out) | exact HB.out)) hb); clear BK189; clear BK197; clear HB; have BK189 := n0_; have BK197 := n1_; have HB := n2_; clear n0_ n1_ n2_; (try clear hb); (try clear hb2); (try clear hk); (try clear hi)))
                      go_meet
                      case rel => exact ⟨_, (true), (by first | rfl | (simp; done) | (simp [*]; done)), H', ⟨by have := HJ2.out; have := HJ8.out; first | omega | exact Nat.le_refl _⟩, ⟨by (with_reducible repeat (first | refine blk_drewN ?_ _ | refine blk_drew ?_ | refine blk_alloc ?_ _)); exact BK189.out⟩, ⟨by (with_reducible repeat (first | refine blk_drewN ?_ _ | refine blk_drew ?_ | refine blk_alloc ?_ _)); exact BK197.out⟩, ⟨by repeat (first | (with_reducible first | exact HB.out | apply below_alloc | apply pw_below_drewN | apply below_drew1 | refine below_set ?_ GE189.out | refine below_set ?_ GE197.out) | exact HB.out)⟩⟩
                  · rw [if_neg c31] at H
                    have c31b0 : (t196 == 0) = false := beq_eq_false_iff_ne.mpr c31
                    have c31b1 : (t196 != 0) = true := bne_iff_ne.mpr c31
                    have H' := Aside0.mk H
                    clear H
                    go_wp2
                    go_meet
                    case rel => exact ⟨_, (true), (by first | rfl | (simp; done) | (simp [*]; done)), H', ⟨by have := HJ2.out; have := HJ8.out; first | omega | exact Nat.le_refl _⟩, ⟨by (with_reducible repeat (first | refine blk_drewN ?_ _ | refine blk_drew ?_ | refine blk_alloc ?_ _)); exact BK189.out⟩, ⟨by (with_reducible repeat (first | refine blk_drewN ?_ _ | refine blk_drew ?_ | refine blk_alloc ?_ _)); exact BK197.out⟩, ⟨by repeat (first | (with_reducible first | exact HB.out | apply below_alloc | apply pw_below_drewN | apply below_drew1 | refine below_set ?_ GE189.out | refine below_set ?_ GE197.out) | exact HB.out)⟩⟩
                · rw [if_neg c30] at H
                  have c30b0 : (t188 == 0) = false := beq_eq_false_iff_ne.mpr c30
                  have c30b1 : (t188 != 0) = true := bne_iff_ne.mpr c30
                  (first | rw [c30b0] | (simp only [i64_w, i32_w]; rw [c30b0]) | skip)
                  have H' := Aside0.mk H
                  clear H
                  go_wp2
                  go_meet
                  case rel => exact ⟨_, (true), (by first | rfl | (simp; done) | (simp [*]; done)), H', ⟨by have := HJ2.out; have := HJ8.out; first | omega | exact Nat.le_refl _⟩, ⟨by (with_reducible repeat (first | refine blk_drewN ?_ _ | refine blk_drew ?_ | refine blk_alloc ?_ _)); exact BK189.out⟩, ⟨by (with_reducible repeat (first | refine blk_drewN ?_ _ | refine blk_drew ?_ | refine blk_alloc ?_ _)); exact BK197.out⟩, ⟨by repeat (first | (with_reducible first | exact HB.out | apply below_alloc | apply pw_below_drewN | apply below_drew1 | refine below_set ?_ GE189.out | refine below_set ?_ GE197.out) | exact HB.out)⟩⟩
              case rest =>
                clear HC29
                try clear c1
                try clear c2
                try clear p2
                try clear c3
                try clear c4
                try clear c4b0
                try clear c4b1
                try clear c5
                try clear c5b0
                try clear c6
                try clear c11
                try clear c12
                try clear c15
                try clear c17
                try clear c17b0
                try clear c18
                try clear c19
                try clear c19b0
                try clear c19b1
                try clear c20
                try clear c20b0
                try clear c20b1
                try clear c21
                try clear c21b0
                try clear c21b1
                try clear c22
                try clear c22b0
                try clear c22b1
                try clear c23
                try clear c23b0
                try clear c23b1
                try clear c23b2
                try clear c24
                try clear c27
                try clear c30
                try clear c30b0
                try clear c30b1
                try clear c31
                try clear c31b0
                try clear c31b1
                try clear c33
                try clear c33b0
                try clear c33b1
                try clear hcz12_0
                try clear hcz12_1
                try clear hcz12_2
                try clear hcz12_3
                try clear hcz12_4
                try clear hcz16_0
                try clear hcz16_1
                try clear hcz16_2
                try clear hcz16_3
                try clear hcz16_4
                try clear hcz25_0
                try clear hcz25_1
                try clear hcz25_2
                try clear hcz25_3
                try clear hcz25_4
                try clear hcz26_0
                try clear hcz26_1
                try clear hcz26_2
                try clear hcz26_3
                try clear hcz26_4
                try clear hcz28_0
                try clear hcz28_1
                try clear hcz28_2
                try clear hcz28_3
                try clear hcz28_4
                try clear hfz12_0
                try clear hfz12_1
                try clear hfz12_2
                try clear hfz12_3
                try clear hfz12_4
                try clear hfz16_0
                try clear hfz16_1
                try clear hfz16_2
                try clear hfz16_3
                try clear hfz16_4
                try clear hfz25_0
                try clear hfz25_1
                try clear hfz25_2
                try clear hfz25_3
                try clear hfz25_4
                try clear hfz26_0
                try clear hfz26_1
                try clear hfz26_2
                try clear hfz26_3
                try clear hfz26_4
                try clear hfz28_0
                try clear hfz28_1
                try clear hfz28_2
                try clear hfz28_3
                try clear hfz28_4
                try clear p2
                obtain ⟨kq, x90_28, rfl, HA, HJ28, BK189, BK197, HB⟩ := hcut
                cases kq with
                | zero => exact absurd HA.out (by simp [codewrightlaw17_BchBounds.j2])
                | succ kj28 =>
                  have H := HA.out
                  clear HA
                  simp only [codewrightlaw17_BchBounds.j2] at H
                  by_cases c38 : x90_28 = true
                  · subst c38
                    have H1 : (some false) = some r := by rw [if_pos rfl] at H; exact H
                    clear H
                    have H := H1
                    clear H1
                    obtain rfl := Option.some.inj H
                    go_wp2
                    go_ret
                    exact ⟨by first | rfl | (simp [errW_none, errW_some] <;> rfl) | (simp [*, errW_none, errW_some] <;> rfl), by repeat (first | (with_reducible first | exact HB.out | apply below_alloc | apply pw_below_drewN | apply below_drew1 | refine below_set ?_ GE189.out | refine below_set ?_ GE197.out) | exact HB.out)⟩
                  · replace c38 := Bool.eq_false_iff.mpr c38
                    subst c38
                    have H1 : (if t182 = 1 then (if (t183 == 0 && (t184 == 0 && (t185 == 0 && (t186 == 0 && (t187 == 0))))) = true then (if (t191 == 0 && (t192 == 0 && (t193 == 0 && (t194 == 0 && (t195 == 0))))) = true then (some (t190 == 1)) else (some false)) else (some false)) else ((codewrightref17_Check.f kj28 a0 l1 t183 t184 t185 t186 t187).bind fun bt200 => ((codewrightref17_Check.f kj28 a0 l1 t191 t192 t193 t194 t195).bind fun bt202 => (if bt200.2 = 0 then (if bt202.2 = 0 then (if bt200.1 = t182 then (if bt202.1 = t190 then (if t186 = 0 then (some (t187 == 0)) else (some false)) else (some false)) else (some false)) else (some false)) else (some false))))) = some r := by rw [if_neg (show ¬ (false = true) by decide)] at H; exact H
                    clear H
                    have H := H1
                    clear H1
                    by_cases c39 : t182 = 1
                    · rw [if_pos c39] at H
                      have c39b0 : (t182 == 1) = true := beq_iff_eq.mpr c39
                      have c39b1 : (t182 != 1) = false := bne_eq_false_iff_eq.mpr c39
                      clear c39
                      by_cases c40 : (t183 == 0 && (t184 == 0 && (t185 == 0 && (t186 == 0 && (t187 == 0))))) = true
                      · rw [if_pos c40] at H
                        have c40b0 : (t183 == 0 && (t184 == 0 && (t185 == 0 && (t186 == 0 && (t187 == 0))))) = true := c40
                        (try (have c40b1 : decide (t183 = 0 && (t184 == 0 && (t185 == 0 && (t186 == 0 && (t187 == 0))))) = true := by simpa using c40))
                        (try (have c40b2 : (t183 == 0 && (t184 == 0 && (t185 == 0 && (t186 == 0 && (t187 == 0))))) = true := by simpa using c40))
                        clear c40
                        by_cases c41 : (t191 == 0 && (t192 == 0 && (t193 == 0 && (t194 == 0 && (t195 == 0))))) = true
                        · rw [if_pos c41] at H
                          have c41b0 : (t191 == 0 && (t192 == 0 && (t193 == 0 && (t194 == 0 && (t195 == 0))))) = true := c41
                          (try (have c41b1 : decide (t191 = 0 && (t192 == 0 && (t193 == 0 && (t194 == 0 && (t195 == 0))))) = true := by simpa using c41))
                          (try (have c41b2 : (t191 == 0 && (t192 == 0 && (t193 == 0 && (t194 == 0 && (t195 == 0))))) = true := by simpa using c41))
                          clear c41
                          obtain rfl := Option.some.inj H
                          have hnb42 := NB189_197.out
                          have hnc42 := NB197_189.out
                          have hcz43_0 : wc.cell? ⟨gb189, 0, none⟩ = some (.int .i64 t183) := (blk_cell BK189.out 0).trans rfl
                          have hcz43_1 : wc.cell? ⟨gb189, 1, none⟩ = some (.int .i64 t184) := (blk_cell BK189.out 1).trans rfl
                          have hcz43_2 : wc.cell? ⟨gb189, 2, none⟩ = some (.int .i64 t185) := (blk_cell BK189.out 2).trans rfl
                          have hcz43_3 : wc.cell? ⟨gb189, 3, none⟩ = some (.int .i64 t186) := (blk_cell BK189.out 3).trans rfl
                          have hcz43_4 : wc.cell? ⟨gb189, 4, none⟩ = some (.int .i64 t187) := (blk_cell BK189.out 4).trans rfl
                          have hfz43_0 := blk_frozen BK189.out 0
                          have hfz43_1 := blk_frozen BK189.out 1
                          have hfz43_2 := blk_frozen BK189.out 2
                          have hfz43_3 := blk_frozen BK189.out 3
                          have hfz43_4 := blk_frozen BK189.out 4
                          have hcz44_0 : wc.cell? ⟨gb197, 0, none⟩ = some (.int .i64 t191) := (blk_cell BK197.out 0).trans rfl
                          have hcz44_1 : wc.cell? ⟨gb197, 1, none⟩ = some (.int .i64 t192) := (blk_cell BK197.out 1).trans rfl
                          have hcz44_2 : wc.cell? ⟨gb197, 2, none⟩ = some (.int .i64 t193) := (blk_cell BK197.out 2).trans rfl
                          have hcz44_3 : wc.cell? ⟨gb197, 3, none⟩ = some (.int .i64 t194) := (blk_cell BK197.out 3).trans rfl
                          have hcz44_4 : wc.cell? ⟨gb197, 4, none⟩ = some (.int .i64 t195) := (blk_cell BK197.out 4).trans rfl
                          have hfz44_0 := blk_frozen BK197.out 0
                          have hfz44_1 := blk_frozen BK197.out 1
                          have hfz44_2 := blk_frozen BK197.out 2
                          have hfz44_3 := blk_frozen BK197.out 3
                          have hfz44_4 := blk_frozen BK197.out 4
                          go_wp2
                          go_ret
                          exact ⟨by first | rfl | (simp [errW_none, errW_some] <;> rfl) | (simp [*, errW_none, errW_some] <;> rfl), by repeat (first | (with_reducible first | exact HB.out | apply below_alloc | apply pw_below_drewN | apply below_drew1 | refine below_set ?_ GE189.out | refine below_set ?_ GE197.out) | exact HB.out)⟩
                        · rw [if_neg c41] at H
                          have c41b0 : (t191 == 0 && (t192 == 0 && (t193 == 0 && (t194 == 0 && (t195 == 0))))) = false := by simpa using c41
                          (try (have c41b1 : decide (t191 = 0 && (t192 == 0 && (t193 == 0 && (t194 == 0 && (t195 == 0))))) = false := by simpa using c41))
                          (try (have c41b2 : (t191 == 0 && (t192 == 0 && (t193 == 0 && (t194 == 0 && (t195 == 0))))) = false := by simpa using c41))
                          (try (have c41b3 : ¬ (t191 = 0 && (t192 == 0 && (t193 == 0 && (t194 == 0 && (t195 == 0))))) := by simpa using c41))
                          clear c41
                          obtain rfl := Option.some.inj H
                          have hnb45 := NB189_197.out
                          have hnc45 := NB197_189.out
                          have hcz46_0 : wc.cell? ⟨gb189, 0, none⟩ = some (.int .i64 t183) := (blk_cell BK189.out 0).trans rfl
                          have hcz46_1 : wc.cell? ⟨gb189, 1, none⟩ = some (.int .i64 t184) := (blk_cell BK189.out 1).trans rfl
                          have hcz46_2 : wc.cell? ⟨gb189, 2, none⟩ = some (.int .i64 t185) := (blk_cell BK189.out 2).trans rfl
                          have hcz46_3 : wc.cell? ⟨gb189, 3, none⟩ = some (.int .i64 t186) := (blk_cell BK189.out 3).trans rfl
                          have hcz46_4 : wc.cell? ⟨gb189, 4, none⟩ = some (.int .i64 t187) := (blk_cell BK189.out 4).trans rfl
                          have hfz46_0 := blk_frozen BK189.out 0
                          have hfz46_1 := blk_frozen BK189.out 1
                          have hfz46_2 := blk_frozen BK189.out 2
                          have hfz46_3 := blk_frozen BK189.out 3
                          have hfz46_4 := blk_frozen BK189.out 4
                          have hcz47_0 : wc.cell? ⟨gb197, 0, none⟩ = some (.int .i64 t191) := (blk_cell BK197.out 0).trans rfl
                          have hcz47_1 : wc.cell? ⟨gb197, 1, none⟩ = some (.int .i64 t192) := (blk_cell BK197.out 1).trans rfl
                          have hcz47_2 : wc.cell? ⟨gb197, 2, none⟩ = some (.int .i64 t193) := (blk_cell BK197.out 2).trans rfl
                          have hcz47_3 : wc.cell? ⟨gb197, 3, none⟩ = some (.int .i64 t194) := (blk_cell BK197.out 3).trans rfl
                          have hcz47_4 : wc.cell? ⟨gb197, 4, none⟩ = some (.int .i64 t195) := (blk_cell BK197.out 4).trans rfl
                          have hfz47_0 := blk_frozen BK197.out 0
                          have hfz47_1 := blk_frozen BK197.out 1
                          have hfz47_2 := blk_frozen BK197.out 2
                          have hfz47_3 := blk_frozen BK197.out 3
                          have hfz47_4 := blk_frozen BK197.out 4
                          go_wp2
                          go_ret
                          exact ⟨by first | rfl | (simp [errW_none, errW_some] <;> rfl) | (simp [*, errW_none, errW_some] <;> rfl), by repeat (first | (with_reducible first | exact HB.out | apply below_alloc | apply pw_below_drewN | apply below_drew1 | refine below_set ?_ GE189.out | refine below_set ?_ GE197.out) | exact HB.out)⟩
                      · rw [if_neg c40] at H
                        have c40b0 : (t183 == 0 && (t184 == 0 && (t185 == 0 && (t186 == 0 && (t187 == 0))))) = false := by simpa using c40
                        (try (have c40b1 : decide (t183 = 0 && (t184 == 0 && (t185 == 0 && (t186 == 0 && (t187 == 0))))) = false := by simpa using c40))
                        (try (have c40b2 : (t183 == 0 && (t184 == 0 && (t185 == 0 && (t186 == 0 && (t187 == 0))))) = false := by simpa using c40))
                        (try (have c40b3 : ¬ (t183 = 0 && (t184 == 0 && (t185 == 0 && (t186 == 0 && (t187 == 0))))) := by simpa using c40))
                        clear c40
                        obtain rfl := Option.some.inj H
                        have hnb48 := NB189_197.out
                        have hnc48 := NB197_189.out
                        have hcz49_0 : wc.cell? ⟨gb189, 0, none⟩ = some (.int .i64 t183) := (blk_cell BK189.out 0).trans rfl
                        have hcz49_1 : wc.cell? ⟨gb189, 1, none⟩ = some (.int .i64 t184) := (blk_cell BK189.out 1).trans rfl
                        have hcz49_2 : wc.cell? ⟨gb189, 2, none⟩ = some (.int .i64 t185) := (blk_cell BK189.out 2).trans rfl
                        have hcz49_3 : wc.cell? ⟨gb189, 3, none⟩ = some (.int .i64 t186) := (blk_cell BK189.out 3).trans rfl
                        have hcz49_4 : wc.cell? ⟨gb189, 4, none⟩ = some (.int .i64 t187) := (blk_cell BK189.out 4).trans rfl
                        have hfz49_0 := blk_frozen BK189.out 0
                        have hfz49_1 := blk_frozen BK189.out 1
                        have hfz49_2 := blk_frozen BK189.out 2
                        have hfz49_3 := blk_frozen BK189.out 3
                        have hfz49_4 := blk_frozen BK189.out 4
                        go_wp2
                        go_ret
                        exact ⟨by first | rfl | (simp [errW_none, errW_some] <;> rfl) | (simp [*, errW_none, errW_some] <;> rfl), by repeat (first | (with_reducible first | exact HB.out | apply below_alloc | apply pw_below_drewN | apply below_drew1 | refine below_set ?_ GE189.out | refine below_set ?_ GE197.out) | exact HB.out)⟩
                    · rw [if_neg c39] at H
                      have c39b0 : (t182 == 1) = false := beq_eq_false_iff_ne.mpr c39
                      have c39b1 : (t182 != 1) = true := bne_iff_ne.mpr c39
                      replace H := Option.bind_eq_some_iff.mp H
                      obtain ⟨⟨t200, t201⟩, A500, H⟩ := H
                      replace H : ((codewrightref17_Check.f kj28 a0 l1 t191 t192 t193 t194 t195).bind fun bt202 => (if t201 = 0 then (if bt202.2 = 0 then (if t200 = t182 then (if bt202.1 = t190 then (if t186 = 0 then (some (t187 == 0)) else (some false)) else (some false)) else (some false)) else (some false)) else (some false))) = some r := H
                      have A50 := Aside0.mk A500
                      clear A500
                      replace H := Option.bind_eq_some_iff.mp H
                      obtain ⟨⟨t202, t203⟩, A510, H⟩ := H
                      replace H : (if t201 = 0 then (if t203 = 0 then (if t200 = t182 then (if t202 = t190 then (if t186 = 0 then (some (t187 == 0)) else (some false)) else (some false)) else (some false)) else (some false)) else (some false)) = some r := H
                      have A51 := Aside0.mk A510
                      clear A510
                      by_cases c52 : t201 = 0
                      · rw [if_pos c52] at H
                        have c52b0 : (t201 == 0) = true := beq_iff_eq.mpr c52
                        have c52b1 : (t201 != 0) = false := bne_eq_false_iff_eq.mpr c52
                        clear c52
                        by_cases c53 : t203 = 0
                        · rw [if_pos c53] at H
                          have c53b0 : (t203 == 0) = true := beq_iff_eq.mpr c53
                          have c53b1 : (t203 != 0) = false := bne_eq_false_iff_eq.mpr c53
                          clear c53
                          by_cases c54 : t200 = t182
                          · rw [if_pos c54] at H
                            have c54b0 : (t200 == t182) = true := beq_iff_eq.mpr c54
                            have c54b1 : (t200 != t182) = false := bne_eq_false_iff_eq.mpr c54
                            clear c54
                            by_cases c55 : t202 = t190
                            · rw [if_pos c55] at H
                              have c55b0 : (t202 == t190) = true := beq_iff_eq.mpr c55
                              have c55b1 : (t202 != t190) = false := bne_eq_false_iff_eq.mpr c55
                              clear c55
                              by_cases c56 : t186 = 0
                              · rw [if_pos c56] at H
                                have c56b0 : (t186 == 0) = true := beq_iff_eq.mpr c56
                                have c56b1 : (t186 != 0) = false := bne_eq_false_iff_eq.mpr c56
                                clear c56
                                obtain rfl := Option.some.inj H
                                have hnb57 := NB189_197.out
                                have hnc57 := NB197_189.out
                                have hcz58_0 : wc.cell? ⟨gb189, 0, none⟩ = some (.int .i64 t183) := (blk_cell BK189.out 0).trans rfl
                                have hcz58_1 : wc.cell? ⟨gb189, 1, none⟩ = some (.int .i64 t184) := (blk_cell BK189.out 1).trans rfl
                                have hcz58_2 : wc.cell? ⟨gb189, 2, none⟩ = some (.int .i64 t185) := (blk_cell BK189.out 2).trans rfl
                                have hcz58_3 : wc.cell? ⟨gb189, 3, none⟩ = some (.int .i64 t186) := (blk_cell BK189.out 3).trans rfl
                                have hcz58_4 : wc.cell? ⟨gb189, 4, none⟩ = some (.int .i64 t187) := (blk_cell BK189.out 4).trans rfl
                                have hfz58_0 := blk_frozen BK189.out 0
                                have hfz58_1 := blk_frozen BK189.out 1
                                have hfz58_2 := blk_frozen BK189.out 2
                                have hfz58_3 := blk_frozen BK189.out 3
                                have hfz58_4 := blk_frozen BK189.out 4
                                go_wp2_with (first | ((with_reducible refine gate_callee (f := 10) rfl ?_); refine goesL_ (some 109) rfl rfl Try.func10 (by kernel_rfl) rfl #[.int .i64 a0, .slice A1 l1.length c1, .agg #[.int .i64 t183, .int .i64 t184, .int .i64 t185, .int .i64 t186, .int .i64 t187]] rfl (by (try simp only [List.map_toArray, List.map_cons, List.map_nil]); first | done | rfl | (simp only [List.length_drop, List.length_take]; rfl)) ?_; (with_reducible refine (codewrightref17_Check.calls kj28 a0 _ _ l1 t183 t184 t185 t186 t187 t200 t201 _ ?side1 ?side2 A50.out).mono ?_); (case side1 => repeat (first | exact (Kd.C_below HR1.out HB.out) | (with_reducible refine Kd.C_alloc ?_ _) | (with_reducible refine Kd.C_drewN ?_ _) | (with_reducible refine Kd.C_drew ?_))); (case side2 => exact HC1.out); rintro e w59 ⟨rfl, hb⟩; refine ⟨_, rfl, ?_⟩; have n0_ := Aside0.mk (blk_below (g := gb189) (o := .cells #[.int .i64 t183, .int .i64 t184, .int .i64 t185, .int .i64 t186, .int .i64 t187] 24 (0, 0)) (by (with_reducible repeat (first | refine blk_drewN ?_ _ | refine blk_drew ?_ | refine blk_alloc ?_ _)); exact BK189.out) hb); have n1_ := Aside0.mk (blk_below (g := gb197) (o := .cells #[.int .i64 t191, .int .i64 t192, .int .i64 t193, .int .i64 t194, .int .i64 t195] 24 (0, 0)) (by (with_reducible repeat (first | refine blk_drewN ?_ _ | refine blk_drew ?_ | refine blk_alloc ?_ _)); exact BK197.out) hb); have n2_ := Aside0.mk (below_step (by repeat (first | (with_reducible first | exact HB.out | apply below_alloc | apply pw_below_drewN | apply below_drew1 | refine below_set ?_ GE189.out | refine below_set ?_ GE197.out) | exact HB.out)) hb); clear BK189; clear BK197; clear HB; have BK189 := n0_; have BK197 := n1_; have HB := n2_; clear n0_ n1_ n2_; (try clear hb); (try clear hb2); (try clear hk); (try clear hi); have hcz60_0 : w59.cell? ⟨gb197, 0, none⟩ = some (.int .i64 t191) := (blk_cell BK197.out 0).trans rfl; have hcz60_1 : w59.cell? ⟨gb197, 1, none⟩ = some (.int .i64 t192) := (blk_cell BK197.out 1).trans rfl; have hcz60_2 : w59.cell? ⟨gb197, 2, none⟩ = some (.int .i64 t193) := (blk_cell BK197.out 2).trans rfl; have hcz60_3 : w59.cell? ⟨gb197, 3, none⟩ = some (.int .i64 t194) := (blk_cell BK197.out 3).trans rfl; have hcz60_4 : w59.cell? ⟨gb197, 4, none⟩ = some (.int .i64 t195) := (blk_cell BK197.out 4).trans rfl; have hfz60_0 := blk_frozen BK197.out 0; have hfz60_1 := blk_frozen BK197.out 1; have hfz60_2 := blk_frozen BK197.out 2; have hfz60_3 := blk_frozen BK197.out 3; have hfz60_4 := blk_frozen BK197.out 4) | ((with_reducible refine gate_callee (f := 10) rfl ?_); refine goesL_ (some 116) rfl rfl Try.func10 (by kernel_rfl) rfl #[.int .i64 a0, .slice A1 l1.length c1, .agg #[.int .i64 t191, .int .i64 t192, .int .i64 t193, .int .i64 t194, .int .i64 t195]] rfl (by (try simp only [List.map_toArray, List.map_cons, List.map_nil]); first | done | rfl | (simp only [List.length_drop, List.length_take]; rfl)) ?_; (with_reducible refine (codewrightref17_Check.calls kj28 a0 _ _ l1 t191 t192 t193 t194 t195 t202 t203 _ ?side1 ?side2 A51.out).mono ?_); (case side1 => repeat (first | exact (Kd.C_below HR1.out HB.out) | (with_reducible refine Kd.C_alloc ?_ _) | (with_reducible refine Kd.C_drewN ?_ _) | (with_reducible refine Kd.C_drew ?_))); (case side2 => exact HC1.out); rintro e w61 ⟨rfl, hb⟩; refine ⟨_, rfl, ?_⟩; have n0_ := Aside0.mk (blk_below (g := gb189) (o := .cells #[.int .i64 t183, .int .i64 t184, .int .i64 t185, .int .i64 t186, .int .i64 t187] 24 (0, 0)) (by (with_reducible repeat (first | refine blk_drewN ?_ _ | refine blk_drew ?_ | refine blk_alloc ?_ _)); exact BK189.out) hb); have n1_ := Aside0.mk (blk_below (g := gb197) (o := .cells #[.int .i64 t191, .int .i64 t192, .int .i64 t193, .int .i64 t194, .int .i64 t195] 24 (0, 0)) (by (with_reducible repeat (first | refine blk_drewN ?_ _ | refine blk_drew ?_ | refine blk_alloc ?_ _)); exact BK197.out) hb); have n2_ := Aside0.mk (below_step (by repeat (first | (with_reducible first | exact HB.out | apply below_alloc | apply pw_below_drewN | apply below_drew1 | refine below_set ?_ GE189.out | refine below_set ?_ GE197.out) | exact HB.out)) hb); clear BK189; clear BK197; clear HB; have BK189 := n0_; have BK197 := n1_; have HB := n2_; clear n0_ n1_ n2_; (try clear hb); (try clear hb2); (try clear hk); (try clear hi); have hcz62_0 : w61.cell? ⟨gb189, 0, none⟩ = some (.int .i64 t183) := (blk_cell BK189.out 0).trans rfl; have hcz62_1 : w61.cell? ⟨gb189, 1, none⟩ = some (.int .i64 t184) := (blk_cell BK189.out 1).trans rfl; have hcz62_2 : w61.cell? ⟨gb189, 2, none⟩ = some (.int .i64 t185) := (blk_cell BK189.out 2).trans rfl; have hcz62_3 : w61.cell? ⟨gb189, 3, none⟩ = some (.int .i64 t186) := (blk_cell BK189.out 3).trans rfl; have hcz62_4 : w61.cell? ⟨gb189, 4, none⟩ = some (.int .i64 t187) := (blk_cell BK189.out 4).trans rfl; have hfz62_0 := blk_frozen BK189.out 0; have hfz62_1 := blk_frozen BK189.out 1; have hfz62_2 := blk_frozen BK189.out 2; have hfz62_3 := blk_frozen BK189.out 3; have hfz62_4 := blk_frozen BK189.out 4))
                                go_ret
                                exact ⟨by first | rfl | (simp [errW_none, errW_some] <;> rfl) | (simp [*, errW_none, errW_some] <;> rfl), by repeat (first | (with_reducible first | exact HB.out | apply below_alloc | apply pw_below_drewN | apply below_drew1 | refine below_set ?_ GE189.out | refine below_set ?_ GE197.out) | exact HB.out)⟩
                              · rw [if_neg c56] at H
                                have c56b0 : (t186 == 0) = false := beq_eq_false_iff_ne.mpr c56
                                have c56b1 : (t186 != 0) = true := bne_iff_ne.mpr c56
                                obtain rfl := Option.some.inj H
                                have hnb63 := NB189_197.out
                                have hnc63 := NB197_189.out
                                have hcz64_0 : wc.cell? ⟨gb189, 0, none⟩ = some (.int .i64 t183) := (blk_cell BK189.out 0).trans rfl
                                have hcz64_1 : wc.cell? ⟨gb189, 1, none⟩ = some (.int .i64 t184) := (blk_cell BK189.out 1).trans rfl
                                have hcz64_2 : wc.cell? ⟨gb189, 2, none⟩ = some (.int .i64 t185) := (blk_cell BK189.out 2).trans rfl
                                have hcz64_3 : wc.cell? ⟨gb189, 3, none⟩ = some (.int .i64 t186) := (blk_cell BK189.out 3).trans rfl
                                have hcz64_4 : wc.cell? ⟨gb189, 4, none⟩ = some (.int .i64 t187) := (blk_cell BK189.out 4).trans rfl
                                have hfz64_0 := blk_frozen BK189.out 0
                                have hfz64_1 := blk_frozen BK189.out 1
                                have hfz64_2 := blk_frozen BK189.out 2
                                have hfz64_3 := blk_frozen BK189.out 3
                                have hfz64_4 := blk_frozen BK189.out 4
                                go_wp2_with (first | ((with_reducible refine gate_callee (f := 10) rfl ?_); refine goesL_ (some 109) rfl rfl Try.func10 (by kernel_rfl) rfl #[.int .i64 a0, .slice A1 l1.length c1, .agg #[.int .i64 t183, .int .i64 t184, .int .i64 t185, .int .i64 t186, .int .i64 t187]] rfl (by (try simp only [List.map_toArray, List.map_cons, List.map_nil]); first | done | rfl | (simp only [List.length_drop, List.length_take]; rfl)) ?_; (with_reducible refine (codewrightref17_Check.calls kj28 a0 _ _ l1 t183 t184 t185 t186 t187 t200 t201 _ ?side1 ?side2 A50.out).mono ?_); (case side1 => repeat (first | exact (Kd.C_below HR1.out HB.out) | (with_reducible refine Kd.C_alloc ?_ _) | (with_reducible refine Kd.C_drewN ?_ _) | (with_reducible refine Kd.C_drew ?_))); (case side2 => exact HC1.out); rintro e w65 ⟨rfl, hb⟩; refine ⟨_, rfl, ?_⟩; have n0_ := Aside0.mk (blk_below (g := gb189) (o := .cells #[.int .i64 t183, .int .i64 t184, .int .i64 t185, .int .i64 t186, .int .i64 t187] 24 (0, 0)) (by (with_reducible repeat (first | refine blk_drewN ?_ _ | refine blk_drew ?_ | refine blk_alloc ?_ _)); exact BK189.out) hb); have n1_ := Aside0.mk (blk_below (g := gb197) (o := .cells #[.int .i64 t191, .int .i64 t192, .int .i64 t193, .int .i64 t194, .int .i64 t195] 24 (0, 0)) (by (with_reducible repeat (first | refine blk_drewN ?_ _ | refine blk_drew ?_ | refine blk_alloc ?_ _)); exact BK197.out) hb); have n2_ := Aside0.mk (below_step (by repeat (first | (with_reducible first | exact HB.out | apply below_alloc | apply pw_below_drewN | apply below_drew1 | refine below_set ?_ GE189.out | refine below_set ?_ GE197.out) | exact HB.out)) hb); clear BK189; clear BK197; clear HB; have BK189 := n0_; have BK197 := n1_; have HB := n2_; clear n0_ n1_ n2_; (try clear hb); (try clear hb2); (try clear hk); (try clear hi); have hcz66_0 : w65.cell? ⟨gb197, 0, none⟩ = some (.int .i64 t191) := (blk_cell BK197.out 0).trans rfl; have hcz66_1 : w65.cell? ⟨gb197, 1, none⟩ = some (.int .i64 t192) := (blk_cell BK197.out 1).trans rfl; have hcz66_2 : w65.cell? ⟨gb197, 2, none⟩ = some (.int .i64 t193) := (blk_cell BK197.out 2).trans rfl; have hcz66_3 : w65.cell? ⟨gb197, 3, none⟩ = some (.int .i64 t194) := (blk_cell BK197.out 3).trans rfl; have hcz66_4 : w65.cell? ⟨gb197, 4, none⟩ = some (.int .i64 t195) := (blk_cell BK197.out 4).trans rfl; have hfz66_0 := blk_frozen BK197.out 0; have hfz66_1 := blk_frozen BK197.out 1; have hfz66_2 := blk_frozen BK197.out 2; have hfz66_3 := blk_frozen BK197.out 3; have hfz66_4 := blk_frozen BK197.out 4) | ((with_reducible refine gate_callee (f := 10) rfl ?_); refine goesL_ (some 116) rfl rfl Try.func10 (by kernel_rfl) rfl #[.int .i64 a0, .slice A1 l1.length c1, .agg #[.int .i64 t191, .int .i64 t192, .int .i64 t193, .int .i64 t194, .int .i64 t195]] rfl (by (try simp only [List.map_toArray, List.map_cons, List.map_nil]); first | done | rfl | (simp only [List.length_drop, List.length_take]; rfl)) ?_; (with_reducible refine (codewrightref17_Check.calls kj28 a0 _ _ l1 t191 t192 t193 t194 t195 t202 t203 _ ?side1 ?side2 A51.out).mono ?_); (case side1 => repeat (first | exact (Kd.C_below HR1.out HB.out) | (with_reducible refine Kd.C_alloc ?_ _) | (with_reducible refine Kd.C_drewN ?_ _) | (with_reducible refine Kd.C_drew ?_))); (case side2 => exact HC1.out); rintro e w67 ⟨rfl, hb⟩; refine ⟨_, rfl, ?_⟩; have n0_ := Aside0.mk (blk_below (g := gb189) (o := .cells #[.int .i64 t183, .int .i64 t184, .int .i64 t185, .int .i64 t186, .int .i64 t187] 24 (0, 0)) (by (with_reducible repeat (first | refine blk_drewN ?_ _ | refine blk_drew ?_ | refine blk_alloc ?_ _)); exact BK189.out) hb); have n1_ := Aside0.mk (blk_below (g := gb197) (o := .cells #[.int .i64 t191, .int .i64 t192, .int .i64 t193, .int .i64 t194, .int .i64 t195] 24 (0, 0)) (by (with_reducible repeat (first | refine blk_drewN ?_ _ | refine blk_drew ?_ | refine blk_alloc ?_ _)); exact BK197.out) hb); have n2_ := Aside0.mk (below_step (by repeat (first | (with_reducible first | exact HB.out | apply below_alloc | apply pw_below_drewN | apply below_drew1 | refine below_set ?_ GE189.out | refine below_set ?_ GE197.out) | exact HB.out)) hb); clear BK189; clear BK197; clear HB; have BK189 := n0_; have BK197 := n1_; have HB := n2_; clear n0_ n1_ n2_; (try clear hb); (try clear hb2); (try clear hk); (try clear hi); have hcz68_0 : w67.cell? ⟨gb189, 0, none⟩ = some (.int .i64 t183) := (blk_cell BK189.out 0).trans rfl; have hcz68_1 : w67.cell? ⟨gb189, 1, none⟩ = some (.int .i64 t184) := (blk_cell BK189.out 1).trans rfl; have hcz68_2 : w67.cell? ⟨gb189, 2, none⟩ = some (.int .i64 t185) := (blk_cell BK189.out 2).trans rfl; have hcz68_3 : w67.cell? ⟨gb189, 3, none⟩ = some (.int .i64 t186) := (blk_cell BK189.out 3).trans rfl; have hcz68_4 : w67.cell? ⟨gb189, 4, none⟩ = some (.int .i64 t187) := (blk_cell BK189.out 4).trans rfl; have hfz68_0 := blk_frozen BK189.out 0; have hfz68_1 := blk_frozen BK189.out 1; have hfz68_2 := blk_frozen BK189.out 2; have hfz68_3 := blk_frozen BK189.out 3; have hfz68_4 := blk_frozen BK189.out 4))
                                go_ret
                                exact ⟨by first | rfl | (simp [errW_none, errW_some] <;> rfl) | (simp [*, errW_none, errW_some] <;> rfl), by repeat (first | (with_reducible first | exact HB.out | apply below_alloc | apply pw_below_drewN | apply below_drew1 | refine below_set ?_ GE189.out | refine below_set ?_ GE197.out) | exact HB.out)⟩
                            · rw [if_neg c55] at H
                              have c55b0 : (t202 == t190) = false := beq_eq_false_iff_ne.mpr c55
                              have c55b1 : (t202 != t190) = true := bne_iff_ne.mpr c55
                              obtain rfl := Option.some.inj H
                              have hnb69 := NB189_197.out
                              have hnc69 := NB197_189.out
                              have hcz70_0 : wc.cell? ⟨gb189, 0, none⟩ = some (.int .i64 t183) := (blk_cell BK189.out 0).trans rfl
                              have hcz70_1 : wc.cell? ⟨gb189, 1, none⟩ = some (.int .i64 t184) := (blk_cell BK189.out 1).trans rfl
                              have hcz70_2 : wc.cell? ⟨gb189, 2, none⟩ = some (.int .i64 t185) := (blk_cell BK189.out 2).trans rfl
                              have hcz70_3 : wc.cell? ⟨gb189, 3, none⟩ = some (.int .i64 t186) := (blk_cell BK189.out 3).trans rfl
                              have hcz70_4 : wc.cell? ⟨gb189, 4, none⟩ = some (.int .i64 t187) := (blk_cell BK189.out 4).trans rfl
                              have hfz70_0 := blk_frozen BK189.out 0
                              have hfz70_1 := blk_frozen BK189.out 1
                              have hfz70_2 := blk_frozen BK189.out 2
                              have hfz70_3 := blk_frozen BK189.out 3
                              have hfz70_4 := blk_frozen BK189.out 4
                              go_wp2_with (first | ((with_reducible refine gate_callee (f := 10) rfl ?_); refine goesL_ (some 109) rfl rfl Try.func10 (by kernel_rfl) rfl #[.int .i64 a0, .slice A1 l1.length c1, .agg #[.int .i64 t183, .int .i64 t184, .int .i64 t185, .int .i64 t186, .int .i64 t187]] rfl (by (try simp only [List.map_toArray, List.map_cons, List.map_nil]); first | done | rfl | (simp only [List.length_drop, List.length_take]; rfl)) ?_; (with_reducible refine (codewrightref17_Check.calls kj28 a0 _ _ l1 t183 t184 t185 t186 t187 t200 t201 _ ?side1 ?side2 A50.out).mono ?_); (case side1 => repeat (first | exact (Kd.C_below HR1.out HB.out) | (with_reducible refine Kd.C_alloc ?_ _) | (with_reducible refine Kd.C_drewN ?_ _) | (with_reducible refine Kd.C_drew ?_))); (case side2 => exact HC1.out); rintro e w71 ⟨rfl, hb⟩; refine ⟨_, rfl, ?_⟩; have n0_ := Aside0.mk (blk_below (g := gb189) (o := .cells #[.int .i64 t183, .int .i64 t184, .int .i64 t185, .int .i64 t186, .int .i64 t187] 24 (0, 0)) (by (with_reducible repeat (first | refine blk_drewN ?_ _ | refine blk_drew ?_ | refine blk_alloc ?_ _)); exact BK189.out) hb); have n1_ := Aside0.mk (blk_below (g := gb197) (o := .cells #[.int .i64 t191, .int .i64 t192, .int .i64 t193, .int .i64 t194, .int .i64 t195] 24 (0, 0)) (by (with_reducible repeat (first | refine blk_drewN ?_ _ | refine blk_drew ?_ | refine blk_alloc ?_ _)); exact BK197.out) hb); have n2_ := Aside0.mk (below_step (by repeat (first | (with_reducible first | exact HB.out | apply below_alloc | apply pw_below_drewN | apply below_drew1 | refine below_set ?_ GE189.out | refine below_set ?_ GE197.out) | exact HB.out)) hb); clear BK189; clear BK197; clear HB; have BK189 := n0_; have BK197 := n1_; have HB := n2_; clear n0_ n1_ n2_; (try clear hb); (try clear hb2); (try clear hk); (try clear hi); have hcz72_0 : w71.cell? ⟨gb197, 0, none⟩ = some (.int .i64 t191) := (blk_cell BK197.out 0).trans rfl; have hcz72_1 : w71.cell? ⟨gb197, 1, none⟩ = some (.int .i64 t192) := (blk_cell BK197.out 1).trans rfl; have hcz72_2 : w71.cell? ⟨gb197, 2, none⟩ = some (.int .i64 t193) := (blk_cell BK197.out 2).trans rfl; have hcz72_3 : w71.cell? ⟨gb197, 3, none⟩ = some (.int .i64 t194) := (blk_cell BK197.out 3).trans rfl; have hcz72_4 : w71.cell? ⟨gb197, 4, none⟩ = some (.int .i64 t195) := (blk_cell BK197.out 4).trans rfl; have hfz72_0 := blk_frozen BK197.out 0; have hfz72_1 := blk_frozen BK197.out 1; have hfz72_2 := blk_frozen BK197.out 2; have hfz72_3 := blk_frozen BK197.out 3; have hfz72_4 := blk_frozen BK197.out 4) | ((with_reducible refine gate_callee (f := 10) rfl ?_); refine goesL_ (some 116) rfl rfl Try.func10 (by kernel_rfl) rfl #[.int .i64 a0, .slice A1 l1.length c1, .agg #[.int .i64 t191, .int .i64 t192, .int .i64 t193, .int .i64 t194, .int .i64 t195]] rfl (by (try simp only [List.map_toArray, List.map_cons, List.map_nil]); first | done | rfl | (simp only [List.length_drop, List.length_take]; rfl)) ?_; (with_reducible refine (codewrightref17_Check.calls kj28 a0 _ _ l1 t191 t192 t193 t194 t195 t202 t203 _ ?side1 ?side2 A51.out).mono ?_); (case side1 => repeat (first | exact (Kd.C_below HR1.out HB.out) | (with_reducible refine Kd.C_alloc ?_ _) | (with_reducible refine Kd.C_drewN ?_ _) | (with_reducible refine Kd.C_drew ?_))); (case side2 => exact HC1.out); rintro e w73 ⟨rfl, hb⟩; refine ⟨_, rfl, ?_⟩; have n0_ := Aside0.mk (blk_below (g := gb189) (o := .cells #[.int .i64 t183, .int .i64 t184, .int .i64 t185, .int .i64 t186, .int .i64 t187] 24 (0, 0)) (by (with_reducible repeat (first | refine blk_drewN ?_ _ | refine blk_drew ?_ | refine blk_alloc ?_ _)); exact BK189.out) hb); have n1_ := Aside0.mk (blk_below (g := gb197) (o := .cells #[.int .i64 t191, .int .i64 t192, .int .i64 t193, .int .i64 t194, .int .i64 t195] 24 (0, 0)) (by (with_reducible repeat (first | refine blk_drewN ?_ _ | refine blk_drew ?_ | refine blk_alloc ?_ _)); exact BK197.out) hb); have n2_ := Aside0.mk (below_step (by repeat (first | (with_reducible first | exact HB.out | apply below_alloc | apply pw_below_drewN | apply below_drew1 | refine below_set ?_ GE189.out | refine below_set ?_ GE197.out) | exact HB.out)) hb); clear BK189; clear BK197; clear HB; have BK189 := n0_; have BK197 := n1_; have HB := n2_; clear n0_ n1_ n2_; (try clear hb); (try clear hb2); (try clear hk); (try clear hi)))
                              go_ret
                              exact ⟨by first | rfl | (simp [errW_none, errW_some] <;> rfl) | (simp [*, errW_none, errW_some] <;> rfl), by repeat (first | (with_reducible first | exact HB.out | apply below_alloc | apply pw_below_drewN | apply below_drew1 | refine below_set ?_ GE189.out | refine below_set ?_ GE197.out) | exact HB.out)⟩
                          · rw [if_neg c54] at H
                            have c54b0 : (t200 == t182) = false := beq_eq_false_iff_ne.mpr c54
                            have c54b1 : (t200 != t182) = true := bne_iff_ne.mpr c54
                            obtain rfl := Option.some.inj H
                            have hnb74 := NB189_197.out
                            have hnc74 := NB197_189.out
                            have hcz75_0 : wc.cell? ⟨gb189, 0, none⟩ = some (.int .i64 t183) := (blk_cell BK189.out 0).trans rfl
                            have hcz75_1 : wc.cell? ⟨gb189, 1, none⟩ = some (.int .i64 t184) := (blk_cell BK189.out 1).trans rfl
                            have hcz75_2 : wc.cell? ⟨gb189, 2, none⟩ = some (.int .i64 t185) := (blk_cell BK189.out 2).trans rfl
                            have hcz75_3 : wc.cell? ⟨gb189, 3, none⟩ = some (.int .i64 t186) := (blk_cell BK189.out 3).trans rfl
                            have hcz75_4 : wc.cell? ⟨gb189, 4, none⟩ = some (.int .i64 t187) := (blk_cell BK189.out 4).trans rfl
                            have hfz75_0 := blk_frozen BK189.out 0
                            have hfz75_1 := blk_frozen BK189.out 1
                            have hfz75_2 := blk_frozen BK189.out 2
                            have hfz75_3 := blk_frozen BK189.out 3
                            have hfz75_4 := blk_frozen BK189.out 4
                            go_wp2_with (first | ((with_reducible refine gate_callee (f := 10) rfl ?_); refine goesL_ (some 109) rfl rfl Try.func10 (by kernel_rfl) rfl #[.int .i64 a0, .slice A1 l1.length c1, .agg #[.int .i64 t183, .int .i64 t184, .int .i64 t185, .int .i64 t186, .int .i64 t187]] rfl (by (try simp only [List.map_toArray, List.map_cons, List.map_nil]); first | done | rfl | (simp only [List.length_drop, List.length_take]; rfl)) ?_; (with_reducible refine (codewrightref17_Check.calls kj28 a0 _ _ l1 t183 t184 t185 t186 t187 t200 t201 _ ?side1 ?side2 A50.out).mono ?_); (case side1 => repeat (first | exact (Kd.C_below HR1.out HB.out) | (with_reducible refine Kd.C_alloc ?_ _) | (with_reducible refine Kd.C_drewN ?_ _) | (with_reducible refine Kd.C_drew ?_))); (case side2 => exact HC1.out); rintro e w76 ⟨rfl, hb⟩; refine ⟨_, rfl, ?_⟩; have n0_ := Aside0.mk (blk_below (g := gb189) (o := .cells #[.int .i64 t183, .int .i64 t184, .int .i64 t185, .int .i64 t186, .int .i64 t187] 24 (0, 0)) (by (with_reducible repeat (first | refine blk_drewN ?_ _ | refine blk_drew ?_ | refine blk_alloc ?_ _)); exact BK189.out) hb); have n1_ := Aside0.mk (blk_below (g := gb197) (o := .cells #[.int .i64 t191, .int .i64 t192, .int .i64 t193, .int .i64 t194, .int .i64 t195] 24 (0, 0)) (by (with_reducible repeat (first | refine blk_drewN ?_ _ | refine blk_drew ?_ | refine blk_alloc ?_ _)); exact BK197.out) hb); have n2_ := Aside0.mk (below_step (by repeat (first | (with_reducible first | exact HB.out | apply below_alloc | apply pw_below_drewN | apply below_drew1 | refine below_set ?_ GE189.out | refine below_set ?_ GE197.out) | exact HB.out)) hb); clear BK189; clear BK197; clear HB; have BK189 := n0_; have BK197 := n1_; have HB := n2_; clear n0_ n1_ n2_; (try clear hb); (try clear hb2); (try clear hk); (try clear hi); have hcz77_0 : w76.cell? ⟨gb197, 0, none⟩ = some (.int .i64 t191) := (blk_cell BK197.out 0).trans rfl; have hcz77_1 : w76.cell? ⟨gb197, 1, none⟩ = some (.int .i64 t192) := (blk_cell BK197.out 1).trans rfl; have hcz77_2 : w76.cell? ⟨gb197, 2, none⟩ = some (.int .i64 t193) := (blk_cell BK197.out 2).trans rfl; have hcz77_3 : w76.cell? ⟨gb197, 3, none⟩ = some (.int .i64 t194) := (blk_cell BK197.out 3).trans rfl; have hcz77_4 : w76.cell? ⟨gb197, 4, none⟩ = some (.int .i64 t195) := (blk_cell BK197.out 4).trans rfl; have hfz77_0 := blk_frozen BK197.out 0; have hfz77_1 := blk_frozen BK197.out 1; have hfz77_2 := blk_frozen BK197.out 2; have hfz77_3 := blk_frozen BK197.out 3; have hfz77_4 := blk_frozen BK197.out 4) | ((with_reducible refine gate_callee (f := 10) rfl ?_); refine goesL_ (some 116) rfl rfl Try.func10 (by kernel_rfl) rfl #[.int .i64 a0, .slice A1 l1.length c1, .agg #[.int .i64 t191, .int .i64 t192, .int .i64 t193, .int .i64 t194, .int .i64 t195]] rfl (by (try simp only [List.map_toArray, List.map_cons, List.map_nil]); first | done | rfl | (simp only [List.length_drop, List.length_take]; rfl)) ?_; (with_reducible refine (codewrightref17_Check.calls kj28 a0 _ _ l1 t191 t192 t193 t194 t195 t202 t203 _ ?side1 ?side2 A51.out).mono ?_); (case side1 => repeat (first | exact (Kd.C_below HR1.out HB.out) | (with_reducible refine Kd.C_alloc ?_ _) | (with_reducible refine Kd.C_drewN ?_ _) | (with_reducible refine Kd.C_drew ?_))); (case side2 => exact HC1.out); rintro e w78 ⟨rfl, hb⟩; refine ⟨_, rfl, ?_⟩; have n0_ := Aside0.mk (blk_below (g := gb189) (o := .cells #[.int .i64 t183, .int .i64 t184, .int .i64 t185, .int .i64 t186, .int .i64 t187] 24 (0, 0)) (by (with_reducible repeat (first | refine blk_drewN ?_ _ | refine blk_drew ?_ | refine blk_alloc ?_ _)); exact BK189.out) hb); have n1_ := Aside0.mk (blk_below (g := gb197) (o := .cells #[.int .i64 t191, .int .i64 t192, .int .i64 t193, .int .i64 t194, .int .i64 t195] 24 (0, 0)) (by (with_reducible repeat (first | refine blk_drewN ?_ _ | refine blk_drew ?_ | refine blk_alloc ?_ _)); exact BK197.out) hb); have n2_ := Aside0.mk (below_step (by repeat (first | (with_reducible first | exact HB.out | apply below_alloc | apply pw_below_drewN | apply below_drew1 | refine below_set ?_ GE189.out | refine below_set ?_ GE197.out) | exact HB.out)) hb); clear BK189; clear BK197; clear HB; have BK189 := n0_; have BK197 := n1_; have HB := n2_; clear n0_ n1_ n2_; (try clear hb); (try clear hb2); (try clear hk); (try clear hi)))
                            go_ret
                            exact ⟨by first | rfl | (simp [errW_none, errW_some] <;> rfl) | (simp [*, errW_none, errW_some] <;> rfl), by repeat (first | (with_reducible first | exact HB.out | apply below_alloc | apply pw_below_drewN | apply below_drew1 | refine below_set ?_ GE189.out | refine below_set ?_ GE197.out) | exact HB.out)⟩
                        · rw [if_neg c53] at H
                          have c53b0 : (t203 == 0) = false := beq_eq_false_iff_ne.mpr c53
                          have c53b1 : (t203 != 0) = true := bne_iff_ne.mpr c53
                          obtain rfl := Option.some.inj H
                          have hnb79 := NB189_197.out
                          have hnc79 := NB197_189.out
                          have hcz80_0 : wc.cell? ⟨gb189, 0, none⟩ = some (.int .i64 t183) := (blk_cell BK189.out 0).trans rfl
                          have hcz80_1 : wc.cell? ⟨gb189, 1, none⟩ = some (.int .i64 t184) := (blk_cell BK189.out 1).trans rfl
                          have hcz80_2 : wc.cell? ⟨gb189, 2, none⟩ = some (.int .i64 t185) := (blk_cell BK189.out 2).trans rfl
                          have hcz80_3 : wc.cell? ⟨gb189, 3, none⟩ = some (.int .i64 t186) := (blk_cell BK189.out 3).trans rfl
                          have hcz80_4 : wc.cell? ⟨gb189, 4, none⟩ = some (.int .i64 t187) := (blk_cell BK189.out 4).trans rfl
                          have hfz80_0 := blk_frozen BK189.out 0
                          have hfz80_1 := blk_frozen BK189.out 1
                          have hfz80_2 := blk_frozen BK189.out 2
                          have hfz80_3 := blk_frozen BK189.out 3
                          have hfz80_4 := blk_frozen BK189.out 4
                          go_wp2_with (first | ((with_reducible refine gate_callee (f := 10) rfl ?_); refine goesL_ (some 109) rfl rfl Try.func10 (by kernel_rfl) rfl #[.int .i64 a0, .slice A1 l1.length c1, .agg #[.int .i64 t183, .int .i64 t184, .int .i64 t185, .int .i64 t186, .int .i64 t187]] rfl (by (try simp only [List.map_toArray, List.map_cons, List.map_nil]); first | done | rfl | (simp only [List.length_drop, List.length_take]; rfl)) ?_; (with_reducible refine (codewrightref17_Check.calls kj28 a0 _ _ l1 t183 t184 t185 t186 t187 t200 t201 _ ?side1 ?side2 A50.out).mono ?_); (case side1 => repeat (first | exact (Kd.C_below HR1.out HB.out) | (with_reducible refine Kd.C_alloc ?_ _) | (with_reducible refine Kd.C_drewN ?_ _) | (with_reducible refine Kd.C_drew ?_))); (case side2 => exact HC1.out); rintro e w81 ⟨rfl, hb⟩; refine ⟨_, rfl, ?_⟩; have n0_ := Aside0.mk (blk_below (g := gb189) (o := .cells #[.int .i64 t183, .int .i64 t184, .int .i64 t185, .int .i64 t186, .int .i64 t187] 24 (0, 0)) (by (with_reducible repeat (first | refine blk_drewN ?_ _ | refine blk_drew ?_ | refine blk_alloc ?_ _)); exact BK189.out) hb); have n1_ := Aside0.mk (blk_below (g := gb197) (o := .cells #[.int .i64 t191, .int .i64 t192, .int .i64 t193, .int .i64 t194, .int .i64 t195] 24 (0, 0)) (by (with_reducible repeat (first | refine blk_drewN ?_ _ | refine blk_drew ?_ | refine blk_alloc ?_ _)); exact BK197.out) hb); have n2_ := Aside0.mk (below_step (by repeat (first | (with_reducible first | exact HB.out | apply below_alloc | apply pw_below_drewN | apply below_drew1 | refine below_set ?_ GE189.out | refine below_set ?_ GE197.out) | exact HB.out)) hb); clear BK189; clear BK197; clear HB; have BK189 := n0_; have BK197 := n1_; have HB := n2_; clear n0_ n1_ n2_; (try clear hb); (try clear hb2); (try clear hk); (try clear hi); have hcz82_0 : w81.cell? ⟨gb197, 0, none⟩ = some (.int .i64 t191) := (blk_cell BK197.out 0).trans rfl; have hcz82_1 : w81.cell? ⟨gb197, 1, none⟩ = some (.int .i64 t192) := (blk_cell BK197.out 1).trans rfl; have hcz82_2 : w81.cell? ⟨gb197, 2, none⟩ = some (.int .i64 t193) := (blk_cell BK197.out 2).trans rfl; have hcz82_3 : w81.cell? ⟨gb197, 3, none⟩ = some (.int .i64 t194) := (blk_cell BK197.out 3).trans rfl; have hcz82_4 : w81.cell? ⟨gb197, 4, none⟩ = some (.int .i64 t195) := (blk_cell BK197.out 4).trans rfl; have hfz82_0 := blk_frozen BK197.out 0; have hfz82_1 := blk_frozen BK197.out 1; have hfz82_2 := blk_frozen BK197.out 2; have hfz82_3 := blk_frozen BK197.out 3; have hfz82_4 := blk_frozen BK197.out 4) | ((with_reducible refine gate_callee (f := 10) rfl ?_); refine goesL_ (some 116) rfl rfl Try.func10 (by kernel_rfl) rfl #[.int .i64 a0, .slice A1 l1.length c1, .agg #[.int .i64 t191, .int .i64 t192, .int .i64 t193, .int .i64 t194, .int .i64 t195]] rfl (by (try simp only [List.map_toArray, List.map_cons, List.map_nil]); first | done | rfl | (simp only [List.length_drop, List.length_take]; rfl)) ?_; (with_reducible refine (codewrightref17_Check.calls kj28 a0 _ _ l1 t191 t192 t193 t194 t195 t202 t203 _ ?side1 ?side2 A51.out).mono ?_); (case side1 => repeat (first | exact (Kd.C_below HR1.out HB.out) | (with_reducible refine Kd.C_alloc ?_ _) | (with_reducible refine Kd.C_drewN ?_ _) | (with_reducible refine Kd.C_drew ?_))); (case side2 => exact HC1.out); rintro e w83 ⟨rfl, hb⟩; refine ⟨_, rfl, ?_⟩; have n0_ := Aside0.mk (blk_below (g := gb189) (o := .cells #[.int .i64 t183, .int .i64 t184, .int .i64 t185, .int .i64 t186, .int .i64 t187] 24 (0, 0)) (by (with_reducible repeat (first | refine blk_drewN ?_ _ | refine blk_drew ?_ | refine blk_alloc ?_ _)); exact BK189.out) hb); have n1_ := Aside0.mk (blk_below (g := gb197) (o := .cells #[.int .i64 t191, .int .i64 t192, .int .i64 t193, .int .i64 t194, .int .i64 t195] 24 (0, 0)) (by (with_reducible repeat (first | refine blk_drewN ?_ _ | refine blk_drew ?_ | refine blk_alloc ?_ _)); exact BK197.out) hb); have n2_ := Aside0.mk (below_step (by repeat (first | (with_reducible first | exact HB.out | apply below_alloc | apply pw_below_drewN | apply below_drew1 | refine below_set ?_ GE189.out | refine below_set ?_ GE197.out) | exact HB.out)) hb); clear BK189; clear BK197; clear HB; have BK189 := n0_; have BK197 := n1_; have HB := n2_; clear n0_ n1_ n2_; (try clear hb); (try clear hb2); (try clear hk); (try clear hi)))
                          go_ret
                          exact ⟨by first | rfl | (simp [errW_none, errW_some] <;> rfl) | (simp [*, errW_none, errW_some] <;> rfl), by repeat (first | (with_reducible first | exact HB.out | apply below_alloc | apply pw_below_drewN | apply below_drew1 | refine below_set ?_ GE189.out | refine below_set ?_ GE197.out) | exact HB.out)⟩
                      · rw [if_neg c52] at H
                        have c52b0 : (t201 == 0) = false := beq_eq_false_iff_ne.mpr c52
                        have c52b1 : (t201 != 0) = true := bne_iff_ne.mpr c52
                        obtain rfl := Option.some.inj H
                        have hnb84 := NB189_197.out
                        have hnc84 := NB197_189.out
                        have hcz85_0 : wc.cell? ⟨gb189, 0, none⟩ = some (.int .i64 t183) := (blk_cell BK189.out 0).trans rfl
                        have hcz85_1 : wc.cell? ⟨gb189, 1, none⟩ = some (.int .i64 t184) := (blk_cell BK189.out 1).trans rfl
                        have hcz85_2 : wc.cell? ⟨gb189, 2, none⟩ = some (.int .i64 t185) := (blk_cell BK189.out 2).trans rfl
                        have hcz85_3 : wc.cell? ⟨gb189, 3, none⟩ = some (.int .i64 t186) := (blk_cell BK189.out 3).trans rfl
                        have hcz85_4 : wc.cell? ⟨gb189, 4, none⟩ = some (.int .i64 t187) := (blk_cell BK189.out 4).trans rfl
                        have hfz85_0 := blk_frozen BK189.out 0
                        have hfz85_1 := blk_frozen BK189.out 1
                        have hfz85_2 := blk_frozen BK189.out 2
                        have hfz85_3 := blk_frozen BK189.out 3
                        have hfz85_4 := blk_frozen BK189.out 4
                        go_wp2_with (first | ((with_reducible refine gate_callee (f := 10) rfl ?_); refine goesL_ (some 109) rfl rfl Try.func10 (by kernel_rfl) rfl #[.int .i64 a0, .slice A1 l1.length c1, .agg #[.int .i64 t183, .int .i64 t184, .int .i64 t185, .int .i64 t186, .int .i64 t187]] rfl (by (try simp only [List.map_toArray, List.map_cons, List.map_nil]); first | done | rfl | (simp only [List.length_drop, List.length_take]; rfl)) ?_; (with_reducible refine (codewrightref17_Check.calls kj28 a0 _ _ l1 t183 t184 t185 t186 t187 t200 t201 _ ?side1 ?side2 A50.out).mono ?_); (case side1 => repeat (first | exact (Kd.C_below HR1.out HB.out) | (with_reducible refine Kd.C_alloc ?_ _) | (with_reducible refine Kd.C_drewN ?_ _) | (with_reducible refine Kd.C_drew ?_))); (case side2 => exact HC1.out); rintro e w86 ⟨rfl, hb⟩; refine ⟨_, rfl, ?_⟩; have n0_ := Aside0.mk (blk_below (g := gb189) (o := .cells #[.int .i64 t183, .int .i64 t184, .int .i64 t185, .int .i64 t186, .int .i64 t187] 24 (0, 0)) (by (with_reducible repeat (first | refine blk_drewN ?_ _ | refine blk_drew ?_ | refine blk_alloc ?_ _)); exact BK189.out) hb); have n1_ := Aside0.mk (blk_below (g := gb197) (o := .cells #[.int .i64 t191, .int .i64 t192, .int .i64 t193, .int .i64 t194, .int .i64 t195] 24 (0, 0)) (by (with_reducible repeat (first | refine blk_drewN ?_ _ | refine blk_drew ?_ | refine blk_alloc ?_ _)); exact BK197.out) hb); have n2_ := Aside0.mk (below_step (by repeat (first | (with_reducible first | exact HB.out | apply below_alloc | apply pw_below_drewN | apply below_drew1 | refine below_set ?_ GE189.out | refine below_set ?_ GE197.out) | exact HB.out)) hb); clear BK189; clear BK197; clear HB; have BK189 := n0_; have BK197 := n1_; have HB := n2_; clear n0_ n1_ n2_; (try clear hb); (try clear hb2); (try clear hk); (try clear hi); have hcz87_0 : w86.cell? ⟨gb197, 0, none⟩ = some (.int .i64 t191) := (blk_cell BK197.out 0).trans rfl; have hcz87_1 : w86.cell? ⟨gb197, 1, none⟩ = some (.int .i64 t192) := (blk_cell BK197.out 1).trans rfl; have hcz87_2 : w86.cell? ⟨gb197, 2, none⟩ = some (.int .i64 t193) := (blk_cell BK197.out 2).trans rfl; have hcz87_3 : w86.cell? ⟨gb197, 3, none⟩ = some (.int .i64 t194) := (blk_cell BK197.out 3).trans rfl; have hcz87_4 : w86.cell? ⟨gb197, 4, none⟩ = some (.int .i64 t195) := (blk_cell BK197.out 4).trans rfl; have hfz87_0 := blk_frozen BK197.out 0; have hfz87_1 := blk_frozen BK197.out 1; have hfz87_2 := blk_frozen BK197.out 2; have hfz87_3 := blk_frozen BK197.out 3; have hfz87_4 := blk_frozen BK197.out 4) | ((with_reducible refine gate_callee (f := 10) rfl ?_); refine goesL_ (some 116) rfl rfl Try.func10 (by kernel_rfl) rfl #[.int .i64 a0, .slice A1 l1.length c1, .agg #[.int .i64 t191, .int .i64 t192, .int .i64 t193, .int .i64 t194, .int .i64 t195]] rfl (by (try simp only [List.map_toArray, List.map_cons, List.map_nil]); first | done | rfl | (simp only [List.length_drop, List.length_take]; rfl)) ?_; (with_reducible refine (codewrightref17_Check.calls kj28 a0 _ _ l1 t191 t192 t193 t194 t195 t202 t203 _ ?side1 ?side2 A51.out).mono ?_); (case side1 => repeat (first | exact (Kd.C_below HR1.out HB.out) | (with_reducible refine Kd.C_alloc ?_ _) | (with_reducible refine Kd.C_drewN ?_ _) | (with_reducible refine Kd.C_drew ?_))); (case side2 => exact HC1.out); rintro e w88 ⟨rfl, hb⟩; refine ⟨_, rfl, ?_⟩; have n0_ := Aside0.mk (blk_below (g := gb189) (o := .cells #[.int .i64 t183, .int .i64 t184, .int .i64 t185, .int .i64 t186, .int .i64 t187] 24 (0, 0)) (by (with_reducible repeat (first | refine blk_drewN ?_ _ | refine blk_drew ?_ | refine blk_alloc ?_ _)); exact BK189.out) hb); have n1_ := Aside0.mk (blk_below (g := gb197) (o := .cells #[.int .i64 t191, .int .i64 t192, .int .i64 t193, .int .i64 t194, .int .i64 t195] 24 (0, 0)) (by (with_reducible repeat (first | refine blk_drewN ?_ _ | refine blk_drew ?_ | refine blk_alloc ?_ _)); exact BK197.out) hb); have n2_ := Aside0.mk (below_step (by repeat (first | (with_reducible first | exact HB.out | apply below_alloc | apply pw_below_drewN | apply below_drew1 | refine below_set ?_ GE189.out | refine below_set ?_ GE197.out) | exact HB.out)) hb); clear BK189; clear BK197; clear HB; have BK189 := n0_; have BK197 := n1_; have HB := n2_; clear n0_ n1_ n2_; (try clear hb); (try clear hb2); (try clear hk); (try clear hi)))
                        go_ret
                        exact ⟨by first | rfl | (simp [errW_none, errW_some] <;> rfl) | (simp [*, errW_none, errW_some] <;> rfl), by repeat (first | (with_reducible first | exact HB.out | apply below_alloc | apply pw_below_drewN | apply below_drew1 | refine below_set ?_ GE189.out | refine below_set ?_ GE197.out) | exact HB.out)⟩

/-- THE ONE PURE STATEMENT of codewrightlaw17_BchBounds: yours. -/
def codewrightlaw17_BchBounds.Pure : Prop := ∀ (a0 : Int) (l1 : List Int), (Lit.int .i64 a0).wf = true → l1.length ≤ maxLen → l1.length * 8 ≤ 140737488351232 → (∀ x ∈ l1, (Lit.int .i64 x).wf = true) → ∃ k, codewrightlaw17_BchBounds.f k a0 l1 = some true
theorem codewrightlaw17_BchBounds.walk (P : codewrightlaw17_BchBounds.Pure) (a0 : Int) (a1 : Option Addr) (len1 cap1 : Nat) (z1 : List Int) (w : World) (w0 : (Lit.int .i64 a0).wf = true) (w1 : (a1 = none ∧ len1 = 0 ∧ cap1 = 0 ∧ z1 = []) ∨ ∃ x, a1 = some x ∧ len1 ≤ cap1 ∧ cap1 ≤ maxLen ∧ z1.length = cap1 ∧ (∀ i, i < z1.length → w.cell? (x.add i) = some (.int .i64 (z1.getD i 0))) ∧ ∀ n ∈ z1, (Lit.int .i64 n).wf = true) (y1 : len1 * 8 ≤ 140737488351232) :
    Calls Try.prog 4 #[.int .i64 a0, .slice a1 len1 cap1] w fun e w' => e = .returned (.bool true) ∧ Below w.heap.size w w' := by
  obtain ⟨l1, rfl, hr1, hm1, hw1, hc1⟩ := ReadsInt.ofRowC w1
  obtain ⟨k, h⟩ := P a0 l1 w0 hm1 y1 hw1
  refine (codewrightlaw17_BchBounds.calls k a0 _ _ l1 true w (Kd.C_of_reads (d := (0 : Int)) (h1 := fun _ => rfl) hr1) hc1 h).mono ?_
  rintro e w' ⟨rfl, hd⟩
  exact ⟨rfl, hd⟩

end Go.Proofs.Ytibbdjkboglepaa.PBchBounds

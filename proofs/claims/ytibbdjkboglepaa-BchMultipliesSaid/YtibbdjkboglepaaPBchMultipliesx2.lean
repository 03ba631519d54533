-- PRINTED BY print.sh 35421559b90ae4d0a3588c463048766b98c2df88dd9212a6774a882060cdf62d: not written by this session
import Derived.Test.YtibbdjkboglepaaPBchMultipliesx0
import Derived.Test.YtibbdjkboglepaaPBchMultipliesx1
namespace Go.Proofs.Ytibbdjkboglepaa.PBchMultiplies
open Go.RowKit Go.Proofs.YtibbdjkboglepaaW.PrintWords Go.Proofs.YtibbdjkboglepaaW.PrintLast Go.Proofs.YtibbdjkboglepaaW.PrintMore
attribute [local go_sem] max2_int min2_int max_two min_two max_three min_three max_four min_four   -- for this text's walks alone
set_option linter.unusedVariables false
set_option linter.unusedSimpArgs false

/-! ### bch_best: function 34 -/
mutual
def bch_best.j0 : Nat → Int → List Int → Int → Bool → Option (Int × Int × Int × Int × Int × Int × Int)
  | 0, _, _, _, _ => none
  | k + 1, x0, x1, x2, x23 => if x23 = true then (some (0, 0, 0, 0, 0, 0, 4)) else ((bch_members.f k x0 x1).bind fun t125 => (bch_best.l0 k x0 x2 t125 1 x0 0 0 0 0 0 0))
def bch_best.l0 : Nat → Int → Int → List Bool → Int → Int → Int → Int → Int → Int → Int → Int → Option (Int × Int × Int × Int × Int × Int × Int)
  | 0, _, _, _, _, _, _, _, _, _, _, _ => none
  | k + 1, x0, x2, x9, x10, x29, x30, x129000, x129001, x129002, x129003, x129004 => if x30 < x29 then ((bch_divisor.f k x30 x0).bind fun t129 => (if t129 = 1 then ((bch_consecutive.f k x9 x30).bind fun t130 => (bch_best.l1 k x0 x2 x9 x10 x30 t130 x29 x30 x0 0 x129000 x129001 x129002 x129003 x129004)) else (bch_best.l0 k x0 x2 x9 x10 x29 (wrap64 (x30 + 1)) x129000 x129001 x129002 x129003 x129004))) else (if x129004 = 0 then (some (x10, x129000, x129001, x129002, 0, x129004, 0)) else (some (x10, x129000, x129001, x129002, x129003, x129004, 0)))
def bch_best.l1 : Nat → Int → Int → List Bool → Int → Int → List Int → Int → Int → Int → Int → Int → Int → Int → Int → Int → Option (Int × Int × Int × Int × Int × Int × Int)
  | 0, _, _, _, _, _, _, _, _, _, _, _, _, _, _, _ => none
  | k + 1, x0, x2, x9, x10, x12, x13, x29, x30, x40, x41, x129000, x129001, x129002, x129003, x129004 => if x41 < x40 then (if x2 = 0 then (bch_best.j3 k x0 x2 x9 x10 x12 x13 x41 x29 x30 x40 x41 (decide (x41 > 0)) x129000 x129001 x129002 x129003 x129004) else (bch_best.j3 k x0 x2 x9 x10 x12 x13 x41 x29 x30 x40 x41 false x129000 x129001 x129002 x129003 x129004)) else (bch_best.l0 k x0 x2 x9 x10 x29 (wrap64 (x30 + 1)) x129000 x129001 x129002 x129003 x129004)
def bch_best.j3 : Nat → Int → Int → List Bool → Int → Int → List Int → Int → Int → Int → Int → Int → Bool → Int → Int → Int → Int → Int → Option (Int × Int × Int × Int × Int × Int × Int)
  | 0, _, _, _, _, _, _, _, _, _, _, _, _, _, _, _, _, _ => none
  | k + 1, x0, x2, x9, x10, x12, x13, x14, x29, x30, x40, x41, x49, x129000, x129001, x129002, x129003, x129004 => if x49 = true then (bch_best.l0 k x0 x2 x9 x10 x29 (wrap64 (x30 + 1)) x129000 x129001 x129002 x129003 x129004) else (bch_best.l2 k x0 x2 x9 x10 x12 x13 x14 x29 x30 x40 x41 x0 0 x129000 x129001 x129002 x129003 x129004)
def bch_best.l2 : Nat → Int → Int → List Bool → Int → Int → List Int → Int → Int → Int → Int → Int → Int → Int → Int → Int → Int → Int → Int → Option (Int × Int × Int × Int × Int × Int × Int)
  | 0, _, _, _, _, _, _, _, _, _, _, _, _, _, _, _, _, _, _ => none
  | k + 1, x0, x2, x9, x10, x12, x13, x14, x29, x30, x40, x41, x50, x51, x129000, x129001, x129002, x129003, x129004 => if x51 < x50 then (bch_best.l3 k x0 x2 x9 x10 x12 x13 x14 x51 x0 x29 x30 x40 x41 x50 x51 (wrap64 (x2 + 1)) 0 x129000 x129001 x129002 x129003 x129004) else (bch_best.l1 k x0 x2 x9 x10 x12 x13 x29 x30 x40 (wrap64 (x41 + 1)) x129000 x129001 x129002 x129003 x129004)
def bch_best.l3 : Nat → Int → Int → List Bool → Int → Int → List Int → Int → Int → Int → Int → Int → Int → Int → Int → Int → Int → Int → Int → Int → Int → Int → Int → Option (Int × Int × Int × Int × Int × Int × Int)
  | 0, _, _, _, _, _, _, _, _, _, _, _, _, _, _, _, _, _, _, _, _, _, _ => none
  | k + 1, x0, x2, x9, x10, x12, x13, x14, x15, x16, x29, x30, x40, x41, x50, x51, x56, x57, x129000, x129001, x129002, x129003, x129004 => if x57 < x56 then (if x0 = 0 then (none) else (if 0 ≤ (Int.tmod (wrap64 (x15 + (wrap64 (x57 * x14)))) x0) then (if (Int.tmod (wrap64 (x15 + (wrap64 (x57 * x14)))) x0) < (x13.length : Int) then (if (mn x16 (rd x13 (Int.tmod (wrap64 (x15 + (wrap64 (x57 * x14)))) x0))) = 0 then (bch_best.l2 k x0 x2 x9 x10 x12 x13 x14 x29 x30 x40 x41 x50 (wrap64 (x51 + 1)) x129000 x129001 x129002 x129003 x129004) else (if (wrap64 ((wrap64 ((mn x16 (rd x13 (Int.tmod (wrap64 (x15 + (wrap64 (x57 * x14)))) x0))) + 1)) + x57)) > x10 then (if x57 = 0 then (bch_best.l3 k x0 x2 x9 (wrap64 ((wrap64 ((mn x16 (rd x13 (Int.tmod (wrap64 (x15 + (wrap64 (x57 * x14)))) x0))) + 1)) + x57)) x12 x13 x14 x15 (mn x16 (rd x13 (Int.tmod (wrap64 (x15 + (wrap64 (x57 * x14)))) x0))) x29 x30 x40 x41 x50 x51 x56 (wrap64 (x57 + 1)) x15 x12 (mn x16 (rd x13 (Int.tmod (wrap64 (x15 + (wrap64 (x57 * x14)))) x0))) x14 x57) else ((bch_divisor.f k x14 x0).bind fun t134 => (if t134 ≤ (mn x16 (rd x13 (Int.tmod (wrap64 (x15 + (wrap64 (x57 * x14)))) x0))) then (bch_best.l3 k x0 x2 x9 (wrap64 ((wrap64 ((mn x16 (rd x13 (Int.tmod (wrap64 (x15 + (wrap64 (x57 * x14)))) x0))) + 1)) + x57)) x12 x13 x14 x15 (mn x16 (rd x13 (Int.tmod (wrap64 (x15 + (wrap64 (x57 * x14)))) x0))) x29 x30 x40 x41 x50 x51 x56 (wrap64 (x57 + 1)) x15 x12 (mn x16 (rd x13 (Int.tmod (wrap64 (x15 + (wrap64 (x57 * x14)))) x0))) x14 x57) else (bch_best.l3 k x0 x2 x9 x10 x12 x13 x14 x15 (mn x16 (rd x13 (Int.tmod (wrap64 (x15 + (wrap64 (x57 * x14)))) x0))) x29 x30 x40 x41 x50 x51 x56 (wrap64 (x57 + 1)) x129000 x129001 x129002 x129003 x129004)))) else (bch_best.l3 k x0 x2 x9 x10 x12 x13 x14 x15 (mn x16 (rd x13 (Int.tmod (wrap64 (x15 + (wrap64 (x57 * x14)))) x0))) x29 x30 x40 x41 x50 x51 x56 (wrap64 (x57 + 1)) x129000 x129001 x129002 x129003 x129004))) else (none)) else (none))) else (bch_best.l2 k x0 x2 x9 x10 x12 x13 x14 x29 x30 x40 x41 x50 (wrap64 (x51 + 1)) x129000 x129001 x129002 x129003 x129004)
end
def bch_best.f (k : Nat) (a0 : Int) (l1 : List Int) (a2 : Int) : Option (Int × Int × Int × Int × Int × Int × Int) := if a0 < 1 then (bch_best.j0 k a0 l1 a2 true) else (bch_best.j0 k a0 l1 a2 (decide (a0 > 64)))
theorem bch_best.mono_l : ∀ k, (∀ y0 y1 y2 y3, LeO (bch_best.j0 k y0 y1 y2 y3) (bch_best.j0 (k + 1) y0 y1 y2 y3)) ∧ (∀ y0 y1 y2 y3 y4 y5 y6 y7 y8 y9 y10, LeO (bch_best.l0 k y0 y1 y2 y3 y4 y5 y6 y7 y8 y9 y10) (bch_best.l0 (k + 1) y0 y1 y2 y3 y4 y5 y6 y7 y8 y9 y10)) ∧ (∀ y0 y1 y2 y3 y4 y5 y6 y7 y8 y9 y10 y11 y12 y13 y14, LeO (bch_best.l1 k y0 y1 y2 y3 y4 y5 y6 y7 y8 y9 y10 y11 y12 y13 y14) (bch_best.l1 (k + 1) y0 y1 y2 y3 y4 y5 y6 y7 y8 y9 y10 y11 y12 y13 y14)) ∧ (∀ y0 y1 y2 y3 y4 y5 y6 y7 y8 y9 y10 y11 y12 y13 y14 y15 y16, LeO (bch_best.j3 k y0 y1 y2 y3 y4 y5 y6 y7 y8 y9 y10 y11 y12 y13 y14 y15 y16) (bch_best.j3 (k + 1) y0 y1 y2 y3 y4 y5 y6 y7 y8 y9 y10 y11 y12 y13 y14 y15 y16)) ∧ (∀ y0 y1 y2 y3 y4 y5 y6 y7 y8 y9 y10 y11 y12 y13 y14 y15 y16 y17, LeO (bch_best.l2 k y0 y1 y2 y3 y4 y5 y6 y7 y8 y9 y10 y11 y12 y13 y14 y15 y16 y17) (bch_best.l2 (k + 1) y0 y1 y2 y3 y4 y5 y6 y7 y8 y9 y10 y11 y12 y13 y14 y15 y16 y17)) ∧ (∀ y0 y1 y2 y3 y4 y5 y6 y7 y8 y9 y10 y11 y12 y13 y14 y15 y16 y17 y18 y19 y20 y21, LeO (bch_best.l3 k y0 y1 y2 y3 y4 y5 y6 y7 y8 y9 y10 y11 y12 y13 y14 y15 y16 y17 y18 y19 y20 y21) (bch_best.l3 (k + 1) y0 y1 y2 y3 y4 y5 y6 y7 y8 y9 y10 y11 y12 y13 y14 y15 y16 y17 y18 y19 y20 y21))
  | 0 => ⟨fun _ _ _ _ r h => by simp [bch_best.j0] at h, fun _ _ _ _ _ _ _ _ _ _ _ r h => by simp [bch_best.l0] at h, fun _ _ _ _ _ _ _ _ _ _ _ _ _ _ _ r h => by simp [bch_best.l1] at h, fun _ _ _ _ _ _ _ _ _ _ _ _ _ _ _ _ _ r h => by simp [bch_best.j3] at h, fun _ _ _ _ _ _ _ _ _ _ _ _ _ _ _ _ _ _ r h => by simp [bch_best.l2] at h, fun _ _ _ _ _ _ _ _ _ _ _ _ _ _ _ _ _ _ _ _ _ _ r h => by simp [bch_best.l3] at h⟩
  | k + 1 => by
    obtain ⟨ih0, ih1, ih2, ih3, ih4, ih5⟩ := bch_best.mono_l k
    refine ⟨?_, ?_, ?_, ?_, ?_, ?_⟩
    · intro y0 y1 y2 y3
      unfold bch_best.j0
      repeat' first
      | (with_reducible exact ih0 _ _ _ _)
      | (with_reducible exact ih1 _ _ _ _ _ _ _ _ _ _ _)
      | (with_reducible exact ih2 _ _ _ _ _ _ _ _ _ _ _ _ _ _ _)
      | (with_reducible exact ih3 _ _ _ _ _ _ _ _ _ _ _ _ _ _ _ _ _)
      | (with_reducible exact ih4 _ _ _ _ _ _ _ _ _ _ _ _ _ _ _ _ _ _)
      | (with_reducible exact ih5 _ _ _ _ _ _ _ _ _ _ _ _ _ _ _ _ _ _ _ _ _ _)
      | (with_reducible exact bch_consecutive.mono _ _ _)
      | (with_reducible exact bch_divisor.mono _ _ _)
      | (with_reducible exact bch_members.mono _ _ _)
      | (with_reducible exact LeO.refl _)
      | (with_reducible exact LeO.none _)
      | (with_reducible refine LeO.ite ?_ ?_)
      | (with_reducible refine LeO.bind ?_ (fun _ => ?_))
      | exact ih0 _ _ _ _
      | exact ih1 _ _ _ _ _ _ _ _ _ _ _
      | exact ih2 _ _ _ _ _ _ _ _ _ _ _ _ _ _ _
      | exact ih3 _ _ _ _ _ _ _ _ _ _ _ _ _ _ _ _ _
      | exact ih4 _ _ _ _ _ _ _ _ _ _ _ _ _ _ _ _ _ _
      | exact ih5 _ _ _ _ _ _ _ _ _ _ _ _ _ _ _ _ _ _ _ _ _ _
      | exact bch_consecutive.mono _ _ _
      | exact bch_divisor.mono _ _ _
      | exact bch_members.mono _ _ _
      | exact LeO.none _
      | refine LeO.ite ?_ ?_
      | refine LeO.bind ?_ (fun _ => ?_)
    · intro y0 y1 y2 y3 y4 y5 y6 y7 y8 y9 y10
      unfold bch_best.l0
      repeat' first
      | (with_reducible exact ih0 _ _ _ _)
      | (with_reducible exact ih1 _ _ _ _ _ _ _ _ _ _ _)
      | (with_reducible exact ih2 _ _ _ _ _ _ _ _ _ _ _ _ _ _ _)
      | (with_reducible exact ih3 _ _ _ _ _ _ _ _ _ _ _ _ _ _ _ _ _)
      | (with_reducible exact ih4 _ _ _ _ _ _ _ _ _ _ _ _ _ _ _ _ _ _)
      | (with_reducible exact ih5 _ _ _ _ _ _ _ _ _ _ _ _ _ _ _ _ _ _ _ _ _ _)
      | (with_reducible exact bch_consecutive.mono _ _ _)
      | (with_reducible exact bch_divisor.mono _ _ _)
      | (with_reducible exact bch_members.mono _ _ _)
      | (with_reducible exact LeO.refl _)
      | (with_reducible exact LeO.none _)
      | (with_reducible refine LeO.ite ?_ ?_)
      | (with_reducible refine LeO.bind ?_ (fun _ => ?_))
      | exact ih0 _ _ _ _
      | exact ih1 _ _ _ _ _ _ _ _ _ _ _
      | exact ih2 _ _ _ _ _ _ _ _ _ _ _ _ _ _ _
      | exact ih3 _ _ _ _ _ _ _ _ _ _ _ _ _ _ _ _ _
      | exact ih4 _ _ _ _ _ _ _ _ _ _ _ _ _ _ _ _ _ _
      | exact ih5 _ _ _ _ _ _ _ _ _ _ _ _ _ _ _ _ _ _ _ _ _ _
      | exact bch_consecutive.mono _ _ _
      | exact bch_divisor.mono _ _ _
      | exact bch_members.mono _ _ _
      | exact LeO.none _
      | refine LeO.ite ?_ ?_
      | refine LeO.bind ?_ (fun _ => ?_)
    · intro y0 y1 y2 y3 y4 y5 y6 y7 y8 y9 y10 y11 y12 y13 y14
      unfold bch_best.l1
      repeat' first
      | (with_reducible exact ih0 _ _ _ _)
      | (with_reducible exact ih1 _ _ _ _ _ _ _ _ _ _ _)
      | (with_reducible exact ih2 _ _ _ _ _ _ _ _ _ _ _ _ _ _ _)
      | (with_reducible exact ih3 _ _ _ _ _ _ _ _ _ _ _ _ _ _ _ _ _)
      | (with_reducible exact ih4 _ _ _ _ _ _ _ _ _ _ _ _ _ _ _ _ _ _)
      | (with_reducible exact ih5 _ _ _ _ _ _ _ _ _ _ _ _ _ _ _ _ _ _ _ _ _ _)
      | (with_reducible exact bch_consecutive.mono _ _ _)
      | (with_reducible exact bch_divisor.mono _ _ _)
      | (with_reducible exact bch_members.mono _ _ _)
      | (with_reducible exact LeO.refl _)
      | (with_reducible exact LeO.none _)
      | (with_reducible refine LeO.ite ?_ ?_)
      | (with_reducible refine LeO.bind ?_ (fun _ => ?_))
      | exact ih0 _ _ _ _
      | exact ih1 _ _ _ _ _ _ _ _ _ _ _
      | exact ih2 _ _ _ _ _ _ _ _ _ _ _ _ _ _ _
      | exact ih3 _ _ _ _ _ _ _ _ _ _ _ _ _ _ _ _ _
      | exact ih4 _ _ _ _ _ _ _ _ _ _ _ _ _ _ _ _ _ _
      | exact ih5 _ _ _ _ _ _ _ _ _ _ _ _ _ _ _ _ _ _ _ _ _ _
      | exact bch_consecutive.mono _ _ _
      | exact bch_divisor.mono _ _ _
      | exact bch_members.mono _ _ _
      | exact LeO.none _
      | refine LeO.ite ?_ ?_
      | refine LeO.bind ?_ (fun _ => ?_)
    · intro y0 y1 y2 y3 y4 y5 y6 y7 y8 y9 y10 y11 y12 y13 y14 y15 y16
      unfold bch_best.j3
      repeat' first
      | (with_reducible exact ih0 _ _ _ _)
      | (with_reducible exact ih1 _ _ _ _ _ _ _ _ _ _ _)
      | (with_reducible exact ih2 _ _ _ _ _ _ _ _ _ _ _ _ _ _ _)
      | (with_reducible exact ih3 _ _ _ _ _ _ _ _ _ _ _ _ _ _ _ _ _)
      | (with_reducible exact ih4 _ _ _ _ _ _ _ _ _ _ _ _ _ _ _ _ _ _)
      | (with_reducible exact ih5 _ _ _ _ _ _ _ _ _ _ _ _ _ _ _ _ _ _ _ _ _ _)
      | (with_reducible exact bch_consecutive.mono _ _ _)
      | (with_reducible exact bch_divisor.mono _ _ _)
      | (with_reducible exact bch_members.mono _ _ _)
      | (with_reducible exact LeO.refl _)
      | (with_reducible exact LeO.none _)
      | (with_reducible refine LeO.ite ?_ ?_)
      | (with_reducible refine LeO.bind ?_ (fun _ => ?_))
      | exact ih0 _ _ _ _
      | exact ih1 _ _ _ _ _ _ _ _ _ _ _
      | exact ih2 _ _ _ _ _ _ _ _ _ _ _ _ _ _ _
      | exact ih3 _ _ _ _ _ _ _ _ _ _ _ _ _ _ _ _ _
      | exact ih4 _ _ _ _ _ _ _ _ _ _ _ _ _ _ _ _ _ _
      | exact ih5 _ _ _ _ _ _ _ _ _ _ _ _ _ _ _ _ _ _ _ _ _ _
      | exact bch_consecutive.mono _ _ _
      | exact bch_divisor.mono _ _ _
      | exact bch_members.mono _ _ _
      | exact LeO.none _
      | refine LeO.ite ?_ ?_
      | refine LeO.bind ?_ (fun _ => ?_)
    · intro y0 y1 y2 y3 y4 y5 y6 y7 y8 y9 y10 y11 y12 y13 y14 y15 y16 y17
      unfold bch_best.l2
      repeat' first
      | (with_reducible exact ih0 _ _ _ _)
      | (with_reducible exact ih1 _ _ _ _ _ _ _ _ _ _ _)
      | (with_reducible exact ih2 _ _ _ _ _ _ _ _ _ _ _ _ _ _ _)
      | (with_reducible exact ih3 _ _ _ _ _ _ _ _ _ _ _ _ _ _ _ _ _)
      | (with_reducible exact ih4 _ _ _ _ _ _ _ _ _ _ _ _ _ _ _ _ _ _)
      | (with_reducible exact ih5 _ _ _ _ _ _ _ _ _ _ _ _ _ _ _ _ _ _ _ _ _ _)
      | (with_reducible exact bch_consecutive.mono _ _ _)
      | (with_reducible exact bch_divisor.mono _ _ _)
      | (with_reducible exact bch_members.mono _ _ _)
      | (with_reducible exact LeO.refl _)
      | (with_reducible exact LeO.none _)
      | (with_reducible refine LeO.ite ?_ ?_)
      | (with_reducible refine LeO.bind ?_ (fun _ => ?_))
      | exact ih0 _ _ _ _
      | exact ih1 _ _ _ _ _ _ _ _ _ _ _
      | exact ih2 _ _ _ _ _ _ _ _ _ _ _ _ _ _ _
      | exact ih3 _ _ _ _ _ _ _ _ _ _ _ _ _ _ _ _ _
      | exact ih4 _ _ _ _ _ _ _ _ _ _ _ _ _ _ _ _ _ _
      | exact ih5 _ _ _ _ _ _ _ _ _ _ _ _ _ _ _ _ _ _ _ _ _ _
      | exact bch_consecutive.mono _ _ _
      | exact bch_divisor.mono _ _ _
      | exact bch_members.mono _ _ _
      | exact LeO.none _
      | refine LeO.ite ?_ ?_
      | refine LeO.bind ?_ (fun _ => ?_)
    · intro y0 y1 y2 y3 y4 y5 y6 y7 y8 y9 y10 y11 y12 y13 y14 y15 y16 y17 y18 y19 y20 y21
      unfold bch_best.l3
      repeat' first
      | (with_reducible exact ih0 _ _ _ _)
      | (with_reducible exact ih1 _ _ _ _ _ _ _ _ _ _ _)
      | (with_reducible exact ih2 _ _ _ _ _ _ _ _ _ _ _ _ _ _ _)
      | (with_reducible exact ih3 _ _ _ _ _ _ _ _ _ _ _ _ _ _ _ _ _)
      | (with_reducible exact ih4 _ _ _ _ _ _ _ _ _ _ _ _ _ _ _ _ _ _)
      | (with_reducible exact ih5 _ _ _ _ _ _ _ _ _ _ _ _ _ _ _ _ _ _ _ _ _ _)
      | (with_reducible exact bch_consecutive.mono _ _ _)
      | (with_reducible exact bch_divisor.mono _ _ _)
      | (with_reducible exact bch_members.mono _ _ _)
      | (with_reducible exact LeO.refl _)
      | (with_reducible exact LeO.none _)
      | (with_reducible refine LeO.ite ?_ ?_)
      | (with_reducible refine LeO.bind ?_ (fun _ => ?_))
      | exact ih0 _ _ _ _
      | exact ih1 _ _ _ _ _ _ _ _ _ _ _
      | exact ih2 _ _ _ _ _ _ _ _ _ _ _ _ _ _ _
      | exact ih3 _ _ _ _ _ _ _ _ _ _ _ _ _ _ _ _ _
      | exact ih4 _ _ _ _ _ _ _ _ _ _ _ _ _ _ _ _ _ _
      | exact ih5 _ _ _ _ _ _ _ _ _ _ _ _ _ _ _ _ _ _ _ _ _ _
      | exact bch_consecutive.mono _ _ _
      | exact bch_divisor.mono _ _ _
      | exact bch_members.mono _ _ _
      | exact LeO.none _
      | refine LeO.ite ?_ ?_
      | refine LeO.bind ?_ (fun _ => ?_)
theorem bch_best.mono : ∀ a0 a1 a2 k, LeO (bch_best.f k a0 a1 a2) (bch_best.f (k + 1) a0 a1 a2) := by
  intro a0 a1 a2 k
  obtain ⟨ih0, ih1, ih2, ih3, ih4, ih5⟩ := bch_best.mono_l k
  unfold bch_best.f
  repeat' first
      | (with_reducible exact ih0 _ _ _ _)
      | (with_reducible exact ih1 _ _ _ _ _ _ _ _ _ _ _)
      | (with_reducible exact ih2 _ _ _ _ _ _ _ _ _ _ _ _ _ _ _)
      | (with_reducible exact ih3 _ _ _ _ _ _ _ _ _ _ _ _ _ _ _ _ _)
      | (with_reducible exact ih4 _ _ _ _ _ _ _ _ _ _ _ _ _ _ _ _ _ _)
      | (with_reducible exact ih5 _ _ _ _ _ _ _ _ _ _ _ _ _ _ _ _ _ _ _ _ _ _)
      | (with_reducible exact bch_consecutive.mono _ _ _)
      | (with_reducible exact bch_divisor.mono _ _ _)
      | (with_reducible exact bch_members.mono _ _ _)
      | (with_reducible exact LeO.refl _)
      | (with_reducible exact LeO.none _)
      | (with_reducible refine LeO.ite ?_ ?_)
      | (with_reducible refine LeO.bind ?_ (fun _ => ?_))
      | exact ih0 _ _ _ _
      | exact ih1 _ _ _ _ _ _ _ _ _ _ _
      | exact ih2 _ _ _ _ _ _ _ _ _ _ _ _ _ _ _
      | exact ih3 _ _ _ _ _ _ _ _ _ _ _ _ _ _ _ _ _
      | exact ih4 _ _ _ _ _ _ _ _ _ _ _ _ _ _ _ _ _ _
      | exact ih5 _ _ _ _ _ _ _ _ _ _ _ _ _ _ _ _ _ _ _ _ _ _
      | exact bch_consecutive.mono _ _ _
      | exact bch_divisor.mono _ _ _
      | exact bch_members.mono _ _ _
      | exact LeO.none _
      | refine LeO.ite ?_ ?_
      | refine LeO.bind ?_ (fun _ => ?_)
set_option maxHeartbeats 8000000 in
set_option maxRecDepth 100000 in
theorem bch_best.calls (k : Nat) (a0 : Int) (A1 : Option Addr) (c1 : Nat) (l1 : List Int) (a2 : Int) (r1 : Int) (r2 : Int) (r3 : Int) (r4 : Int) (r5 : Int) (r6 : Int) (r7 : Int) (w : World) (hr1 : Kd.C (Kd.int .i64) w A1 l1.length l1) (hc1 : l1.length ≤ c1) (h : bch_best.f k a0 l1 a2 = some (r1, r2, r3, r4, r5, r6, r7)) :
    Calls Try.prog 34 #[.int .i64 a0, .slice A1 l1.length c1, .int .i64 a2] w fun e w' => e = .returned (.tuple #[.int .i64 r1, .agg #[.int .i64 r2, .int .i64 r3, .int .i64 r4, .int .i64 r5, .int .i64 r6], .int .i64 r7]) ∧ Below w.heap.size w w' := by
  have hu24 := Try.underlying24
  have HR1 := Aside0.mk hr1
  have HC1 := Aside0.mk hc1
  clear hr1 hc1
  have HB := Aside0.mk (Below.refl w.heap.size w)
  have H : (if a0 < 1 then (bch_best.j0 k a0 l1 a2 true) else (bch_best.j0 k a0 l1 a2 (decide (a0 > 64)))) = some (r1, r2, r3, r4, r5, r6, r7) := h
  clear h
  have HC4 := Aside0.mk H
  clear H
  go_enter Try.func34, Try.ntmps34
  go_upto_region 1 with (first | ((with_reducible refine gate_dst (N := 7) rfl ?_); refine box_event ?hg (N := 7) ?hd (cs := #[.int .i64 0, .int .i64 0, .int .i64 0, .int .i64 0, .int .i64 0]) (t := 24) ?hr ?_; (case hd => rfl); (case hg => rfl); (case hr => first | (go_simp; done) | (go_simp; rfl)); intro gb124 hg w5 hbox hb; have n0_ := Aside0.mk (below_step (by repeat (first | (with_reducible first | exact HB.out | apply below_alloc | apply pw_below_drewN | apply below_drew1) | exact HB.out)) hb); have n1_ := Aside0.mk (hbox); have n2_ := Aside0.mk ((by rw [hg]; exact (below_size (by repeat (first | (with_reducible first | exact HB.out | apply below_alloc | apply pw_below_drewN | apply below_drew1) | exact HB.out))) : w.heap.size ≤ gb124)); have n3_ := Aside0.mk ((by rw [hg]; exact (below_size (by repeat (first | (with_reducible first | exact HB.out | apply below_alloc | apply pw_below_drewN | apply below_drew1) | exact HB.out))) : w.heap.size ≤ gb124)); clear HB; have HB := n0_; have BK124 := n1_; have GW124 := n2_; have GE124 := n3_; clear n0_ n1_ n2_ n3_; clear hb hbox hg))
  (try simp only [Act.put, List.setIfInBounds_toArray, List.set_cons_zero, List.set_cons_succ])
  go_cut [23] (fun v23 wc => ∃ (kq : Nat) (x23_3 : Bool), v23 = .bool x23_3 ∧ Aside0 (bch_best.j0 kq a0 l1 a2 x23_3 = some (r1, r2, r3, r4, r5, r6, r7)) ∧ Aside0 (kq ≤ k) ∧ Aside0 (wc.heap[gb124]? = some (.cells #[.int .i64 0, .int .i64 0, .int .i64 0, .int .i64 0, .int .i64 0] 24 (0, 0))) ∧ Aside0 (Below w.heap.size w wc))
  case first =>
    have H := HC4.out
    clear HC4
    by_cases c6 : a0 < 1
    · rw [if_pos c6] at H
      have c6b0 : decide (a0 < 1) = true := decide_eq_true c6
      clear c6
      (first | rw [c6b0] | (simp only [i64_w, i32_w]; rw [c6b0]) | skip)
      have H' := Aside0.mk H
      clear H
      go_wp2
      go_meet
      case rel => exact ⟨_, (true), (by first | rfl | (simp; done) | (simp [*]; done)), H', ⟨by first | omega | exact Nat.le_refl _⟩, ⟨by (with_reducible repeat (first | refine blk_drewN ?_ _ | refine blk_drew ?_ | refine blk_alloc ?_ _)); exact BK124.out⟩, ⟨by repeat (first | (with_reducible first | exact HB.out | apply below_alloc | apply pw_below_drewN | apply below_drew1 | refine below_set ?_ GE124.out) | exact HB.out)⟩⟩
    · rw [if_neg c6] at H
      have c6b0 : decide (a0 < 1) = false := decide_eq_false c6
      clear c6
      (first | rw [c6b0] | (simp only [i64_w, i32_w]; rw [c6b0]) | skip)
      have H' := Aside0.mk H
      clear H
      go_wp2
      go_meet
      case rel => exact ⟨_, (decide (a0 > 64)), (by first | rfl | (simp; done) | (simp [*]; done)), H', ⟨by first | omega | exact Nat.le_refl _⟩, ⟨by (with_reducible repeat (first | refine blk_drewN ?_ _ | refine blk_drew ?_ | refine blk_alloc ?_ _)); exact BK124.out⟩, ⟨by repeat (first | (with_reducible first | exact HB.out | apply below_alloc | apply pw_below_drewN | apply below_drew1 | refine below_set ?_ GE124.out) | exact HB.out)⟩⟩
  case rest =>
    clear HC4
    try clear c1
    try clear p2
    try clear c3
    try clear c6
    try clear c6b0
    obtain ⟨kq, x23_3, rfl, HA, HJ3, BK124, HB⟩ := hcut
    cases kq with
    | zero => exact absurd HA.out (by simp [bch_best.j0])
    | succ kj3 =>
      have H := HA.out
      clear HA
      simp only [bch_best.j0] at H
      by_cases c7 : x23_3 = true
      · subst c7
        have H1 : (some (0, 0, 0, 0, 0, 0, 4)) = some (r1, r2, r3, r4, r5, r6, r7) := by rw [if_pos rfl] at H; exact H
        clear H
        have H := H1
        clear H1
        simp only [Option.some.injEq, Prod.mk.injEq] at H
        obtain ⟨rfl, rfl, rfl, rfl, rfl, rfl, rfl⟩ := H
        have hcz8_0 : wc.cell? ⟨gb124, 0, none⟩ = some (.int .i64 0) := (blk_cell BK124.out 0).trans rfl
        have hcz8_1 : wc.cell? ⟨gb124, 1, none⟩ = some (.int .i64 0) := (blk_cell BK124.out 1).trans rfl
        have hcz8_2 : wc.cell? ⟨gb124, 2, none⟩ = some (.int .i64 0) := (blk_cell BK124.out 2).trans rfl
        have hcz8_3 : wc.cell? ⟨gb124, 3, none⟩ = some (.int .i64 0) := (blk_cell BK124.out 3).trans rfl
        have hcz8_4 : wc.cell? ⟨gb124, 4, none⟩ = some (.int .i64 0) := (blk_cell BK124.out 4).trans rfl
        have hfz8_0 := blk_frozen BK124.out 0
        have hfz8_1 := blk_frozen BK124.out 1
        have hfz8_2 := blk_frozen BK124.out 2
        have hfz8_3 := blk_frozen BK124.out 3
        have hfz8_4 := blk_frozen BK124.out 4
        go_wp2
        refine bodyPost_ret (results_list (rs := [.tmp 6, .cell 7 24, .tmp 8]) rfl (by simp) (.tmp (.cell gb124 24 #[.int .i64 0, .int .i64 0, .int .i64 0, .int .i64 0, .int .i64 0] (0, 0) _ rfl (by (with_reducible repeat (first | refine blk_drewN ?_ _ | refine blk_drew ?_ | refine blk_alloc ?_ _)); refine blk_put (cs := #[.int .i64 0, .int .i64 0, .int .i64 0, .int .i64 0, .int .i64 0]) ?_ 4 _ rfl; (with_reducible repeat (first | refine blk_drewN ?_ _ | refine blk_drew ?_ | refine blk_alloc ?_ _)); refine blk_put (cs := #[.int .i64 0, .int .i64 0, .int .i64 0, .int .i64 0, .int .i64 0]) ?_ 3 _ rfl; (with_reducible repeat (first | refine blk_drewN ?_ _ | refine blk_drew ?_ | refine blk_alloc ?_ _)); refine blk_put (cs := #[.int .i64 0, .int .i64 0, .int .i64 0, .int .i64 0, .int .i64 0]) ?_ 2 _ rfl; (with_reducible repeat (first | refine blk_drewN ?_ _ | refine blk_drew ?_ | refine blk_alloc ?_ _)); refine blk_put (cs := #[.int .i64 0, .int .i64 0, .int .i64 0, .int .i64 0, .int .i64 0]) ?_ 1 _ rfl; (with_reducible repeat (first | refine blk_drewN ?_ _ | refine blk_drew ?_ | refine blk_alloc ?_ _)); refine blk_put (cs := #[.int .i64 0, .int .i64 0, .int .i64 0, .int .i64 0, .int .i64 0]) ?_ 0 _ rfl; (with_reducible repeat (first | refine blk_drewN ?_ _ | refine blk_drew ?_ | refine blk_alloc ?_ _)); exact BK124.out) Try.underlying24 rfl (by kernel_rfl) (.tmp .nil)))) rfl ?_
        exact ⟨by first | rfl | (simp [errW_none, errW_some] <;> rfl) | (simp [*, errW_none, errW_some] <;> rfl), by repeat (first | (with_reducible first | exact HB.out | apply below_alloc | apply pw_below_drewN | apply below_drew1 | refine below_set ?_ GE124.out) | exact HB.out)⟩
      · replace c7 := Bool.eq_false_iff.mpr c7
        subst c7
        have H1 : ((bch_members.f kj3 a0 l1).bind fun t125 => (bch_best.l0 kj3 a0 a2 t125 1 a0 0 0 0 0 0 0)) = some (r1, r2, r3, r4, r5, r6, r7) := by rw [if_neg (show ¬ (false = true) by decide)] at H; exact H
        clear H
        have H := H1
        clear H1
        replace H := Option.bind_eq_some_iff.mp H
        obtain ⟨t125, A90, H⟩ := H
        replace H : (bch_best.l0 kj3 a0 a2 t125 1 a0 0 0 0 0 0 0) = some (r1, r2, r3, r4, r5, r6, r7) := H
        have A9 := Aside0.mk A90
        clear A90
        have H' := Aside0.mk H
        clear H
        go_wp2_with (first | ((with_reducible refine gate_callee (f := 29) rfl ?_); refine goesL_ (some 27) rfl rfl Try.func29 (by kernel_rfl) rfl #[.int .i64 a0, .slice A1 l1.length c1] rfl (by (try simp only [List.map_toArray, List.map_cons, List.map_nil]); first | done | rfl | (simp only [List.length_drop, List.length_take]; rfl)) ?_; (with_reducible refine (bch_members.calls kj3 a0 _ _ l1 t125 _ ?side1 ?side2 A9.out).mono ?_); (case side1 => repeat (first | exact (Kd.C_below HR1.out HB.out) | (with_reducible refine Kd.C_alloc ?_ _) | (with_reducible refine Kd.C_drewN ?_ _) | (with_reducible refine Kd.C_drew ?_))); (case side2 => exact HC1.out); rintro e w10 ⟨v126, rfl, ho0, hb⟩; refine ⟨_, rfl, ?_⟩; have n0_ := Aside0.mk (Kd.R_lower ho0 (below_size (by repeat (first | (with_reducible first | exact HB.out | apply below_alloc | apply pw_below_drewN | apply below_drew1 | refine below_set ?_ GE124.out) | exact HB.out)))); have n1_ := Aside0.mk (blk_below (g := gb124) (o := .cells #[.int .i64 0, .int .i64 0, .int .i64 0, .int .i64 0, .int .i64 0] 24 (0, 0)) (by (with_reducible repeat (first | refine blk_drewN ?_ _ | refine blk_drew ?_ | refine blk_alloc ?_ _)); exact BK124.out) hb); have n2_ := Aside0.mk (below_step (by repeat (first | (with_reducible first | exact HB.out | apply below_alloc | apply pw_below_drewN | apply below_drew1 | refine below_set ?_ GE124.out) | exact HB.out)) hb); clear BK124; clear HB; have HO127 := n0_; have BK124 := n1_; have HB := n2_; clear n0_ n1_ n2_; (try clear hb); (try clear hb2); (try clear hk); (try clear hi); (try clear ho0)) | ((with_reducible refine gate_dst (N := 11) rfl ?_); refine box_event ?hg (N := 11) ?hd (cs := #[.int .i64 0, .int .i64 0, .int .i64 0, .int .i64 0, .int .i64 0]) (t := 24) ?hr ?_; (case hd => rfl); (case hg => rfl); (case hr => first | (go_simp; done) | (go_simp; rfl)); intro gb128 hg w11 hbox hb; have n0_ := Aside0.mk (Kd.R_below (by (with_reducible repeat (first | apply Kd.R_alloc | apply Kd.R_drewN | apply Kd.R_drew)); exact HO127.out) hb); have n1_ := Aside0.mk (blk_below (g := gb124) (o := .cells #[.int .i64 0, .int .i64 0, .int .i64 0, .int .i64 0, .int .i64 0] 24 (0, 0)) (by (with_reducible repeat (first | refine blk_drewN ?_ _ | refine blk_drew ?_ | refine blk_alloc ?_ _)); exact BK124.out) hb); have n2_ := Aside0.mk (below_step (by repeat (first | (with_reducible first | exact HB.out | apply below_alloc | apply pw_below_drewN | apply below_drew1 | refine below_set ?_ GE124.out) | exact HB.out)) hb); have n3_ := Aside0.mk (hbox); have n4_ := Aside0.mk ((by rw [hg]; exact (below_size (by repeat (first | (with_reducible first | exact HB.out | apply below_alloc | apply pw_below_drewN | apply below_drew1 | refine below_set ?_ GE124.out) | exact HB.out))) : w.heap.size ≤ gb128)); have n5_ := Aside0.mk ((by rw [hg]; exact (below_size (by repeat (first | (with_reducible first | exact HB.out | apply below_alloc | apply pw_below_drewN | apply below_drew1 | refine below_set ?_ GE124.out) | exact HB.out))) : w.heap.size ≤ gb128)); have n6_ := Aside0.mk ((by rw [hg]; exact Nat.ne_of_lt (blk_lt (g := gb124) (o := .cells #[.int .i64 0, .int .i64 0, .int .i64 0, .int .i64 0, .int .i64 0] 24 (0, 0)) (by (with_reducible repeat (first | refine blk_drewN ?_ _ | refine blk_drew ?_ | refine blk_alloc ?_ _)); exact BK124.out)) : gb124 ≠ gb128)); have n7_ := Aside0.mk ((by rw [hg]; exact Nat.ne_of_gt (blk_lt (g := gb124) (o := .cells #[.int .i64 0, .int .i64 0, .int .i64 0, .int .i64 0, .int .i64 0] 24 (0, 0)) (by (with_reducible repeat (first | refine blk_drewN ?_ _ | refine blk_drew ?_ | refine blk_alloc ?_ _)); exact BK124.out)) : gb128 ≠ gb124)); clear HO127; clear BK124; clear HB; have HO127 := n0_; have BK124 := n1_; have HB := n2_; have BK128 := n3_; have GW128 := n4_; have GE128 := n5_; have NB124_128 := n6_; have NB128_124 := n7_; clear n0_ n1_ n2_ n3_ n4_ n5_ n6_ n7_; clear hb hbox hg; have hnb12 := NB128_124.out; have hnc12 := NB124_128.out; have hcz13_0 : w11.cell? ⟨gb128, 0, none⟩ = some (.int .i64 0) := (blk_cell BK128.out 0).trans rfl; have hcz13_1 : w11.cell? ⟨gb128, 1, none⟩ = some (.int .i64 0) := (blk_cell BK128.out 1).trans rfl; have hcz13_2 : w11.cell? ⟨gb128, 2, none⟩ = some (.int .i64 0) := (blk_cell BK128.out 2).trans rfl; have hcz13_3 : w11.cell? ⟨gb128, 3, none⟩ = some (.int .i64 0) := (blk_cell BK128.out 3).trans rfl; have hcz13_4 : w11.cell? ⟨gb128, 4, none⟩ = some (.int .i64 0) := (blk_cell BK128.out 4).trans rfl; have hfz13_0 := blk_frozen BK128.out 0; have hfz13_1 := blk_frozen BK128.out 1; have hfz13_2 := blk_frozen BK128.out 2; have hfz13_3 := blk_frozen BK128.out 3; have hfz13_4 := blk_frozen BK128.out 4))
        go_loopg [10, 30] kj3 (fun kq v10 v30 w' => ∃ (x10_2 : Int) (x30_2 : Int) (x129000_2 : Int) (x129001_2 : Int) (x129002_2 : Int) (x129003_2 : Int) (x129004_2 : Int), v10 = .int .i64 x10_2 ∧ v30 = .int .i64 x30_2 ∧ Aside0 (bch_best.l0 kq a0 a2 t125 x10_2 a0 x30_2 x129000_2 x129001_2 x129002_2 x129003_2 x129004_2 = some (r1, r2, r3, r4, r5, r6, r7)) ∧ Aside0 (kq ≤ kj3) ∧ Aside0 (Kd.R Kd.bool 4 w' w.heap.size (fun _ => True) v126 t125) ∧ Aside0 (w'.heap[gb124]? = some (.cells #[.int .i64 0, .int .i64 0, .int .i64 0, .int .i64 0, .int .i64 0] 24 (0, 0))) ∧ Aside0 (w'.heap[gb128]? = some (.cells #[.int .i64 x129000_2, .int .i64 x129001_2, .int .i64 x129002_2, .int .i64 x129003_2, .int .i64 x129004_2] 24 (0, 0))) ∧ Aside0 (Below w.heap.size w w'))
        case atStart => exact ⟨(1), (0), (0), (0), (0), (0), (0), (by first | rfl | (simp; done) | (simp [*]; done)), (by first | rfl | (simp; done) | (simp [*]; done)), H', ⟨Nat.le_refl _⟩, ⟨by (with_reducible repeat (first | apply Kd.R_alloc | apply Kd.R_drewN | apply Kd.R_drew)); exact Kd.R_mono (Kd.R_far (p := ⟨gb128, 4, none⟩) (Kd.R_far (p := ⟨gb128, 3, none⟩) (Kd.R_far (p := ⟨gb128, 2, none⟩) (Kd.R_far (p := ⟨gb128, 1, none⟩) (Kd.R_far (p := ⟨gb128, 0, none⟩) (Kd.R_types HO127.out BK128.out (by decide)) (fun _ hk => hk.2) (.int .i64 0)) (fun _ hk => hk.2) (.int .i64 0)) (fun _ hk => hk.2) (.int .i64 0)) (fun _ hk => hk.2) (.int .i64 0)) (fun _ hk => hk.2) (.int .i64 0)) (fun _ hk => trivial)⟩, ⟨by (with_reducible repeat (first | refine blk_drewN ?_ _ | refine blk_drew ?_ | refine blk_alloc ?_ _)); refine blk_far ?_ NB124_128.out _; (with_reducible repeat (first | refine blk_drewN ?_ _ | refine blk_drew ?_ | refine blk_alloc ?_ _)); refine blk_far ?_ NB124_128.out _; (with_reducible repeat (first | refine blk_drewN ?_ _ | refine blk_drew ?_ | refine blk_alloc ?_ _)); refine blk_far ?_ NB124_128.out _; (with_reducible repeat (first | refine blk_drewN ?_ _ | refine blk_drew ?_ | refine blk_alloc ?_ _)); refine blk_far ?_ NB124_128.out _; (with_reducible repeat (first | refine blk_drewN ?_ _ | refine blk_drew ?_ | refine blk_alloc ?_ _)); refine blk_far ?_ NB124_128.out _; (with_reducible repeat (first | refine blk_drewN ?_ _ | refine blk_drew ?_ | refine blk_alloc ?_ _)); exact BK124.out⟩, ⟨by (with_reducible repeat (first | refine blk_drewN ?_ _ | refine blk_drew ?_ | refine blk_alloc ?_ _)); refine blk_put (cs := #[.int .i64 0, .int .i64 0, .int .i64 0, .int .i64 0, .int .i64 0]) ?_ 4 _ rfl; (with_reducible repeat (first | refine blk_drewN ?_ _ | refine blk_drew ?_ | refine blk_alloc ?_ _)); refine blk_put (cs := #[.int .i64 0, .int .i64 0, .int .i64 0, .int .i64 0, .int .i64 0]) ?_ 3 _ rfl; (with_reducible repeat (first | refine blk_drewN ?_ _ | refine blk_drew ?_ | refine blk_alloc ?_ _)); refine blk_put (cs := #[.int .i64 0, .int .i64 0, .int .i64 0, .int .i64 0, .int .i64 0]) ?_ 2 _ rfl; (with_reducible repeat (first | refine blk_drewN ?_ _ | refine blk_drew ?_ | refine blk_alloc ?_ _)); refine blk_put (cs := #[.int .i64 0, .int .i64 0, .int .i64 0, .int .i64 0, .int .i64 0]) ?_ 1 _ rfl; (with_reducible repeat (first | refine blk_drewN ?_ _ | refine blk_drew ?_ | refine blk_alloc ?_ _)); refine blk_put (cs := #[.int .i64 0, .int .i64 0, .int .i64 0, .int .i64 0, .int .i64 0]) ?_ 0 _ rfl; (with_reducible repeat (first | refine blk_drewN ?_ _ | refine blk_drew ?_ | refine blk_alloc ?_ _)); exact BK128.out⟩, ⟨by repeat (first | (with_reducible first | exact HB.out | apply below_alloc | apply pw_below_drewN | apply below_drew1 | refine below_set ?_ GE124.out | refine below_set ?_ GE128.out) | exact HB.out)⟩⟩
        case round =>
          clear H'
          try clear c1
          try clear c2
          try clear p2
          try clear c3
          try clear c6
          try clear c6b0
          try clear c7
          try clear c12
          try clear hcz13_0
          try clear hcz13_1
          try clear hcz13_2
          try clear hcz13_3
          try clear hcz13_4
          try clear hcz8_0
          try clear hcz8_1
          try clear hcz8_2
          try clear hcz8_3
          try clear hcz8_4
          try clear hfz13_0
          try clear hfz13_1
          try clear hfz13_2
          try clear hfz13_3
          try clear hfz13_4
          try clear hfz8_0
          try clear hfz8_1
          try clear hfz8_2
          try clear hfz8_3
          try clear hfz8_4
          try clear p2
          obtain ⟨x10_2, x30_2, x129000_2, x129001_2, x129002_2, x129003_2, x129004_2, rfl, rfl, HA, HK2, HO_9, BK124, BK128, HB⟩ := hrel
          cases gk with
          | zero => exact absurd HA.out (by simp [bch_best.l0])
          | succ k2 =>
            have H := HA.out
            clear HA
            simp only [bch_best.l0] at H
            by_cases c14 : x30_2 < a0
            · rw [if_pos c14] at H
              have c14b0 : decide (x30_2 < a0) = true := decide_eq_true c14
              clear c14
              replace H := Option.bind_eq_some_iff.mp H
              obtain ⟨t129, A150, H⟩ := H
              replace H : (if t129 = 1 then ((bch_consecutive.f k2 t125 x30_2).bind fun t130 => (bch_best.l1 k2 a0 a2 t125 x10_2 x30_2 t130 a0 x30_2 a0 0 x129000_2 x129001_2 x129002_2 x129003_2 x129004_2)) else (bch_best.l0 k2 a0 a2 t125 x10_2 a0 (wrap64 (x30_2 + 1)) x129000_2 x129001_2 x129002_2 x129003_2 x129004_2)) = some (r1, r2, r3, r4, r5, r6, r7) := H
              have A15 := Aside0.mk A150
              clear A150
              by_cases c16 : t129 = 1
              · rw [if_pos c16] at H
                have c16b0 : (t129 == 1) = true := beq_iff_eq.mpr c16
                have c16b1 : (t129 != 1) = false := bne_eq_false_iff_eq.mpr c16
                clear c16
                replace H := Option.bind_eq_some_iff.mp H
                obtain ⟨t130, A170, H⟩ := H
                replace H : (bch_best.l1 k2 a0 a2 t125 x10_2 x30_2 t130 a0 x30_2 a0 0 x129000_2 x129001_2 x129002_2 x129003_2 x129004_2) = some (r1, r2, r3, r4, r5, r6, r7) := H
                have A17 := Aside0.mk A170
                clear A170
                have H' := Aside0.mk H
                clear H
                go_wp2_with (first | ((with_reducible refine gate_callee (f := 28) rfl ?_); refine goesL_ (some 35) rfl rfl Try.func28 (by kernel_rfl) rfl #[.int .i64 x30_2, .int .i64 a0] rfl (by (try simp only [List.map_toArray, List.map_cons, List.map_nil]); first | done | rfl | (simp only [List.length_drop, List.length_take]; rfl)) ?_; (with_reducible refine (bch_divisor.calls k2 x30_2 a0 t129 _ A15.out).mono ?_); rintro e w18 ⟨rfl, hb⟩; refine ⟨_, rfl, ?_⟩; have n0_ := Aside0.mk (Kd.R_below (by (with_reducible repeat (first | apply Kd.R_alloc | apply Kd.R_drewN | apply Kd.R_drew)); exact HO_9.out) hb); have n1_ := Aside0.mk (blk_below (g := gb124) (o := .cells #[.int .i64 0, .int .i64 0, .int .i64 0, .int .i64 0, .int .i64 0] 24 (0, 0)) (by (with_reducible repeat (first | refine blk_drewN ?_ _ | refine blk_drew ?_ | refine blk_alloc ?_ _)); exact BK124.out) hb); have n2_ := Aside0.mk (blk_below (g := gb128) (o := .cells #[.int .i64 x129000_2, .int .i64 x129001_2, .int .i64 x129002_2, .int .i64 x129003_2, .int .i64 x129004_2] 24 (0, 0)) (by (with_reducible repeat (first | refine blk_drewN ?_ _ | refine blk_drew ?_ | refine blk_alloc ?_ _)); exact BK128.out) hb); have n3_ := Aside0.mk (below_step (by repeat (first | (with_reducible first | exact HB.out | apply below_alloc | apply pw_below_drewN | apply below_drew1 | refine below_set ?_ GE124.out | refine below_set ?_ GE128.out) | exact HB.out)) hb); clear HO_9; clear BK124; clear BK128; clear HB; have HO_9 := n0_; have BK124 := n1_; have BK128 := n2_; have HB := n3_; clear n0_ n1_ n2_ n3_; (try clear hb); (try clear hb2); (try clear hk); (try clear hi); obtain ⟨Ao19, co19, eo19⟩ := Kd.R_slice HO_9.out; subst eo19) | ((with_reducible refine gate_callee (f := 61) rfl ?_); refine goesL_ (some 39) rfl rfl Try.func61 (by kernel_rfl) rfl #[.slice Ao19 t125.length co19, .int .i64 x30_2] rfl (by (try simp only [List.map_toArray, List.map_cons, List.map_nil]); first | done | rfl | (simp only [List.length_drop, List.length_take]; rfl)) ?_; (with_reducible refine (bch_consecutive.calls k2 _ _ t125 x30_2 t130 _ ?side1 ?side2 A17.out).mono ?_); (case side1 => repeat (first | exact (Kd.R_reads' HO_9.out).2.2 | (with_reducible refine Kd.C_alloc ?_ _) | (with_reducible refine Kd.C_drewN ?_ _) | (with_reducible refine Kd.C_drew ?_))); (case side2 => exact (Kd.R_reads' HO_9.out).2.1); rintro e w20 ⟨v131, rfl, ho0, hb⟩; refine ⟨_, rfl, ?_⟩; have n0_ := Aside0.mk (Kd.R_below (by (with_reducible repeat (first | apply Kd.R_alloc | apply Kd.R_drewN | apply Kd.R_drew)); exact HO_9.out) hb); have n1_ := Aside0.mk (Kd.R_lower ho0 (below_size (by repeat (first | (with_reducible first | exact HB.out | apply below_alloc | apply pw_below_drewN | apply below_drew1 | refine below_set ?_ GE124.out | refine below_set ?_ GE128.out) | exact HB.out)))); have n2_ := Aside0.mk (blk_below (g := gb124) (o := .cells #[.int .i64 0, .int .i64 0, .int .i64 0, .int .i64 0, .int .i64 0] 24 (0, 0)) (by (with_reducible repeat (first | refine blk_drewN ?_ _ | refine blk_drew ?_ | refine blk_alloc ?_ _)); exact BK124.out) hb); have n3_ := Aside0.mk (blk_below (g := gb128) (o := .cells #[.int .i64 x129000_2, .int .i64 x129001_2, .int .i64 x129002_2, .int .i64 x129003_2, .int .i64 x129004_2] 24 (0, 0)) (by (with_reducible repeat (first | refine blk_drewN ?_ _ | refine blk_drew ?_ | refine blk_alloc ?_ _)); exact BK128.out) hb); have n4_ := Aside0.mk (below_step (by repeat (first | (with_reducible first | exact HB.out | apply below_alloc | apply pw_below_drewN | apply below_drew1 | refine below_set ?_ GE124.out | refine below_set ?_ GE128.out) | exact HB.out)) hb); clear HO_9; clear BK124; clear BK128; clear HB; have HO_9 := n0_; have HO132 := n1_; have BK124 := n2_; have BK128 := n3_; have HB := n4_; clear n0_ n1_ n2_ n3_ n4_; (try clear hb); (try clear hb2); (try clear hk); (try clear hi); (try clear ho0)))
                go_loopg [10, 41] k2 (fun kq v10 v41 w' => ∃ (x10_3 : Int) (x41_3 : Int) (x129000_3 : Int) (x129001_3 : Int) (x129002_3 : Int) (x129003_3 : Int) (x129004_3 : Int), v10 = .int .i64 x10_3 ∧ v41 = .int .i64 x41_3 ∧ Aside0 (bch_best.l1 kq a0 a2 t125 x10_3 x30_2 t130 a0 x30_2 a0 x41_3 x129000_3 x129001_3 x129002_3 x129003_3 x129004_3 = some (r1, r2, r3, r4, r5, r6, r7)) ∧ Aside0 (kq ≤ k2) ∧ Aside0 (Kd.R Kd.bool 4 w' w.heap.size (fun _ => True) (.slice Ao19 t125.length co19) t125) ∧ Aside0 (Kd.R (Kd.int .i64) 3 w' w.heap.size (fun _ => True) v131 t130) ∧ Aside0 (w'.heap[gb124]? = some (.cells #[.int .i64 0, .int .i64 0, .int .i64 0, .int .i64 0, .int .i64 0] 24 (0, 0))) ∧ Aside0 (w'.heap[gb128]? = some (.cells #[.int .i64 x129000_3, .int .i64 x129001_3, .int .i64 x129002_3, .int .i64 x129003_3, .int .i64 x129004_3] 24 (0, 0))) ∧ Aside0 (Below w.heap.size w w'))
                case atStart => exact ⟨(x10_2), (0), (x129000_2), (x129001_2), (x129002_2), (x129003_2), (x129004_2), (by first | rfl | (simp; done) | (simp [*]; done)), (by first | rfl | (simp; done) | (simp [*]; done)), H', ⟨Nat.le_refl _⟩, ⟨by (with_reducible repeat (first | apply Kd.R_alloc | apply Kd.R_drewN | apply Kd.R_drew)); exact HO_9.out⟩, ⟨by (with_reducible repeat (first | apply Kd.R_alloc | apply Kd.R_drewN | apply Kd.R_drew)); exact HO132.out⟩, ⟨by (with_reducible repeat (first | refine blk_drewN ?_ _ | refine blk_drew ?_ | refine blk_alloc ?_ _)); exact BK124.out⟩, ⟨by (with_reducible repeat (first | refine blk_drewN ?_ _ | refine blk_drew ?_ | refine blk_alloc ?_ _)); exact BK128.out⟩, ⟨by repeat (first | (with_reducible first | exact HB.out | apply below_alloc | apply pw_below_drewN | apply below_drew1 | refine below_set ?_ GE124.out | refine below_set ?_ GE128.out) | exact HB.out)⟩⟩
                case round =>
                  clear H'
                  try clear c1
                  try clear c2
                  try clear p2
                  try clear c3
                  try clear c6
                  try clear c6b0
                  try clear p6
                  try clear c7
                  try clear c12
                  try clear c14
                  try clear c14b0
                  try clear c16
                  try clear c16b0
                  try clear c16b1
                  try clear hcz13_0
                  try clear hcz13_1
                  try clear hcz13_2
                  try clear hcz13_3
                  try clear hcz13_4
                  try clear hcz8_0
                  try clear hcz8_1
                  try clear hcz8_2
                  try clear hcz8_3
                  try clear hcz8_4
                  try clear hfz13_0
                  try clear hfz13_1
                  try clear hfz13_2
                  try clear hfz13_3
                  try clear hfz13_4
                  try clear hfz8_0
                  try clear hfz8_1
                  try clear hfz8_2
                  try clear hfz8_3
                  try clear hfz8_4
                  try clear p2
                  obtain ⟨x10_3, x41_3, x129000_3, x129001_3, x129002_3, x129003_3, x129004_3, rfl, rfl, HA, HK3, HO_9, HO_13, BK124, BK128, HB⟩ := hrel
                  cases gk with
                  | zero => exact absurd HA.out (by simp [bch_best.l1])
                  | succ k3 =>
                    have H := HA.out
                    clear HA
                    simp only [bch_best.l1] at H
                    by_cases c21 : x41_3 < a0
                    · rw [if_pos c21] at H
                      have c21b0 : decide (x41_3 < a0) = true := decide_eq_true c21
                      clear c21
                      have HC22 := Aside0.mk H
                      clear H
                      go_upto_region 13 with (fail)
                      go_cut [49] (fun v49 wc => ∃ (kq : Nat) (x49_21 : Bool), v49 = .bool x49_21 ∧ Aside0 (bch_best.j3 kq a0 a2 t125 x10_3 x30_2 t130 x41_3 a0 x30_2 a0 x41_3 x49_21 x129000_3 x129001_3 x129002_3 x129003_3 x129004_3 = some (r1, r2, r3, r4, r5, r6, r7)) ∧ Aside0 (kq ≤ k3) ∧ Aside0 (Kd.R Kd.bool 4 wc w.heap.size (fun _ => True) (.slice Ao19 t125.length co19) t125) ∧ Aside0 (Kd.R (Kd.int .i64) 3 wc w.heap.size (fun _ => True) v131 t130) ∧ Aside0 (wc.heap[gb124]? = some (.cells #[.int .i64 0, .int .i64 0, .int .i64 0, .int .i64 0, .int .i64 0] 24 (0, 0))) ∧ Aside0 (wc.heap[gb128]? = some (.cells #[.int .i64 x129000_3, .int .i64 x129001_3, .int .i64 x129002_3, .int .i64 x129003_3, .int .i64 x129004_3] 24 (0, 0))) ∧ Aside0 (Below w.heap.size w wc))
                      case first =>
                        have H := HC22.out
                        clear HC22
                        by_cases c23 : a2 = 0
                        · rw [if_pos c23] at H
                          have c23b0 : (a2 == 0) = true := beq_iff_eq.mpr c23
                          have c23b1 : (a2 != 0) = false := bne_eq_false_iff_eq.mpr c23
                          clear c23
                          (first | rw [c23b0] | (simp only [i64_w, i32_w]; rw [c23b0]) | skip)
                          have H' := Aside0.mk H
                          clear H
                          go_wp2
                          go_meet
                          case rel => exact ⟨_, (decide (x41_3 > 0)), (by first | rfl | (simp; done) | (simp [*]; done)), H', ⟨by have := HJ3.out; have := HK2.out; have := HK3.out; first | omega | exact Nat.le_refl _⟩, ⟨by (with_reducible repeat (first | apply Kd.R_alloc | apply Kd.R_drewN | apply Kd.R_drew)); exact HO_9.out⟩, ⟨by (with_reducible repeat (first | apply Kd.R_alloc | apply Kd.R_drewN | apply Kd.R_drew)); exact HO_13.out⟩, ⟨by (with_reducible repeat (first | refine blk_drewN ?_ _ | refine blk_drew ?_ | refine blk_alloc ?_ _)); exact BK124.out⟩, ⟨by (with_reducible repeat (first | refine blk_drewN ?_ _ | refine blk_drew ?_ | refine blk_alloc ?_ _)); exact BK128.out⟩, ⟨by repeat (first | (with_reducible first | exact HB.out | apply below_alloc | apply pw_below_drewN | apply below_drew1 | refine below_set ?_ GE124.out | refine below_set ?_ GE128.out) | exact HB.out)⟩⟩
                        · rw [if_neg c23] at H
                          have c23b0 : (a2 == 0) = false := beq_eq_false_iff_ne.mpr c23
                          have c23b1 : (a2 != 0) = true := bne_iff_ne.mpr c23
                          (first | rw [c23b0] | (simp only [i64_w, i32_w]; rw [c23b0]) | skip)
                          have H' := Aside0.mk H
                          clear H
                          go_wp2
                          go_meet
                          case rel => exact ⟨_, (false), (by first | rfl | (simp; done) | (simp [*]; done)), H', ⟨by have := HJ3.out; have := HK2.out; have := HK3.out; first | omega | exact Nat.le_refl _⟩, ⟨by (with_reducible repeat (first | apply Kd.R_alloc | apply Kd.R_drewN | apply Kd.R_drew)); exact HO_9.out⟩, ⟨by (with_reducible repeat (first | apply Kd.R_alloc | apply Kd.R_drewN | apply Kd.R_drew)); exact HO_13.out⟩, ⟨by (with_reducible repeat (first | refine blk_drewN ?_ _ | refine blk_drew ?_ | refine blk_alloc ?_ _)); exact BK124.out⟩, ⟨by (with_reducible repeat (first | refine blk_drewN ?_ _ | refine blk_drew ?_ | refine blk_alloc ?_ _)); exact BK128.out⟩, ⟨by repeat (first | (with_reducible first | exact HB.out | apply below_alloc | apply pw_below_drewN | apply below_drew1 | refine below_set ?_ GE124.out | refine below_set ?_ GE128.out) | exact HB.out)⟩⟩
                      case rest =>
                        clear HC22
                        try clear c1
                        try clear c2
                        try clear p2
                        try clear c3
                        try clear c6
                        try clear c6b0
                        try clear p6
                        try clear c7
                        try clear c12
                        try clear c14
                        try clear c14b0
                        try clear c16
                        try clear c16b0
                        try clear c16b1
                        try clear c21
                        try clear c21b0
                        try clear c23
                        try clear c23b0
                        try clear c23b1
                        try clear hcz13_0
                        try clear hcz13_1
                        try clear hcz13_2
                        try clear hcz13_3
                        try clear hcz13_4
                        try clear hcz8_0
                        try clear hcz8_1
                        try clear hcz8_2
                        try clear hcz8_3
                        try clear hcz8_4
                        try clear hfz13_0
                        try clear hfz13_1
                        try clear hfz13_2
                        try clear hfz13_3
                        try clear hfz13_4
                        try clear hfz8_0
                        try clear hfz8_1
                        try clear hfz8_2
                        try clear hfz8_3
                        try clear hfz8_4
                        try clear p2
                        try clear p6
                        obtain ⟨kq, x49_21, rfl, HA, HJ21, HO_9, HO_13, BK124, BK128, HB⟩ := hcut
                        cases kq with
                        | zero => exact absurd HA.out (by simp [bch_best.j3])
                        | succ kj21 =>
                          have H := HA.out
                          clear HA
                          simp only [bch_best.j3] at H
                          by_cases c24 : x49_21 = true
                          · subst c24
                            have H1 : (bch_best.l0 kj21 a0 a2 t125 x10_3 a0 (wrap64 (x30_2 + 1)) x129000_3 x129001_3 x129002_3 x129003_3 x129004_3) = some (r1, r2, r3, r4, r5, r6, r7) := by rw [if_pos rfl] at H; exact H
                            clear H
                            have H := H1
                            clear H1
                            have H' := Aside0.mk H
                            clear H
                            go_wp2
                            go_roundg kj21
                            case measure => have := HJ3.out; have := HK2.out; have := HK3.out; have := HJ21.out; omega
                            case rel => exact ⟨(x10_3), (wrap64 (x30_2 + 1)), (x129000_3), (x129001_3), (x129002_3), (x129003_3), (x129004_3), (by first | rfl | (simp; done) | (simp [*]; done)), (by first | rfl | (simp; done) | (simp [*]; done)), H', ⟨by have := HJ3.out; have := HK2.out; have := HK3.out; have := HJ21.out; omega⟩, ⟨by (with_reducible repeat (first | apply Kd.R_alloc | apply Kd.R_drewN | apply Kd.R_drew)); exact HO_9.out⟩, ⟨by (with_reducible repeat (first | refine blk_drewN ?_ _ | refine blk_drew ?_ | refine blk_alloc ?_ _)); exact BK124.out⟩, ⟨by (with_reducible repeat (first | refine blk_drewN ?_ _ | refine blk_drew ?_ | refine blk_alloc ?_ _)); exact BK128.out⟩, ⟨by repeat (first | (with_reducible first | exact HB.out | apply below_alloc | apply pw_below_drewN | apply below_drew1 | refine below_set ?_ GE124.out | refine below_set ?_ GE128.out) | exact HB.out)⟩⟩
                          · replace c24 := Bool.eq_false_iff.mpr c24
                            subst c24
                            have H1 : (bch_best.l2 kj21 a0 a2 t125 x10_3 x30_2 t130 x41_3 a0 x30_2 a0 x41_3 a0 0 x129000_3 x129001_3 x129002_3 x129003_3 x129004_3) = some (r1, r2, r3, r4, r5, r6, r7) := by rw [if_neg (show ¬ (false = true) by decide)] at H; exact H
                            clear H
                            have H := H1
                            clear H1
                            have H' := Aside0.mk H
                            clear H
                            go_wp2
                            go_loopg [10, 51] kj21 (fun kq v10 v51 w' => ∃ (x10_5 : Int) (x51_5 : Int) (x129000_5 : Int) (x129001_5 : Int) (x129002_5 : Int) (x129003_5 : Int) (x129004_5 : Int), v10 = .int .i64 x10_5 ∧ v51 = .int .i64 x51_5 ∧ Aside0 (bch_best.l2 kq a0 a2 t125 x10_5 x30_2 t130 x41_3 a0 x30_2 a0 x41_3 a0 x51_5 x129000_5 x129001_5 x129002_5 x129003_5 x129004_5 = some (r1, r2, r3, r4, r5, r6, r7)) ∧ Aside0 (kq ≤ kj21) ∧ Aside0 (Kd.R Kd.bool 4 w' w.heap.size (fun _ => True) (.slice Ao19 t125.length co19) t125) ∧ Aside0 (Kd.R (Kd.int .i64) 3 w' w.heap.size (fun _ => True) v131 t130) ∧ Aside0 (w'.heap[gb124]? = some (.cells #[.int .i64 0, .int .i64 0, .int .i64 0, .int .i64 0, .int .i64 0] 24 (0, 0))) ∧ Aside0 (w'.heap[gb128]? = some (.cells #[.int .i64 x129000_5, .int .i64 x129001_5, .int .i64 x129002_5, .int .i64 x129003_5, .int .i64 x129004_5] 24 (0, 0))) ∧ Aside0 (Below w.heap.size w w'))
                            case atStart => exact ⟨(x10_3), (0), (x129000_3), (x129001_3), (x129002_3), (x129003_3), (x129004_3), (by first | rfl | (simp; done) | (simp [*]; done)), (by first | rfl | (simp; done) | (simp [*]; done)), H', ⟨Nat.le_refl _⟩, ⟨by (with_reducible repeat (first | apply Kd.R_alloc | apply Kd.R_drewN | apply Kd.R_drew)); exact HO_9.out⟩, ⟨by (with_reducible repeat (first | apply Kd.R_alloc | apply Kd.R_drewN | apply Kd.R_drew)); exact HO_13.out⟩, ⟨by (with_reducible repeat (first | refine blk_drewN ?_ _ | refine blk_drew ?_ | refine blk_alloc ?_ _)); exact BK124.out⟩, ⟨by (with_reducible repeat (first | refine blk_drewN ?_ _ | refine blk_drew ?_ | refine blk_alloc ?_ _)); exact BK128.out⟩, ⟨by repeat (first | (with_reducible first | exact HB.out | apply below_alloc | apply pw_below_drewN | apply below_drew1 | refine below_set ?_ GE124.out | refine below_set ?_ GE128.out) | exact HB.out)⟩⟩
                            case round =>
                              clear H'
                              try clear c1
                              try clear c2
                              try clear p2
                              try clear c3
                              try clear c6
                              try clear c6b0
                              try clear p6
                              try clear c7
                              try clear c12
                              try clear c14
                              try clear c14b0
                              try clear c16
                              try clear c16b0
                              try clear c16b1
                              try clear c21
                              try clear c21b0
                              try clear c23
                              try clear c23b0
                              try clear c23b1
                              try clear c24
                              try clear hcz13_0
                              try clear hcz13_1
                              try clear hcz13_2
                              try clear hcz13_3
                              try clear hcz13_4
                              try clear hcz8_0
                              try clear hcz8_1
                              try clear hcz8_2
                              try clear hcz8_3
                              try clear hcz8_4
                              try clear hfz13_0
                              try clear hfz13_1
                              try clear hfz13_2
                              try clear hfz13_3
                              try clear hfz13_4
                              try clear hfz8_0
                              try clear hfz8_1
                              try clear hfz8_2
                              try clear hfz8_3
                              try clear hfz8_4
                              try clear p2
                              try clear p6
                              obtain ⟨x10_5, x51_5, x129000_5, x129001_5, x129002_5, x129003_5, x129004_5, rfl, rfl, HA, HK5, HO_9, HO_13, BK124, BK128, HB⟩ := hrel
                              cases gk with
                              | zero => exact absurd HA.out (by simp [bch_best.l2])
                              | succ k5 =>
                                have H := HA.out
                                clear HA
                                simp only [bch_best.l2] at H
                                by_cases c25 : x51_5 < a0
                                · rw [if_pos c25] at H
                                  have c25b0 : decide (x51_5 < a0) = true := decide_eq_true c25
                                  clear c25
                                  have H' := Aside0.mk H
                                  clear H
                                  go_wp2
                                  go_loopg [10, 16, 57] k5 (fun kq v10 v16 v57 w' => ∃ (x10_6 : Int) (x16_6 : Int) (x57_6 : Int) (x129000_6 : Int) (x129001_6 : Int) (x129002_6 : Int) (x129003_6 : Int) (x129004_6 : Int), v10 = .int .i64 x10_6 ∧ v16 = .int .i64 x16_6 ∧ v57 = .int .i64 x57_6 ∧ Aside0 (bch_best.l3 kq a0 a2 t125 x10_6 x30_2 t130 x41_3 x51_5 x16_6 a0 x30_2 a0 x41_3 a0 x51_5 (wrap64 (a2 + 1)) x57_6 x129000_6 x129001_6 x129002_6 x129003_6 x129004_6 = some (r1, r2, r3, r4, r5, r6, r7)) ∧ Aside0 (kq ≤ k5) ∧ Aside0 (Kd.R Kd.bool 4 w' w.heap.size (fun _ => True) (.slice Ao19 t125.length co19) t125) ∧ Aside0 (Kd.R (Kd.int .i64) 3 w' w.heap.size (fun _ => True) v131 t130) ∧ Aside0 (w'.heap[gb124]? = some (.cells #[.int .i64 0, .int .i64 0, .int .i64 0, .int .i64 0, .int .i64 0] 24 (0, 0))) ∧ Aside0 (w'.heap[gb128]? = some (.cells #[.int .i64 x129000_6, .int .i64 x129001_6, .int .i64 x129002_6, .int .i64 x129003_6, .int .i64 x129004_6] 24 (0, 0))) ∧ Aside0 (Below w.heap.size w w'))
                                  case atStart => exact ⟨(x10_5), (a0), (0), (x129000_5), (x129001_5), (x129002_5), (x129003_5), (x129004_5), (by first | rfl | (simp; done) | (simp [*]; done)), (by first | rfl | (simp; done) | (simp [*]; done)), (by first | rfl | (simp; done) | (simp [*]; done)), H', ⟨Nat.le_refl _⟩, ⟨by (with_reducible repeat (first | apply Kd.R_alloc | apply Kd.R_drewN | apply Kd.R_drew)); exact HO_9.out⟩, ⟨by (with_reducible repeat (first | apply Kd.R_alloc | apply Kd.R_drewN | apply Kd.R_drew)); exact HO_13.out⟩, ⟨by (with_reducible repeat (first | refine blk_drewN ?_ _ | refine blk_drew ?_ | refine blk_alloc ?_ _)); exact BK124.out⟩, ⟨by (with_reducible repeat (first | refine blk_drewN ?_ _ | refine blk_drew ?_ | refine blk_alloc ?_ _)); exact BK128.out⟩, ⟨by repeat (first | (with_reducible first | exact HB.out | apply below_alloc | apply pw_below_drewN | apply below_drew1 | refine below_set ?_ GE124.out | refine below_set ?_ GE128.out) | exact HB.out)⟩⟩
                                  case round =>
                                    clear H'
                                    try clear c1
                                    try clear c2
                                    try clear p2
                                    try clear c3
                                    try clear c6
                                    try clear c6b0
                                    try clear p6
                                    try clear c7
                                    try clear c12
                                    try clear c14
                                    try clear c14b0
                                    try clear c16
                                    try clear c16b0
                                    try clear c16b1
                                    try clear c21
                                    try clear c21b0
                                    try clear c23
                                    try clear c23b0
                                    try clear c23b1
                                    try clear c24
                                    try clear c25
                                    try clear c25b0
                                    try clear hcz13_0
                                    try clear hcz13_1
                                    try clear hcz13_2
                                    try clear hcz13_3
                                    try clear hcz13_4
                                    try clear hcz8_0
                                    try clear hcz8_1
                                    try clear hcz8_2
                                    try clear hcz8_3
                                    try clear hcz8_4
                                    try clear hfz13_0
                                    try clear hfz13_1
                                    try clear hfz13_2
                                    try clear hfz13_3
                                    try clear hfz13_4
                                    try clear hfz8_0
                                    try clear hfz8_1
                                    try clear hfz8_2
                                    try clear hfz8_3
                                    try clear hfz8_4
                                    try clear p2
                                    try clear p6
                                    obtain ⟨x10_6, x16_6, x57_6, x129000_6, x129001_6, x129002_6, x129003_6, x129004_6, rfl, rfl, rfl, HA, HK6, HO_9, HO_13, BK124, BK128, HB⟩ := hrel
                                    cases gk with
                                    | zero => exact absurd HA.out (by simp [bch_best.l3])
                                    | succ k6 =>
                                      have H := HA.out
                                      clear HA
                                      simp only [bch_best.l3] at H
                                      by_cases c26 : x57_6 < (wrap64 (a2 + 1))
                                      · rw [if_pos c26] at H
                                        have c26b0 : decide (x57_6 < (wrap64 (a2 + 1))) = true := decide_eq_true c26
                                        clear c26
                                        by_cases c27 : a0 = 0
                                        · rw [if_pos c27] at H
                                          exact absurd H (by simp)
                                        · rw [if_neg c27] at H
                                          have c27b0 : (a0 == 0) = false := beq_eq_false_iff_ne.mpr c27
                                          have c27b1 : (a0 != 0) = true := bne_iff_ne.mpr c27
                                          obtain ⟨ji28, hji28⟩ : ∃ j_ : Int, (Int.tmod (wrap64 (x51_5 + (wrap64 (x57_6 * x41_3)))) a0) = j_ := ⟨_, rfl⟩
                                          replace H : (if 0 ≤ (ji28) then (if (ji28) < (t130.length : Int) then (if (mn x16_6 (rd t130 (ji28))) = 0 then (bch_best.l2 k6 a0 a2 t125 x10_6 x30_2 t130 x41_3 a0 x30_2 a0 x41_3 a0 (wrap64 (x51_5 + 1)) x129000_6 x129001_6 x129002_6 x129003_6 x129004_6) else (if (wrap64 ((wrap64 ((mn x16_6 (rd t130 (ji28))) + 1)) + x57_6)) > x10_6 then (if x57_6 = 0 then (bch_best.l3 k6 a0 a2 t125 (wrap64 ((wrap64 ((mn x16_6 (rd t130 (ji28))) + 1)) + x57_6)) x30_2 t130 x41_3 x51_5 (mn x16_6 (rd t130 (ji28))) a0 x30_2 a0 x41_3 a0 x51_5 (wrap64 (a2 + 1)) (wrap64 (x57_6 + 1)) x51_5 x30_2 (mn x16_6 (rd t130 (ji28))) x41_3 x57_6) else ((bch_divisor.f k6 x41_3 a0).bind fun t134 => (if t134 ≤ (mn x16_6 (rd t130 (ji28))) then (bch_best.l3 k6 a0 a2 t125 (wrap64 ((wrap64 ((mn x16_6 (rd t130 (ji28))) + 1)) + x57_6)) x30_2 t130 x41_3 x51_5 (mn x16_6 (rd t130 (ji28))) a0 x30_2 a0 x41_3 a0 x51_5 (wrap64 (a2 + 1)) (wrap64 (x57_6 + 1)) x51_5 x30_2 (mn x16_6 (rd t130 (ji28))) x41_3 x57_6) else (bch_best.l3 k6 a0 a2 t125 x10_6 x30_2 t130 x41_3 x51_5 (mn x16_6 (rd t130 (ji28))) a0 x30_2 a0 x41_3 a0 x51_5 (wrap64 (a2 + 1)) (wrap64 (x57_6 + 1)) x129000_6 x129001_6 x129002_6 x129003_6 x129004_6)))) else (bch_best.l3 k6 a0 a2 t125 x10_6 x30_2 t130 x41_3 x51_5 (mn x16_6 (rd t130 (ji28))) a0 x30_2 a0 x41_3 a0 x51_5 (wrap64 (a2 + 1)) (wrap64 (x57_6 + 1)) x129000_6 x129001_6 x129002_6 x129003_6 x129004_6))) else (none)) else (none)) = some (r1, r2, r3, r4, r5, r6, r7) := by first | (rw [hji28] at H; exact H) | (simp only [hji28] at H ⊢; exact H)
                                          by_cases c29 : 0 ≤ (ji28)
                                          · rw [if_pos c29] at H
                                            have c29b0 : decide (0 ≤ (ji28)) = true := decide_eq_true c29
                                            clear c29
                                            by_cases c30 : (ji28) < (t130.length : Int)
                                            · rw [if_pos c30] at H
                                              have c30b0 : decide ((ji28) < (t130.length : Int)) = true := decide_eq_true c30
                                              clear c30
                                              obtain ⟨ji31, hji31⟩ : ∃ j_ : Int, (mn x16_6 (rd t130 (ji28))) = j_ := ⟨_, rfl⟩
                                              replace H : (if (ji31) = 0 then (bch_best.l2 k6 a0 a2 t125 x10_6 x30_2 t130 x41_3 a0 x30_2 a0 x41_3 a0 (wrap64 (x51_5 + 1)) x129000_6 x129001_6 x129002_6 x129003_6 x129004_6) else (if (wrap64 ((wrap64 ((ji31) + 1)) + x57_6)) > x10_6 then (if x57_6 = 0 then (bch_best.l3 k6 a0 a2 t125 (wrap64 ((wrap64 ((ji31) + 1)) + x57_6)) x30_2 t130 x41_3 x51_5 ji31 a0 x30_2 a0 x41_3 a0 x51_5 (wrap64 (a2 + 1)) (wrap64 (x57_6 + 1)) x51_5 x30_2 ji31 x41_3 x57_6) else ((bch_divisor.f k6 x41_3 a0).bind fun t134 => (if t134 ≤ (ji31) then (bch_best.l3 k6 a0 a2 t125 (wrap64 ((wrap64 ((ji31) + 1)) + x57_6)) x30_2 t130 x41_3 x51_5 ji31 a0 x30_2 a0 x41_3 a0 x51_5 (wrap64 (a2 + 1)) (wrap64 (x57_6 + 1)) x51_5 x30_2 ji31 x41_3 x57_6) else (bch_best.l3 k6 a0 a2 t125 x10_6 x30_2 t130 x41_3 x51_5 ji31 a0 x30_2 a0 x41_3 a0 x51_5 (wrap64 (a2 + 1)) (wrap64 (x57_6 + 1)) x129000_6 x129001_6 x129002_6 x129003_6 x129004_6)))) else (bch_best.l3 k6 a0 a2 t125 x10_6 x30_2 t130 x41_3 x51_5 ji31 a0 x30_2 a0 x41_3 a0 x51_5 (wrap64 (a2 + 1)) (wrap64 (x57_6 + 1)) x129000_6 x129001_6 x129002_6 x129003_6 x129004_6))) = some (r1, r2, r3, r4, r5, r6, r7) := by first | (rw [hji31] at H; exact H) | (simp only [hji31] at H ⊢; exact H)
                                              have hji31_ : (if (rd t130 (ji28)) < x16_6 then (rd t130 (ji28)) else x16_6) = ji31 := hji31
                                              by_cases c32 : (ji31) = 0
                                              · rw [if_pos c32] at H
                                                have c32b0 : ((ji31) == 0) = true := beq_iff_eq.mpr c32
                                                have c32b1 : ((ji31) != 0) = false := bne_eq_false_iff_eq.mpr c32
                                                clear c32
                                                have H' := Aside0.mk H
                                                clear H
                                                obtain ⟨Ao33, co33, eo33⟩ := Kd.R_slice HO_13.out
                                                subst eo33
                                                have p133 : 0 ≤ ((ji28) : Int) := of_decide_eq_true (by first | (with_reducible assumption) | assumption)
                                                have q133 : (ji28) < (t130.length : Int) := of_decide_eq_true (by first | (with_reducible assumption) | assumption)
                                                obtain ⟨ad133, e133, hx133_0⟩ := Kd.at_int (Kd.R_reads' HO_13.out).2.2 (ji28) p133 q133
                                                cases e133
                                                replace p133 := eq_true p133
                                                replace q133 := eq_true q133
                                                go_wp2
                                                go_roundg k6
                                                case measure => have := HJ3.out; have := HK2.out; have := HK3.out; have := HJ21.out; have := HK5.out; have := HK6.out; omega
                                                case rel => exact ⟨(x10_6), (wrap64 (x51_5 + 1)), (x129000_6), (x129001_6), (x129002_6), (x129003_6), (x129004_6), (by first | rfl | (simp; done) | (simp [*]; done)), (by first | rfl | (simp; done) | (simp [*]; done)), H', ⟨by have := HJ3.out; have := HK2.out; have := HK3.out; have := HJ21.out; have := HK5.out; have := HK6.out; omega⟩, ⟨by (with_reducible repeat (first | apply Kd.R_alloc | apply Kd.R_drewN | apply Kd.R_drew)); exact HO_9.out⟩, ⟨by (with_reducible repeat (first | apply Kd.R_alloc | apply Kd.R_drewN | apply Kd.R_drew)); exact HO_13.out⟩, ⟨by (with_reducible repeat (first | refine blk_drewN ?_ _ | refine blk_drew ?_ | refine blk_alloc ?_ _)); exact BK124.out⟩, ⟨by (with_reducible repeat (first | refine blk_drewN ?_ _ | refine blk_drew ?_ | refine blk_alloc ?_ _)); exact BK128.out⟩, ⟨by repeat (first | (with_reducible first | exact HB.out | apply below_alloc | apply pw_below_drewN | apply below_drew1 | refine below_set ?_ GE124.out | refine below_set ?_ GE128.out) | exact HB.out)⟩⟩
                                              · rw [if_neg c32] at H
                                                have c32b0 : ((ji31) == 0) = false := beq_eq_false_iff_ne.mpr c32
                                                have c32b1 : ((ji31) != 0) = true := bne_iff_ne.mpr c32
                                                by_cases c34 : (wrap64 ((wrap64 ((ji31) + 1)) + x57_6)) > x10_6
                                                · rw [if_pos c34] at H
                                                  have c34b0 : decide (x10_6 < (wrap64 ((wrap64 ((ji31) + 1)) + x57_6))) = true := decide_eq_true c34
                                                  clear c34
                                                  by_cases c35 : x57_6 = 0
                                                  · rw [if_pos c35] at H
                                                    have c35b0 : (x57_6 == 0) = true := beq_iff_eq.mpr c35
                                                    have c35b1 : (x57_6 != 0) = false := bne_eq_false_iff_eq.mpr c35
                                                    clear c35
                                                    have H' := Aside0.mk H
                                                    clear H
                                                    obtain ⟨Ao36, co36, eo36⟩ := Kd.R_slice HO_13.out
                                                    subst eo36
                                                    have p133 : 0 ≤ ((ji28) : Int) := of_decide_eq_true (by first | (with_reducible assumption) | assumption)
                                                    have q133 : (ji28) < (t130.length : Int) := of_decide_eq_true (by first | (with_reducible assumption) | assumption)
                                                    obtain ⟨ad133, e133, hx133_0⟩ := Kd.at_int (Kd.R_reads' HO_13.out).2.2 (ji28) p133 q133
                                                    cases e133
                                                    replace p133 := eq_true p133
                                                    replace q133 := eq_true q133
                                                    have hnb37 := NB128_124.out
                                                    have hnc37 := NB124_128.out
                                                    have hcz38_0 : wr.cell? ⟨gb128, 0, none⟩ = some (.int .i64 x129000_6) := (blk_cell BK128.out 0).trans rfl
                                                    have hcz38_1 : wr.cell? ⟨gb128, 1, none⟩ = some (.int .i64 x129001_6) := (blk_cell BK128.out 1).trans rfl
                                                    have hcz38_2 : wr.cell? ⟨gb128, 2, none⟩ = some (.int .i64 x129002_6) := (blk_cell BK128.out 2).trans rfl
                                                    have hcz38_3 : wr.cell? ⟨gb128, 3, none⟩ = some (.int .i64 x129003_6) := (blk_cell BK128.out 3).trans rfl
                                                    have hcz38_4 : wr.cell? ⟨gb128, 4, none⟩ = some (.int .i64 x129004_6) := (blk_cell BK128.out 4).trans rfl
                                                    have hfz38_0 := blk_frozen BK128.out 0
                                                    have hfz38_1 := blk_frozen BK128.out 1
                                                    have hfz38_2 := blk_frozen BK128.out 2
                                                    have hfz38_3 := blk_frozen BK128.out 3
                                                    have hfz38_4 := blk_frozen BK128.out 4
                                                    go_wp2
                                                    go_roundg k6
                                                    case measure => have := HJ3.out; have := HK2.out; have := HK3.out; have := HJ21.out; have := HK5.out; have := HK6.out; omega
                                                    case rel => exact ⟨(wrap64 ((wrap64 ((ji31) + 1)) + x57_6)), (ji31), (wrap64 (x57_6 + 1)), (x51_5), (x30_2), (ji31), (x41_3), (x57_6), (by first | rfl | (simp; done) | (simp only [← hji31] <;> (first | rfl | simp)) | (simp [*]; done)), (by first | rfl | (simp; done) | (simp only [← hji31] <;> (first | rfl | simp)) | (simp [*]; done)), (by first | rfl | (simp; done) | (simp [*]; done)), H', ⟨by have := HJ3.out; have := HK2.out; have := HK3.out; have := HJ21.out; have := HK5.out; have := HK6.out; omega⟩, ⟨by (with_reducible repeat (first | apply Kd.R_alloc | apply Kd.R_drewN | apply Kd.R_drew)); exact Kd.R_mono (Kd.R_far (p := ⟨gb128, 4, none⟩) (Kd.R_far (p := ⟨gb128, 3, none⟩) (Kd.R_far (p := ⟨gb128, 2, none⟩) (Kd.R_far (p := ⟨gb128, 1, none⟩) (Kd.R_far (p := ⟨gb128, 0, none⟩) (Kd.R_types HO_9.out BK128.out (by decide)) (fun _ hk => hk.2) (.int .i64 x51_5)) (fun _ hk => hk.2) (.int .i64 x30_2)) (fun _ hk => hk.2) (.int .i64 ji31)) (fun _ hk => hk.2) (.int .i64 x41_3)) (fun _ hk => hk.2) (.int .i64 x57_6)) (fun _ hk => trivial)⟩, ⟨by (with_reducible repeat (first | apply Kd.R_alloc | apply Kd.R_drewN | apply Kd.R_drew)); exact Kd.R_mono (Kd.R_far (p := ⟨gb128, 4, none⟩) (Kd.R_far (p := ⟨gb128, 3, none⟩) (Kd.R_far (p := ⟨gb128, 2, none⟩) (Kd.R_far (p := ⟨gb128, 1, none⟩) (Kd.R_far (p := ⟨gb128, 0, none⟩) (Kd.R_types HO_13.out BK128.out (by decide)) (fun _ hk => hk.2) (.int .i64 x51_5)) (fun _ hk => hk.2) (.int .i64 x30_2)) (fun _ hk => hk.2) (.int .i64 ji31)) (fun _ hk => hk.2) (.int .i64 x41_3)) (fun _ hk => hk.2) (.int .i64 x57_6)) (fun _ hk => trivial)⟩, ⟨by (with_reducible repeat (first | refine blk_drewN ?_ _ | refine blk_drew ?_ | refine blk_alloc ?_ _)); refine blk_far ?_ NB124_128.out _; (with_reducible repeat (first | refine blk_drewN ?_ _ | refine blk_drew ?_ | refine blk_alloc ?_ _)); refine blk_far ?_ NB124_128.out _; (with_reducible repeat (first | refine blk_drewN ?_ _ | refine blk_drew ?_ | refine blk_alloc ?_ _)); refine blk_far ?_ NB124_128.out _; (with_reducible repeat (first | refine blk_drewN ?_ _ | refine blk_drew ?_ | refine blk_alloc ?_ _)); refine blk_far ?_ NB124_128.out _; (with_reducible repeat (first | refine blk_drewN ?_ _ | refine blk_drew ?_ | refine blk_alloc ?_ _)); refine blk_far ?_ NB124_128.out _; (with_reducible repeat (first | refine blk_drewN ?_ _ | refine blk_drew ?_ | refine blk_alloc ?_ _)); exact BK124.out⟩, ⟨by (with_reducible repeat (first | refine blk_drewN ?_ _ | refine blk_drew ?_ | refine blk_alloc ?_ _)); refine blk_put (cs := #[.int .i64 x51_5, .int .i64 x30_2, .int .i64 ji31, .int .i64 x41_3, .int .i64 x129004_6]) ?_ 4 _ rfl; (with_reducible repeat (first | refine blk_drewN ?_ _ | refine blk_drew ?_ | refine blk_alloc ?_ _)); refine blk_put (cs := #[.int .i64 x51_5, .int .i64 x30_2, .int .i64 ji31, .int .i64 x129003_6, .int .i64 x129004_6]) ?_ 3 _ rfl; (with_reducible repeat (first | refine blk_drewN ?_ _ | refine blk_drew ?_ | refine blk_alloc ?_ _)); refine blk_put (cs := #[.int .i64 x51_5, .int .i64 x30_2, .int .i64 x129002_6, .int .i64 x129003_6, .int .i64 x129004_6]) ?_ 2 _ rfl; (with_reducible repeat (first | refine blk_drewN ?_ _ | refine blk_drew ?_ | refine blk_alloc ?_ _)); refine blk_put (cs := #[.int .i64 x51_5, .int .i64 x129001_6, .int .i64 x129002_6, .int .i64 x129003_6, .int .i64 x129004_6]) ?_ 1 _ rfl; (with_reducible repeat (first | refine blk_drewN ?_ _ | refine blk_drew ?_ | refine blk_alloc ?_ _)); refine blk_put (cs := #[.int .i64 x129000_6, .int .i64 x129001_6, .int .i64 x129002_6, .int .i64 x129003_6, .int .i64 x129004_6]) ?_ 0 _ rfl; (with_reducible repeat (first | refine blk_drewN ?_ _ | refine blk_drew ?_ | refine blk_alloc ?_ _)); exact BK128.out⟩, ⟨by repeat (first | (with_reducible first | exact HB.out | apply below_alloc | apply pw_below_drewN | apply below_drew1 | refine below_set ?_ GE124.out | refine below_set ?_ GE128.out) | exact HB.out)⟩⟩
                                                  · rw [if_neg c35] at H
                                                    have c35b0 : (x57_6 == 0) = false := beq_eq_false_iff_ne.mpr c35
                                                    have c35b1 : (x57_6 != 0) = true := bne_iff_ne.mpr c35
                                                    replace H := Option.bind_eq_some_iff.mp H
                                                    obtain ⟨t134, A390, H⟩ := H
                                                    replace H : (if t134 ≤ (ji31) then (bch_best.l3 k6 a0 a2 t125 (wrap64 ((wrap64 ((ji31) + 1)) + x57_6)) x30_2 t130 x41_3 x51_5 ji31 a0 x30_2 a0 x41_3 a0 x51_5 (wrap64 (a2 + 1)) (wrap64 (x57_6 + 1)) x51_5 x30_2 ji31 x41_3 x57_6) else (bch_best.l3 k6 a0 a2 t125 x10_6 x30_2 t130 x41_3 x51_5 ji31 a0 x30_2 a0 x41_3 a0 x51_5 (wrap64 (a2 + 1)) (wrap64 (x57_6 + 1)) x129000_6 x129001_6 x129002_6 x129003_6 x129004_6)) = some (r1, r2, r3, r4, r5, r6, r7) := H
                                                    have A39 := Aside0.mk A390
                                                    clear A390
                                                    by_cases c40 : t134 ≤ (ji31)
                                                    · rw [if_pos c40] at H
                                                      have c40b0 : decide (t134 ≤ (ji31)) = true := decide_eq_true c40
                                                      clear c40
                                                      have H' := Aside0.mk H
                                                      clear H
                                                      obtain ⟨Ao41, co41, eo41⟩ := Kd.R_slice HO_13.out
                                                      subst eo41
                                                      have p133 : 0 ≤ ((ji28) : Int) := of_decide_eq_true (by first | (with_reducible assumption) | assumption)
                                                      have q133 : (ji28) < (t130.length : Int) := of_decide_eq_true (by first | (with_reducible assumption) | assumption)
                                                      obtain ⟨ad133, e133, hx133_0⟩ := Kd.at_int (Kd.R_reads' HO_13.out).2.2 (ji28) p133 q133
                                                      cases e133
                                                      replace p133 := eq_true p133
                                                      replace q133 := eq_true q133
                                                      go_wp2_with (first | (go_at_call 28; (with_reducible refine (bch_divisor.calls k6 x41_3 a0 t134 _ A39.out).mono ?_); rintro e w42 ⟨rfl, hb⟩; have n0_ := Aside0.mk (Kd.R_below (by (with_reducible repeat (first | apply Kd.R_alloc | apply Kd.R_drewN | apply Kd.R_drew)); exact HO_9.out) hb); have n1_ := Aside0.mk (Kd.R_below (by (with_reducible repeat (first | apply Kd.R_alloc | apply Kd.R_drewN | apply Kd.R_drew)); exact HO_13.out) hb); have n2_ := Aside0.mk (blk_below (g := gb124) (o := .cells #[.int .i64 0, .int .i64 0, .int .i64 0, .int .i64 0, .int .i64 0] 24 (0, 0)) (by (with_reducible repeat (first | refine blk_drewN ?_ _ | refine blk_drew ?_ | refine blk_alloc ?_ _)); exact BK124.out) hb); have n3_ := Aside0.mk (blk_below (g := gb128) (o := .cells #[.int .i64 x129000_6, .int .i64 x129001_6, .int .i64 x129002_6, .int .i64 x129003_6, .int .i64 x129004_6] 24 (0, 0)) (by (with_reducible repeat (first | refine blk_drewN ?_ _ | refine blk_drew ?_ | refine blk_alloc ?_ _)); exact BK128.out) hb); have n4_ := Aside0.mk (below_step (by repeat (first | (with_reducible first | exact HB.out | apply below_alloc | apply pw_below_drewN | apply below_drew1 | refine below_set ?_ GE124.out | refine below_set ?_ GE128.out) | exact HB.out)) hb); clear HO_9; clear HO_13; clear BK124; clear BK128; clear HB; have HO_9 := n0_; have HO_13 := n1_; have BK124 := n2_; have BK128 := n3_; have HB := n4_; clear n0_ n1_ n2_ n3_ n4_; (try clear hb); (try clear hb2); (try clear hk); (try clear hi); have hnb43 := NB128_124.out; have hnc43 := NB124_128.out; have hcz44_0 : w42.cell? ⟨gb128, 0, none⟩ = some (.int .i64 x129000_6) := (blk_cell BK128.out 0).trans rfl; have hcz44_1 : w42.cell? ⟨gb128, 1, none⟩ = some (.int .i64 x129001_6) := (blk_cell BK128.out 1).trans rfl; have hcz44_2 : w42.cell? ⟨gb128, 2, none⟩ = some (.int .i64 x129002_6) := (blk_cell BK128.out 2).trans rfl; have hcz44_3 : w42.cell? ⟨gb128, 3, none⟩ = some (.int .i64 x129003_6) := (blk_cell BK128.out 3).trans rfl; have hcz44_4 : w42.cell? ⟨gb128, 4, none⟩ = some (.int .i64 x129004_6) := (blk_cell BK128.out 4).trans rfl; have hfz44_0 := blk_frozen BK128.out 0; have hfz44_1 := blk_frozen BK128.out 1; have hfz44_2 := blk_frozen BK128.out 2; have hfz44_3 := blk_frozen BK128.out 3; have hfz44_4 := blk_frozen BK128.out 4))
                                                      go_roundg k6
                                                      case measure => have := HJ3.out; have := HK2.out; have := HK3.out; have := HJ21.out; have := HK5.out; have := HK6.out; omega
                                                      case rel => exact ⟨(wrap64 ((wrap64 ((ji31) + 1)) + x57_6)), (ji31), (wrap64 (x57_6 + 1)), (x51_5), (x30_2), (ji31), (x41_3), (x57_6), (by first | rfl | (simp; done) | (simp only [← hji31] <;> (first | rfl | simp)) | (simp [*]; done)), (by first | rfl | (simp; done) | (simp only [← hji31] <;> (first | rfl | simp)) | (simp [*]; done)), (by first | rfl | (simp; done) | (simp [*]; done)), H', ⟨by have := HJ3.out; have := HK2.out; have := HK3.out; have := HJ21.out; have := HK5.out; have := HK6.out; omega⟩, ⟨by (with_reducible repeat (first | apply Kd.R_alloc | apply Kd.R_drewN | apply Kd.R_drew)); exact Kd.R_mono (Kd.R_far (p := ⟨gb128, 4, none⟩) (Kd.R_far (p := ⟨gb128, 3, none⟩) (Kd.R_far (p := ⟨gb128, 2, none⟩) (Kd.R_far (p := ⟨gb128, 1, none⟩) (Kd.R_far (p := ⟨gb128, 0, none⟩) (Kd.R_types HO_9.out BK128.out (by decide)) (fun _ hk => hk.2) (.int .i64 x51_5)) (fun _ hk => hk.2) (.int .i64 x30_2)) (fun _ hk => hk.2) (.int .i64 ji31)) (fun _ hk => hk.2) (.int .i64 x41_3)) (fun _ hk => hk.2) (.int .i64 x57_6)) (fun _ hk => trivial)⟩, ⟨by (with_reducible repeat (first | apply Kd.R_alloc | apply Kd.R_drewN | apply Kd.R_drew)); exact Kd.R_mono (Kd.R_far (p := ⟨gb128, 4, none⟩) (Kd.R_far (p := ⟨gb128, 3, none⟩) (Kd.R_far (p := ⟨gb128, 2, none⟩) (Kd.R_far (p := ⟨gb128, 1, none⟩) (Kd.R_far (p := ⟨gb128, 0, none⟩) (Kd.R_types HO_13.out BK128.out (by decide)) (fun _ hk => hk.2) (.int .i64 x51_5)) (fun _ hk => hk.2) (.int .i64 x30_2)) (fun _ hk => hk.2) (.int .i64 ji31)) (fun _ hk => hk.2) (.int .i64 x41_3)) (fun _ hk => hk.2) (.int .i64 x57_6)) (fun _ hk => trivial)⟩, ⟨by (with_reducible repeat (first | refine blk_drewN ?_ _ | refine blk_drew ?_ | refine blk_alloc ?_ _)); refine blk_far ?_ NB124_128.out _; (with_reducible repeat (first | refine blk_drewN ?_ _ | refine blk_drew ?_ | refine blk_alloc ?_ _)); refine blk_far ?_ NB124_128.out _; (with_reducible repeat (first | refine blk_drewN ?_ _ | refine blk_drew ?_ | refine blk_alloc ?_ _)); refine blk_far ?_ NB124_128.out _; (with_reducible repeat (first | refine blk_drewN ?_ _ | refine blk_drew ?_ | refine blk_alloc ?_ _)); refine blk_far ?_ NB124_128.out _; (with_reducible repeat (first | refine blk_drewN ?_ _ | refine blk_drew ?_ | refine blk_alloc ?_ _)); refine blk_far ?_ NB124_128.out _; (with_reducible repeat (first | refine blk_drewN ?_ _ | refine blk_drew ?_ | refine blk_alloc ?_ _)); exact BK124.out⟩, ⟨by (with_reducible repeat (first | refine blk_drewN ?_ _ | refine blk_drew ?_ | refine blk_alloc ?_ _)); refine blk_put (cs := #[.int .i64 x51_5, .int .i64 x30_2, .int .i64 ji31, .int .i64 x41_3, .int .i64 x129004_6]) ?_ 4 _ rfl; (with_reducible repeat (first | refine blk_drewN ?_ _ | refine blk_drew ?_ | refine blk_alloc ?_ _)); refine blk_put (cs := #[.int .i64 x51_5, .int .i64 x30_2, .int .i64 ji31, .int .i64 x129003_6, .int .i64 x129004_6]) ?_ 3 _ rfl; (with_reducible repeat (first | refine blk_drewN ?_ _ | refine blk_drew ?_ | refine blk_alloc ?_ _)); refine blk_put (cs := #[.int .i64 x51_5, .int .i64 x30_2, .int .i64 x129002_6, .int .i64 x129003_6, .int .i64 x129004_6]) ?_ 2 _ rfl; (with_reducible repeat (first | refine blk_drewN ?_ _ | refine blk_drew ?_ | refine blk_alloc ?_ _)); refine blk_put (cs := #[.int .i64 x51_5, .int .i64 x129001_6, .int .i64 x129002_6, .int .i64 x129003_6, .int .i64 x129004_6]) ?_ 1 _ rfl; (with_reducible repeat (first | refine blk_drewN ?_ _ | refine blk_drew ?_ | refine blk_alloc ?_ _)); refine blk_put (cs := #[.int .i64 x129000_6, .int .i64 x129001_6, .int .i64 x129002_6, .int .i64 x129003_6, .int .i64 x129004_6]) ?_ 0 _ rfl; (with_reducible repeat (first | refine blk_drewN ?_ _ | refine blk_drew ?_ | refine blk_alloc ?_ _)); exact BK128.out⟩, ⟨by repeat (first | (with_reducible first | exact HB.out | apply below_alloc | apply pw_below_drewN | apply below_drew1 | refine below_set ?_ GE124.out | refine below_set ?_ GE128.out) | exact HB.out)⟩⟩
                                                    · rw [if_neg c40] at H
                                                      have c40b0 : decide (t134 ≤ (ji31)) = false := decide_eq_false c40
                                                      clear c40
                                                      have H' := Aside0.mk H
                                                      clear H
                                                      obtain ⟨Ao45, co45, eo45⟩ := Kd.R_slice HO_13.out
                                                      subst eo45
                                                      have p133 : 0 ≤ ((ji28) : Int) := of_decide_eq_true (by first | (with_reducible assumption) | assumption)
                                                      have q133 : (ji28) < (t130.length : Int) := of_decide_eq_true (by first | (with_reducible assumption) | assumption)
                                                      obtain ⟨ad133, e133, hx133_0⟩ := Kd.at_int (Kd.R_reads' HO_13.out).2.2 (ji28) p133 q133
                                                      cases e133
                                                      replace p133 := eq_true p133
                                                      replace q133 := eq_true q133
                                                      go_wp2_with (first | (go_at_call 28; (with_reducible refine (bch_divisor.calls k6 x41_3 a0 t134 _ A39.out).mono ?_); rintro e w46 ⟨rfl, hb⟩; have n0_ := Aside0.mk (Kd.R_below (by (with_reducible repeat (first | apply Kd.R_alloc | apply Kd.R_drewN | apply Kd.R_drew)); exact HO_9.out) hb); have n1_ := Aside0.mk (Kd.R_below (by (with_reducible repeat (first | apply Kd.R_alloc | apply Kd.R_drewN | apply Kd.R_drew)); exact HO_13.out) hb); have n2_ := Aside0.mk (blk_below (g := gb124) (o := .cells #[.int .i64 0, .int .i64 0, .int .i64 0, .int .i64 0, .int .i64 0] 24 (0, 0)) (by (with_reducible repeat (first | refine blk_drewN ?_ _ | refine blk_drew ?_ | refine blk_alloc ?_ _)); exact BK124.out) hb); have n3_ := Aside0.mk (blk_below (g := gb128) (o := .cells #[.int .i64 x129000_6, .int .i64 x129001_6, .int .i64 x129002_6, .int .i64 x129003_6, .int .i64 x129004_6] 24 (0, 0)) (by (with_reducible repeat (first | refine blk_drewN ?_ _ | refine blk_drew ?_ | refine blk_alloc ?_ _)); exact BK128.out) hb); have n4_ := Aside0.mk (below_step (by repeat (first | (with_reducible first | exact HB.out | apply below_alloc | apply pw_below_drewN | apply below_drew1 | refine below_set ?_ GE124.out | refine below_set ?_ GE128.out) | exact HB.out)) hb); clear HO_9; clear HO_13; clear BK124; clear BK128; clear HB; have HO_9 := n0_; have HO_13 := n1_; have BK124 := n2_; have BK128 := n3_; have HB := n4_; clear n0_ n1_ n2_ n3_ n4_; (try clear hb); (try clear hb2); (try clear hk); (try clear hi)))
                                                      go_roundg k6
                                                      case measure => have := HJ3.out; have := HK2.out; have := HK3.out; have := HJ21.out; have := HK5.out; have := HK6.out; omega
                                                      case rel => exact ⟨(x10_6), (ji31), (wrap64 (x57_6 + 1)), (x129000_6), (x129001_6), (x129002_6), (x129003_6), (x129004_6), (by first | rfl | (simp; done) | (simp [*]; done)), (by first | rfl | (simp; done) | (simp only [← hji31] <;> (first | rfl | simp)) | (simp [*]; done)), (by first | rfl | (simp; done) | (simp [*]; done)), H', ⟨by have := HJ3.out; have := HK2.out; have := HK3.out; have := HJ21.out; have := HK5.out; have := HK6.out; omega⟩, ⟨by (with_reducible repeat (first | apply Kd.R_alloc | apply Kd.R_drewN | apply Kd.R_drew)); exact HO_9.out⟩, ⟨by (with_reducible repeat (first | apply Kd.R_alloc | apply Kd.R_drewN | apply Kd.R_drew)); exact HO_13.out⟩, ⟨by (with_reducible repeat (first | refine blk_drewN ?_ _ | refine blk_drew ?_ | refine blk_alloc ?_ _)); exact BK124.out⟩, ⟨by (with_reducible repeat (first | refine blk_drewN ?_ _ | refine blk_drew ?_ | refine blk_alloc ?_ _)); exact BK128.out⟩, ⟨by repeat (first | (with_reducible first | exact HB.out | apply below_alloc | apply pw_below_drewN | apply below_drew1 | refine below_set ?_ GE124.out | refine below_set ?_ GE128.out) | exact HB.out)⟩⟩
                                                · rw [if_neg c34] at H
                                                  have c34b0 : decide (x10_6 < (wrap64 ((wrap64 ((ji31) + 1)) + x57_6))) = false := decide_eq_false c34
                                                  clear c34
                                                  have H' := Aside0.mk H
                                                  clear H
                                                  obtain ⟨Ao47, co47, eo47⟩ := Kd.R_slice HO_13.out
                                                  subst eo47
                                                  have p133 : 0 ≤ ((ji28) : Int) := of_decide_eq_true (by first | (with_reducible assumption) | assumption)
                                                  have q133 : (ji28) < (t130.length : Int) := of_decide_eq_true (by first | (with_reducible assumption) | assumption)
                                                  obtain ⟨ad133, e133, hx133_0⟩ := Kd.at_int (Kd.R_reads' HO_13.out).2.2 (ji28) p133 q133
                                                  cases e133
                                                  replace p133 := eq_true p133
                                                  replace q133 := eq_true q133
                                                  go_wp2
                                                  go_roundg k6
                                                  case measure => have := HJ3.out; have := HK2.out; have := HK3.out; have := HJ21.out; have := HK5.out; have := HK6.out; omega
                                                  case rel => exact ⟨(x10_6), (ji31), (wrap64 (x57_6 + 1)), (x129000_6), (x129001_6), (x129002_6), (x129003_6), (x129004_6), (by first | rfl | (simp; done) | (simp [*]; done)), (by first | rfl | (simp; done) | (simp only [← hji31] <;> (first | rfl | simp)) | (simp [*]; done)), (by first | rfl | (simp; done) | (simp [*]; done)), H', ⟨by have := HJ3.out; have := HK2.out; have := HK3.out; have := HJ21.out; have := HK5.out; have := HK6.out; omega⟩, ⟨by (with_reducible repeat (first | apply Kd.R_alloc | apply Kd.R_drewN | apply Kd.R_drew)); exact HO_9.out⟩, ⟨by (with_reducible repeat (first | apply Kd.R_alloc | apply Kd.R_drewN | apply Kd.R_drew)); exact HO_13.out⟩, ⟨by (with_reducible repeat (first | refine blk_drewN ?_ _ | refine blk_drew ?_ | refine blk_alloc ?_ _)); exact BK124.out⟩, ⟨by (with_reducible repeat (first | refine blk_drewN ?_ _ | refine blk_drew ?_ | refine blk_alloc ?_ _)); exact BK128.out⟩, ⟨by repeat (first | (with_reducible first | exact HB.out | apply below_alloc | apply pw_below_drewN | apply below_drew1 | refine below_set ?_ GE124.out | refine below_set ?_ GE128.out) | exact HB.out)⟩⟩
                                            · rw [if_neg c30] at H
                                              exact absurd H (by simp)
                                          · rw [if_neg c29] at H
                                            exact absurd H (by simp)
                                      · rw [if_neg c26] at H
                                        have c26b0 : decide (x57_6 < (wrap64 (a2 + 1))) = false := decide_eq_false c26
                                        clear c26
                                        have H' := Aside0.mk H
                                        clear H
                                        go_wp2
                                        go_roundg k6
                                        case measure => have := HJ3.out; have := HK2.out; have := HK3.out; have := HJ21.out; have := HK5.out; have := HK6.out; omega
                                        case rel => exact ⟨(x10_6), (wrap64 (x51_5 + 1)), (x129000_6), (x129001_6), (x129002_6), (x129003_6), (x129004_6), (by first | rfl | (simp; done) | (simp [*]; done)), (by first | rfl | (simp; done) | (simp [*]; done)), H', ⟨by have := HJ3.out; have := HK2.out; have := HK3.out; have := HJ21.out; have := HK5.out; have := HK6.out; omega⟩, ⟨by (with_reducible repeat (first | apply Kd.R_alloc | apply Kd.R_drewN | apply Kd.R_drew)); exact HO_9.out⟩, ⟨by (with_reducible repeat (first | apply Kd.R_alloc | apply Kd.R_drewN | apply Kd.R_drew)); exact HO_13.out⟩, ⟨by (with_reducible repeat (first | refine blk_drewN ?_ _ | refine blk_drew ?_ | refine blk_alloc ?_ _)); exact BK124.out⟩, ⟨by (with_reducible repeat (first | refine blk_drewN ?_ _ | refine blk_drew ?_ | refine blk_alloc ?_ _)); exact BK128.out⟩, ⟨by repeat (first | (with_reducible first | exact HB.out | apply below_alloc | apply pw_below_drewN | apply below_drew1 | refine below_set ?_ GE124.out | refine below_set ?_ GE128.out) | exact HB.out)⟩⟩
                                · rw [if_neg c25] at H
                                  have c25b0 : decide (x51_5 < a0) = false := decide_eq_false c25
                                  clear c25
                                  have H' := Aside0.mk H
                                  clear H
                                  go_wp2
                                  go_roundg k5
                                  case measure => have := HJ3.out; have := HK2.out; have := HK3.out; have := HJ21.out; have := HK5.out; omega
                                  case rel => exact ⟨(x10_5), (wrap64 (x41_3 + 1)), (x129000_5), (x129001_5), (x129002_5), (x129003_5), (x129004_5), (by first | rfl | (simp; done) | (simp [*]; done)), (by first | rfl | (simp; done) | (simp [*]; done)), H', ⟨by have := HJ3.out; have := HK2.out; have := HK3.out; have := HJ21.out; have := HK5.out; omega⟩, ⟨by (with_reducible repeat (first | apply Kd.R_alloc | apply Kd.R_drewN | apply Kd.R_drew)); exact HO_9.out⟩, ⟨by (with_reducible repeat (first | apply Kd.R_alloc | apply Kd.R_drewN | apply Kd.R_drew)); exact HO_13.out⟩, ⟨by (with_reducible repeat (first | refine blk_drewN ?_ _ | refine blk_drew ?_ | refine blk_alloc ?_ _)); exact BK124.out⟩, ⟨by (with_reducible repeat (first | refine blk_drewN ?_ _ | refine blk_drew ?_ | refine blk_alloc ?_ _)); exact BK128.out⟩, ⟨by repeat (first | (with_reducible first | exact HB.out | apply below_alloc | apply pw_below_drewN | apply below_drew1 | refine below_set ?_ GE124.out | refine below_set ?_ GE128.out) | exact HB.out)⟩⟩
                    · rw [if_neg c21] at H
                      have c21b0 : decide (x41_3 < a0) = false := decide_eq_false c21
                      clear c21
                      have H' := Aside0.mk H
                      clear H
                      go_wp2
                      go_roundg k3
                      case measure => have := HJ3.out; have := HK2.out; have := HK3.out; omega
                      case rel => exact ⟨(x10_3), (wrap64 (x30_2 + 1)), (x129000_3), (x129001_3), (x129002_3), (x129003_3), (x129004_3), (by first | rfl | (simp; done) | (simp [*]; done)), (by first | rfl | (simp; done) | (simp [*]; done)), H', ⟨by have := HJ3.out; have := HK2.out; have := HK3.out; omega⟩, ⟨by (with_reducible repeat (first | apply Kd.R_alloc | apply Kd.R_drewN | apply Kd.R_drew)); exact HO_9.out⟩, ⟨by (with_reducible repeat (first | refine blk_drewN ?_ _ | refine blk_drew ?_ | refine blk_alloc ?_ _)); exact BK124.out⟩, ⟨by (with_reducible repeat (first | refine blk_drewN ?_ _ | refine blk_drew ?_ | refine blk_alloc ?_ _)); exact BK128.out⟩, ⟨by repeat (first | (with_reducible first | exact HB.out | apply below_alloc | apply pw_below_drewN | apply below_drew1 | refine below_set ?_ GE124.out | refine below_set ?_ GE128.out) | exact HB.out)⟩⟩
              · rw [if_neg c16] at H
                have c16b0 : (t129 == 1) = false := beq_eq_false_iff_ne.mpr c16
                have c16b1 : (t129 != 1) = true := bne_iff_ne.mpr c16
                have H' := Aside0.mk H
                clear H
                go_wp2_with (first | ((with_reducible refine gate_callee (f := 28) rfl ?_); refine goesL_ (some 35) rfl rfl Try.func28 (by kernel_rfl) rfl #[.int .i64 x30_2, .int .i64 a0] rfl (by (try simp only [List.map_toArray, List.map_cons, List.map_nil]); first | done | rfl | (simp only [List.length_drop, List.length_take]; rfl)) ?_; (with_reducible refine (bch_divisor.calls k2 x30_2 a0 t129 _ A15.out).mono ?_); rintro e w48 ⟨rfl, hb⟩; refine ⟨_, rfl, ?_⟩; have n0_ := Aside0.mk (Kd.R_below (by (with_reducible repeat (first | apply Kd.R_alloc | apply Kd.R_drewN | apply Kd.R_drew)); exact HO_9.out) hb); have n1_ := Aside0.mk (blk_below (g := gb124) (o := .cells #[.int .i64 0, .int .i64 0, .int .i64 0, .int .i64 0, .int .i64 0] 24 (0, 0)) (by (with_reducible repeat (first | refine blk_drewN ?_ _ | refine blk_drew ?_ | refine blk_alloc ?_ _)); exact BK124.out) hb); have n2_ := Aside0.mk (blk_below (g := gb128) (o := .cells #[.int .i64 x129000_2, .int .i64 x129001_2, .int .i64 x129002_2, .int .i64 x129003_2, .int .i64 x129004_2] 24 (0, 0)) (by (with_reducible repeat (first | refine blk_drewN ?_ _ | refine blk_drew ?_ | refine blk_alloc ?_ _)); exact BK128.out) hb); have n3_ := Aside0.mk (below_step (by repeat (first | (with_reducible first | exact HB.out | apply below_alloc | apply pw_below_drewN | apply below_drew1 | refine below_set ?_ GE124.out | refine below_set ?_ GE128.out) | exact HB.out)) hb); clear HO_9; clear BK124; clear BK128; clear HB; have HO_9 := n0_; have BK124 := n1_; have BK128 := n2_; have HB := n3_; clear n0_ n1_ n2_ n3_; (try clear hb); (try clear hb2); (try clear hk); (try clear hi)))
                go_roundg k2
                case measure => have := HJ3.out; have := HK2.out; omega
                case rel => exact ⟨(x10_2), (wrap64 (x30_2 + 1)), (x129000_2), (x129001_2), (x129002_2), (x129003_2), (x129004_2), (by first | rfl | (simp; done) | (simp [*]; done)), (by first | rfl | (simp; done) | (simp [*]; done)), H', ⟨by have := HJ3.out; have := HK2.out; omega⟩, ⟨by (with_reducible repeat (first | apply Kd.R_alloc | apply Kd.R_drewN | apply Kd.R_drew)); exact HO_9.out⟩, ⟨by (with_reducible repeat (first | refine blk_drewN ?_ _ | refine blk_drew ?_ | refine blk_alloc ?_ _)); exact BK124.out⟩, ⟨by (with_reducible repeat (first | refine blk_drewN ?_ _ | refine blk_drew ?_ | refine blk_alloc ?_ _)); exact BK128.out⟩, ⟨by repeat (first | (with_reducible first | exact HB.out | apply below_alloc | apply pw_below_drewN | apply below_drew1 | refine below_set ?_ GE124.out | refine below_set ?_ GE128.out) | exact HB.out)⟩⟩
            · rw [if_neg c14] at H
              have c14b0 : decide (x30_2 < a0) = false := decide_eq_false c14
              clear c14
              by_cases c49 : x129004_2 = 0
              · rw [if_pos c49] at H
                have c49b0 : (x129004_2 == 0) = true := beq_iff_eq.mpr c49
                have c49b1 : (x129004_2 != 0) = false := bne_eq_false_iff_eq.mpr c49
                clear c49
                simp only [Option.some.injEq, Prod.mk.injEq] at H
                obtain ⟨rfl, rfl, rfl, rfl, rfl, rfl, rfl⟩ := H
                have hnb50 := NB128_124.out
                have hnc50 := NB124_128.out
                have hcz51_0 : wr.cell? ⟨gb128, 0, none⟩ = some (.int .i64 x129000_2) := (blk_cell BK128.out 0).trans rfl
                have hcz51_1 : wr.cell? ⟨gb128, 1, none⟩ = some (.int .i64 x129001_2) := (blk_cell BK128.out 1).trans rfl
                have hcz51_2 : wr.cell? ⟨gb128, 2, none⟩ = some (.int .i64 x129002_2) := (blk_cell BK128.out 2).trans rfl
                have hcz51_3 : wr.cell? ⟨gb128, 3, none⟩ = some (.int .i64 x129003_2) := (blk_cell BK128.out 3).trans rfl
                have hcz51_4 : wr.cell? ⟨gb128, 4, none⟩ = some (.int .i64 x129004_2) := (blk_cell BK128.out 4).trans rfl
                have hfz51_0 := blk_frozen BK128.out 0
                have hfz51_1 := blk_frozen BK128.out 1
                have hfz51_2 := blk_frozen BK128.out 2
                have hfz51_3 := blk_frozen BK128.out 3
                have hfz51_4 := blk_frozen BK128.out 4
                try go_wp2
                have n0_ : Aside0 (Kd.R Kd.bool 4 (wr.setCell ⟨gb128, 3, none⟩ (.int .i64 0)) w.heap.size (fun _ => True) v126 t125) := ⟨by (with_reducible repeat (first | apply Kd.R_alloc | apply Kd.R_drewN | apply Kd.R_drew)); exact Kd.R_mono (Kd.R_far (p := ⟨gb128, 3, none⟩) (Kd.R_types HO_9.out BK128.out (by decide)) (fun _ hk => hk.2) (.int .i64 0)) (fun _ hk => trivial)⟩
                have n1_ : Aside0 ((wr.setCell ⟨gb128, 3, none⟩ (.int .i64 0)).heap[gb124]? = some (.cells #[.int .i64 0, .int .i64 0, .int .i64 0, .int .i64 0, .int .i64 0] 24 (0, 0))) := ⟨by (with_reducible repeat (first | refine blk_drewN ?_ _ | refine blk_drew ?_ | refine blk_alloc ?_ _)); refine blk_far ?_ NB124_128.out _; (with_reducible repeat (first | refine blk_drewN ?_ _ | refine blk_drew ?_ | refine blk_alloc ?_ _)); exact BK124.out⟩
                have n2_ : Aside0 ((wr.setCell ⟨gb128, 3, none⟩ (.int .i64 0)).heap[gb128]? = some (.cells #[.int .i64 x129000_2, .int .i64 x129001_2, .int .i64 x129002_2, .int .i64 0, .int .i64 x129004_2] 24 (0, 0))) := ⟨by (with_reducible repeat (first | refine blk_drewN ?_ _ | refine blk_drew ?_ | refine blk_alloc ?_ _)); refine blk_put (cs := #[.int .i64 x129000_2, .int .i64 x129001_2, .int .i64 x129002_2, .int .i64 x129003_2, .int .i64 x129004_2]) ?_ 3 _ rfl; (with_reducible repeat (first | refine blk_drewN ?_ _ | refine blk_drew ?_ | refine blk_alloc ?_ _)); exact BK128.out⟩
                have n3_ : Aside0 (Below w.heap.size w (wr.setCell ⟨gb128, 3, none⟩ (.int .i64 0))) := ⟨by repeat (first | (with_reducible first | exact HB.out | apply below_alloc | apply pw_below_drewN | apply below_drew1 | refine below_set ?_ GE124.out | refine below_set ?_ GE128.out) | exact HB.out)⟩
                (try clear HO_9)
                (try clear BK124)
                (try clear BK128)
                (try clear HB)
                generalize (wr.setCell ⟨gb128, 3, none⟩ (.int .i64 0)) = w52 at n0_ n1_ n2_ n3_ ⊢
                have HO_9 := n0_
                have BK124 := n1_
                have BK128 := n2_
                have HB := n3_
                clear n0_ n1_ n2_ n3_
                have n0_ := Aside0.mk (Kd.R_drew HO_9.out)
                have n1_ := Aside0.mk (blk_drew BK124.out)
                have n2_ := Aside0.mk (blk_drew BK128.out)
                have n3_ := Aside0.mk (below_drew1 HB.out)
                clear HO_9
                clear BK124
                clear BK128
                clear HB
                have HO_9 := n0_
                have BK124 := n1_
                have BK128 := n2_
                have HB := n3_
                clear n0_ n1_ n2_ n3_
                refine start_ (n := 5) (S := fun w' => w'.cell? ⟨gb128, 0, none⟩ = some (.int .i64 x129000_2) ∧ w'.cell? ⟨gb128, 1, none⟩ = some (.int .i64 x129001_2) ∧ w'.cell? ⟨gb128, 2, none⟩ = some (.int .i64 x129002_2) ∧ w'.cell? ⟨gb128, 3, none⟩ = some (.int .i64 0) ∧ w'.cell? ⟨gb128, 4, none⟩ = some (.int .i64 x129004_2)) (ds := []) #[false, false, false, false, false] (by kernel_rfl) rfl rfl ⟨(blk_cell BK128.out 0).trans rfl, (blk_cell BK128.out 1).trans rfl, (blk_cell BK128.out 2).trans rfl, (blk_cell BK128.out 3).trans rfl, (blk_cell BK128.out 4).trans rfl⟩ (fun hHeld => ?_)
                generalize w52.drew = w53 at HO_9 BK124 BK128 HB hHeld ⊢
                refine pure_ (i := 0) (N := some 109) (v := ?_) (a' := ?_) #[true, false, false, false, false] rfl rfl (by kernel_rfl) (fun _ _ _ h => h) (Or.inl ⟨by rfl, ?_⟩) ?_ ?_
                rotate_left
                · intro w'
                  go_simp
                  with_reducible rfl
                rotate_left
                · simp only [Act.put, List.setIfInBounds_toArray, List.set_cons_zero, List.set_cons_succ, i64_w, i32_w]
                  rfl
                refine pure_ (i := 2) (N := some 6) (v := ?_) (a' := ?_) #[true, false, true, false, false] rfl rfl (by kernel_rfl) (fun _ _ _ h => h) (Or.inl ⟨by rfl, ?_⟩) ?_ ?_
                rotate_left
                · intro w'
                  go_simp
                  with_reducible rfl
                rotate_left
                · simp only [Act.put, List.setIfInBounds_toArray, List.set_cons_zero, List.set_cons_succ, i64_w, i32_w]
                  rfl
                refine take_ (i := 1) (N := some 110) (v := ?_) (a' := ?_) #[true, true, true, false, false] rfl rfl (by kernel_rfl) (fun _ _ _ h => h) (Or.inl ⟨by rfl, ?_⟩) hHeld ?_ ?_
                rotate_left
                · rintro w' ⟨s0, s1, s2, s3, s4⟩
                  go_simp
                  with_reducible rfl
                rotate_left
                · simp only [Act.put, List.setIfInBounds_toArray, List.set_cons_zero, List.set_cons_succ, i64_w, i32_w]
                  rfl
                refine one_ (i := 3) (N := none) #[true, true, true, true, false] rfl rfl (by kernel_rfl) (by decide) (fun K hK => ?_)
                have hs54 : w53.cell? ⟨gb124, 0, none⟩ = some (.int .i64 0) := (blk_cell BK124.out 0).trans rfl
                have hfs54 := blk_frozen BK124.out 0
                have hns54_1 := NB128_124.out
                have hms54_1 := NB124_128.out
                have hs55 : w53.cell? ⟨gb124, 1, none⟩ = some (.int .i64 0) := (blk_cell BK124.out 1).trans rfl
                have hfs55 := blk_frozen BK124.out 1
                have hns55_1 := NB128_124.out
                have hms55_1 := NB124_128.out
                have hs56 : w53.cell? ⟨gb124, 2, none⟩ = some (.int .i64 0) := (blk_cell BK124.out 2).trans rfl
                have hfs56 := blk_frozen BK124.out 2
                have hns56_1 := NB128_124.out
                have hms56_1 := NB124_128.out
                have hs57 : w53.cell? ⟨gb124, 3, none⟩ = some (.int .i64 0) := (blk_cell BK124.out 3).trans rfl
                have hfs57 := blk_frozen BK124.out 3
                have hns57_1 := NB128_124.out
                have hms57_1 := NB124_128.out
                have hs58 : w53.cell? ⟨gb124, 4, none⟩ = some (.int .i64 0) := (blk_cell BK124.out 4).trans rfl
                have hfs58 := blk_frozen BK124.out 4
                have hns58_1 := NB128_124.out
                have hms58_1 := NB124_128.out
                refine skip_ (w1 := ?_) (by rfl) rfl ?_ ?_
                rotate_left
                · go_simp
                  rfl
                refine hK.out _ _ ⟨((cell_far (p := ⟨gb124, _, none⟩) NB128_124.out _).trans (((cell_far (p := ⟨gb124, _, none⟩) NB128_124.out _).trans (((cell_far (p := ⟨gb124, _, none⟩) NB128_124.out _).trans (((cell_far (p := ⟨gb124, _, none⟩) NB128_124.out _).trans (((cell_far (p := ⟨gb124, _, none⟩) NB128_124.out _).trans (hHeld.1)))))))))), ((cell_far (p := ⟨gb124, _, none⟩) NB128_124.out _).trans (((cell_far (p := ⟨gb124, _, none⟩) NB128_124.out _).trans (((cell_far (p := ⟨gb124, _, none⟩) NB128_124.out _).trans (((cell_far (p := ⟨gb124, _, none⟩) NB128_124.out _).trans (((cell_far (p := ⟨gb124, _, none⟩) NB128_124.out _).trans (hHeld.2.1)))))))))), ((cell_far (p := ⟨gb124, _, none⟩) NB128_124.out _).trans (((cell_far (p := ⟨gb124, _, none⟩) NB128_124.out _).trans (((cell_far (p := ⟨gb124, _, none⟩) NB128_124.out _).trans (((cell_far (p := ⟨gb124, _, none⟩) NB128_124.out _).trans (((cell_far (p := ⟨gb124, _, none⟩) NB128_124.out _).trans (hHeld.2.2.1)))))))))), ((cell_far (p := ⟨gb124, _, none⟩) NB128_124.out _).trans (((cell_far (p := ⟨gb124, _, none⟩) NB128_124.out _).trans (((cell_far (p := ⟨gb124, _, none⟩) NB128_124.out _).trans (((cell_far (p := ⟨gb124, _, none⟩) NB128_124.out _).trans (((cell_far (p := ⟨gb124, _, none⟩) NB128_124.out _).trans (hHeld.2.2.2.1)))))))))), ((cell_far (p := ⟨gb124, _, none⟩) NB128_124.out _).trans (((cell_far (p := ⟨gb124, _, none⟩) NB128_124.out _).trans (((cell_far (p := ⟨gb124, _, none⟩) NB128_124.out _).trans (((cell_far (p := ⟨gb124, _, none⟩) NB128_124.out _).trans (((cell_far (p := ⟨gb124, _, none⟩) NB128_124.out _).trans (hHeld.2.2.2.2))))))))))⟩ (fun hHeld => ?_)
                clear hK K
                refine pure_ (i := 4) (N := some 8) (v := ?_) (a' := ?_) #[true, true, true, true, true] rfl rfl (by kernel_rfl) (fun _ _ _ h => h) (Or.inl ⟨by rfl, ?_⟩) ?_ ?_
                rotate_left
                · intro w'
                  go_simp
                  with_reducible rfl
                rotate_left
                · simp only [Act.put, List.setIfInBounds_toArray, List.set_cons_zero, List.set_cons_succ, i64_w, i32_w]
                  rfl
                refine done_ (by kernel_rfl) ?_
                try go_wp2
                refine bodyPost_ret (results_list (rs := [.tmp 6, .cell 7 24, .tmp 8]) rfl (by simp) (.tmp (.cell gb124 24 #[.int .i64 x129000_2, .int .i64 x129001_2, .int .i64 x129002_2, .int .i64 0, .int .i64 x129004_2] (0, 0) _ rfl (by (with_reducible repeat (first | refine blk_drewN ?_ _ | refine blk_drew ?_ | refine blk_alloc ?_ _)); refine blk_put (cs := #[.int .i64 x129000_2, .int .i64 x129001_2, .int .i64 x129002_2, .int .i64 0, .int .i64 0]) ?_ 4 _ rfl; (with_reducible repeat (first | refine blk_drewN ?_ _ | refine blk_drew ?_ | refine blk_alloc ?_ _)); refine blk_put (cs := #[.int .i64 x129000_2, .int .i64 x129001_2, .int .i64 x129002_2, .int .i64 0, .int .i64 0]) ?_ 3 _ rfl; (with_reducible repeat (first | refine blk_drewN ?_ _ | refine blk_drew ?_ | refine blk_alloc ?_ _)); refine blk_put (cs := #[.int .i64 x129000_2, .int .i64 x129001_2, .int .i64 0, .int .i64 0, .int .i64 0]) ?_ 2 _ rfl; (with_reducible repeat (first | refine blk_drewN ?_ _ | refine blk_drew ?_ | refine blk_alloc ?_ _)); refine blk_put (cs := #[.int .i64 x129000_2, .int .i64 0, .int .i64 0, .int .i64 0, .int .i64 0]) ?_ 1 _ rfl; (with_reducible repeat (first | refine blk_drewN ?_ _ | refine blk_drew ?_ | refine blk_alloc ?_ _)); refine blk_put (cs := #[.int .i64 0, .int .i64 0, .int .i64 0, .int .i64 0, .int .i64 0]) ?_ 0 _ rfl; (with_reducible repeat (first | refine blk_drewN ?_ _ | refine blk_drew ?_ | refine blk_alloc ?_ _)); exact BK124.out) Try.underlying24 rfl (by kernel_rfl) (.tmp .nil)))) rfl ?_
                exact ⟨by first | rfl | (simp [errW_none, errW_some] <;> rfl) | (simp [*, errW_none, errW_some] <;> rfl), by repeat (first | (with_reducible first | exact HB.out | apply below_alloc | apply pw_below_drewN | apply below_drew1 | refine below_set ?_ GE124.out | refine below_set ?_ GE128.out) | exact HB.out)⟩
              · rw [if_neg c49] at H
                have c49b0 : (x129004_2 == 0) = false := beq_eq_false_iff_ne.mpr c49
                have c49b1 : (x129004_2 != 0) = true := bne_iff_ne.mpr c49
                simp only [Option.some.injEq, Prod.mk.injEq] at H
                obtain ⟨rfl, rfl, rfl, rfl, rfl, rfl, rfl⟩ := H
                have hnb59 := NB128_124.out
                have hnc59 := NB124_128.out
                have hcz60_0 : wr.cell? ⟨gb128, 0, none⟩ = some (.int .i64 x129000_2) := (blk_cell BK128.out 0).trans rfl
                have hcz60_1 : wr.cell? ⟨gb128, 1, none⟩ = some (.int .i64 x129001_2) := (blk_cell BK128.out 1).trans rfl
                have hcz60_2 : wr.cell? ⟨gb128, 2, none⟩ = some (.int .i64 x129002_2) := (blk_cell BK128.out 2).trans rfl
                have hcz60_3 : wr.cell? ⟨gb128, 3, none⟩ = some (.int .i64 x129003_2) := (blk_cell BK128.out 3).trans rfl
                have hcz60_4 : wr.cell? ⟨gb128, 4, none⟩ = some (.int .i64 x129004_2) := (blk_cell BK128.out 4).trans rfl
                have hfz60_0 := blk_frozen BK128.out 0
                have hfz60_1 := blk_frozen BK128.out 1
                have hfz60_2 := blk_frozen BK128.out 2
                have hfz60_3 := blk_frozen BK128.out 3
                have hfz60_4 := blk_frozen BK128.out 4
                try go_wp2
                have n0_ := Aside0.mk (Kd.R_drew HO_9.out)
                have n1_ := Aside0.mk (blk_drew BK124.out)
                have n2_ := Aside0.mk (blk_drew BK128.out)
                have n3_ := Aside0.mk (below_drew1 HB.out)
                clear HO_9
                clear BK124
                clear BK128
                clear HB
                have HO_9 := n0_
                have BK124 := n1_
                have BK128 := n2_
                have HB := n3_
                clear n0_ n1_ n2_ n3_
                refine start_ (n := 5) (S := fun w' => w'.cell? ⟨gb128, 0, none⟩ = some (.int .i64 x129000_2) ∧ w'.cell? ⟨gb128, 1, none⟩ = some (.int .i64 x129001_2) ∧ w'.cell? ⟨gb128, 2, none⟩ = some (.int .i64 x129002_2) ∧ w'.cell? ⟨gb128, 3, none⟩ = some (.int .i64 x129003_2) ∧ w'.cell? ⟨gb128, 4, none⟩ = some (.int .i64 x129004_2)) (ds := []) #[false, false, false, false, false] (by kernel_rfl) rfl rfl ⟨(blk_cell BK128.out 0).trans rfl, (blk_cell BK128.out 1).trans rfl, (blk_cell BK128.out 2).trans rfl, (blk_cell BK128.out 3).trans rfl, (blk_cell BK128.out 4).trans rfl⟩ (fun hHeld => ?_)
                generalize wr.drew = w61 at HO_9 BK124 BK128 HB hHeld ⊢
                refine pure_ (i := 0) (N := some 109) (v := ?_) (a' := ?_) #[true, false, false, false, false] rfl rfl (by kernel_rfl) (fun _ _ _ h => h) (Or.inl ⟨by rfl, ?_⟩) ?_ ?_
                rotate_left
                · intro w'
                  go_simp
                  with_reducible rfl
                rotate_left
                · simp only [Act.put, List.setIfInBounds_toArray, List.set_cons_zero, List.set_cons_succ, i64_w, i32_w]
                  rfl
                refine pure_ (i := 2) (N := some 6) (v := ?_) (a' := ?_) #[true, false, true, false, false] rfl rfl (by kernel_rfl) (fun _ _ _ h => h) (Or.inl ⟨by rfl, ?_⟩) ?_ ?_
                rotate_left
                · intro w'
                  go_simp
                  with_reducible rfl
                rotate_left
                · simp only [Act.put, List.setIfInBounds_toArray, List.set_cons_zero, List.set_cons_succ, i64_w, i32_w]
                  rfl
                refine take_ (i := 1) (N := some 110) (v := ?_) (a' := ?_) #[true, true, true, false, false] rfl rfl (by kernel_rfl) (fun _ _ _ h => h) (Or.inl ⟨by rfl, ?_⟩) hHeld ?_ ?_
                rotate_left
                · rintro w' ⟨s0, s1, s2, s3, s4⟩
                  go_simp
                  with_reducible rfl
                rotate_left
                · simp only [Act.put, List.setIfInBounds_toArray, List.set_cons_zero, List.set_cons_succ, i64_w, i32_w]
                  rfl
                refine one_ (i := 3) (N := none) #[true, true, true, true, false] rfl rfl (by kernel_rfl) (by decide) (fun K hK => ?_)
                have hs62 : w61.cell? ⟨gb124, 0, none⟩ = some (.int .i64 0) := (blk_cell BK124.out 0).trans rfl
                have hfs62 := blk_frozen BK124.out 0
                have hns62_1 := NB128_124.out
                have hms62_1 := NB124_128.out
                have hs63 : w61.cell? ⟨gb124, 1, none⟩ = some (.int .i64 0) := (blk_cell BK124.out 1).trans rfl
                have hfs63 := blk_frozen BK124.out 1
                have hns63_1 := NB128_124.out
                have hms63_1 := NB124_128.out
                have hs64 : w61.cell? ⟨gb124, 2, none⟩ = some (.int .i64 0) := (blk_cell BK124.out 2).trans rfl
                have hfs64 := blk_frozen BK124.out 2
                have hns64_1 := NB128_124.out
                have hms64_1 := NB124_128.out
                have hs65 : w61.cell? ⟨gb124, 3, none⟩ = some (.int .i64 0) := (blk_cell BK124.out 3).trans rfl
                have hfs65 := blk_frozen BK124.out 3
                have hns65_1 := NB128_124.out
                have hms65_1 := NB124_128.out
                have hs66 : w61.cell? ⟨gb124, 4, none⟩ = some (.int .i64 0) := (blk_cell BK124.out 4).trans rfl
                have hfs66 := blk_frozen BK124.out 4
                have hns66_1 := NB128_124.out
                have hms66_1 := NB124_128.out
                refine skip_ (w1 := ?_) (by rfl) rfl ?_ ?_
                rotate_left
                · go_simp
                  rfl
                refine hK.out _ _ ⟨((cell_far (p := ⟨gb124, _, none⟩) NB128_124.out _).trans (((cell_far (p := ⟨gb124, _, none⟩) NB128_124.out _).trans (((cell_far (p := ⟨gb124, _, none⟩) NB128_124.out _).trans (((cell_far (p := ⟨gb124, _, none⟩) NB128_124.out _).trans (((cell_far (p := ⟨gb124, _, none⟩) NB128_124.out _).trans (hHeld.1)))))))))), ((cell_far (p := ⟨gb124, _, none⟩) NB128_124.out _).trans (((cell_far (p := ⟨gb124, _, none⟩) NB128_124.out _).trans (((cell_far (p := ⟨gb124, _, none⟩) NB128_124.out _).trans (((cell_far (p := ⟨gb124, _, none⟩) NB128_124.out _).trans (((cell_far (p := ⟨gb124, _, none⟩) NB128_124.out _).trans (hHeld.2.1)))))))))), ((cell_far (p := ⟨gb124, _, none⟩) NB128_124.out _).trans (((cell_far (p := ⟨gb124, _, none⟩) NB128_124.out _).trans (((cell_far (p := ⟨gb124, _, none⟩) NB128_124.out _).trans (((cell_far (p := ⟨gb124, _, none⟩) NB128_124.out _).trans (((cell_far (p := ⟨gb124, _, none⟩) NB128_124.out _).trans (hHeld.2.2.1)))))))))), ((cell_far (p := ⟨gb124, _, none⟩) NB128_124.out _).trans (((cell_far (p := ⟨gb124, _, none⟩) NB128_124.out _).trans (((cell_far (p := ⟨gb124, _, none⟩) NB128_124.out _).trans (((cell_far (p := ⟨gb124, _, none⟩) NB128_124.out _).trans (((cell_far (p := ⟨gb124, _, none⟩) NB128_124.out _).trans (hHeld.2.2.2.1)))))))))), ((cell_far (p := ⟨gb124, _, none⟩) NB128_124.out _).trans (((cell_far (p := ⟨gb124, _, none⟩) NB128_124.out _).trans (((cell_far (p := ⟨gb124, _, none⟩) NB128_124.out _).trans (((cell_far (p := ⟨gb124, _, none⟩) NB128_124.out _).trans (((cell_far (p := ⟨gb124, _, none⟩) NB128_124.out _).trans (hHeld.2.2.2.2))))))))))⟩ (fun hHeld => ?_)
                clear hK K
                refine pure_ (i := 4) (N := some 8) (v := ?_) (a' := ?_) #[true, true, true, true, true] rfl rfl (by kernel_rfl) (fun _ _ _ h => h) (Or.inl ⟨by rfl, ?_⟩) ?_ ?_
                rotate_left
                · intro w'
                  go_simp
                  with_reducible rfl
                rotate_left
                · simp only [Act.put, List.setIfInBounds_toArray, List.set_cons_zero, List.set_cons_succ, i64_w, i32_w]
                  rfl
                refine done_ (by kernel_rfl) ?_
                try go_wp2
                refine bodyPost_ret (results_list (rs := [.tmp 6, .cell 7 24, .tmp 8]) rfl (by simp) (.tmp (.cell gb124 24 #[.int .i64 x129000_2, .int .i64 x129001_2, .int .i64 x129002_2, .int .i64 x129003_2, .int .i64 x129004_2] (0, 0) _ rfl (by (with_reducible repeat (first | refine blk_drewN ?_ _ | refine blk_drew ?_ | refine blk_alloc ?_ _)); refine blk_put (cs := #[.int .i64 x129000_2, .int .i64 x129001_2, .int .i64 x129002_2, .int .i64 x129003_2, .int .i64 0]) ?_ 4 _ rfl; (with_reducible repeat (first | refine blk_drewN ?_ _ | refine blk_drew ?_ | refine blk_alloc ?_ _)); refine blk_put (cs := #[.int .i64 x129000_2, .int .i64 x129001_2, .int .i64 x129002_2, .int .i64 0, .int .i64 0]) ?_ 3 _ rfl; (with_reducible repeat (first | refine blk_drewN ?_ _ | refine blk_drew ?_ | refine blk_alloc ?_ _)); refine blk_put (cs := #[.int .i64 x129000_2, .int .i64 x129001_2, .int .i64 0, .int .i64 0, .int .i64 0]) ?_ 2 _ rfl; (with_reducible repeat (first | refine blk_drewN ?_ _ | refine blk_drew ?_ | refine blk_alloc ?_ _)); refine blk_put (cs := #[.int .i64 x129000_2, .int .i64 0, .int .i64 0, .int .i64 0, .int .i64 0]) ?_ 1 _ rfl; (with_reducible repeat (first | refine blk_drewN ?_ _ | refine blk_drew ?_ | refine blk_alloc ?_ _)); refine blk_put (cs := #[.int .i64 0, .int .i64 0, .int .i64 0, .int .i64 0, .int .i64 0]) ?_ 0 _ rfl; (with_reducible repeat (first | refine blk_drewN ?_ _ | refine blk_drew ?_ | refine blk_alloc ?_ _)); exact BK124.out) Try.underlying24 rfl (by kernel_rfl) (.tmp .nil)))) rfl ?_
                exact ⟨by first | rfl | (simp [errW_none, errW_some] <;> rfl) | (simp [*, errW_none, errW_some] <;> rfl), by repeat (first | (with_reducible first | exact HB.out | apply below_alloc | apply pw_below_drewN | apply below_drew1 | refine below_set ?_ GE124.out | refine below_set ?_ GE128.out) | exact HB.out)⟩

end Go.Proofs.Ytibbdjkboglepaa.PBchMultiplies

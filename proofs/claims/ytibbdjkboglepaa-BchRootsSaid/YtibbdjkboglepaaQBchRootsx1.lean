-- My own print: a program's text for this claim
import Derived.Test.YtibbdjkboglepaaQBchRootsx0
namespace Go.Proofs.Ytibbdjkboglepaa.QBchRoots
open Go.RowKit Go.Proofs.YtibbdjkboglepaaW.PrintWords Go.Proofs.YtibbdjkboglepaaW.PrintLast Go.Proofs.YtibbdjkboglepaaW.PrintMore
attribute [local go_sem] max2_int min2_int max_two min_two max_three min_three max_four min_four   -- for this text's walks alone
set_option linter.unusedVariables false
set_option linter.unusedSimpArgs false

/-! ### field_order: function 63 -/
mutual
def field_order.j0 : Nat → Int → Int → Bool → Option (Int)
 | 0, _, _, _ => none
 | k + 1, x0, x1, x19 => if x19 = true then (some 0) else (field_order.l0 k x0 1 x1 0)
def field_order.l0 : Nat → Int → Int → Int → Int → Option (Int)
 | 0, _, _, _, _ => none
 | k + 1, x0, x5, x20, x21 => if x21 < x20 then (if (wrap64 (x5 * x0)) > 256 then (some 0) else (field_order.l0 k x0 (wrap64 (x5 * x0)) x20 (wrap64 (x21 + 1)))) else (some x5)
end
def field_order.f (k : Nat) (a0 : Int) (a1 : Int) : Option (Int) := if a0 < 2 then (field_order.j0 k a0 a1 true) else (if a0 > 256 then (field_order.j0 k a0 a1 true) else (if a1 < 1 then (field_order.j0 k a0 a1 true) else (field_order.j0 k a0 a1 (decide (a1 > 8)))))
theorem field_order.mono_l : ∀ k, (∀ y0 y1 y2, LeO (field_order.j0 k y0 y1 y2) (field_order.j0 (k + 1) y0 y1 y2)) ∧ (∀ y0 y1 y2 y3, LeO (field_order.l0 k y0 y1 y2 y3) (field_order.l0 (k + 1) y0 y1 y2 y3))
 | 0 => ⟨fun _ _ _ r h => by simp [field_order.j0] at h, fun _ _ _ _ r h => by simp [field_order.l0] at h⟩
 | k + 1 => by
  obtain ⟨ih0, ih1⟩ := field_order.mono_l k
  refine ⟨?_, ?_⟩
  ·intro y0 y1 y2
   unfold field_order.j0
   repeat' first
   | (with_reducible exact ih0 _ _ _)
   | (with_reducible exact ih1 _ _ _ _)
   | (with_reducible exact LeO.refl _)
   | (with_reducible exact LeO.none _)
   | (with_reducible refine LeO.ite ?_ ?_)
   | (with_reducible refine LeO.bind ?_ (fun _ => ?_))
   | exact ih0 _ _ _
   | exact ih1 _ _ _ _
   | exact LeO.none _
   | refine LeO.ite ?_ ?_
   | refine LeO.bind ?_ (fun _ => ?_)
  ·intro y0 y1 y2 y3
   unfold field_order.l0
   repeat' first
   | (with_reducible exact ih0 _ _ _)
   | (with_reducible exact ih1 _ _ _ _)
   | (with_reducible exact LeO.refl _)
   | (with_reducible exact LeO.none _)
   | (with_reducible refine LeO.ite ?_ ?_)
   | (with_reducible refine LeO.bind ?_ (fun _ => ?_))
   | exact ih0 _ _ _
   | exact ih1 _ _ _ _
   | exact LeO.none _
   | refine LeO.ite ?_ ?_
   | refine LeO.bind ?_ (fun _ => ?_)
theorem field_order.mono : ∀ a0 a1 k, LeO (field_order.f k a0 a1) (field_order.f (k + 1) a0 a1) := by
 intro a0 a1 k
 obtain ⟨ih0, ih1⟩ := field_order.mono_l k
 unfold field_order.f
 repeat' first
   | (with_reducible exact ih0 _ _ _)
   | (with_reducible exact ih1 _ _ _ _)
   | (with_reducible exact LeO.refl _)
   | (with_reducible exact LeO.none _)
   | (with_reducible refine LeO.ite ?_ ?_)
   | (with_reducible refine LeO.bind ?_ (fun _ => ?_))
   | exact ih0 _ _ _
   | exact ih1 _ _ _ _
   | exact LeO.none _
   | refine LeO.ite ?_ ?_
   | refine LeO.bind ?_ (fun _ => ?_)
set_option maxHeartbeats 8000000 in
set_option maxRecDepth 100000 in
theorem field_order.calls (k : Nat) (a0 : Int) (a1 : Int) (r : Int) (w : World) (h : field_order.f k a0 a1 = some r) :
  Calls Try.prog 63 #[.int .i64 a0, .int .i64 a1] w fun e w' => e = .returned (.int .i64 r) ∧ Drawn0 w w' := by
 have H : (if a0 < 2 then (field_order.j0 k a0 a1 true) else (if a0 > 256 then (field_order.j0 k a0 a1 true) else (if a1 < 1 then (field_order.j0 k a0 a1 true) else (field_order.j0 k a0 a1 (decide (a1 > 8)))))) = some r := h
 clear h
 have HC3 := Aside0.mk H
 clear H
 go_enter Try.func63, Try.ntmps63
 go_upto_region 1 with (fail)
 go_cut [19] (fun v19 wc => ∃ (kq : Nat) (x19_2 : Bool), v19 = .bool x19_2 ∧ Aside0 (field_order.j0 kq a0 a1 x19_2 = some r) ∧ Aside0 (kq ≤ k) ∧ Drawn0 w wc)
 case first =>
  have H := HC3.out
  clear HC3
  by_cases c4 : a0 < 2
  ·rw [if_pos c4] at H
   have c4b0 : decide (a0 < 2) = true := decide_eq_true c4
   clear c4
   (first | rw [c4b0] | (simp only [i64_w, i32_w]; rw [c4b0]) | skip)
   have H' := Aside0.mk H
   clear H
   go_wp2
   go_meet
   case rel => exact ⟨_, (true), (by first | rfl | (simp; done) | (simp [*]; done)), H', ⟨by first | omega | exact Nat.le_refl _⟩, by repeat (first | exact Drawn0.refl _ | apply Drawn0.step)⟩
  ·rw [if_neg c4] at H
   have c4b0 : decide (a0 < 2) = false := decide_eq_false c4
   clear c4
   (first | rw [c4b0] | (simp only [i64_w, i32_w]; rw [c4b0]) | skip)
   by_cases c5 : a0 > 256
   ·rw [if_pos c5] at H
    have c5b0 : decide (256 < a0) = true := decide_eq_true c5
    clear c5
    have H' := Aside0.mk H
    clear H
    go_wp2
    go_meet
    case rel => exact ⟨_, (true), (by first | rfl | (simp; done) | (simp [*]; done)), H', ⟨by first | omega | exact Nat.le_refl _⟩, by repeat (first | exact Drawn0.refl _ | apply Drawn0.step)⟩
   ·rw [if_neg c5] at H
    have c5b0 : decide (256 < a0) = false := decide_eq_false c5
    clear c5
    by_cases c6 : a1 < 1
    ·rw [if_pos c6] at H
     have c6b0 : decide (a1 < 1) = true := decide_eq_true c6
     clear c6
     have H' := Aside0.mk H
     clear H
     go_wp2
     go_meet
     case rel => exact ⟨_, (true), (by first | rfl | (simp; done) | (simp [*]; done)), H', ⟨by first | omega | exact Nat.le_refl _⟩, by repeat (first | exact Drawn0.refl _ | apply Drawn0.step)⟩
    ·rw [if_neg c6] at H
     have c6b0 : decide (a1 < 1) = false := decide_eq_false c6
     clear c6
     have H' := Aside0.mk H
     clear H
     go_wp2
     go_meet
     case rel => exact ⟨_, (decide (a1 > 8)), (by first | rfl | (simp; done) | (simp [*]; done)), H', ⟨by first | omega | exact Nat.le_refl _⟩, by repeat (first | exact Drawn0.refl _ | apply Drawn0.step)⟩
 case rest =>
  clear HC3
  try clear p2
  try clear c4
  try clear c4b0
  try clear c5
  try clear c5b0
  try clear c6
  try clear c6b0
  obtain ⟨kq, x19_2, rfl, HA, HJ2, ⟨mc2, rfl⟩⟩ := hcut
  cases kq with
  | zero => exact absurd HA.out (by simp [field_order.j0])
  | succ kj2 =>
   have H := HA.out
   clear HA
   simp only [field_order.j0] at H
   by_cases c7 : x19_2 = true
   ·subst c7
    have H1 : (some 0) = some r := by rw [if_pos rfl] at H; exact H
    clear H
    have H := H1
    clear H1
    obtain rfl := Option.some.inj H
    go_wp2
    go_ret
    exact ⟨by first | rfl | (simp; done) | (simp [*]; done), by repeat (first | exact Drawn0.refl _ | apply Drawn0.step)⟩
   ·replace c7 := Bool.eq_false_iff.mpr c7
    subst c7
    have H1 : (field_order.l0 kj2 a0 1 a1 0) = some r := by rw [if_neg (show ¬ (false = true) by decide)] at H; exact H
    clear H
    have H := H1
    clear H1
    have H' := Aside0.mk H
    clear H
    go_wp2
    go_loopg [5, 21] kj2 (fun kq v5 v21 w' => ∃ (x5_2 : Int) (x21_2 : Int), v5 = .int .i64 x5_2 ∧ v21 = .int .i64 x21_2 ∧ Aside0 (field_order.l0 kq a0 x5_2 a1 x21_2 = some r) ∧ Aside0 (kq ≤ kj2) ∧ Drawn0 w w')
    case atStart => exact ⟨(1), (0), (by first | rfl | (simp; done) | (simp [*]; done)), (by first | rfl | (simp; done) | (simp [*]; done)), H', ⟨Nat.le_refl _⟩, by repeat (first | exact Drawn0.refl _ | apply Drawn0.step)⟩
    case round =>
     clear H'
     try clear c2
     try clear p2
     try clear c4
     try clear c4b0
     try clear c5
     try clear c5b0
     try clear c6
     try clear c6b0
     try clear c7
     try clear p2
     obtain ⟨x5_2, x21_2, rfl, rfl, HA, HK2, ⟨m2, rfl⟩⟩ := hrel
     cases gk with
     | zero => exact absurd HA.out (by simp [field_order.l0])
     | succ k2 =>
      have H := HA.out
      clear HA
      simp only [field_order.l0] at H
      by_cases c8 : x21_2 < a1
      ·rw [if_pos c8] at H
       have c8b0 : decide (x21_2 < a1) = true := decide_eq_true c8
       clear c8
       by_cases c9 : (wrap64 (x5_2 * a0)) > 256
       ·rw [if_pos c9] at H
        have c9b0 : decide (256 < (wrap64 (x5_2 * a0))) = true := decide_eq_true c9
        clear c9
        obtain rfl := Option.some.inj H
        go_wp2
        go_ret
        exact ⟨by first | rfl | (simp; done) | (simp [*]; done), by repeat (first | exact Drawn0.refl _ | apply Drawn0.step)⟩
       ·rw [if_neg c9] at H
        have c9b0 : decide (256 < (wrap64 (x5_2 * a0))) = false := decide_eq_false c9
        clear c9
        have H' := Aside0.mk H
        clear H
        go_wp2
        go_roundg k2
        case measure => have := HJ2.out; have := HK2.out; omega
        case rel => exact ⟨(wrap64 (x5_2 * a0)), (wrap64 (x21_2 + 1)), (by first | rfl | (simp; done) | (simp [*]; done)), (by first | rfl | (simp; done) | (simp [*]; done)), H', ⟨by have := HJ2.out; have := HK2.out; omega⟩, by repeat (first | exact Drawn0.refl _ | apply Drawn0.step)⟩
      ·rw [if_neg c8] at H
       have c8b0 : decide (x21_2 < a1) = false := decide_eq_false c8
       clear c8
       obtain rfl := Option.some.inj H
       go_wp2
       go_ret
       exact ⟨by first | rfl | (simp; done) | (simp [*]; done), by repeat (first | exact Drawn0.refl _ | apply Drawn0.step)⟩

/-! ### field_isPrime: function 90 -/
def field_isPrime.l0 : Nat → Int → Int → Option (Bool)
 | 0, _, _ => none
 | k + 1, x0, x3 => if (wrap64 (x3 * x3)) ≤ x0 then (if x3 = 0 then (none) else (if (Int.tmod x0 x3) = 0 then (some false) else (field_isPrime.l0 k x0 (wrap64 (x3 + 1))))) else (some (decide (x0 ≥ 2)))
def field_isPrime.f (k : Nat) (a0 : Int) : Option (Bool) := field_isPrime.l0 k a0 2
theorem field_isPrime.mono_l : ∀ k, (∀ y0 y1, LeO (field_isPrime.l0 k y0 y1) (field_isPrime.l0 (k + 1) y0 y1))
 | 0 => fun _ _ r h => by simp [field_isPrime.l0] at h
 | k + 1 => by
  have ih0 := field_isPrime.mono_l k
  ·intro y0 y1
   unfold field_isPrime.l0
   repeat' first
   | (with_reducible exact ih0 _ _)
   | (with_reducible exact LeO.refl _)
   | (with_reducible exact LeO.none _)
   | (with_reducible refine LeO.ite ?_ ?_)
   | (with_reducible refine LeO.bind ?_ (fun _ => ?_))
   | exact ih0 _ _
   | exact LeO.none _
   | refine LeO.ite ?_ ?_
   | refine LeO.bind ?_ (fun _ => ?_)
theorem field_isPrime.mono : ∀ a0 k, LeO (field_isPrime.f k a0) (field_isPrime.f (k + 1) a0) := by
 intro a0 k
 have ih0 := field_isPrime.mono_l k
 unfold field_isPrime.f
 repeat' first
   | (with_reducible exact ih0 _ _)
   | (with_reducible exact LeO.refl _)
   | (with_reducible exact LeO.none _)
   | (with_reducible refine LeO.ite ?_ ?_)
   | (with_reducible refine LeO.bind ?_ (fun _ => ?_))
   | exact ih0 _ _
   | exact LeO.none _
   | refine LeO.ite ?_ ?_
   | refine LeO.bind ?_ (fun _ => ?_)
set_option maxHeartbeats 8000000 in
set_option maxRecDepth 100000 in
theorem field_isPrime.calls (k : Nat) (a0 : Int) (r : Bool) (w : World) (h : field_isPrime.f k a0 = some r) :
  Calls Try.prog 90 #[.int .i64 a0] w fun e w' => e = .returned (.bool r) ∧ Drawn0 w w' := by
 have H : (field_isPrime.l0 k a0 2) = some r := h
 clear h
 have H' := Aside0.mk H
 clear H
 go_enter Try.func90, Try.ntmps90
 go_wp2
 go_loopg [3] k (fun kq v3 w' => ∃ (x3_1 : Int), v3 = .int .i64 x3_1 ∧ Aside0 (field_isPrime.l0 kq a0 x3_1 = some r) ∧ Aside0 (kq ≤ k) ∧ Drawn0 w w')
 case atStart => exact ⟨(2), (by first | rfl | (simp; done) | (simp [*]; done)), H', ⟨Nat.le_refl _⟩, by repeat (first | exact Drawn0.refl _ | apply Drawn0.step)⟩
 case round =>
  clear H'
  obtain ⟨x3_1, rfl, HA, HK1, ⟨m1, rfl⟩⟩ := hrel
  cases gk with
  | zero => exact absurd HA.out (by simp [field_isPrime.l0])
  | succ k1 =>
   have H := HA.out
   clear HA
   simp only [field_isPrime.l0] at H
   by_cases c2 : (wrap64 (x3_1 * x3_1)) ≤ a0
   ·rw [if_pos c2] at H
    have c2b0 : decide ((wrap64 (x3_1 * x3_1)) ≤ a0) = true := decide_eq_true c2
    clear c2
    by_cases c3 : x3_1 = 0
    ·rw [if_pos c3] at H
     exact absurd H (by simp)
    ·rw [if_neg c3] at H
     have c3b0 : (x3_1 == 0) = false := beq_eq_false_iff_ne.mpr c3
     have c3b1 : (x3_1 != 0) = true := bne_iff_ne.mpr c3
     by_cases c4 : (Int.tmod a0 x3_1) = 0
     ·rw [if_pos c4] at H
      have c4b0 : ((Int.tmod a0 x3_1) == 0) = true := beq_iff_eq.mpr c4
      have c4b1 : ((Int.tmod a0 x3_1) != 0) = false := bne_eq_false_iff_eq.mpr c4
      clear c4
      obtain rfl := Option.some.inj H
      go_wp2
      go_ret
      exact ⟨by first | rfl | (simp; done) | (simp [*]; done), by repeat (first | exact Drawn0.refl _ | apply Drawn0.step)⟩
     ·rw [if_neg c4] at H
      have c4b0 : ((Int.tmod a0 x3_1) == 0) = false := beq_eq_false_iff_ne.mpr c4
      have c4b1 : ((Int.tmod a0 x3_1) != 0) = true := bne_iff_ne.mpr c4
      have H' := Aside0.mk H
      clear H
      go_wp2
      go_roundg k1
      case measure => have := HK1.out; omega
      case rel => exact ⟨(wrap64 (x3_1 + 1)), (by first | rfl | (simp; done) | (simp [*]; done)), H', ⟨by have := HK1.out; omega⟩, by repeat (first | exact Drawn0.refl _ | apply Drawn0.step)⟩
   ·rw [if_neg c2] at H
    have c2b0 : decide ((wrap64 (x3_1 * x3_1)) ≤ a0) = false := decide_eq_false c2
    clear c2
    obtain rfl := Option.some.inj H
    go_wp2
    go_ret
    exact ⟨by first | rfl | (simp; done) | (simp [*]; done), by repeat (first | exact Drawn0.refl _ | apply Drawn0.step)⟩

/-! ### field_shape: function 62 -/
mutual
def field_shape.j0 : Nat → Bool → Int → Int → List Int → Option (Bool)
 | 0, _, _, _, _ => none
 | k + 1, x16, x102000, x102001, x102002 => if x16 = true then (some false) else (if x102001 = 1 then (some ((x102002.length : Int) == 0)) else (if (x102002.length : Int) = x102001 then (field_shape.l0 k x102002 (x102002.length : Int) 0 x102000 x102001 x102002) else (some false)))
def field_shape.l0 : Nat → List Int → Int → Int → Int → Int → List Int → Option (Bool)
 | 0, _, _, _, _, _, _ => none
 | k + 1, x31, x32, x33, x102000, x102001, x102002 => if x33 < x32 then (if 0 ≤ x33 then (if x33 < (x31.length : Int) then (if (rd x31 x33) < 0 then (some false) else (if (rd x31 x33) ≥ x102000 then (some false) else (field_shape.l0 k x31 x32 (wrap64 (x33 + 1)) x102000 x102001 x102002))) else (none)) else (none)) else (some true)
end
def field_shape.f (k : Nat) (a0_0 : Int) (a0_1 : Int) (l0_2 : List Int) : Option (Bool) := (field_order.f k a0_0 a0_1).bind fun t102 => (if t102 = 0 then (field_shape.j0 k true a0_0 a0_1 l0_2) else ((field_isPrime.f k a0_0).bind fun t103 => (field_shape.j0 k (!t103) a0_0 a0_1 l0_2)))
theorem field_shape.mono_l : ∀ k, (∀ y0 y1 y2 y3, LeO (field_shape.j0 k y0 y1 y2 y3) (field_shape.j0 (k + 1) y0 y1 y2 y3)) ∧ (∀ y0 y1 y2 y3 y4 y5, LeO (field_shape.l0 k y0 y1 y2 y3 y4 y5) (field_shape.l0 (k + 1) y0 y1 y2 y3 y4 y5))
 | 0 => ⟨fun _ _ _ _ r h => by simp [field_shape.j0] at h, fun _ _ _ _ _ _ r h => by simp [field_shape.l0] at h⟩
 | k + 1 => by
  obtain ⟨ih0, ih1⟩ := field_shape.mono_l k
  refine ⟨?_, ?_⟩
  ·intro y0 y1 y2 y3
   unfold field_shape.j0
   repeat' first
   | (with_reducible exact ih0 _ _ _ _)
   | (with_reducible exact ih1 _ _ _ _ _ _)
   | (with_reducible exact field_isPrime.mono _ _)
   | (with_reducible exact field_order.mono _ _ _)
   | (with_reducible exact LeO.refl _)
   | (with_reducible exact LeO.none _)
   | (with_reducible refine LeO.ite ?_ ?_)
   | (with_reducible refine LeO.bind ?_ (fun _ => ?_))
   | exact ih0 _ _ _ _
   | exact ih1 _ _ _ _ _ _
   | exact field_isPrime.mono _ _
   | exact field_order.mono _ _ _
   | exact LeO.none _
   | refine LeO.ite ?_ ?_
   | refine LeO.bind ?_ (fun _ => ?_)
  ·intro y0 y1 y2 y3 y4 y5
   unfold field_shape.l0
   repeat' first
   | (with_reducible exact ih0 _ _ _ _)
   | (with_reducible exact ih1 _ _ _ _ _ _)
   | (with_reducible exact field_isPrime.mono _ _)
   | (with_reducible exact field_order.mono _ _ _)
   | (with_reducible exact LeO.refl _)
   | (with_reducible exact LeO.none _)
   | (with_reducible refine LeO.ite ?_ ?_)
   | (with_reducible refine LeO.bind ?_ (fun _ => ?_))
   | exact ih0 _ _ _ _
   | exact ih1 _ _ _ _ _ _
   | exact field_isPrime.mono _ _
   | exact field_order.mono _ _ _
   | exact LeO.none _
   | refine LeO.ite ?_ ?_
   | refine LeO.bind ?_ (fun _ => ?_)
theorem field_shape.mono : ∀ a0 a1 a2 k, LeO (field_shape.f k a0 a1 a2) (field_shape.f (k + 1) a0 a1 a2) := by
 intro a0 a1 a2 k
 obtain ⟨ih0, ih1⟩ := field_shape.mono_l k
 unfold field_shape.f
 repeat' first
   | (with_reducible exact ih0 _ _ _ _)
   | (with_reducible exact ih1 _ _ _ _ _ _)
   | (with_reducible exact field_isPrime.mono _ _)
   | (with_reducible exact field_order.mono _ _ _)
   | (with_reducible exact LeO.refl _)
   | (with_reducible exact LeO.none _)
   | (with_reducible refine LeO.ite ?_ ?_)
   | (with_reducible refine LeO.bind ?_ (fun _ => ?_))
   | exact ih0 _ _ _ _
   | exact ih1 _ _ _ _ _ _
   | exact field_isPrime.mono _ _
   | exact field_order.mono _ _ _
   | exact LeO.none _
   | refine LeO.ite ?_ ?_
   | refine LeO.bind ?_ (fun _ => ?_)
set_option maxHeartbeats 8000000 in
set_option maxRecDepth 100000 in
theorem field_shape.calls (k : Nat) (a0_0 : Int) (a0_1 : Int) (A0_2 : Option Addr) (c0_2 : Nat) (l0_2 : List Int) (r : Bool) (w : World) (hr0_2 : Kd.C (Kd.int .i64) w A0_2 l0_2.length l0_2) (hc0_2 : l0_2.length ≤ c0_2) (h : field_shape.f k a0_0 a0_1 l0_2 = some r) :
  Calls Try.prog 62 #[.agg #[.int .i64 a0_0, .int .i64 a0_1, .slice A0_2 l0_2.length c0_2]] w fun e w' => e = .returned (.bool r) ∧ Below w.heap.size w w' := by
 have hu36 := Try.underlying36
 have HR0_2 := Aside0.mk hr0_2
 have HC0_2 := Aside0.mk hc0_2
 clear hr0_2 hc0_2
 have HB := Aside0.mk (Below.refl w.heap.size w)
 have H : ((field_order.f k a0_0 a0_1).bind fun t102 => (if t102 = 0 then (field_shape.j0 k true a0_0 a0_1 l0_2) else ((field_isPrime.f k a0_0).bind fun t103 => (field_shape.j0 k (!t103) a0_0 a0_1 l0_2)))) = some r := h
 clear h
 have HC2 := Aside0.mk H
 clear H
 go_enter Try.func62, Try.ntmps62
 go_upto_region 1 with (first | ((with_reducible refine gate_dst (N := 1) rfl ?_); refine box_event ?hg (N := 1) ?hd (cs := #[.int .i64 a0_0, .int .i64 a0_1, .slice A0_2 l0_2.length c0_2]) (t := 36) ?hr ?_; (case hd => rfl); (case hg => rfl); (case hr => first | (go_simp; done) | (go_simp; rfl)); intro gb101 hg w3 hbox hb; have n0_ := Aside0.mk (below_step (by repeat (first | (with_reducible first | exact HB.out | apply below_alloc | apply pw_below_drewN | apply below_drew1) | exact HB.out)) hb); have n1_ := Aside0.mk (hbox); have n2_ := Aside0.mk ((by rw [hg]; exact (below_size (by repeat (first | (with_reducible first | exact HB.out | apply below_alloc | apply pw_below_drewN | apply below_drew1) | exact HB.out))) : w.heap.size ≤ gb101)); have n3_ := Aside0.mk ((by rw [hg]; exact (below_size (by repeat (first | (with_reducible first | exact HB.out | apply below_alloc | apply pw_below_drewN | apply below_drew1) | exact HB.out))) : w.heap.size ≤ gb101)); clear HB; have HB := n0_; have BK101 := n1_; have GW101 := n2_; have GE101 := n3_; clear n0_ n1_ n2_ n3_; clear hb hbox hg))
 (try simp only [Act.put, List.setIfInBounds_toArray, List.set_cons_zero, List.set_cons_succ])
 go_cut [16] (fun v16 wc => ∃ (kq : Nat) (x16_1 : Bool), v16 = .bool x16_1 ∧ Aside0 (field_shape.j0 kq x16_1 a0_0 a0_1 l0_2 = some r) ∧ Aside0 (kq ≤ k) ∧ Aside0 (wc.heap[gb101]? = some (.cells #[.int .i64 a0_0, .int .i64 a0_1, (.slice A0_2 l0_2.length c0_2)] 36 (0, 0))) ∧ Aside0 (Below w.heap.size w wc))
 case first =>
  have H := HC2.out
  clear HC2
  replace H := Option.bind_eq_some_iff.mp H
  obtain ⟨t102, A40, H⟩ := H
  replace H : (if t102 = 0 then (field_shape.j0 k true a0_0 a0_1 l0_2) else ((field_isPrime.f k a0_0).bind fun t103 => (field_shape.j0 k (!t103) a0_0 a0_1 l0_2))) = some r := H
  have A4 := Aside0.mk A40
  clear A40
  by_cases c5 : t102 = 0
  ·rw [if_pos c5] at H
   have c5b0 : (t102 == 0) = true := beq_iff_eq.mpr c5
   have c5b1 : (t102 != 0) = false := bne_eq_false_iff_eq.mpr c5
   clear c5
   (first | rw [c5b0] | (simp only [i64_w, i32_w]; rw [c5b0]) | skip)
   have H' := Aside0.mk H
   clear H
   have hcz6_0 : w3.cell? ⟨gb101, 0, none⟩ = some (.int .i64 a0_0) := (blk_cell BK101.out 0).trans rfl
   have hcz6_1 : w3.cell? ⟨gb101, 1, none⟩ = some (.int .i64 a0_1) := (blk_cell BK101.out 1).trans rfl
   have hcz6_2 : w3.cell? ⟨gb101, 2, none⟩ = some (.slice A0_2 l0_2.length c0_2) := (blk_cell BK101.out 2).trans rfl
   have hfz6_0 := blk_frozen BK101.out 0
   have hfz6_1 := blk_frozen BK101.out 1
   have hfz6_2 := blk_frozen BK101.out 2
   go_wp2_with (first | ((with_reducible refine gate_callee (f := 63) rfl ?_); refine goesL_ (some 9) rfl rfl Try.func63 (by kernel_rfl) rfl #[.int .i64 a0_0, .int .i64 a0_1] rfl (by (try simp only [List.map_toArray, List.map_cons, List.map_nil]); first | done | rfl | (simp only [List.length_drop, List.length_take]; rfl)) ?_; (with_reducible refine (field_order.calls k a0_0 a0_1 t102 _ A4.out).mono ?_); rintro e w' ⟨rfl, ⟨nd, rfl⟩⟩; refine ⟨_, rfl, ?_⟩))
   go_meet
   case rel => exact ⟨_, (true), (by first | rfl | (simp; done) | (simp [*]; done)), H', ⟨by first | omega | exact Nat.le_refl _⟩, ⟨by (with_reducible repeat (first | refine blk_drewN ?_ _ | refine blk_drew ?_ | refine blk_alloc ?_ _)); exact BK101.out⟩, ⟨by repeat (first | (with_reducible first | exact HB.out | apply below_alloc | apply pw_below_drewN | apply below_drew1 | refine below_set ?_ GE101.out) | exact HB.out)⟩⟩
  ·rw [if_neg c5] at H
   have c5b0 : (t102 == 0) = false := beq_eq_false_iff_ne.mpr c5
   have c5b1 : (t102 != 0) = true := bne_iff_ne.mpr c5
   (first | rw [c5b0] | (simp only [i64_w, i32_w]; rw [c5b0]) | skip)
   replace H := Option.bind_eq_some_iff.mp H
   obtain ⟨t103, A70, H⟩ := H
   replace H : (field_shape.j0 k (!t103) a0_0 a0_1 l0_2) = some r := H
   have A7 := Aside0.mk A70
   clear A70
   have H' := Aside0.mk H
   clear H
   have hcz8_0 : w3.cell? ⟨gb101, 0, none⟩ = some (.int .i64 a0_0) := (blk_cell BK101.out 0).trans rfl
   have hcz8_1 : w3.cell? ⟨gb101, 1, none⟩ = some (.int .i64 a0_1) := (blk_cell BK101.out 1).trans rfl
   have hcz8_2 : w3.cell? ⟨gb101, 2, none⟩ = some (.slice A0_2 l0_2.length c0_2) := (blk_cell BK101.out 2).trans rfl
   have hfz8_0 := blk_frozen BK101.out 0
   have hfz8_1 := blk_frozen BK101.out 1
   have hfz8_2 := blk_frozen BK101.out 2
   go_wp2_with (first | ((with_reducible refine gate_callee (f := 63) rfl ?_); refine goesL_ (some 9) rfl rfl Try.func63 (by kernel_rfl) rfl #[.int .i64 a0_0, .int .i64 a0_1] rfl (by (try simp only [List.map_toArray, List.map_cons, List.map_nil]); first | done | rfl | (simp only [List.length_drop, List.length_take]; rfl)) ?_; (with_reducible refine (field_order.calls k a0_0 a0_1 t102 _ A4.out).mono ?_); rintro e w' ⟨rfl, ⟨nd, rfl⟩⟩; refine ⟨_, rfl, ?_⟩) | (go_at_call 90; (with_reducible refine (field_isPrime.calls k a0_0 t103 _ A7.out).mono ?_); rintro e w' ⟨rfl, ⟨nd, rfl⟩⟩))
   go_meet
   case rel => exact ⟨_, (!t103), (by first | rfl | (simp; done) | (simp [*]; done)), H', ⟨by first | omega | exact Nat.le_refl _⟩, ⟨by (with_reducible repeat (first | refine blk_drewN ?_ _ | refine blk_drew ?_ | refine blk_alloc ?_ _)); exact BK101.out⟩, ⟨by repeat (first | (with_reducible first | exact HB.out | apply below_alloc | apply pw_below_drewN | apply below_drew1 | refine below_set ?_ GE101.out) | exact HB.out)⟩⟩
 case rest =>
  clear HC2
  try clear p2
  try clear c5
  try clear c5b0
  try clear c5b1
  try clear c6
  try clear hcz6_0
  try clear hcz6_1
  try clear hcz6_2
  try clear hcz8_0
  try clear hcz8_1
  try clear hcz8_2
  try clear hfz6_0
  try clear hfz6_1
  try clear hfz6_2
  try clear hfz8_0
  try clear hfz8_1
  try clear hfz8_2
  obtain ⟨kq, x16_1, rfl, HA, HJ1, BK101, HB⟩ := hcut
  cases kq with
  | zero => exact absurd HA.out (by simp [field_shape.j0])
  | succ kj1 =>
   have H := HA.out
   clear HA
   simp only [field_shape.j0] at H
   by_cases c9 : x16_1 = true
   ·subst c9
    have H1 : (some false) = some r := by rw [if_pos rfl] at H; exact H
    clear H
    have H := H1
    clear H1
    obtain rfl := Option.some.inj H
    go_wp2
    go_ret
    exact ⟨by first | rfl | (simp [errW_none, errW_some] <;> rfl) | (simp [*, errW_none, errW_some] <;> rfl), by repeat (first | (with_reducible first | exact HB.out | apply below_alloc | apply pw_below_drewN | apply below_drew1 | refine below_set ?_ GE101.out) | exact HB.out)⟩
   ·replace c9 := Bool.eq_false_iff.mpr c9
    subst c9
    have H1 : (if a0_1 = 1 then (some ((l0_2.length : Int) == 0)) else (if (l0_2.length : Int) = a0_1 then (field_shape.l0 kj1 l0_2 (l0_2.length : Int) 0 a0_0 a0_1 l0_2) else (some false))) = some r := by rw [if_neg (show ¬ (false = true) by decide)] at H; exact H
    clear H
    have H := H1
    clear H1
    by_cases c10 : a0_1 = 1
    ·rw [if_pos c10] at H
     have c10b0 : (a0_1 == 1) = true := beq_iff_eq.mpr c10
     have c10b1 : (a0_1 != 1) = false := bne_eq_false_iff_eq.mpr c10
     clear c10
     obtain rfl := Option.some.inj H
     have hcz11_0 : wc.cell? ⟨gb101, 0, none⟩ = some (.int .i64 a0_0) := (blk_cell BK101.out 0).trans rfl
     have hcz11_1 : wc.cell? ⟨gb101, 1, none⟩ = some (.int .i64 a0_1) := (blk_cell BK101.out 1).trans rfl
     have hcz11_2 : wc.cell? ⟨gb101, 2, none⟩ = some (.slice A0_2 l0_2.length c0_2) := (blk_cell BK101.out 2).trans rfl
     have hfz11_0 := blk_frozen BK101.out 0
     have hfz11_1 := blk_frozen BK101.out 1
     have hfz11_2 := blk_frozen BK101.out 2
     go_wp2
     go_ret
     exact ⟨by first | rfl | (simp [errW_none, errW_some] <;> rfl) | (simp [*, errW_none, errW_some] <;> rfl), by repeat (first | (with_reducible first | exact HB.out | apply below_alloc | apply pw_below_drewN | apply below_drew1 | refine below_set ?_ GE101.out) | exact HB.out)⟩
    ·rw [if_neg c10] at H
     have c10b0 : (a0_1 == 1) = false := beq_eq_false_iff_ne.mpr c10
     have c10b1 : (a0_1 != 1) = true := bne_iff_ne.mpr c10
     by_cases c12 : (l0_2.length : Int) = a0_1
     ·rw [if_pos c12] at H
      have c12b0 : ((l0_2.length : Int) == a0_1) = true := beq_iff_eq.mpr c12
      have c12b1 : ((l0_2.length : Int) != a0_1) = false := bne_eq_false_iff_eq.mpr c12
      clear c12
      have H' := Aside0.mk H
      clear H
      have hcz13_0 : wc.cell? ⟨gb101, 0, none⟩ = some (.int .i64 a0_0) := (blk_cell BK101.out 0).trans rfl
      have hcz13_1 : wc.cell? ⟨gb101, 1, none⟩ = some (.int .i64 a0_1) := (blk_cell BK101.out 1).trans rfl
      have hcz13_2 : wc.cell? ⟨gb101, 2, none⟩ = some (.slice A0_2 l0_2.length c0_2) := (blk_cell BK101.out 2).trans rfl
      have hfz13_0 := blk_frozen BK101.out 0
      have hfz13_1 := blk_frozen BK101.out 1
      have hfz13_2 := blk_frozen BK101.out 2
      go_wp2
      go_loopg [33] kj1 (fun kq v33 w' => ∃ (x33_2 : Int), v33 = .int .i64 x33_2 ∧ Aside0 (field_shape.l0 kq l0_2 (l0_2.length : Int) x33_2 a0_0 a0_1 l0_2 = some r) ∧ Aside0 (kq ≤ kj1) ∧ Aside0 (w'.heap[gb101]? = some (.cells #[.int .i64 a0_0, .int .i64 a0_1, (.slice A0_2 l0_2.length c0_2)] 36 (0, 0))) ∧ Aside0 (Below w.heap.size w w'))
      case atStart => exact ⟨(0), (by first | rfl | (simp; done) | (simp [*]; done)), H', ⟨Nat.le_refl _⟩, ⟨by (with_reducible repeat (first | refine blk_drewN ?_ _ | refine blk_drew ?_ | refine blk_alloc ?_ _)); exact BK101.out⟩, ⟨by repeat (first | (with_reducible first | exact HB.out | apply below_alloc | apply pw_below_drewN | apply below_drew1 | refine below_set ?_ GE101.out) | exact HB.out)⟩⟩
      case round =>
       clear H'
       try clear c1
       try clear p2
       try clear c5
       try clear c5b0
       try clear c5b1
       try clear c6
       try clear c9
       try clear c10
       try clear c10b0
       try clear c10b1
       try clear c12
       try clear c12b0
       try clear c12b1
       try clear hcz11_0
       try clear hcz11_1
       try clear hcz11_2
       try clear hcz13_0
       try clear hcz13_1
       try clear hcz13_2
       try clear hcz6_0
       try clear hcz6_1
       try clear hcz6_2
       try clear hcz8_0
       try clear hcz8_1
       try clear hcz8_2
       try clear hfz11_0
       try clear hfz11_1
       try clear hfz11_2
       try clear hfz13_0
       try clear hfz13_1
       try clear hfz13_2
       try clear hfz6_0
       try clear hfz6_1
       try clear hfz6_2
       try clear hfz8_0
       try clear hfz8_1
       try clear hfz8_2
       try clear p2
       obtain ⟨x33_2, rfl, HA, HK2, BK101, HB⟩ := hrel
       cases gk with
       | zero => exact absurd HA.out (by simp [field_shape.l0])
       | succ k2 =>
        have H := HA.out
        clear HA
        simp only [field_shape.l0] at H
        by_cases c14 : x33_2 < (l0_2.length : Int)
        ·rw [if_pos c14] at H
         have c14b0 : decide (x33_2 < (l0_2.length : Int)) = true := decide_eq_true c14
         clear c14
         by_cases c15 : 0 ≤ x33_2
         ·rw [if_pos c15] at H
          have c15b0 : decide (0 ≤ x33_2) = true := decide_eq_true c15
          clear c15
          by_cases c16 : x33_2 < (l0_2.length : Int)
          ·rw [if_pos c16] at H
           have c16b0 : decide (x33_2 < (l0_2.length : Int)) = true := decide_eq_true c16
           clear c16
           by_cases c17 : (rd l0_2 x33_2) < 0
           ·rw [if_pos c17] at H
            have c17b0 : decide ((rd l0_2 x33_2) < 0) = true := decide_eq_true c17
            clear c17
            obtain rfl := Option.some.inj H
            have p104 : 0 ≤ (x33_2 : Int) := of_decide_eq_true (by first | (with_reducible assumption) | assumption)
            have q104 : x33_2 < (l0_2.length : Int) := of_decide_eq_true (by first | (with_reducible assumption) | assumption)
            obtain ⟨ad104, e104, hx104_0⟩ := Kd.at_int HR0_2.out x33_2 p104 q104
            cases e104
            replace hx104_0 := (HB.out.cell (World.block_lt_of_cell? w _ hx104_0)).trans hx104_0
            replace p104 := eq_true p104
            replace q104 := eq_true q104
            go_wp2
            go_ret
            exact ⟨by first | rfl | (simp [errW_none, errW_some] <;> rfl) | (simp [*, errW_none, errW_some] <;> rfl), by repeat (first | (with_reducible first | exact HB.out | apply below_alloc | apply pw_below_drewN | apply below_drew1 | refine below_set ?_ GE101.out) | exact HB.out)⟩
           ·rw [if_neg c17] at H
            have c17b0 : decide ((rd l0_2 x33_2) < 0) = false := decide_eq_false c17
            clear c17
            by_cases c18 : (rd l0_2 x33_2) ≥ a0_0
            ·rw [if_pos c18] at H
             have c18b0 : decide (a0_0 ≤ (rd l0_2 x33_2)) = true := decide_eq_true c18
             clear c18
             obtain rfl := Option.some.inj H
             have p104 : 0 ≤ (x33_2 : Int) := of_decide_eq_true (by first | (with_reducible assumption) | assumption)
             have q104 : x33_2 < (l0_2.length : Int) := of_decide_eq_true (by first | (with_reducible assumption) | assumption)
             obtain ⟨ad104, e104, hx104_0⟩ := Kd.at_int HR0_2.out x33_2 p104 q104
             cases e104
             replace hx104_0 := (HB.out.cell (World.block_lt_of_cell? w _ hx104_0)).trans hx104_0
             replace p104 := eq_true p104
             replace q104 := eq_true q104
             have hcz19_0 : wr.cell? ⟨gb101, 0, none⟩ = some (.int .i64 a0_0) := (blk_cell BK101.out 0).trans rfl
             have hcz19_1 : wr.cell? ⟨gb101, 1, none⟩ = some (.int .i64 a0_1) := (blk_cell BK101.out 1).trans rfl
             have hcz19_2 : wr.cell? ⟨gb101, 2, none⟩ = some (.slice (some ad104) l0_2.length c0_2) := (blk_cell BK101.out 2).trans rfl
             have hfz19_0 := blk_frozen BK101.out 0
             have hfz19_1 := blk_frozen BK101.out 1
             have hfz19_2 := blk_frozen BK101.out 2
             go_wp2
             go_ret
             exact ⟨by first | rfl | (simp [errW_none, errW_some] <;> rfl) | (simp [*, errW_none, errW_some] <;> rfl), by repeat (first | (with_reducible first | exact HB.out | apply below_alloc | apply pw_below_drewN | apply below_drew1 | refine below_set ?_ GE101.out) | exact HB.out)⟩
            ·rw [if_neg c18] at H
             have c18b0 : decide (a0_0 ≤ (rd l0_2 x33_2)) = false := decide_eq_false c18
             clear c18
             have H' := Aside0.mk H
             clear H
             have p104 : 0 ≤ (x33_2 : Int) := of_decide_eq_true (by first | (with_reducible assumption) | assumption)
             have q104 : x33_2 < (l0_2.length : Int) := of_decide_eq_true (by first | (with_reducible assumption) | assumption)
             obtain ⟨ad104, e104, hx104_0⟩ := Kd.at_int HR0_2.out x33_2 p104 q104
             cases e104
             replace hx104_0 := (HB.out.cell (World.block_lt_of_cell? w _ hx104_0)).trans hx104_0
             replace p104 := eq_true p104
             replace q104 := eq_true q104
             have hcz20_0 : wr.cell? ⟨gb101, 0, none⟩ = some (.int .i64 a0_0) := (blk_cell BK101.out 0).trans rfl
             have hcz20_1 : wr.cell? ⟨gb101, 1, none⟩ = some (.int .i64 a0_1) := (blk_cell BK101.out 1).trans rfl
             have hcz20_2 : wr.cell? ⟨gb101, 2, none⟩ = some (.slice (some ad104) l0_2.length c0_2) := (blk_cell BK101.out 2).trans rfl
             have hfz20_0 := blk_frozen BK101.out 0
             have hfz20_1 := blk_frozen BK101.out 1
             have hfz20_2 := blk_frozen BK101.out 2
             go_wp2
             go_roundg k2
             case measure => have := HJ1.out; have := HK2.out; omega
             case rel => exact ⟨(wrap64 (x33_2 + 1)), (by first | rfl | (simp; done) | (simp [*]; done)), H', ⟨by have := HJ1.out; have := HK2.out; omega⟩, ⟨by (with_reducible repeat (first | refine blk_drewN ?_ _ | refine blk_drew ?_ | refine blk_alloc ?_ _)); exact BK101.out⟩, ⟨by repeat (first | (with_reducible first | exact HB.out | apply below_alloc | apply pw_below_drewN | apply below_drew1 | refine below_set ?_ GE101.out) | exact HB.out)⟩⟩
          ·rw [if_neg c16] at H
           exact absurd H (by simp)
         ·rw [if_neg c15] at H
          exact absurd H (by simp)
        ·rw [if_neg c14] at H
         have c14b0 : decide (x33_2 < (l0_2.length : Int)) = false := decide_eq_false c14
         clear c14
         obtain rfl := Option.some.inj H
         go_wp2
         go_ret
         exact ⟨by first | rfl | (simp [errW_none, errW_some] <;> rfl) | (simp [*, errW_none, errW_some] <;> rfl), by repeat (first | (with_reducible first | exact HB.out | apply below_alloc | apply pw_below_drewN | apply below_drew1 | refine below_set ?_ GE101.out) | exact HB.out)⟩
     ·rw [if_neg c12] at H
      have c12b0 : ((l0_2.length : Int) == a0_1) = false := beq_eq_false_iff_ne.mpr c12
      have c12b1 : ((l0_2.length : Int) != a0_1) = true := bne_iff_ne.mpr c12
      obtain rfl := Option.some.inj H
      have hcz21_0 : wc.cell? ⟨gb101, 0, none⟩ = some (.int .i64 a0_0) := (blk_cell BK101.out 0).trans rfl
      have hcz21_1 : wc.cell? ⟨gb101, 1, none⟩ = some (.int .i64 a0_1) := (blk_cell BK101.out 1).trans rfl
      have hcz21_2 : wc.cell? ⟨gb101, 2, none⟩ = some (.slice A0_2 l0_2.length c0_2) := (blk_cell BK101.out 2).trans rfl
      have hfz21_0 := blk_frozen BK101.out 0
      have hfz21_1 := blk_frozen BK101.out 1
      have hfz21_2 := blk_frozen BK101.out 2
      go_wp2
      go_ret
      exact ⟨by first | rfl | (simp [errW_none, errW_some] <;> rfl) | (simp [*, errW_none, errW_some] <;> rfl), by repeat (first | (with_reducible first | exact HB.out | apply below_alloc | apply pw_below_drewN | apply below_drew1 | refine below_set ?_ GE101.out) | exact HB.out)⟩

/-! ### field_digitsOf: function 122 -/
def field_digitsOf.l0 : Nat → Int → Int → List Int → Int → Int → Option (List Int)
 | 0, _, _, _, _, _ => none
 | k + 1, x0, x1, x7, x12, x13 => if x13 < x12 then (if x1 = 0 then (none) else (if 0 ≤ x13 then (if x13 < (x7.length : Int) then (field_digitsOf.l0 k (wrap64 (Int.tdiv x0 x1)) x1 (x7.set (x13 : Int).toNat (Int.tmod x0 x1)) x12 (wrap64 (x13 + 1))) else (none)) else (none))) else (some x7)
def field_digitsOf.f (k : Nat) (a0 : Int) (a1 : Int) (a2 : Int) : Option (List Int) := if 0 ≤ a2 then (if (a2 : Int).toNat ≤ 35184372088832 then ((some (List.replicate (a2 : Int).toNat 0 : List Int)).bind fun y105 => (field_digitsOf.l0 k a0 a1 y105 (y105.length : Int) 0)) else (none)) else (none)
theorem field_digitsOf.mono_l : ∀ k, (∀ y0 y1 y2 y3 y4, LeO (field_digitsOf.l0 k y0 y1 y2 y3 y4) (field_digitsOf.l0 (k + 1) y0 y1 y2 y3 y4))
 | 0 => fun _ _ _ _ _ r h => by simp [field_digitsOf.l0] at h
 | k + 1 => by
  have ih0 := field_digitsOf.mono_l k
  ·intro y0 y1 y2 y3 y4
   unfold field_digitsOf.l0
   repeat' first
   | (with_reducible exact ih0 _ _ _ _ _)
   | (with_reducible exact LeO.refl _)
   | (with_reducible exact LeO.none _)
   | (with_reducible refine LeO.ite ?_ ?_)
   | (with_reducible refine LeO.bind ?_ (fun _ => ?_))
   | exact ih0 _ _ _ _ _
   | exact LeO.none _
   | refine LeO.ite ?_ ?_
   | refine LeO.bind ?_ (fun _ => ?_)
theorem field_digitsOf.mono : ∀ a0 a1 a2 k, LeO (field_digitsOf.f k a0 a1 a2) (field_digitsOf.f (k + 1) a0 a1 a2) := by
 intro a0 a1 a2 k
 have ih0 := field_digitsOf.mono_l k
 unfold field_digitsOf.f
 repeat' first
   | (with_reducible exact ih0 _ _ _ _ _)
   | (with_reducible exact LeO.refl _)
   | (with_reducible exact LeO.none _)
   | (with_reducible refine LeO.ite ?_ ?_)
   | (with_reducible refine LeO.bind ?_ (fun _ => ?_))
   | exact ih0 _ _ _ _ _
   | exact LeO.none _
   | refine LeO.ite ?_ ?_
   | refine LeO.bind ?_ (fun _ => ?_)
set_option maxHeartbeats 8000000 in
set_option maxRecDepth 100000 in
theorem field_digitsOf.calls (k : Nat) (a0 : Int) (a1 : Int) (a2 : Int) (r : List Int) (w : World) (h : field_digitsOf.f k a0 a1 a2 = some r) :
  Calls Try.prog 122 #[.int .i64 a0, .int .i64 a1, .int .i64 a2] w fun e w' => ∃ v0_ : Value, e = .returned (v0_) ∧ Kd.R (Kd.int .i64) 3 w' w.heap.size (fun _ => True) v0_ r ∧ Below w.heap.size w w' := by
 have HB := Aside0.mk (Below.refl w.heap.size w)
 have H : (if 0 ≤ a2 then (if (a2 : Int).toNat ≤ 35184372088832 then ((some (List.replicate (a2 : Int).toNat 0 : List Int)).bind fun y105 => (field_digitsOf.l0 k a0 a1 y105 (y105.length : Int) 0)) else (none)) else (none)) = some r := h
 clear h
 by_cases c4 : 0 ≤ a2
 ·rw [if_pos c4] at H
  have c4b0 := eq_true c4
  have c4b1 : decide (0 ≤ a2) = true := decide_eq_true c4
  clear c4
  by_cases c5 : (a2 : Int).toNat ≤ 35184372088832
  ·rw [if_pos c5] at H
   have c5b0 := eq_true c5
   have c5b1 : decide ((a2 : Int).toNat ≤ 35184372088832) = true := decide_eq_true c5
   clear c5
   obtain ⟨y105, hy105⟩ : ∃ y_ : List Int, y_ = (List.replicate (a2 : Int).toNat 0) := ⟨_, rfl⟩
   replace H : (field_digitsOf.l0 k a0 a1 y105 (y105.length : Int) 0) = some r := by first | (rw [hy105]; with_reducible exact H) | (have H2_ := (Option.bind_some _ _).symm.trans H; rw [hy105]; with_reducible exact H2_) | (have H2_ := (Option.bind_some _ _).symm.trans H; with_reducible exact H2_) | with_reducible exact H | (rw [hy105]; exact H) | exact H
   have Ny105 := Aside0.mk hy105
   clear hy105
   have H' := Aside0.mk H
   clear H
   go_enter Try.func122, Try.ntmps122
   go_wp2_with (first | ((with_reducible refine gate_dst (N := 10) rfl ?_); refine Kd.R_make (Kd.int .i64) _ 3 rfl (N := 10) rfl 22 _ _ rfl a2 rfl rfl Try.underlying22 (.int .i64 0) 8 info3 rfl (by decide) (by omega) 0 (ok := fun _ => True) (okp := fun _ => True) rfl (fun _ hk => hk) trivial (of_decide_eq_true (by first | (with_reducible assumption) | assumption)) (Nat.le_trans (Nat.mul_le_mul_right _ (of_decide_eq_true (by first | (with_reducible assumption) | assumption) : a2.toNat ≤ 35184372088832)) (by omega)) (Below.refl _ _) (Nat.le_refl _) ?_; intro v106 w6 ho7 hb hg_ hnew_; clear hg_ hnew_; (first | rw [← Ny105.out] at ho7 | (simp only [Int.reduceToNat] at ho7; rw [← Ny105.out] at ho7)); have n0_ := Aside0.mk (Kd.R_lower ho7 (below_size (by repeat (first | (with_reducible first | exact HB.out | apply below_alloc | apply pw_below_drewN | apply below_drew1) | exact HB.out)))); have n1_ := Aside0.mk (below_step (by repeat (first | (with_reducible first | exact HB.out | apply below_alloc | apply pw_below_drewN | apply below_drew1) | exact HB.out)) hb); clear HB; have HO107 := n0_; have HB := n1_; clear n0_ n1_; clear hb ho7; obtain ⟨Ao8, co8, eo8⟩ := Kd.R_slice HO107.out; subst eo8))
   go_loopg [0, 13] k (fun kq v0 v13 w' => ∃ (x0_1 : Int) (x7_1 : List Int) (x13_1 : Int), v0 = .int .i64 x0_1 ∧ v13 = .int .i64 x13_1 ∧ Aside0 (field_digitsOf.l0 kq x0_1 a1 x7_1 (y105.length : Int) x13_1 = some r) ∧ Aside0 (kq ≤ k) ∧ Aside0 (Kd.R (Kd.int .i64) 3 w' w.heap.size (fun _ => True) (.slice Ao8 y105.length co8) x7_1) ∧ Aside0 (Below w.heap.size w w'))
   case atStart => exact ⟨(a0), (y105), (0), (by first | rfl | (simp; done) | (simp [*]; done)), (by first | rfl | (simp; done) | (simp [*]; done)), H', ⟨Nat.le_refl _⟩, ⟨by (with_reducible repeat (first | apply Kd.R_alloc | apply Kd.R_drewN | apply Kd.R_drew)); exact HO107.out⟩, ⟨by repeat (first | (with_reducible first | exact HB.out | apply below_alloc | apply pw_below_drewN | apply below_drew1) | exact HB.out)⟩⟩
   case round =>
    clear H'
    try clear c1
    try clear p2
    try clear c4
    try clear c4b0
    try clear c4b1
    try clear c5
    try clear c5b0
    try clear c5b1
    obtain ⟨x0_1, x7_1, x13_1, rfl, rfl, HA, HK1, HO_7, HB⟩ := hrel
    have hl7_1 := (Kd.R_reads' HO_7.out).1
    rw [hl7_1] at HO_7
    (try simp only [hl7_1])
    cases gk with
    | zero => exact absurd HA.out (by simp [field_digitsOf.l0])
    | succ k1 =>
     have H := HA.out
     clear HA
     simp only [field_digitsOf.l0] at H
     by_cases c9 : x13_1 < (y105.length : Int)
     ·rw [if_pos c9] at H
      have c9b0 : decide (x13_1 < (y105.length : Int)) = true := decide_eq_true c9
      clear c9
      by_cases c10 : a1 = 0
      ·rw [if_pos c10] at H
       exact absurd H (by simp)
      ·rw [if_neg c10] at H
       have c10b0 : (a1 == 0) = false := beq_eq_false_iff_ne.mpr c10
       have c10b1 : (a1 != 0) = true := bne_iff_ne.mpr c10
       by_cases c11 : 0 ≤ x13_1
       ·rw [if_pos c11] at H
        have c11b0 : decide (0 ≤ x13_1) = true := decide_eq_true c11
        clear c11
        by_cases c12 : x13_1 < (x7_1.length : Int)
        ·rw [if_pos c12] at H
         have c12b0 : decide (x13_1 < (x7_1.length : Int)) = true := decide_eq_true c12
         clear c12
         obtain ⟨y108, hy108⟩ : ∃ y_ : List Int, y_ = (x7_1.set (x13_1 : Int).toNat (Int.tmod x0_1 a1)) := ⟨_, rfl⟩
         replace H : (field_digitsOf.l0 k1 (wrap64 (Int.tdiv x0_1 a1)) a1 y108 (y105.length : Int) (wrap64 (x13_1 + 1))) = some r := by first | (rw [hy108]; with_reducible exact H) | (have H2_ := (Option.bind_some _ _).symm.trans H; rw [hy108]; with_reducible exact H2_) | (have H2_ := (Option.bind_some _ _).symm.trans H; with_reducible exact H2_) | with_reducible exact H | (rw [hy108]; exact H) | exact H
         have Ny108 := Aside0.mk hy108
         clear hy108
         have H' := Aside0.mk H
         clear H
         have p13 : 0 ≤ (x13_1 : Int) := of_decide_eq_true (by first | (with_reducible assumption) | assumption)
         have q13 : (x13_1 : Int) < ((x7_1.length : Int) : Int) := of_decide_eq_true (by first | (with_reducible assumption) | assumption)
         obtain ⟨go13, co13, eo13, gb13, gl13, cl13, HG13⟩ := Kd.R_form HO_7.out (by omega)
         (first | cases eo13 | (injection eo13 with ea_ en_ ec_; (first | subst ea_ | (injection ea_ with ea_; subst ea_)); subst ec_; clear en_))
         have GB13 := Aside0.mk gb13
         have GG13 := Aside0.mk HG13
         clear gb13 gl13 HG13
         obtain ⟨hx13_0, hf13_0⟩ := Kd.R_celln 0 HO_7.out (x13_1 : Int) p13 q13
         replace p13 := eq_true p13
         replace q13 := eq_true q13
         have HP14 := Kd.R_putg HO_7.out (x13_1 : Int) (Int.tmod x0_1 a1)
         go_wp2_with (first | ((with_reducible refine gate_store (t := 3) (p := 21) rfl ?_); refine store_event (t := 3) (p := 21) (v := ?vo_w15) (w1 := (wr.setCell ⟨go13, (x13_1 : Int).toNat, none⟩ (.int .i64 (Int.tmod x0_1 a1)))) ?hg ?ho ?hn ?hr ?_; (case ho => rfl); (case hg => rfl); (case hn => rfl); (case hr => first | (go_simp; done) | (go_simp; rfl)); intro w15 hw; have hg : wr.grownBy w15 (some go13) := (by rw [hw]; exact HP14.2); have hp_ : Kd.R (Kd.int .i64) 3 w15 w.heap.size (fun _ => True) (.slice (some ⟨go13, 0, none⟩) x7_1.length co8) y108 := (by rw [hw, Ny108.out]; exact HP14.1); clear HP14; have n0_ := Aside0.mk (hp_); have n1_ := Aside0.mk ((by rw [hw]; exact below_set (HB.out) GB13.out : Below w.heap.size w w15)); clear HO_7; clear HB; have HO_7 := n0_; have HB := n1_; clear n0_ n1_; clear hg hw hp_))
         (try simp only [← hl7_1])
         go_roundg k1
         case measure => have := HK1.out; omega
         case rel => exact ⟨(wrap64 (Int.tdiv x0_1 a1)), (y108), (wrap64 (x13_1 + 1)), (by first | rfl | (simp; done) | (simp [*]; done)), (by first | rfl | (simp; done) | (simp [*]; done)), H', ⟨by have := HK1.out; omega⟩, ⟨by (try simp only [hl7_1]); (with_reducible repeat (first | apply Kd.R_alloc | apply Kd.R_drewN | apply Kd.R_drew)); exact HO_7.out⟩, ⟨by repeat (first | (with_reducible first | exact HB.out | apply below_alloc | apply pw_below_drewN | apply below_drew1) | exact HB.out)⟩⟩
        ·rw [if_neg c12] at H
         exact absurd H (by simp)
       ·rw [if_neg c11] at H
        exact absurd H (by simp)
     ·rw [if_neg c9] at H
      have c9b0 : decide (x13_1 < (y105.length : Int)) = false := decide_eq_false c9
      clear c9
      obtain rfl := Option.some.inj H
      (try rw [hl7_1] at c9b0)
      go_wp2
      go_ret
      exact ⟨_, by first | rfl | (simp [errW_none, errW_some] <;> rfl) | (simp [*, errW_none, errW_some] <;> rfl), by (with_reducible repeat (first | apply Kd.R_alloc | apply Kd.R_drewN | apply Kd.R_drew)); exact HO_7.out, by repeat (first | (with_reducible first | exact HB.out | apply below_alloc | apply pw_below_drewN | apply below_drew1) | exact HB.out)⟩
  ·rw [if_neg c5] at H
   exact absurd H (by simp)
 ·rw [if_neg c4] at H
  exact absurd H (by simp)

/-! ### field_valueOf: function 123 -/
def field_valueOf.l0 : Nat → List Int → Int → Int → Int → Option (Int)
 | 0, _, _, _, _ => none
 | k + 1, x0, x1, x5, x6 => if x6 ≥ 0 then (if 0 ≤ x6 then (if x6 < (x0.length : Int) then (field_valueOf.l0 k x0 x1 (wrap64 ((wrap64 (x5 * x1)) + (rd x0 x6))) (wrap64 (x6 - 1))) else (none)) else (none)) else (some x5)
def field_valueOf.f (k : Nat) (l0 : List Int) (a1 : Int) : Option (Int) := field_valueOf.l0 k l0 a1 0 (wrap64 ((l0.length : Int) - 1))
theorem field_valueOf.mono_l : ∀ k, (∀ y0 y1 y2 y3, LeO (field_valueOf.l0 k y0 y1 y2 y3) (field_valueOf.l0 (k + 1) y0 y1 y2 y3))
 | 0 => fun _ _ _ _ r h => by simp [field_valueOf.l0] at h
 | k + 1 => by
  have ih0 := field_valueOf.mono_l k
  ·intro y0 y1 y2 y3
   unfold field_valueOf.l0
   repeat' first
   | (with_reducible exact ih0 _ _ _ _)
   | (with_reducible exact LeO.refl _)
   | (with_reducible exact LeO.none _)
   | (with_reducible refine LeO.ite ?_ ?_)
   | (with_reducible refine LeO.bind ?_ (fun _ => ?_))
   | exact ih0 _ _ _ _
   | exact LeO.none _
   | refine LeO.ite ?_ ?_
   | refine LeO.bind ?_ (fun _ => ?_)
theorem field_valueOf.mono : ∀ a0 a1 k, LeO (field_valueOf.f k a0 a1) (field_valueOf.f (k + 1) a0 a1) := by
 intro a0 a1 k
 have ih0 := field_valueOf.mono_l k
 unfold field_valueOf.f
 repeat' first
   | (with_reducible exact ih0 _ _ _ _)
   | (with_reducible exact LeO.refl _)
   | (with_reducible exact LeO.none _)
   | (with_reducible refine LeO.ite ?_ ?_)
   | (with_reducible refine LeO.bind ?_ (fun _ => ?_))
   | exact ih0 _ _ _ _
   | exact LeO.none _
   | refine LeO.ite ?_ ?_
   | refine LeO.bind ?_ (fun _ => ?_)
set_option maxHeartbeats 8000000 in
set_option maxRecDepth 100000 in
theorem field_valueOf.calls (k : Nat) (A0 : Option Addr) (c0 : Nat) (l0 : List Int) (a1 : Int) (r : Int) (w : World) (hr0 : Kd.C (Kd.int .i64) w A0 l0.length l0) (hc0 : l0.length ≤ c0) (h : field_valueOf.f k l0 a1 = some r) :
  Calls Try.prog 123 #[.slice A0 l0.length c0, .int .i64 a1] w fun e w' => e = .returned (.int .i64 r) ∧ Drawn0 w w' := by
 have HR0 := Aside0.mk hr0
 have HC0 := Aside0.mk hc0
 clear hr0 hc0
 have H : (field_valueOf.l0 k l0 a1 0 (wrap64 ((l0.length : Int) - 1))) = some r := h
 clear h
 have H' := Aside0.mk H
 clear H
 go_enter Try.func123, Try.ntmps123
 go_wp2
 go_loopg [5, 6] k (fun kq v5 v6 w' => ∃ (x5_1 : Int) (x6_1 : Int), v5 = .int .i64 x5_1 ∧ v6 = .int .i64 x6_1 ∧ Aside0 (field_valueOf.l0 kq l0 a1 x5_1 x6_1 = some r) ∧ Aside0 (kq ≤ k) ∧ Drawn0 w w')
 case atStart => exact ⟨(0), (wrap64 ((l0.length : Int) - 1)), (by first | rfl | (simp; done) | (simp [*]; done)), (by first | rfl | (simp; done) | (simp [*]; done)), H', ⟨Nat.le_refl _⟩, by repeat (first | exact Drawn0.refl _ | apply Drawn0.step)⟩
 case round =>
  clear H'
  try clear c1
  try clear p2
  obtain ⟨x5_1, x6_1, rfl, rfl, HA, HK1, ⟨m1, rfl⟩⟩ := hrel
  cases gk with
  | zero => exact absurd HA.out (by simp [field_valueOf.l0])
  | succ k1 =>
   have H := HA.out
   clear HA
   simp only [field_valueOf.l0] at H
   by_cases c3 : x6_1 ≥ 0
   ·rw [if_pos c3] at H
    have c3b0 : decide (0 ≤ x6_1) = true := decide_eq_true c3
    clear c3
    by_cases c4 : 0 ≤ x6_1
    ·rw [if_pos c4] at H
     have c4b0 : decide (0 ≤ x6_1) = true := decide_eq_true c4
     clear c4
     by_cases c5 : x6_1 < (l0.length : Int)
     ·rw [if_pos c5] at H
      have c5b0 : decide (x6_1 < (l0.length : Int)) = true := decide_eq_true c5
      clear c5
      have H' := Aside0.mk H
      clear H
      have p109 : 0 ≤ (x6_1 : Int) := of_decide_eq_true (by first | (with_reducible assumption) | assumption)
      have q109 : x6_1 < (l0.length : Int) := of_decide_eq_true (by first | (with_reducible assumption) | assumption)
      obtain ⟨ad109, e109, hx109_0⟩ := Kd.at_int HR0.out x6_1 p109 q109
      cases e109
      replace p109 := eq_true p109
      replace q109 := eq_true q109
      go_wp2
      go_roundg k1
      case measure => have := HK1.out; omega
      case rel => exact ⟨(wrap64 ((wrap64 (x5_1 * a1)) + (rd l0 x6_1))), (wrap64 (x6_1 - 1)), (by first | rfl | (simp; done) | (simp [*]; done)), (by first | rfl | (simp; done) | (simp [*]; done)), H', ⟨by have := HK1.out; omega⟩, by repeat (first | exact Drawn0.refl _ | apply Drawn0.step)⟩
     ·rw [if_neg c5] at H
      exact absurd H (by simp)
    ·rw [if_neg c4] at H
     exact absurd H (by simp)
   ·rw [if_neg c3] at H
    have c3b0 : decide (0 ≤ x6_1) = false := decide_eq_false c3
    clear c3
    obtain rfl := Option.some.inj H
    go_wp2
    go_ret
    exact ⟨by first | rfl | (simp; done) | (simp [*]; done), by repeat (first | exact Drawn0.refl _ | apply Drawn0.step)⟩

end Go.Proofs.Ytibbdjkboglepaa.QBchRoots

-- My own print: a program's text for this claim
import Derived.Test.YtibbdjkboglepaaQBchClosuresx0
namespace Go.Proofs.Ytibbdjkboglepaa.QBchClosures
open Go.RowKit Go.Proofs.YtibbdjkboglepaaW.PrintWords Go.Proofs.YtibbdjkboglepaaW.PrintLast Go.Proofs.YtibbdjkboglepaaW.PrintMore
attribute [local go_sem] max2_int min2_int max_two min_two max_three min_three max_four min_four   -- for this text's walks alone
set_option linter.unusedVariables false
set_option linter.unusedSimpArgs false

/-! ### codewrightref09_SameInts: function 21 -/
def codewrightref09_SameInts.l0 : Nat → List Int → List Int → Int → Option (Bool)
  | 0, _, _, _ => none
  | k + 1, x0, x1, x5 => if x5 < (x0.length : Int) then (if 0 ≤ x5 then (if x5 < (x1.length : Int) then (if (rd x0 x5) = (rd x1 x5) then (codewrightref09_SameInts.l0 k x0 x1 (wrap64 (x5 + 1))) else (some false)) else (none)) else (none)) else (some true)
def codewrightref09_SameInts.f (k : Nat) (l0 : List Int) (l1 : List Int) : Option (Bool) := if (l0.length : Int) = (l1.length : Int) then (codewrightref09_SameInts.l0 k l0 l1 0) else (some false)
theorem codewrightref09_SameInts.mono_l : ∀ k, (∀ y0 y1 y2, LeO (codewrightref09_SameInts.l0 k y0 y1 y2) (codewrightref09_SameInts.l0 (k + 1) y0 y1 y2))
  | 0 => fun _ _ _ r h => by simp [codewrightref09_SameInts.l0] at h
  | k + 1 => by
    have ih0 := codewrightref09_SameInts.mono_l k
    · intro y0 y1 y2
      unfold codewrightref09_SameInts.l0
      repeat' first
      | (with_reducible exact ih0 _ _ _)
      | (with_reducible exact LeO.refl _)
      | (with_reducible exact LeO.none _)
      | (with_reducible refine LeO.ite ?_ ?_)
      | (with_reducible refine LeO.bind ?_ (fun _ => ?_))
      | exact ih0 _ _ _
      | exact LeO.none _
      | refine LeO.ite ?_ ?_
      | refine LeO.bind ?_ (fun _ => ?_)
theorem codewrightref09_SameInts.mono : ∀ a0 a1 k, LeO (codewrightref09_SameInts.f k a0 a1) (codewrightref09_SameInts.f (k + 1) a0 a1) := by
  intro a0 a1 k
  have ih0 := codewrightref09_SameInts.mono_l k
  unfold codewrightref09_SameInts.f
  repeat' first
      | (with_reducible exact ih0 _ _ _)
      | (with_reducible exact LeO.refl _)
      | (with_reducible exact LeO.none _)
      | (with_reducible refine LeO.ite ?_ ?_)
      | (with_reducible refine LeO.bind ?_ (fun _ => ?_))
      | exact ih0 _ _ _
      | exact LeO.none _
      | refine LeO.ite ?_ ?_
      | refine LeO.bind ?_ (fun _ => ?_)
set_option maxHeartbeats 8000000 in
set_option maxRecDepth 100000 in
theorem codewrightref09_SameInts.calls (k : Nat) (A0 : Option Addr) (c0 : Nat) (l0 : List Int) (A1 : Option Addr) (c1 : Nat) (l1 : List Int) (r : Bool) (w : World) (hr0 : Kd.C (Kd.int .i64) w A0 l0.length l0) (hc0 : l0.length ≤ c0) (hr1 : Kd.C (Kd.int .i64) w A1 l1.length l1) (hc1 : l1.length ≤ c1) (h : codewrightref09_SameInts.f k l0 l1 = some r) :
    Calls Try.prog 21 #[.slice A0 l0.length c0, .slice A1 l1.length c1] w fun e w' => e = .returned (.bool r) ∧ Drawn0 w w' := by
  have HR0 := Aside0.mk hr0
  have HC0 := Aside0.mk hc0
  clear hr0 hc0
  have HR1 := Aside0.mk hr1
  have HC1 := Aside0.mk hc1
  clear hr1 hc1
  have H : (if (l0.length : Int) = (l1.length : Int) then (codewrightref09_SameInts.l0 k l0 l1 0) else (some false)) = some r := h
  clear h
  by_cases c3 : (l0.length : Int) = (l1.length : Int)
  · rw [if_pos c3] at H
    have c3b0 : ((l0.length : Int) == (l1.length : Int)) = true := beq_iff_eq.mpr c3
    have c3b1 : ((l0.length : Int) != (l1.length : Int)) = false := bne_eq_false_iff_eq.mpr c3
    have c3b2 : (l0.length == l1.length) = true := by first | simpa using c3 | (simp at c3 ⊢; omega)
    clear c3
    have H' := Aside0.mk H
    clear H
    go_enter Try.func21, Try.ntmps21
    go_wp2
    repeat (go_quiet (fail); try go_wp2)
    go_loopg [5] k (fun kq v5 w' => ∃ (x5_1 : Int), v5 = .int .i64 x5_1 ∧ Aside0 (codewrightref09_SameInts.l0 kq l0 l1 x5_1 = some r) ∧ Aside0 (kq ≤ k) ∧ Drawn0 w w')
    case atStart => exact ⟨(0), (by first | rfl | (simp; done) | (simp [*]; done)), H', ⟨Nat.le_refl _⟩, by repeat (first | exact Drawn0.refl _ | apply Drawn0.step)⟩
    case round =>
      clear H'
      try clear c1
      try clear c2
      try clear p2
      try clear c3
      try clear c3b0
      try clear c3b1
      try clear c3b2
      obtain ⟨x5_1, rfl, HA, HK1, ⟨m1, rfl⟩⟩ := hrel
      cases gk with
      | zero => exact absurd HA.out (by simp [codewrightref09_SameInts.l0])
      | succ k1 =>
        have H := HA.out
        clear HA
        simp only [codewrightref09_SameInts.l0] at H
        by_cases c4 : x5_1 < (l0.length : Int)
        · rw [if_pos c4] at H
          have c4b0 : decide (x5_1 < (l0.length : Int)) = true := decide_eq_true c4
          clear c4
          by_cases c5 : 0 ≤ x5_1
          · rw [if_pos c5] at H
            have c5b0 : decide (0 ≤ x5_1) = true := decide_eq_true c5
            clear c5
            by_cases c6 : x5_1 < (l1.length : Int)
            · rw [if_pos c6] at H
              have c6b0 : decide (x5_1 < (l1.length : Int)) = true := decide_eq_true c6
              clear c6
              by_cases c7 : (rd l0 x5_1) = (rd l1 x5_1)
              · rw [if_pos c7] at H
                have c7b0 : ((rd l0 x5_1) == (rd l1 x5_1)) = true := beq_iff_eq.mpr c7
                have c7b1 : ((rd l0 x5_1) != (rd l1 x5_1)) = false := bne_eq_false_iff_eq.mpr c7
                clear c7
                have H' := Aside0.mk H
                clear H
                have p257 : 0 ≤ (x5_1 : Int) := of_decide_eq_true (by first | (with_reducible assumption) | assumption)
                have q257 : x5_1 < (l0.length : Int) := of_decide_eq_true (by first | (with_reducible assumption) | assumption)
                obtain ⟨ad257, e257, hx257_0⟩ := Kd.at_int HR0.out x5_1 p257 q257
                cases e257
                replace p257 := eq_true p257
                replace q257 := eq_true q257
                have p258 : 0 ≤ (x5_1 : Int) := of_decide_eq_true (by first | (with_reducible assumption) | assumption)
                have q258 : x5_1 < (l1.length : Int) := of_decide_eq_true (by first | (with_reducible assumption) | assumption)
                obtain ⟨ad258, e258, hx258_0⟩ := Kd.at_int HR1.out x5_1 p258 q258
                cases e258
                replace p258 := eq_true p258
                replace q258 := eq_true q258
                go_wp2
                repeat (go_quiet (fail); try go_wp2)
                go_roundg k1
                case measure => have := HK1.out; omega
                case rel => exact ⟨(wrap64 (x5_1 + 1)), (by first | rfl | (simp; done) | (simp [*]; done)), H', ⟨by have := HK1.out; omega⟩, by repeat (first | exact Drawn0.refl _ | apply Drawn0.step)⟩
              · rw [if_neg c7] at H
                have c7b0 : ((rd l0 x5_1) == (rd l1 x5_1)) = false := beq_eq_false_iff_ne.mpr c7
                have c7b1 : ((rd l0 x5_1) != (rd l1 x5_1)) = true := bne_iff_ne.mpr c7
                obtain rfl := Option.some.inj H
                have p257 : 0 ≤ (x5_1 : Int) := of_decide_eq_true (by first | (with_reducible assumption) | assumption)
                have q257 : x5_1 < (l0.length : Int) := of_decide_eq_true (by first | (with_reducible assumption) | assumption)
                obtain ⟨ad257, e257, hx257_0⟩ := Kd.at_int HR0.out x5_1 p257 q257
                cases e257
                replace p257 := eq_true p257
                replace q257 := eq_true q257
                have p258 : 0 ≤ (x5_1 : Int) := of_decide_eq_true (by first | (with_reducible assumption) | assumption)
                have q258 : x5_1 < (l1.length : Int) := of_decide_eq_true (by first | (with_reducible assumption) | assumption)
                obtain ⟨ad258, e258, hx258_0⟩ := Kd.at_int HR1.out x5_1 p258 q258
                cases e258
                replace p258 := eq_true p258
                replace q258 := eq_true q258
                go_wp2
                repeat (go_quiet (fail); try go_wp2)
                go_ret
                exact ⟨by first | rfl | (simp; done) | (simp [*]; done), by repeat (first | exact Drawn0.refl _ | apply Drawn0.step)⟩
            · rw [if_neg c6] at H
              exact absurd H (by simp)
          · rw [if_neg c5] at H
            exact absurd H (by simp)
        · rw [if_neg c4] at H
          have c4b0 : decide (x5_1 < (l0.length : Int)) = false := decide_eq_false c4
          clear c4
          obtain rfl := Option.some.inj H
          go_wp2
          repeat (go_quiet (fail); try go_wp2)
          go_ret
          exact ⟨by first | rfl | (simp; done) | (simp [*]; done), by repeat (first | exact Drawn0.refl _ | apply Drawn0.step)⟩
  · rw [if_neg c3] at H
    have c3b0 : ((l0.length : Int) == (l1.length : Int)) = false := beq_eq_false_iff_ne.mpr c3
    have c3b1 : ((l0.length : Int) != (l1.length : Int)) = true := bne_iff_ne.mpr c3
    have c3b2 : (l0.length == l1.length) = false := by first | simpa using c3 | (simp at c3 ⊢; omega)
    obtain rfl := Option.some.inj H
    go_enter Try.func21, Try.ntmps21
    go_wp2
    repeat (go_quiet (fail); try go_wp2)
    go_ret
    exact ⟨by first | rfl | (simp; done) | (simp [*]; done), by repeat (first | exact Drawn0.refl _ | apply Drawn0.step)⟩

/-! ### codewrightref17_Mod: function 15 -/
def codewrightref17_Mod.f (a0 : Int) (a1 : Int) : Option (Int) := if a1 = 0 then (none) else (some (Int.tmod (wrap64 ((Int.tmod a0 a1) + a1)) a1))
set_option maxHeartbeats 8000000 in
set_option maxRecDepth 100000 in
theorem codewrightref17_Mod.calls (a0 : Int) (a1 : Int) (r : Int) (w : World) (h : codewrightref17_Mod.f a0 a1 = some r) :
    Calls Try.prog 15 #[.int .i64 a0, .int .i64 a1] w fun e w' => e = .returned (.int .i64 r) ∧ Drawn0 w w' := by
  have H : (if a1 = 0 then (none) else (some (Int.tmod (wrap64 ((Int.tmod a0 a1) + a1)) a1))) = some r := h
  clear h
  by_cases c3 : a1 = 0
  · rw [if_pos c3] at H
    exact absurd H (by simp)
  · rw [if_neg c3] at H
    have c3b0 : (a1 == 0) = false := beq_eq_false_iff_ne.mpr c3
    have c3b1 : (a1 != 0) = true := bne_iff_ne.mpr c3
    obtain rfl := Option.some.inj H
    go_enter Try.func15, Try.ntmps15
    go_wp2
    go_ret
    exact ⟨by first | rfl | (simp; done) | (simp [*]; done), by repeat (first | exact Drawn0.refl _ | apply Drawn0.step)⟩

/-! ### codewrightref16_Coset: function 47 -/
mutual
def codewrightref16_Coset.l0 : Nat → Int → Int → List Bool → Int → Option (List Int)
  | 0, _, _, _, _ => none
  | k + 1, x0, x1, x7, x8 => if 0 ≤ x8 then (if x8 < (x7.length : Int) then (if rdOf false x7 x8 = true then (codewrightref16_Coset.l1 k x1 x7 ([] : List Int) 0) else (if x1 = 0 then (none) else (codewrightref16_Coset.l0 k x0 x1 (x7.set (x8 : Int).toNat true) (Int.tmod (wrap64 (x8 * x0)) x1)))) else (none)) else (none)
def codewrightref16_Coset.l1 : Nat → Int → List Bool → List Int → Int → Option (List Int)
  | 0, _, _, _, _ => none
  | k + 1, x1, x7, x9, x10 => if x10 < x1 then (if 0 ≤ x10 then (if x10 < (x7.length : Int) then (if rdOf false x7 x10 = true then (if x9.length < 17592186044416 then (codewrightref16_Coset.l1 k x1 x7 (x9 ++ [x10]) (wrap64 (x10 + 1))) else (none)) else (codewrightref16_Coset.l1 k x1 x7 x9 (wrap64 (x10 + 1)))) else (none)) else (none)) else (some x9)
end
def codewrightref16_Coset.f (k : Nat) (a0 : Int) (a1 : Int) (a2 : Int) : Option (List Int) := if 0 ≤ a1 then (if (a1 : Int).toNat ≤ 281474976710656 then (if a1 = 0 then (none) else (codewrightref16_Coset.l0 k a0 a1 (List.replicate (a1 : Int).toNat false) (Int.tmod a2 a1))) else (none)) else (none)
theorem codewrightref16_Coset.mono_l : ∀ k, (∀ y0 y1 y2 y3, LeO (codewrightref16_Coset.l0 k y0 y1 y2 y3) (codewrightref16_Coset.l0 (k + 1) y0 y1 y2 y3)) ∧ (∀ y0 y1 y2 y3, LeO (codewrightref16_Coset.l1 k y0 y1 y2 y3) (codewrightref16_Coset.l1 (k + 1) y0 y1 y2 y3))
  | 0 => ⟨fun _ _ _ _ r h => by simp [codewrightref16_Coset.l0] at h, fun _ _ _ _ r h => by simp [codewrightref16_Coset.l1] at h⟩
  | k + 1 => by
    obtain ⟨ih0, ih1⟩ := codewrightref16_Coset.mono_l k
    refine ⟨?_, ?_⟩
    · intro y0 y1 y2 y3
      unfold codewrightref16_Coset.l0
      repeat' first
      | (with_reducible exact ih0 _ _ _ _)
      | (with_reducible exact ih1 _ _ _ _)
      | (with_reducible exact LeO.refl _)
      | (with_reducible exact LeO.none _)
      | (with_reducible refine LeO.ite ?_ ?_)
      | (with_reducible refine LeO.bind ?_ (fun _ => ?_))
      | exact ih0 _ _ _ _
      | exact ih1 _ _ _ _
      | exact LeO.none _
      | refine LeO.ite ?_ ?_
      | refine LeO.bind ?_ (fun _ => ?_)
    · intro y0 y1 y2 y3
      unfold codewrightref16_Coset.l1
      repeat' first
      | (with_reducible exact ih0 _ _ _ _)
      | (with_reducible exact ih1 _ _ _ _)
      | (with_reducible exact LeO.refl _)
      | (with_reducible exact LeO.none _)
      | (with_reducible refine LeO.ite ?_ ?_)
      | (with_reducible refine LeO.bind ?_ (fun _ => ?_))
      | exact ih0 _ _ _ _
      | exact ih1 _ _ _ _
      | exact LeO.none _
      | refine LeO.ite ?_ ?_
      | refine LeO.bind ?_ (fun _ => ?_)
theorem codewrightref16_Coset.mono : ∀ a0 a1 a2 k, LeO (codewrightref16_Coset.f k a0 a1 a2) (codewrightref16_Coset.f (k + 1) a0 a1 a2) := by
  intro a0 a1 a2 k
  obtain ⟨ih0, ih1⟩ := codewrightref16_Coset.mono_l k
  unfold codewrightref16_Coset.f
  repeat' first
      | (with_reducible exact ih0 _ _ _ _)
      | (with_reducible exact ih1 _ _ _ _)
      | (with_reducible exact LeO.refl _)
      | (with_reducible exact LeO.none _)
      | (with_reducible refine LeO.ite ?_ ?_)
      | (with_reducible refine LeO.bind ?_ (fun _ => ?_))
      | exact ih0 _ _ _ _
      | exact ih1 _ _ _ _
      | exact LeO.none _
      | refine LeO.ite ?_ ?_
      | refine LeO.bind ?_ (fun _ => ?_)
set_option maxHeartbeats 8000000 in
set_option maxRecDepth 100000 in
theorem codewrightref16_Coset.calls (k : Nat) (a0 : Int) (a1 : Int) (a2 : Int) (r : List Int) (w : World) (h : codewrightref16_Coset.f k a0 a1 a2 = some r) :
    Calls Try.prog 47 #[.int .i64 a0, .int .i64 a1, .int .i64 a2] w fun e w' => ∃ v0_ : Value, e = .returned (v0_) ∧ Kd.R (Kd.int .i64) 3 w' w.heap.size (fun _ => True) v0_ r ∧ Below w.heap.size w w' := by
  have HB := Aside0.mk (Below.refl w.heap.size w)
  have H : (if 0 ≤ a1 then (if (a1 : Int).toNat ≤ 281474976710656 then (if a1 = 0 then (none) else (codewrightref16_Coset.l0 k a0 a1 (List.replicate (a1 : Int).toNat false) (Int.tmod a2 a1))) else (none)) else (none)) = some r := h
  clear h
  by_cases c4 : 0 ≤ a1
  · rw [if_pos c4] at H
    have c4b0 := eq_true c4
    have c4b1 : decide (0 ≤ a1) = true := decide_eq_true c4
    clear c4
    by_cases c5 : (a1 : Int).toNat ≤ 281474976710656
    · rw [if_pos c5] at H
      have c5b0 := eq_true c5
      have c5b1 : decide ((a1 : Int).toNat ≤ 281474976710656) = true := decide_eq_true c5
      clear c5
      obtain ⟨y259, hy259⟩ : ∃ y_ : List Bool, y_ = (List.replicate (a1 : Int).toNat false) := ⟨_, rfl⟩
      replace H : (if a1 = 0 then (none) else (codewrightref16_Coset.l0 k a0 a1 y259 (Int.tmod a2 a1))) = some r := by first | (rw [hy259]; with_reducible exact H) | (have H2_ := (Option.bind_some _ _).symm.trans H; rw [hy259]; with_reducible exact H2_) | (have H2_ := (Option.bind_some _ _).symm.trans H; with_reducible exact H2_) | with_reducible exact H | (rw [hy259]; exact H) | exact H
      have Ny259 := Aside0.mk hy259
      clear hy259
      by_cases c6 : a1 = 0
      · rw [if_pos c6] at H
        exact absurd H (by simp)
      · rw [if_neg c6] at H
        have c6b0 : (a1 == 0) = false := beq_eq_false_iff_ne.mpr c6
        have c6b1 : (a1 != 0) = true := bne_iff_ne.mpr c6
        have H' := Aside0.mk H
        clear H
        go_enter Try.func47, Try.ntmps47
        go_wp2_with (first | ((with_reducible refine gate_dst (N := 12) rfl ?_); refine Kd.R_make Kd.bool _ 4 rfl (N := 12) rfl 56 _ _ rfl a1 rfl rfl Try.underlying56 (.bool false) 1 info4 rfl (by decide) (by omega) false (ok := fun _ => True) (okp := fun _ => True) rfl (fun _ hk => hk) trivial (of_decide_eq_true (by first | (with_reducible assumption) | assumption)) (Nat.le_trans (Nat.mul_le_mul_right _ (of_decide_eq_true (by first | (with_reducible assumption) | assumption) : a1.toNat ≤ 281474976710656)) (by omega)) (Below.refl _ _) (Nat.le_refl _) ?_; intro v260 w7 ho8 hb hg_ hnew_; clear hg_ hnew_; (first | rw [← Ny259.out] at ho8 | (simp only [Int.reduceToNat] at ho8; rw [← Ny259.out] at ho8)); have n0_ := Aside0.mk (Kd.R_lower ho8 (below_size (by repeat (first | (with_reducible first | exact HB.out | apply below_alloc | apply pw_below_drewN | apply below_drew1) | exact HB.out)))); have n1_ := Aside0.mk (below_step (by repeat (first | (with_reducible first | exact HB.out | apply below_alloc | apply pw_below_drewN | apply below_drew1) | exact HB.out)) hb); clear HB; have HO261 := n0_; have HB := n1_; clear n0_ n1_; clear hb ho8))
        go_loopg [8] k (fun kq v8 w' => ∃ (x7_1 : List Bool) (x8_1 : Int), v8 = .int .i64 x8_1 ∧ Aside0 (codewrightref16_Coset.l0 kq a0 a1 x7_1 x8_1 = some r) ∧ Aside0 (kq ≤ k) ∧ Aside0 (Kd.R Kd.bool 4 w' w.heap.size (fun _ => True) v260 x7_1) ∧ Aside0 (Below w.heap.size w w'))
        case atStart => exact ⟨(y259), (Int.tmod a2 a1), (by first | rfl | (simp; done) | (simp [*]; done)), H', ⟨Nat.le_refl _⟩, ⟨by (with_reducible repeat (first | apply Kd.R_alloc | apply Kd.R_drewN | apply Kd.R_drew)); exact HO261.out⟩, ⟨by repeat (first | (with_reducible first | exact HB.out | apply below_alloc | apply pw_below_drewN | apply below_drew1) | exact HB.out)⟩⟩
        case round =>
          clear H'
          try clear p2
          try clear c4
          try clear c4b0
          try clear c4b1
          try clear c5
          try clear c5b0
          try clear c5b1
          try clear c6
          try clear c6b0
          try clear c6b1
          obtain ⟨x7_1, x8_1, rfl, HA, HK1, HO_7, HB⟩ := hrel
          cases gk with
          | zero => exact absurd HA.out (by simp [codewrightref16_Coset.l0])
          | succ k1 =>
            have H := HA.out
            clear HA
            simp only [codewrightref16_Coset.l0] at H
            by_cases c9 : 0 ≤ x8_1
            · rw [if_pos c9] at H
              have c9b0 : decide (0 ≤ x8_1) = true := decide_eq_true c9
              clear c9
              by_cases c10 : x8_1 < (x7_1.length : Int)
              · rw [if_pos c10] at H
                have c10b0 : decide (x8_1 < (x7_1.length : Int)) = true := decide_eq_true c10
                clear c10
                obtain ⟨bq11, hbq11⟩ : ∃ b_ : Bool, b_ = (rdOf false x7_1 x8_1) := ⟨_, rfl⟩
                replace H : (if bq11 = true then (codewrightref16_Coset.l1 k1 a1 x7_1 ([] : List Int) 0) else (if a1 = 0 then (none) else (codewrightref16_Coset.l0 k1 a0 a1 (x7_1.set (x8_1 : Int).toNat true) (Int.tmod (wrap64 (x8_1 * a0)) a1)))) = some r := by rw [← hbq11] at H; exact H
                have Nbq11 := Aside0.mk hbq11
                clear hbq11
                by_cases c12 : bq11 = true
                · subst c12
                  have H1 : (codewrightref16_Coset.l1 k1 a1 x7_1 ([] : List Int) 0) = some r := by rw [if_pos rfl] at H; exact H
                  clear H
                  have H := H1
                  clear H1
                  have H' := Aside0.mk H
                  clear H
                  obtain ⟨Ao13, co13, eo13⟩ := Kd.R_slice HO_7.out
                  subst eo13
                  have p262 : 0 ≤ (x8_1 : Int) := of_decide_eq_true (by first | (with_reducible assumption) | assumption)
                  have q262 : x8_1 < (x7_1.length : Int) := of_decide_eq_true (by first | (with_reducible assumption) | assumption)
                  obtain ⟨ad262, e262, hx262_0⟩ := Kd.at_bool (Kd.R_reads' HO_7.out).2.2 x8_1 p262 q262
                  (try rw [← Nbq11.out] at hx262_0)
                  cases e262
                  replace p262 := eq_true p262
                  replace q262 := eq_true q262
                  go_wp2
                  go_loopg [9, 10] k1 (fun kq v9 v10 w' => ∃ (x9_2 : List Int) (x10_2 : Int), v10 = .int .i64 x10_2 ∧ Aside0 (codewrightref16_Coset.l1 kq a1 x7_1 x9_2 x10_2 = some r) ∧ Aside0 (kq ≤ k1) ∧ Aside0 (Kd.R Kd.bool 4 w' w.heap.size (fun _ => True) (.slice (some ad262) x7_1.length co13) x7_1) ∧ Aside0 (Kd.R (Kd.int .i64) 3 w' w.heap.size (fun _ => True) v9 x9_2) ∧ Aside0 (Below w.heap.size w w'))
                  case atStart => exact ⟨(([] : List Int)), (0), (by first | rfl | (simp; done) | (simp [*]; done)), H', ⟨Nat.le_refl _⟩, ⟨by (with_reducible repeat (first | apply Kd.R_alloc | apply Kd.R_drewN | apply Kd.R_drew)); exact HO_7.out⟩, ⟨by first | exact Kd.R_nil _ _ _ _ _ | exact Kd.N_nil _ _ _ _ _ | exact Kd.V_nil _ _ _ _ _ | exact Kd.Q_nil _ _ _ _ _ | exact Kd.S_nil _ _ _ _ _⟩, ⟨by repeat (first | (with_reducible first | exact HB.out | apply below_alloc | apply pw_below_drewN | apply below_drew1) | exact HB.out)⟩⟩
                  case round =>
                    clear H'
                    try clear c1
                    try clear q1
                    try clear p2
                    try clear q2
                    try clear hx2
                    try clear c4
                    try clear c4b0
                    try clear c4b1
                    try clear c5
                    try clear c5b0
                    try clear c5b1
                    try clear c6
                    try clear c6b0
                    try clear c6b1
                    try clear p6
                    try clear c9
                    try clear c9b0
                    try clear c10
                    try clear c10b0
                    try clear q11
                    try clear c12
                    try clear hx262_0
                    try clear p2
                    try clear p262
                    try clear q262
                    obtain ⟨x9_2, x10_2, rfl, HA, HK2, HO_7, HO_9, HB⟩ := hrel
                    cases gk with
                    | zero => exact absurd HA.out (by simp [codewrightref16_Coset.l1])
                    | succ k2 =>
                      have H := HA.out
                      clear HA
                      simp only [codewrightref16_Coset.l1] at H
                      by_cases c14 : x10_2 < a1
                      · rw [if_pos c14] at H
                        have c14b0 : decide (x10_2 < a1) = true := decide_eq_true c14
                        clear c14
                        by_cases c15 : 0 ≤ x10_2
                        · rw [if_pos c15] at H
                          have c15b0 : decide (0 ≤ x10_2) = true := decide_eq_true c15
                          clear c15
                          by_cases c16 : x10_2 < (x7_1.length : Int)
                          · rw [if_pos c16] at H
                            have c16b0 : decide (x10_2 < (x7_1.length : Int)) = true := decide_eq_true c16
                            clear c16
                            obtain ⟨bq17, hbq17⟩ : ∃ b_ : Bool, b_ = (rdOf false x7_1 x10_2) := ⟨_, rfl⟩
                            replace H : (if bq17 = true then (if x9_2.length < 17592186044416 then (codewrightref16_Coset.l1 k2 a1 x7_1 (x9_2 ++ [x10_2]) (wrap64 (x10_2 + 1))) else (none)) else (codewrightref16_Coset.l1 k2 a1 x7_1 x9_2 (wrap64 (x10_2 + 1)))) = some r := by rw [← hbq17] at H; exact H
                            have Nbq17 := Aside0.mk hbq17
                            clear hbq17
                            by_cases c18 : bq17 = true
                            · subst c18
                              have H1 : (if x9_2.length < 17592186044416 then (codewrightref16_Coset.l1 k2 a1 x7_1 (x9_2 ++ [x10_2]) (wrap64 (x10_2 + 1))) else (none)) = some r := by rw [if_pos rfl] at H; exact H
                              clear H
                              have H := H1
                              clear H1
                              by_cases c19 : x9_2.length < 17592186044416
                              · rw [if_pos c19] at H
                                have LMc19 := Aside0.mk c19
                                clear c19
                                obtain ⟨y265, hy265⟩ : ∃ y_ : List Int, y_ = (x9_2 ++ [x10_2]) := ⟨_, rfl⟩
                                replace H : (codewrightref16_Coset.l1 k2 a1 x7_1 y265 (wrap64 (x10_2 + 1))) = some r := by first | (rw [hy265]; with_reducible exact H) | (have H2_ := (Option.bind_some _ _).symm.trans H; rw [hy265]; with_reducible exact H2_) | (have H2_ := (Option.bind_some _ _).symm.trans H; with_reducible exact H2_) | with_reducible exact H | (rw [hy265]; exact H) | exact H
                                have Ny265 := Aside0.mk hy265
                                clear hy265
                                have H' := Aside0.mk H
                                clear H
                                have p264 : 0 ≤ (x10_2 : Int) := of_decide_eq_true (by first | (with_reducible assumption) | assumption)
                                have q264 : x10_2 < (x7_1.length : Int) := of_decide_eq_true (by first | (with_reducible assumption) | assumption)
                                obtain ⟨ad264, e264, hx264_0⟩ := Kd.at_bool (Kd.R_reads' HO_7.out).2.2 x10_2 p264 q264
                                (try rw [← Nbq11.out] at hx264_0)
                                (try rw [← Nbq17.out] at hx264_0)
                                obtain rfl : ad262 = ad264 := (by injection e264)
                                replace p264 := eq_true p264
                                replace q264 := eq_true q264
                                go_wp2_with (first | ((with_reducible refine gate_builtin (b := .append) (xs := #[.tmp 38, .tmp 40]) rfl ?_); at_builtin; refine Kd.R_append (Kd.int .i64) (w0 := w) w.heap.size rfl (.tmp 38) (.tmp 40) 22 3 (.int .i64 0) 8 rfl Try.underlying22 info3 rfl (by decide) (by omega) u9 x9_2 x10_2 [.int .i64 x10_2] (fun _ => True) (fun _ => False) rfl rfl ?aP (fun _ hk => hk.elim) ?aF ?aO ?aB ?aS ?aL ?_; (case aP => exact rfl); (case aB => exact (by repeat (first | (with_reducible first | exact HB.out | apply below_alloc | apply pw_below_drewN | apply below_drew1) | exact HB.out))); (case aF => exact (fun _ _ => trivial)); (case aO => exact (by (with_reducible repeat (first | apply Kd.R_alloc | apply Kd.R_drewN | apply Kd.R_drew)); exact HO_9.out)); (case aS => exact (below_size (by repeat (first | (with_reducible first | exact HB.out | apply below_alloc | apply pw_below_drewN | apply below_drew1) | exact HB.out)))); (case aL => have := LMc19.out; omega); intro v266 w20 ho hb hg hat; rw [← Ny265.out] at ho; have n0_ := Aside0.mk (Kd.R_over' (by (with_reducible repeat (first | apply Kd.R_alloc | apply Kd.R_drewN | apply Kd.R_drew)); exact HO_7.out) (Kd.R_typed (by (with_reducible repeat (first | apply Kd.R_alloc | apply Kd.R_drewN | apply Kd.R_drew)); exact HO_9.out)) (by decide) hg); have n1_ := Aside0.mk (hb); have n2_ := Aside0.mk (ho); clear HO_7; clear HB; clear HO_9; have HO_7 := n0_; have HB := n1_; have HO267 := n2_; clear n0_ n1_ n2_; clear ho hb hg hat))
                                go_roundg k2
                                case measure => have := HK1.out; have := HK2.out; omega
                                case rel => exact ⟨(y265), (wrap64 (x10_2 + 1)), (by first | rfl | (simp; done) | (simp [*]; done)), H', ⟨by have := HK1.out; have := HK2.out; omega⟩, ⟨by (with_reducible repeat (first | apply Kd.R_alloc | apply Kd.R_drewN | apply Kd.R_drew)); exact HO_7.out⟩, ⟨by (with_reducible repeat (first | apply Kd.R_alloc | apply Kd.R_drewN | apply Kd.R_drew)); exact HO267.out⟩, ⟨by repeat (first | (with_reducible first | exact HB.out | apply below_alloc | apply pw_below_drewN | apply below_drew1) | exact HB.out)⟩⟩
                              · rw [if_neg c19] at H
                                exact absurd H (by simp)
                            · replace c18 := Bool.eq_false_iff.mpr c18
                              subst c18
                              have H1 : (codewrightref16_Coset.l1 k2 a1 x7_1 x9_2 (wrap64 (x10_2 + 1))) = some r := by rw [if_neg (show ¬ (false = true) by decide)] at H; exact H
                              clear H
                              have H := H1
                              clear H1
                              have H' := Aside0.mk H
                              clear H
                              have p264 : 0 ≤ (x10_2 : Int) := of_decide_eq_true (by first | (with_reducible assumption) | assumption)
                              have q264 : x10_2 < (x7_1.length : Int) := of_decide_eq_true (by first | (with_reducible assumption) | assumption)
                              obtain ⟨ad264, e264, hx264_0⟩ := Kd.at_bool (Kd.R_reads' HO_7.out).2.2 x10_2 p264 q264
                              (try rw [← Nbq11.out] at hx264_0)
                              (try rw [← Nbq17.out] at hx264_0)
                              obtain rfl : ad262 = ad264 := (by injection e264)
                              replace p264 := eq_true p264
                              replace q264 := eq_true q264
                              go_wp2
                              go_roundg k2
                              case measure => have := HK1.out; have := HK2.out; omega
                              case rel => exact ⟨(x9_2), (wrap64 (x10_2 + 1)), (by first | rfl | (simp; done) | (simp [*]; done)), H', ⟨by have := HK1.out; have := HK2.out; omega⟩, ⟨by (with_reducible repeat (first | apply Kd.R_alloc | apply Kd.R_drewN | apply Kd.R_drew)); exact HO_7.out⟩, ⟨by (with_reducible repeat (first | apply Kd.R_alloc | apply Kd.R_drewN | apply Kd.R_drew)); exact HO_9.out⟩, ⟨by repeat (first | (with_reducible first | exact HB.out | apply below_alloc | apply pw_below_drewN | apply below_drew1) | exact HB.out)⟩⟩
                          · rw [if_neg c16] at H
                            exact absurd H (by simp)
                        · rw [if_neg c15] at H
                          exact absurd H (by simp)
                      · rw [if_neg c14] at H
                        have c14b0 : decide (x10_2 < a1) = false := decide_eq_false c14
                        clear c14
                        obtain rfl := Option.some.inj H
                        go_wp2
                        go_ret
                        exact ⟨_, by first | rfl | (simp [errW_none, errW_some] <;> rfl) | (simp [*, errW_none, errW_some] <;> rfl), by (with_reducible repeat (first | apply Kd.R_alloc | apply Kd.R_drewN | apply Kd.R_drew)); exact HO_9.out, by repeat (first | (with_reducible first | exact HB.out | apply below_alloc | apply pw_below_drewN | apply below_drew1) | exact HB.out)⟩
                · replace c12 := Bool.eq_false_iff.mpr c12
                  subst c12
                  have H1 : (if a1 = 0 then (none) else (codewrightref16_Coset.l0 k1 a0 a1 (x7_1.set (x8_1 : Int).toNat true) (Int.tmod (wrap64 (x8_1 * a0)) a1))) = some r := by rw [if_neg (show ¬ (false = true) by decide)] at H; exact H
                  clear H
                  have H := H1
                  clear H1
                  obtain ⟨y263, hy263⟩ : ∃ y_ : List Bool, y_ = (x7_1.set (x8_1 : Int).toNat true) := ⟨_, rfl⟩
                  replace H : (if a1 = 0 then (none) else (codewrightref16_Coset.l0 k1 a0 a1 y263 (Int.tmod (wrap64 (x8_1 * a0)) a1))) = some r := by first | (rw [hy263]; with_reducible exact H) | (have H2_ := (Option.bind_some _ _).symm.trans H; rw [hy263]; with_reducible exact H2_) | (have H2_ := (Option.bind_some _ _).symm.trans H; with_reducible exact H2_) | with_reducible exact H | (rw [hy263]; exact H) | exact H
                  have Ny263 := Aside0.mk hy263
                  clear hy263
                  by_cases c22 : a1 = 0
                  · rw [if_pos c22] at H
                    exact absurd H (by simp)
                  · rw [if_neg c22] at H
                    have c22b0 : (a1 == 0) = false := beq_eq_false_iff_ne.mpr c22
                    have c22b1 : (a1 != 0) = true := bne_iff_ne.mpr c22
                    have H' := Aside0.mk H
                    clear H
                    obtain ⟨Ao23, co23, eo23⟩ := Kd.R_slice HO_7.out
                    subst eo23
                    have p262 : 0 ≤ (x8_1 : Int) := of_decide_eq_true (by first | (with_reducible assumption) | assumption)
                    have q262 : x8_1 < (x7_1.length : Int) := of_decide_eq_true (by first | (with_reducible assumption) | assumption)
                    obtain ⟨ad262, e262, hx262_0⟩ := Kd.at_bool (Kd.R_reads' HO_7.out).2.2 x8_1 p262 q262
                    (try rw [← Nbq11.out] at hx262_0)
                    cases e262
                    replace p262 := eq_true p262
                    replace q262 := eq_true q262
                    have p21 : 0 ≤ (x8_1 : Int) := of_decide_eq_true (by first | (with_reducible assumption) | assumption)
                    have q21 : (x8_1 : Int) < ((x7_1.length : Int) : Int) := of_decide_eq_true (by first | (with_reducible assumption) | assumption)
                    obtain ⟨go21, co21, eo21, gb21, gl21, cl21, HG21⟩ := Kd.R_form HO_7.out (by omega)
                    (first | cases eo21 | (injection eo21 with ea_ en_ ec_; (first | subst ea_ | (injection ea_ with ea_; subst ea_)); subst ec_; clear en_))
                    have GB21 := Aside0.mk gb21
                    have GG21 := Aside0.mk HG21
                    clear gb21 gl21 HG21
                    (first | simp only [add_plain] at hx262_0 | skip)
                    (first | simp only [add_plain] at hx264_0 | skip)
                    obtain ⟨hx21_0, hf21_0⟩ := Kd.R_celln false HO_7.out (x8_1 : Int) p21 q21
                    replace p21 := eq_true p21
                    replace q21 := eq_true q21
                    have HP24 := Kd.R_putg HO_7.out (x8_1 : Int) true
                    go_wp2_with (first | ((with_reducible refine gate_store (t := 4) (p := 28) rfl ?_); refine store_event (t := 4) (p := 28) (v := ?vo_w25) (w1 := (wr.setCell ⟨go21, (x8_1 : Int).toNat, none⟩ (.bool true))) ?hg ?ho ?hn ?hr ?_; (case ho => rfl); (case hg => rfl); (case hn => rfl); (case hr => first | (go_simp; done) | (go_simp; rfl)); intro w25 hw; have hg : wr.grownBy w25 (some go21) := (by rw [hw]; exact HP24.2); have hp_ : Kd.R Kd.bool 4 w25 w.heap.size (fun _ => True) (.slice (some ⟨go21, 0, none⟩) x7_1.length co23) y263 := (by rw [hw, Ny263.out]; exact HP24.1); clear HP24; have n0_ := Aside0.mk (hp_); have n1_ := Aside0.mk ((by rw [hw]; exact below_set (HB.out) GB21.out : Below w.heap.size w w25)); clear HO_7; clear HB; have HO_7 := n0_; have HB := n1_; clear n0_ n1_; clear hg hw hp_))
                    go_roundg k1
                    case measure => have := HK1.out; omega
                    case rel => exact ⟨(y263), (Int.tmod (wrap64 (x8_1 * a0)) a1), (by first | rfl | (simp; done) | (simp [*]; done)), H', ⟨by have := HK1.out; omega⟩, ⟨by (with_reducible repeat (first | apply Kd.R_alloc | apply Kd.R_drewN | apply Kd.R_drew)); exact HO_7.out⟩, ⟨by repeat (first | (with_reducible first | exact HB.out | apply below_alloc | apply pw_below_drewN | apply below_drew1) | exact HB.out)⟩⟩
              · rw [if_neg c10] at H
                exact absurd H (by simp)
            · rw [if_neg c9] at H
              exact absurd H (by simp)
    · rw [if_neg c5] at H
      exact absurd H (by simp)
  · rw [if_neg c4] at H
    exact absurd H (by simp)

/-! ### codewrightref17_Closure: function 22 -/
mutual
def codewrightref17_Closure.l0 : Nat → Int → Int → List Int → List Bool → Int → Option (List Int)
  | 0, _, _, _, _, _ => none
  | k + 1, x0, x1, x2, x7, x8 => if x8 < (x2.length : Int) then (if 0 ≤ x8 then ((codewrightref17_Mod.f (rd x2 x8) x1).bind fun t272 => ((codewrightref16_Coset.f k x0 x1 t272).bind fun t273 => (codewrightref17_Closure.l1 k x0 x1 x2 x7 x8 t273 0))) else (none)) else (codewrightref17_Closure.l2 k x1 x7 ([] : List Int) 0)
def codewrightref17_Closure.l1 : Nat → Int → Int → List Int → List Bool → Int → List Int → Int → Option (List Int)
  | 0, _, _, _, _, _, _, _ => none
  | k + 1, x0, x1, x2, x7, x8, x9, x10 => if x10 < (x9.length : Int) then (if 0 ≤ x10 then (if 0 ≤ (rd x9 x10) then (if (rd x9 x10) < (x7.length : Int) then (codewrightref17_Closure.l1 k x0 x1 x2 (x7.set ((rd x9 x10) : Int).toNat true) x8 x9 (wrap64 (x10 + 1))) else (none)) else (none)) else (none)) else (codewrightref17_Closure.l0 k x0 x1 x2 x7 (wrap64 (x8 + 1)))
def codewrightref17_Closure.l2 : Nat → Int → List Bool → List Int → Int → Option (List Int)
  | 0, _, _, _, _ => none
  | k + 1, x1, x7, x11, x12 => if x12 < x1 then (if 0 ≤ x12 then (if x12 < (x7.length : Int) then (if rdOf false x7 x12 = true then (if x11.length < 17592186044416 then (codewrightref17_Closure.l2 k x1 x7 (x11 ++ [x12]) (wrap64 (x12 + 1))) else (none)) else (codewrightref17_Closure.l2 k x1 x7 x11 (wrap64 (x12 + 1)))) else (none)) else (none)) else (some x11)
end
def codewrightref17_Closure.f (k : Nat) (a0 : Int) (a1 : Int) (l2 : List Int) : Option (List Int) := if 0 ≤ a1 then (if (a1 : Int).toNat ≤ 281474976710656 then (codewrightref17_Closure.l0 k a0 a1 l2 (List.replicate (a1 : Int).toNat false) 0) else (none)) else (none)
theorem codewrightref17_Closure.mono_l : ∀ k, (∀ y0 y1 y2 y3 y4, LeO (codewrightref17_Closure.l0 k y0 y1 y2 y3 y4) (codewrightref17_Closure.l0 (k + 1) y0 y1 y2 y3 y4)) ∧ (∀ y0 y1 y2 y3 y4 y5 y6, LeO (codewrightref17_Closure.l1 k y0 y1 y2 y3 y4 y5 y6) (codewrightref17_Closure.l1 (k + 1) y0 y1 y2 y3 y4 y5 y6)) ∧ (∀ y0 y1 y2 y3, LeO (codewrightref17_Closure.l2 k y0 y1 y2 y3) (codewrightref17_Closure.l2 (k + 1) y0 y1 y2 y3))
  | 0 => ⟨fun _ _ _ _ _ r h => by simp [codewrightref17_Closure.l0] at h, fun _ _ _ _ _ _ _ r h => by simp [codewrightref17_Closure.l1] at h, fun _ _ _ _ r h => by simp [codewrightref17_Closure.l2] at h⟩
  | k + 1 => by
    obtain ⟨ih0, ih1, ih2⟩ := codewrightref17_Closure.mono_l k
    refine ⟨?_, ?_, ?_⟩
    · intro y0 y1 y2 y3 y4
      unfold codewrightref17_Closure.l0
      repeat' first
      | (with_reducible exact ih0 _ _ _ _ _)
      | (with_reducible exact ih1 _ _ _ _ _ _ _)
      | (with_reducible exact ih2 _ _ _ _)
      | (with_reducible exact codewrightref16_Coset.mono _ _ _ _)
      | (with_reducible exact LeO.refl _)
      | (with_reducible exact LeO.none _)
      | (with_reducible refine LeO.ite ?_ ?_)
      | (with_reducible refine LeO.bind ?_ (fun _ => ?_))
      | exact ih0 _ _ _ _ _
      | exact ih1 _ _ _ _ _ _ _
      | exact ih2 _ _ _ _
      | exact codewrightref16_Coset.mono _ _ _ _
      | exact LeO.none _
      | refine LeO.ite ?_ ?_
      | refine LeO.bind ?_ (fun _ => ?_)
    · intro y0 y1 y2 y3 y4 y5 y6
      unfold codewrightref17_Closure.l1
      repeat' first
      | (with_reducible exact ih0 _ _ _ _ _)
      | (with_reducible exact ih1 _ _ _ _ _ _ _)
      | (with_reducible exact ih2 _ _ _ _)
      | (with_reducible exact codewrightref16_Coset.mono _ _ _ _)
      | (with_reducible exact LeO.refl _)
      | (with_reducible exact LeO.none _)
      | (with_reducible refine LeO.ite ?_ ?_)
      | (with_reducible refine LeO.bind ?_ (fun _ => ?_))
      | exact ih0 _ _ _ _ _
      | exact ih1 _ _ _ _ _ _ _
      | exact ih2 _ _ _ _
      | exact codewrightref16_Coset.mono _ _ _ _
      | exact LeO.none _
      | refine LeO.ite ?_ ?_
      | refine LeO.bind ?_ (fun _ => ?_)
    · intro y0 y1 y2 y3
      unfold codewrightref17_Closure.l2
      repeat' first
      | (with_reducible exact ih0 _ _ _ _ _)
      | (with_reducible exact ih1 _ _ _ _ _ _ _)
      | (with_reducible exact ih2 _ _ _ _)
      | (with_reducible exact codewrightref16_Coset.mono _ _ _ _)
      | (with_reducible exact LeO.refl _)
      | (with_reducible exact LeO.none _)
      | (with_reducible refine LeO.ite ?_ ?_)
      | (with_reducible refine LeO.bind ?_ (fun _ => ?_))
      | exact ih0 _ _ _ _ _
      | exact ih1 _ _ _ _ _ _ _
      | exact ih2 _ _ _ _
      | exact codewrightref16_Coset.mono _ _ _ _
      | exact LeO.none _
      | refine LeO.ite ?_ ?_
      | refine LeO.bind ?_ (fun _ => ?_)
theorem codewrightref17_Closure.mono : ∀ a0 a1 a2 k, LeO (codewrightref17_Closure.f k a0 a1 a2) (codewrightref17_Closure.f (k + 1) a0 a1 a2) := by
  intro a0 a1 a2 k
  obtain ⟨ih0, ih1, ih2⟩ := codewrightref17_Closure.mono_l k
  unfold codewrightref17_Closure.f
  repeat' first
      | (with_reducible exact ih0 _ _ _ _ _)
      | (with_reducible exact ih1 _ _ _ _ _ _ _)
      | (with_reducible exact ih2 _ _ _ _)
      | (with_reducible exact codewrightref16_Coset.mono _ _ _ _)
      | (with_reducible exact LeO.refl _)
      | (with_reducible exact LeO.none _)
      | (with_reducible refine LeO.ite ?_ ?_)
      | (with_reducible refine LeO.bind ?_ (fun _ => ?_))
      | exact ih0 _ _ _ _ _
      | exact ih1 _ _ _ _ _ _ _
      | exact ih2 _ _ _ _
      | exact codewrightref16_Coset.mono _ _ _ _
      | exact LeO.none _
      | refine LeO.ite ?_ ?_
      | refine LeO.bind ?_ (fun _ => ?_)
set_option maxHeartbeats 8000000 in
set_option maxRecDepth 100000 in
theorem codewrightref17_Closure.calls (k : Nat) (a0 : Int) (a1 : Int) (A2 : Option Addr) (c2 : Nat) (l2 : List Int) (r : List Int) (w : World) (hr2 : Kd.C (Kd.int .i64) w A2 l2.length l2) (hc2 : l2.length ≤ c2) (h : codewrightref17_Closure.f k a0 a1 l2 = some r) :
    Calls Try.prog 22 #[.int .i64 a0, .int .i64 a1, .slice A2 l2.length c2] w fun e w' => ∃ v0_ : Value, e = .returned (v0_) ∧ Kd.R (Kd.int .i64) 3 w' w.heap.size (fun _ => True) v0_ r ∧ Below w.heap.size w w' := by
  have HR2 := Aside0.mk hr2
  have HC2 := Aside0.mk hc2
  clear hr2 hc2
  have HB := Aside0.mk (Below.refl w.heap.size w)
  have H : (if 0 ≤ a1 then (if (a1 : Int).toNat ≤ 281474976710656 then (codewrightref17_Closure.l0 k a0 a1 l2 (List.replicate (a1 : Int).toNat false) 0) else (none)) else (none)) = some r := h
  clear h
  by_cases c4 : 0 ≤ a1
  · rw [if_pos c4] at H
    have c4b0 := eq_true c4
    have c4b1 : decide (0 ≤ a1) = true := decide_eq_true c4
    clear c4
    by_cases c5 : (a1 : Int).toNat ≤ 281474976710656
    · rw [if_pos c5] at H
      have c5b0 := eq_true c5
      have c5b1 : decide ((a1 : Int).toNat ≤ 281474976710656) = true := decide_eq_true c5
      clear c5
      obtain ⟨y268, hy268⟩ : ∃ y_ : List Bool, y_ = (List.replicate (a1 : Int).toNat false) := ⟨_, rfl⟩
      replace H : (codewrightref17_Closure.l0 k a0 a1 l2 y268 0) = some r := by first | (rw [hy268]; with_reducible exact H) | (have H2_ := (Option.bind_some _ _).symm.trans H; rw [hy268]; with_reducible exact H2_) | (have H2_ := (Option.bind_some _ _).symm.trans H; with_reducible exact H2_) | with_reducible exact H | (rw [hy268]; exact H) | exact H
      have Ny268 := Aside0.mk hy268
      clear hy268
      have H' := Aside0.mk H
      clear H
      go_enter Try.func22, Try.ntmps22
      go_wp2_with (first | ((with_reducible refine gate_dst (N := 14) rfl ?_); refine Kd.R_make Kd.bool _ 4 rfl (N := 14) rfl 56 _ _ rfl a1 rfl rfl Try.underlying56 (.bool false) 1 info4 rfl (by decide) (by omega) false (ok := fun _ => True) (okp := fun _ => True) rfl (fun _ hk => hk) trivial (of_decide_eq_true (by first | (with_reducible assumption) | assumption)) (Nat.le_trans (Nat.mul_le_mul_right _ (of_decide_eq_true (by first | (with_reducible assumption) | assumption) : a1.toNat ≤ 281474976710656)) (by omega)) (Below.refl _ _) (Nat.le_refl _) ?_; intro v269 w6 ho7 hb hg_ hnew_; clear hg_ hnew_; (first | rw [← Ny268.out] at ho7 | (simp only [Int.reduceToNat] at ho7; rw [← Ny268.out] at ho7)); have n0_ := Aside0.mk (Kd.R_lower ho7 (below_size (by repeat (first | (with_reducible first | exact HB.out | apply below_alloc | apply pw_below_drewN | apply below_drew1) | exact HB.out)))); have n1_ := Aside0.mk (below_step (by repeat (first | (with_reducible first | exact HB.out | apply below_alloc | apply pw_below_drewN | apply below_drew1) | exact HB.out)) hb); clear HB; have HO270 := n0_; have HB := n1_; clear n0_ n1_; clear hb ho7))
      go_loopg [8] k (fun kq v8 w' => ∃ (x7_1 : List Bool) (x8_1 : Int), v8 = .int .i64 x8_1 ∧ Aside0 (codewrightref17_Closure.l0 kq a0 a1 l2 x7_1 x8_1 = some r) ∧ Aside0 (kq ≤ k) ∧ Aside0 (Kd.R Kd.bool 4 w' w.heap.size (fun _ => True) v269 x7_1) ∧ Aside0 (Below w.heap.size w w'))
      case atStart => exact ⟨(y268), (0), (by first | rfl | (simp; done) | (simp [*]; done)), H', ⟨Nat.le_refl _⟩, ⟨by (with_reducible repeat (first | apply Kd.R_alloc | apply Kd.R_drewN | apply Kd.R_drew)); exact HO270.out⟩, ⟨by repeat (first | (with_reducible first | exact HB.out | apply below_alloc | apply pw_below_drewN | apply below_drew1) | exact HB.out)⟩⟩
      case round =>
        clear H'
        try clear c2
        try clear p2
        try clear c4
        try clear c4b0
        try clear c4b1
        try clear c5
        try clear c5b0
        try clear c5b1
        obtain ⟨x7_1, x8_1, rfl, HA, HK1, HO_7, HB⟩ := hrel
        cases gk with
        | zero => exact absurd HA.out (by simp [codewrightref17_Closure.l0])
        | succ k1 =>
          have H := HA.out
          clear HA
          simp only [codewrightref17_Closure.l0] at H
          by_cases c8 : x8_1 < (l2.length : Int)
          · rw [if_pos c8] at H
            have c8b0 : decide (x8_1 < (l2.length : Int)) = true := decide_eq_true c8
            clear c8
            by_cases c9 : 0 ≤ x8_1
            · rw [if_pos c9] at H
              have c9b0 : decide (0 ≤ x8_1) = true := decide_eq_true c9
              clear c9
              replace H := Option.bind_eq_some_iff.mp H
              obtain ⟨t272, A100, H⟩ := H
              replace H : ((codewrightref16_Coset.f k1 a0 a1 t272).bind fun t273 => (codewrightref17_Closure.l1 k1 a0 a1 l2 x7_1 x8_1 t273 0)) = some r := H
              have A10 := Aside0.mk A100
              clear A100
              replace H := Option.bind_eq_some_iff.mp H
              obtain ⟨t273, A110, H⟩ := H
              replace H : (codewrightref17_Closure.l1 k1 a0 a1 l2 x7_1 x8_1 t273 0) = some r := H
              have A11 := Aside0.mk A110
              clear A110
              have H' := Aside0.mk H
              clear H
              have p271 : 0 ≤ (x8_1 : Int) := of_decide_eq_true (by first | (with_reducible assumption) | assumption)
              have q271 : x8_1 < (l2.length : Int) := of_decide_eq_true (by first | (with_reducible assumption) | assumption)
              obtain ⟨ad271, e271, hx271_0⟩ := Kd.at_int HR2.out x8_1 p271 q271
              cases e271
              replace hx271_0 := (HB.out.cell (World.block_lt_of_cell? w _ hx271_0)).trans hx271_0
              replace p271 := eq_true p271
              replace q271 := eq_true q271
              go_wp2_with (first | ((with_reducible refine gate_callee (f := 15) rfl ?_); refine goesL_ (some 28) rfl rfl Try.func15 (by kernel_rfl) rfl #[.int .i64 (rd l2 x8_1), .int .i64 a1] rfl (by (try simp only [List.map_toArray, List.map_cons, List.map_nil]); first | done | rfl | (simp only [List.length_drop, List.length_take]; rfl)) ?_; (with_reducible refine (codewrightref17_Mod.calls (rd l2 x8_1) a1 t272 _ A10.out).mono ?_); rintro e w' ⟨rfl, ⟨nd, rfl⟩⟩; refine ⟨_, rfl, ?_⟩) | ((with_reducible refine gate_callee (f := 47) rfl ?_); refine goesL_ (some 29) rfl rfl Try.func47 (by kernel_rfl) rfl #[.int .i64 a0, .int .i64 a1, .int .i64 t272] rfl (by (try simp only [List.map_toArray, List.map_cons, List.map_nil]); first | done | rfl | (simp only [List.length_drop, List.length_take]; rfl)) ?_; (with_reducible refine (codewrightref16_Coset.calls k1 a0 a1 t272 t273 _ A11.out).mono ?_); rintro e w12 ⟨v274, rfl, ho0, hb⟩; refine ⟨_, rfl, ?_⟩; have n0_ := Aside0.mk (Kd.R_below (by (with_reducible repeat (first | apply Kd.R_alloc | apply Kd.R_drewN | apply Kd.R_drew)); exact HO_7.out) hb); have n1_ := Aside0.mk (Kd.R_lower ho0 (below_size (by repeat (first | (with_reducible first | exact HB.out | apply below_alloc | apply pw_below_drewN | apply below_drew1) | exact HB.out)))); have n2_ := Aside0.mk (below_step (by repeat (first | (with_reducible first | exact HB.out | apply below_alloc | apply pw_below_drewN | apply below_drew1) | exact HB.out)) hb); clear HO_7; clear HB; have HO_7 := n0_; have HO275 := n1_; have HB := n2_; clear n0_ n1_ n2_; (try clear hb); (try clear hb2); (try clear hk); (try clear hi); (try clear ho0)))
              go_loopg [10] k1 (fun kq v10 w' => ∃ (x7_2 : List Bool) (x10_2 : Int), v10 = .int .i64 x10_2 ∧ Aside0 (codewrightref17_Closure.l1 kq a0 a1 l2 x7_2 x8_1 t273 x10_2 = some r) ∧ Aside0 (kq ≤ k1) ∧ Aside0 (Kd.R Kd.bool 4 w' w.heap.size (fun _ => True) v269 x7_2) ∧ Aside0 (Kd.R (Kd.int .i64) 3 w' w.heap.size (fun _ => True) v274 t273) ∧ Aside0 (Below w.heap.size w w'))
              case atStart => exact ⟨(x7_1), (0), (by first | rfl | (simp; done) | (simp [*]; done)), H', ⟨Nat.le_refl _⟩, ⟨by (with_reducible repeat (first | apply Kd.R_alloc | apply Kd.R_drewN | apply Kd.R_drew)); exact HO_7.out⟩, ⟨by (with_reducible repeat (first | apply Kd.R_alloc | apply Kd.R_drewN | apply Kd.R_drew)); exact HO275.out⟩, ⟨by repeat (first | (with_reducible first | exact HB.out | apply below_alloc | apply pw_below_drewN | apply below_drew1) | exact HB.out)⟩⟩
              case round =>
                clear H'
                try clear c1
                try clear c2
                try clear p2
                try clear q2
                try clear hx2
                try clear c4
                try clear c4b0
                try clear c4b1
                try clear c5
                try clear c5b0
                try clear c5b1
                try clear c8
                try clear c8b0
                try clear c9
                try clear c9b0
                try clear hx271_0
                try clear p2
                try clear p271
                try clear q271
                obtain ⟨x7_2, x10_2, rfl, HA, HK2, HO_7, HO_9, HB⟩ := hrel
                cases gk with
                | zero => exact absurd HA.out (by simp [codewrightref17_Closure.l1])
                | succ k2 =>
                  have H := HA.out
                  clear HA
                  simp only [codewrightref17_Closure.l1] at H
                  by_cases c13 : x10_2 < (t273.length : Int)
                  · rw [if_pos c13] at H
                    have c13b0 : decide (x10_2 < (t273.length : Int)) = true := decide_eq_true c13
                    clear c13
                    by_cases c14 : 0 ≤ x10_2
                    · rw [if_pos c14] at H
                      have c14b0 : decide (0 ≤ x10_2) = true := decide_eq_true c14
                      clear c14
                      by_cases c15 : 0 ≤ (rd t273 x10_2)
                      · rw [if_pos c15] at H
                        have c15b0 : decide (0 ≤ (rd t273 x10_2)) = true := decide_eq_true c15
                        clear c15
                        by_cases c16 : (rd t273 x10_2) < (x7_2.length : Int)
                        · rw [if_pos c16] at H
                          have c16b0 : decide ((rd t273 x10_2) < (x7_2.length : Int)) = true := decide_eq_true c16
                          clear c16
                          obtain ⟨y277, hy277⟩ : ∃ y_ : List Bool, y_ = (x7_2.set ((rd t273 x10_2) : Int).toNat true) := ⟨_, rfl⟩
                          replace H : (codewrightref17_Closure.l1 k2 a0 a1 l2 y277 x8_1 t273 (wrap64 (x10_2 + 1))) = some r := by first | (rw [hy277]; with_reducible exact H) | (have H2_ := (Option.bind_some _ _).symm.trans H; rw [hy277]; with_reducible exact H2_) | (have H2_ := (Option.bind_some _ _).symm.trans H; with_reducible exact H2_) | with_reducible exact H | (rw [hy277]; exact H) | exact H
                          have Ny277 := Aside0.mk hy277
                          clear hy277
                          have H' := Aside0.mk H
                          clear H
                          obtain ⟨Ao18, co18, eo18⟩ := Kd.R_slice HO_9.out
                          subst eo18
                          have p276 : 0 ≤ (x10_2 : Int) := of_decide_eq_true (by first | (with_reducible assumption) | assumption)
                          have q276 : x10_2 < (t273.length : Int) := of_decide_eq_true (by first | (with_reducible assumption) | assumption)
                          obtain ⟨ad276, e276, hx276_0⟩ := Kd.at_int (Kd.R_reads' HO_9.out).2.2 x10_2 p276 q276
                          cases e276
                          replace p276 := eq_true p276
                          replace q276 := eq_true q276
                          have p17 : 0 ≤ ((rd t273 x10_2) : Int) := of_decide_eq_true (by first | (with_reducible assumption) | assumption)
                          have q17 : ((rd t273 x10_2) : Int) < ((x7_2.length : Int) : Int) := of_decide_eq_true (by first | (with_reducible assumption) | assumption)
                          obtain ⟨go17, co17, eo17, gb17, gl17, cl17, HG17⟩ := Kd.R_form HO_7.out (by omega)
                          (first | cases eo17 | (injection eo17 with ea_ en_ ec_; (first | subst ea_ | (injection ea_ with ea_; subst ea_)); subst ec_; clear en_))
                          have GB17 := Aside0.mk gb17
                          have GG17 := Aside0.mk HG17
                          clear gb17 gl17 HG17
                          obtain ⟨hx17_0, hf17_0⟩ := Kd.R_celln false HO_7.out ((rd t273 x10_2) : Int) p17 q17
                          replace p17 := eq_true p17
                          replace q17 := eq_true q17
                          have HP19 := Kd.R_putg HO_7.out ((rd t273 x10_2) : Int) true
                          go_wp2_with (first | ((with_reducible refine gate_store (t := 4) (p := 41) rfl ?_); refine store_event (t := 4) (p := 41) (v := ?vo_w20) (w1 := (wr.setCell ⟨go17, ((rd t273 x10_2) : Int).toNat, none⟩ (.bool true))) ?hg ?ho ?hn ?hr ?_; (case ho => rfl); (case hg => rfl); (case hn => rfl); (case hr => first | (go_simp; done) | (go_simp; rfl)); intro w20 hw; have hg : wr.grownBy w20 (some go17) := (by rw [hw]; exact HP19.2); have hp_ : Kd.R Kd.bool 4 w20 w.heap.size (fun _ => True) (.slice (some ⟨go17, 0, none⟩) x7_2.length co17) y277 := (by rw [hw, Ny277.out]; exact HP19.1); clear HP19; have n0_ := Aside0.mk (hp_); have n1_ := Aside0.mk (Kd.R_over' (v := (.slice (some ⟨go17, 0, none⟩) x7_2.length co17)) (by (with_reducible repeat (first | apply Kd.R_alloc | apply Kd.R_drewN | apply Kd.R_drew)); exact HO_9.out) (Kd.R_typed HO_7.out) (by decide) hg); have n2_ := Aside0.mk ((by rw [hw]; exact below_set (HB.out) GB17.out : Below w.heap.size w w20)); clear HO_7; clear HO_9; clear HB; have HO_7 := n0_; have HO_9 := n1_; have HB := n2_; clear n0_ n1_ n2_; clear hg hw hp_))
                          go_roundg k2
                          case measure => have := HK1.out; have := HK2.out; omega
                          case rel => exact ⟨(y277), (wrap64 (x10_2 + 1)), (by first | rfl | (simp; done) | (simp [*]; done)), H', ⟨by have := HK1.out; have := HK2.out; omega⟩, ⟨by (with_reducible repeat (first | apply Kd.R_alloc | apply Kd.R_drewN | apply Kd.R_drew)); exact HO_7.out⟩, ⟨by (with_reducible repeat (first | apply Kd.R_alloc | apply Kd.R_drewN | apply Kd.R_drew)); exact HO_9.out⟩, ⟨by repeat (first | (with_reducible first | exact HB.out | apply below_alloc | apply pw_below_drewN | apply below_drew1) | exact HB.out)⟩⟩
                        · rw [if_neg c16] at H
                          exact absurd H (by simp)
                      · rw [if_neg c15] at H
                        exact absurd H (by simp)
                    · rw [if_neg c14] at H
                      exact absurd H (by simp)
                  · rw [if_neg c13] at H
                    have c13b0 : decide (x10_2 < (t273.length : Int)) = false := decide_eq_false c13
                    clear c13
                    have H' := Aside0.mk H
                    clear H
                    obtain ⟨Ao21, co21, eo21⟩ := Kd.R_slice HO_9.out
                    subst eo21
                    go_wp2
                    go_roundg k2
                    case measure => have := HK1.out; have := HK2.out; omega
                    case rel => exact ⟨(x7_2), (wrap64 (x8_1 + 1)), (by first | rfl | (simp; done) | (simp [*]; done)), H', ⟨by have := HK1.out; have := HK2.out; omega⟩, ⟨by (with_reducible repeat (first | apply Kd.R_alloc | apply Kd.R_drewN | apply Kd.R_drew)); exact HO_7.out⟩, ⟨by repeat (first | (with_reducible first | exact HB.out | apply below_alloc | apply pw_below_drewN | apply below_drew1) | exact HB.out)⟩⟩
            · rw [if_neg c9] at H
              exact absurd H (by simp)
          · rw [if_neg c8] at H
            have c8b0 : decide (x8_1 < (l2.length : Int)) = false := decide_eq_false c8
            clear c8
            have H' := Aside0.mk H
            clear H
            go_wp2
            go_loopg [11, 12] k1 (fun kq v11 v12 w' => ∃ (x11_2 : List Int) (x12_2 : Int), v12 = .int .i64 x12_2 ∧ Aside0 (codewrightref17_Closure.l2 kq a1 x7_1 x11_2 x12_2 = some r) ∧ Aside0 (kq ≤ k1) ∧ Aside0 (Kd.R Kd.bool 4 w' w.heap.size (fun _ => True) v269 x7_1) ∧ Aside0 (Kd.R (Kd.int .i64) 3 w' w.heap.size (fun _ => True) v11 x11_2) ∧ Aside0 (Below w.heap.size w w'))
            case atStart => exact ⟨(([] : List Int)), (0), (by first | rfl | (simp; done) | (simp [*]; done)), H', ⟨Nat.le_refl _⟩, ⟨by (with_reducible repeat (first | apply Kd.R_alloc | apply Kd.R_drewN | apply Kd.R_drew)); exact HO_7.out⟩, ⟨by first | exact Kd.R_nil _ _ _ _ _ | exact Kd.N_nil _ _ _ _ _ | exact Kd.V_nil _ _ _ _ _ | exact Kd.Q_nil _ _ _ _ _ | exact Kd.S_nil _ _ _ _ _⟩, ⟨by repeat (first | (with_reducible first | exact HB.out | apply below_alloc | apply pw_below_drewN | apply below_drew1) | exact HB.out)⟩⟩
            case round =>
              clear H'
              try clear c1
              try clear p1
              try clear q1
              try clear hx1
              try clear c2
              try clear p2
              try clear q2
              try clear hx2
              try clear c4
              try clear c4b0
              try clear c4b1
              try clear c5
              try clear c5b0
              try clear c5b1
              try clear p6
              try clear c8
              try clear c8b0
              try clear c9
              try clear c9b0
              try clear c13
              try clear c13b0
              try clear c14
              try clear c14b0
              try clear c15
              try clear c15b0
              try clear c16
              try clear c16b0
              try clear p17
              try clear q17
              try clear hx17
              try clear hf17
              try clear hx17_0
              try clear hx271_0
              try clear hx276_0
              try clear p17
              try clear p2
              try clear p271
              try clear p276
              try clear q17
              try clear q2
              try clear q271
              try clear q276
              obtain ⟨x11_2, x12_2, rfl, HA, HK2, HO_7, HO_11, HB⟩ := hrel
              cases gk with
              | zero => exact absurd HA.out (by simp [codewrightref17_Closure.l2])
              | succ k2 =>
                have H := HA.out
                clear HA
                simp only [codewrightref17_Closure.l2] at H
                by_cases c22 : x12_2 < a1
                · rw [if_pos c22] at H
                  have c22b0 : decide (x12_2 < a1) = true := decide_eq_true c22
                  clear c22
                  by_cases c23 : 0 ≤ x12_2
                  · rw [if_pos c23] at H
                    have c23b0 : decide (0 ≤ x12_2) = true := decide_eq_true c23
                    clear c23
                    by_cases c24 : x12_2 < (x7_1.length : Int)
                    · rw [if_pos c24] at H
                      have c24b0 : decide (x12_2 < (x7_1.length : Int)) = true := decide_eq_true c24
                      clear c24
                      obtain ⟨bq25, hbq25⟩ : ∃ b_ : Bool, b_ = (rdOf false x7_1 x12_2) := ⟨_, rfl⟩
                      replace H : (if bq25 = true then (if x11_2.length < 17592186044416 then (codewrightref17_Closure.l2 k2 a1 x7_1 (x11_2 ++ [x12_2]) (wrap64 (x12_2 + 1))) else (none)) else (codewrightref17_Closure.l2 k2 a1 x7_1 x11_2 (wrap64 (x12_2 + 1)))) = some r := by rw [← hbq25] at H; exact H
                      have Nbq25 := Aside0.mk hbq25
                      clear hbq25
                      by_cases c26 : bq25 = true
                      · subst c26
                        have H1 : (if x11_2.length < 17592186044416 then (codewrightref17_Closure.l2 k2 a1 x7_1 (x11_2 ++ [x12_2]) (wrap64 (x12_2 + 1))) else (none)) = some r := by rw [if_pos rfl] at H; exact H
                        clear H
                        have H := H1
                        clear H1
                        by_cases c27 : x11_2.length < 17592186044416
                        · rw [if_pos c27] at H
                          have LMc27 := Aside0.mk c27
                          clear c27
                          obtain ⟨y279, hy279⟩ : ∃ y_ : List Int, y_ = (x11_2 ++ [x12_2]) := ⟨_, rfl⟩
                          replace H : (codewrightref17_Closure.l2 k2 a1 x7_1 y279 (wrap64 (x12_2 + 1))) = some r := by first | (rw [hy279]; with_reducible exact H) | (have H2_ := (Option.bind_some _ _).symm.trans H; rw [hy279]; with_reducible exact H2_) | (have H2_ := (Option.bind_some _ _).symm.trans H; with_reducible exact H2_) | with_reducible exact H | (rw [hy279]; exact H) | exact H
                          have Ny279 := Aside0.mk hy279
                          clear hy279
                          have H' := Aside0.mk H
                          clear H
                          obtain ⟨Ao28, co28, eo28⟩ := Kd.R_slice HO_7.out
                          subst eo28
                          have p278 : 0 ≤ (x12_2 : Int) := of_decide_eq_true (by first | (with_reducible assumption) | assumption)
                          have q278 : x12_2 < (x7_1.length : Int) := of_decide_eq_true (by first | (with_reducible assumption) | assumption)
                          obtain ⟨ad278, e278, hx278_0⟩ := Kd.at_bool (Kd.R_reads' HO_7.out).2.2 x12_2 p278 q278
                          (try rw [← Nbq25.out] at hx278_0)
                          cases e278
                          replace p278 := eq_true p278
                          replace q278 := eq_true q278
                          go_wp2_with (first | ((with_reducible refine gate_builtin (b := .append) (xs := #[.tmp 51, .tmp 53]) rfl ?_); at_builtin; refine Kd.R_append (Kd.int .i64) (w0 := w) w.heap.size rfl (.tmp 51) (.tmp 53) 22 3 (.int .i64 0) 8 rfl Try.underlying22 info3 rfl (by decide) (by omega) u11 x11_2 x12_2 [.int .i64 x12_2] (fun _ => True) (fun _ => False) rfl rfl ?aP (fun _ hk => hk.elim) ?aF ?aO ?aB ?aS ?aL ?_; (case aP => exact rfl); (case aB => exact (by repeat (first | (with_reducible first | exact HB.out | apply below_alloc | apply pw_below_drewN | apply below_drew1) | exact HB.out))); (case aF => exact (fun _ _ => trivial)); (case aO => exact (by (with_reducible repeat (first | apply Kd.R_alloc | apply Kd.R_drewN | apply Kd.R_drew)); exact HO_11.out)); (case aS => exact (below_size (by repeat (first | (with_reducible first | exact HB.out | apply below_alloc | apply pw_below_drewN | apply below_drew1) | exact HB.out)))); (case aL => have := LMc27.out; omega); intro v280 w29 ho hb hg hat; rw [← Ny279.out] at ho; have n0_ := Aside0.mk (Kd.R_over' (by (with_reducible repeat (first | apply Kd.R_alloc | apply Kd.R_drewN | apply Kd.R_drew)); exact HO_7.out) (Kd.R_typed (by (with_reducible repeat (first | apply Kd.R_alloc | apply Kd.R_drewN | apply Kd.R_drew)); exact HO_11.out)) (by decide) hg); have n1_ := Aside0.mk (hb); have n2_ := Aside0.mk (ho); clear HO_7; clear HB; clear HO_11; have HO_7 := n0_; have HB := n1_; have HO281 := n2_; clear n0_ n1_ n2_; clear ho hb hg hat))
                          go_roundg k2
                          case measure => have := HK1.out; have := HK2.out; omega
                          case rel => exact ⟨(y279), (wrap64 (x12_2 + 1)), (by first | rfl | (simp; done) | (simp [*]; done)), H', ⟨by have := HK1.out; have := HK2.out; omega⟩, ⟨by (with_reducible repeat (first | apply Kd.R_alloc | apply Kd.R_drewN | apply Kd.R_drew)); exact HO_7.out⟩, ⟨by (with_reducible repeat (first | apply Kd.R_alloc | apply Kd.R_drewN | apply Kd.R_drew)); exact HO281.out⟩, ⟨by repeat (first | (with_reducible first | exact HB.out | apply below_alloc | apply pw_below_drewN | apply below_drew1) | exact HB.out)⟩⟩
                        · rw [if_neg c27] at H
                          exact absurd H (by simp)
                      · replace c26 := Bool.eq_false_iff.mpr c26
                        subst c26
                        have H1 : (codewrightref17_Closure.l2 k2 a1 x7_1 x11_2 (wrap64 (x12_2 + 1))) = some r := by rw [if_neg (show ¬ (false = true) by decide)] at H; exact H
                        clear H
                        have H := H1
                        clear H1
                        have H' := Aside0.mk H
                        clear H
                        obtain ⟨Ao30, co30, eo30⟩ := Kd.R_slice HO_7.out
                        subst eo30
                        have p278 : 0 ≤ (x12_2 : Int) := of_decide_eq_true (by first | (with_reducible assumption) | assumption)
                        have q278 : x12_2 < (x7_1.length : Int) := of_decide_eq_true (by first | (with_reducible assumption) | assumption)
                        obtain ⟨ad278, e278, hx278_0⟩ := Kd.at_bool (Kd.R_reads' HO_7.out).2.2 x12_2 p278 q278
                        (try rw [← Nbq25.out] at hx278_0)
                        cases e278
                        replace p278 := eq_true p278
                        replace q278 := eq_true q278
                        go_wp2
                        go_roundg k2
                        case measure => have := HK1.out; have := HK2.out; omega
                        case rel => exact ⟨(x11_2), (wrap64 (x12_2 + 1)), (by first | rfl | (simp; done) | (simp [*]; done)), H', ⟨by have := HK1.out; have := HK2.out; omega⟩, ⟨by (with_reducible repeat (first | apply Kd.R_alloc | apply Kd.R_drewN | apply Kd.R_drew)); exact HO_7.out⟩, ⟨by (with_reducible repeat (first | apply Kd.R_alloc | apply Kd.R_drewN | apply Kd.R_drew)); exact HO_11.out⟩, ⟨by repeat (first | (with_reducible first | exact HB.out | apply below_alloc | apply pw_below_drewN | apply below_drew1) | exact HB.out)⟩⟩
                    · rw [if_neg c24] at H
                      exact absurd H (by simp)
                  · rw [if_neg c23] at H
                    exact absurd H (by simp)
                · rw [if_neg c22] at H
                  have c22b0 : decide (x12_2 < a1) = false := decide_eq_false c22
                  clear c22
                  obtain rfl := Option.some.inj H
                  go_wp2
                  go_ret
                  exact ⟨_, by first | rfl | (simp [errW_none, errW_some] <;> rfl) | (simp [*, errW_none, errW_some] <;> rfl), by (with_reducible repeat (first | apply Kd.R_alloc | apply Kd.R_drewN | apply Kd.R_drew)); exact HO_11.out, by repeat (first | (with_reducible first | exact HB.out | apply below_alloc | apply pw_below_drewN | apply below_drew1) | exact HB.out)⟩
    · rw [if_neg c5] at H
      exact absurd H (by simp)
  · rw [if_neg c4] at H
    exact absurd H (by simp)

-- NOT PRINTED: function 7 (codewrightlaw17_BchClosures)

end Go.Proofs.Ytibbdjkboglepaa.QBchClosures

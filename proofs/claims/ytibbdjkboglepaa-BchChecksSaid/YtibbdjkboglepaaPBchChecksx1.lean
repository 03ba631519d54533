-- PRINTED BY print.sh 35421559b90ae4d0a3588c463048766b98c2df88dd9212a6774a882060cdf62d: not written by this session
import Derived.Test.YtibbdjkboglepaaPBchChecksx0
namespace Go.Proofs.Ytibbdjkboglepaa.PBchChecks
open Go.RowKit Go.Proofs.YtibbdjkboglepaaW.PrintWords Go.Proofs.YtibbdjkboglepaaW.PrintLast Go.Proofs.YtibbdjkboglepaaW.PrintMore
attribute [local go_sem] max2_int min2_int max_two min_two max_three min_three max_four min_four   -- for this text's walks alone
set_option linter.unusedVariables false
set_option linter.unusedSimpArgs false

/-! ### bch_far: function 27 -/
def bch_far.f (a0 : Int) : Option (Bool) := if a0 < (-2147483648) then (some true) else (some (decide (a0 > 2147483648)))
set_option maxHeartbeats 8000000 in
set_option maxRecDepth 100000 in
theorem bch_far.calls (a0 : Int) (r : Bool) (w : World) (h : bch_far.f a0 = some r) :
    Calls Try.prog 27 #[.int .i64 a0] w fun e w' => e = .returned (.bool r) ∧ Drawn0 w w' := by
  have H : (if a0 < (-2147483648) then (some true) else (some (decide (a0 > 2147483648)))) = some r := h
  clear h
  by_cases c2 : a0 < (-2147483648)
  · rw [if_pos c2] at H
    have c2b0 : decide (a0 < (-2147483648)) = true := decide_eq_true c2
    clear c2
    obtain rfl := Option.some.inj H
    go_enter Try.func27, Try.ntmps27
    go_wp2
    go_ret
    exact ⟨by first | rfl | (simp; done) | (simp [*]; done), by repeat (first | exact Drawn0.refl _ | apply Drawn0.step)⟩
  · rw [if_neg c2] at H
    have c2b0 : decide (a0 < (-2147483648)) = false := decide_eq_false c2
    clear c2
    obtain rfl := Option.some.inj H
    go_enter Try.func27, Try.ntmps27
    go_wp2
    go_ret
    exact ⟨by first | rfl | (simp; done) | (simp [*]; done), by repeat (first | exact Drawn0.refl _ | apply Drawn0.step)⟩

/-! ### bch_modulo: function 30 -/
def bch_modulo.f (a0 : Int) (a1 : Int) : Option (Int) := if a1 = 0 then (none) else (some (Int.tmod (wrap64 ((Int.tmod a0 a1) + a1)) a1))
set_option maxHeartbeats 8000000 in
set_option maxRecDepth 100000 in
theorem bch_modulo.calls (a0 : Int) (a1 : Int) (r : Int) (w : World) (h : bch_modulo.f a0 a1 = some r) :
    Calls Try.prog 30 #[.int .i64 a0, .int .i64 a1] w fun e w' => e = .returned (.int .i64 r) ∧ Drawn0 w w' := by
  have H : (if a1 = 0 then (none) else (some (Int.tmod (wrap64 ((Int.tmod a0 a1) + a1)) a1))) = some r := h
  clear h
  by_cases c3 : a1 = 0
  · rw [if_pos c3] at H
    exact absurd H (by simp)
  · rw [if_neg c3] at H
    have c3b0 : (a1 == 0) = false := beq_eq_false_iff_ne.mpr c3
    have c3b1 : (a1 != 0) = true := bne_iff_ne.mpr c3
    obtain rfl := Option.some.inj H
    go_enter Try.func30, Try.ntmps30
    go_wp2
    go_ret
    exact ⟨by first | rfl | (simp; done) | (simp [*]; done), by repeat (first | exact Drawn0.refl _ | apply Drawn0.step)⟩

/-! ### number_in: function 121 -/
def number_in.f (a0 : Int) (a1 : Int) : Option (Bool) := if a0 ≥ a1 then (some (decide (a0 ≤ 2147483647))) else (some false)
set_option maxHeartbeats 8000000 in
set_option maxRecDepth 100000 in
theorem number_in.calls (a0 : Int) (a1 : Int) (r : Bool) (w : World) (h : number_in.f a0 a1 = some r) :
    Calls Try.prog 121 #[.int .i64 a0, .int .i64 a1] w fun e w' => e = .returned (.bool r) ∧ Drawn0 w w' := by
  have H : (if a0 ≥ a1 then (some (decide (a0 ≤ 2147483647))) else (some false)) = some r := h
  clear h
  by_cases c3 : a0 ≥ a1
  · rw [if_pos c3] at H
    have c3b0 : decide (a1 ≤ a0) = true := decide_eq_true c3
    clear c3
    obtain rfl := Option.some.inj H
    go_enter Try.func121, Try.ntmps121
    go_wp2
    go_ret
    exact ⟨by first | rfl | (simp; done) | (simp [*]; done), by repeat (first | exact Drawn0.refl _ | apply Drawn0.step)⟩
  · rw [if_neg c3] at H
    have c3b0 : decide (a1 ≤ a0) = false := decide_eq_false c3
    clear c3
    obtain rfl := Option.some.inj H
    go_enter Try.func121, Try.ntmps121
    go_wp2
    go_ret
    exact ⟨by first | rfl | (simp; done) | (simp [*]; done), by repeat (first | exact Drawn0.refl _ | apply Drawn0.step)⟩

/-! ### number_both: function 87 -/
def number_both.f (a0 : Int) (a1 : Int) : Option (Bool) := (number_in.f a0 (-2147483647)).bind fun t101 => (if t101 = true then ((number_in.f a1 (-2147483647)).bind fun t102 => (some t102)) else (some false))
set_option maxHeartbeats 8000000 in
set_option maxRecDepth 100000 in
theorem number_both.calls (a0 : Int) (a1 : Int) (r : Bool) (w : World) (h : number_both.f a0 a1 = some r) :
    Calls Try.prog 87 #[.int .i64 a0, .int .i64 a1] w fun e w' => e = .returned (.bool r) ∧ Drawn0 w w' := by
  have H : ((number_in.f a0 (-2147483647)).bind fun t101 => (if t101 = true then ((number_in.f a1 (-2147483647)).bind fun t102 => (some t102)) else (some false))) = some r := h
  clear h
  replace H := Option.bind_eq_some_iff.mp H
  obtain ⟨t101, A30, H⟩ := H
  replace H : (if t101 = true then ((number_in.f a1 (-2147483647)).bind fun t102 => (some t102)) else (some false)) = some r := H
  have A3 := Aside0.mk A30
  clear A30
  by_cases c4 : t101 = true
  · subst c4
    have H1 : ((number_in.f a1 (-2147483647)).bind fun t102 => (some t102)) = some r := by rw [if_pos rfl] at H; exact H
    clear H
    have H := H1
    clear H1
    replace H := Option.bind_eq_some_iff.mp H
    obtain ⟨t102, A50, H⟩ := H
    replace H : (some t102) = some r := H
    have A5 := Aside0.mk A50
    clear A50
    obtain rfl := Option.some.inj H
    go_enter Try.func87, Try.ntmps87
    go_wp2_with (first | ((with_reducible refine gate_callee (f := 121) rfl ?_); refine goesL_ (some 6) rfl rfl Try.func121 (by kernel_rfl) rfl #[.int .i64 a0, .int .i64 (-2147483647)] rfl (by (try simp only [List.map_toArray, List.map_cons, List.map_nil]); first | done | rfl | (simp only [List.length_drop, List.length_take]; rfl)) ?_; (with_reducible refine (number_in.calls a0 (-2147483647) true _ A3.out).mono ?_); rintro e w' ⟨rfl, ⟨nd, rfl⟩⟩; refine ⟨_, rfl, ?_⟩) | (go_at_call 121; (with_reducible refine (number_in.calls a1 (-2147483647) t102 _ A5.out).mono ?_); rintro e w' ⟨rfl, ⟨nd, rfl⟩⟩))
    go_ret
    exact ⟨by first | rfl | (simp; done) | (simp [*]; done), by repeat (first | exact Drawn0.refl _ | apply Drawn0.step)⟩
  · replace c4 := Bool.eq_false_iff.mpr c4
    subst c4
    have H1 : (some false) = some r := by rw [if_neg (show ¬ (false = true) by decide)] at H; exact H
    clear H
    have H := H1
    clear H1
    obtain rfl := Option.some.inj H
    go_enter Try.func87, Try.ntmps87
    go_wp2_with (first | ((with_reducible refine gate_callee (f := 121) rfl ?_); refine goesL_ (some 6) rfl rfl Try.func121 (by kernel_rfl) rfl #[.int .i64 a0, .int .i64 (-2147483647)] rfl (by (try simp only [List.map_toArray, List.map_cons, List.map_nil]); first | done | rfl | (simp only [List.length_drop, List.length_take]; rfl)) ?_; (with_reducible refine (number_in.calls a0 (-2147483647) false _ A3.out).mono ?_); rintro e w' ⟨rfl, ⟨nd, rfl⟩⟩; refine ⟨_, rfl, ?_⟩))
    go_ret
    exact ⟨by first | rfl | (simp; done) | (simp [*]; done), by repeat (first | exact Drawn0.refl _ | apply Drawn0.step)⟩

/-! ### number_gcd: function 88 -/
def number_gcd.l0 : Nat → Int → Int → Option (Int)
  | 0, _, _ => none
  | k + 1, x0, x1 => if x1 = 0 then (some x0) else (number_gcd.l0 k x1 (Int.tmod x0 x1))
def number_gcd.f (k : Nat) (a0 : Int) (a1 : Int) : Option (Int) := number_gcd.l0 k a0 a1
theorem number_gcd.mono_l : ∀ k, (∀ y0 y1, LeO (number_gcd.l0 k y0 y1) (number_gcd.l0 (k + 1) y0 y1))
  | 0 => fun _ _ r h => by simp [number_gcd.l0] at h
  | k + 1 => by
    have ih0 := number_gcd.mono_l k
    · intro y0 y1
      unfold number_gcd.l0
      repeat' first
      | (with_reducible exact ih0 _ _)
      | (with_reducible exact LeO.refl _)
      | (with_reducible exact LeO.none _)
      | (with_reducible refine LeO.ite ?_ ?_)
      | (with_reducible refine LeO.bind ?_ (fun _ => ?_))
      | exact ih0 _ _
      | exact LeO.none _
      | refine LeO.ite ?_ ?_
      | refine LeO.bind ?_ (fun _ => ?_)
theorem number_gcd.mono : ∀ a0 a1 k, LeO (number_gcd.f k a0 a1) (number_gcd.f (k + 1) a0 a1) := by
  intro a0 a1 k
  have ih0 := number_gcd.mono_l k
  unfold number_gcd.f
  repeat' first
      | (with_reducible exact ih0 _ _)
      | (with_reducible exact LeO.refl _)
      | (with_reducible exact LeO.none _)
      | (with_reducible refine LeO.ite ?_ ?_)
      | (with_reducible refine LeO.bind ?_ (fun _ => ?_))
      | exact ih0 _ _
      | exact LeO.none _
      | refine LeO.ite ?_ ?_
      | refine LeO.bind ?_ (fun _ => ?_)
set_option maxHeartbeats 8000000 in
set_option maxRecDepth 100000 in
theorem number_gcd.calls (k : Nat) (a0 : Int) (a1 : Int) (r : Int) (w : World) (h : number_gcd.f k a0 a1 = some r) :
    Calls Try.prog 88 #[.int .i64 a0, .int .i64 a1] w fun e w' => e = .returned (.int .i64 r) ∧ Drawn0 w w' := by
  have H : (number_gcd.l0 k a0 a1) = some r := h
  clear h
  have H' := Aside0.mk H
  clear H
  go_enter Try.func88, Try.ntmps88
  go_wp2
  repeat (go_quiet (fail); try go_wp2)
  go_loopg [0, 1] k (fun kq v0 v1 w' => ∃ (x0_1 : Int) (x1_1 : Int), v0 = .int .i64 x0_1 ∧ v1 = .int .i64 x1_1 ∧ Aside0 (number_gcd.l0 kq x0_1 x1_1 = some r) ∧ Aside0 (kq ≤ k) ∧ Drawn0 w w')
  case atStart => exact ⟨(a0), (a1), (by first | rfl | (simp; done) | (simp [*]; done)), (by first | rfl | (simp; done) | (simp [*]; done)), H', ⟨Nat.le_refl _⟩, by repeat (first | exact Drawn0.refl _ | apply Drawn0.step)⟩
  case round =>
    clear H'
    try clear p2
    obtain ⟨x0_1, x1_1, rfl, rfl, HA, HK1, ⟨m1, rfl⟩⟩ := hrel
    cases gk with
    | zero => exact absurd HA.out (by simp [number_gcd.l0])
    | succ k1 =>
      have H := HA.out
      clear HA
      simp only [number_gcd.l0] at H
      by_cases c3 : x1_1 = 0
      · rw [if_pos c3] at H
        have c3b0 : (x1_1 == 0) = true := beq_iff_eq.mpr c3
        have c3b1 : (x1_1 != 0) = false := bne_eq_false_iff_eq.mpr c3
        clear c3
        obtain rfl := Option.some.inj H
        go_wp2
        repeat (go_quiet (fail); try go_wp2)
        go_ret
        exact ⟨by first | rfl | (simp; done) | (simp [*]; done), by repeat (first | exact Drawn0.refl _ | apply Drawn0.step)⟩
      · rw [if_neg c3] at H
        have c3b0 : (x1_1 == 0) = false := beq_eq_false_iff_ne.mpr c3
        have c3b1 : (x1_1 != 0) = true := bne_iff_ne.mpr c3
        have H' := Aside0.mk H
        clear H
        go_wp2
        repeat (go_quiet (fail); try go_wp2)
        go_roundg k1
        case measure => have := HK1.out; omega
        case rel => exact ⟨(x1_1), (Int.tmod x0_1 x1_1), (by first | rfl | (simp; done) | (simp [*]; done)), (by first | rfl | (simp; done) | (simp [*]; done)), H', ⟨by have := HK1.out; omega⟩, by repeat (first | exact Drawn0.refl _ | apply Drawn0.step)⟩

/-! ### number_abs: function 89 -/
def number_abs.f (a0 : Int) : Option (Int) := some (mx a0 (wrap64 (-a0)))
set_option maxHeartbeats 8000000 in
set_option maxRecDepth 100000 in
theorem number_abs.calls (a0 : Int) (r : Int) (w : World) (h : number_abs.f a0 = some r) :
    Calls Try.prog 89 #[.int .i64 a0] w fun e w' => e = .returned (.int .i64 r) ∧ Below w.heap.size w w' := by
  have HB := Aside0.mk (Below.refl w.heap.size w)
  have H : (some (mx a0 (wrap64 (-a0)))) = some r := h
  clear h
  obtain ⟨ji2, hji2⟩ : ∃ j_ : Int, (mx a0 (wrap64 (-a0))) = j_ := ⟨_, rfl⟩
  replace H : (some ji2) = some r := by first | (rw [hji2] at H; exact H) | (simp only [hji2] at H ⊢; exact H)
  have hji2_ : (if a0 < (wrap64 (-a0)) then (wrap64 (-a0)) else a0) = ji2 := hji2
  obtain rfl := Option.some.inj H
  go_enter Try.func89, Try.ntmps89
  go_wp2
  go_ret
  exact ⟨by first | rfl | (simp [errW_none, errW_some] <;> rfl) | (simp only [← hji2]; first | rfl | (simp [errW_none, errW_some] <;> rfl)) | (simp [*, errW_none, errW_some] <;> rfl), by repeat (first | (with_reducible first | exact HB.out | apply below_alloc | apply pw_below_drewN | apply below_drew1) | exact HB.out)⟩

/-! ### number_Gcd: function 59 -/
def number_Gcd.f (k : Nat) (a0 : Int) (a1 : Int) : Option (Int × Int) := (number_both.f a0 a1).bind fun t103 => (if t103 = true then ((number_abs.f a0).bind fun t104 => ((number_abs.f a1).bind fun t105 => ((number_gcd.f k t104 t105).bind fun t106 => (some (t106, 0))))) else (some (0, 6)))
theorem number_Gcd.mono : ∀ a0 a1 k, LeO (number_Gcd.f k a0 a1) (number_Gcd.f (k + 1) a0 a1) := by
  intro a0 a1 k
  unfold number_Gcd.f
  repeat' first
      | (with_reducible exact number_gcd.mono _ _ _)
      | (with_reducible exact LeO.refl _)
      | (with_reducible exact LeO.none _)
      | (with_reducible refine LeO.ite ?_ ?_)
      | (with_reducible refine LeO.bind ?_ (fun _ => ?_))
      | exact number_gcd.mono _ _ _
      | exact LeO.none _
      | refine LeO.ite ?_ ?_
      | refine LeO.bind ?_ (fun _ => ?_)
set_option maxHeartbeats 8000000 in
set_option maxRecDepth 100000 in
theorem number_Gcd.calls (k : Nat) (a0 : Int) (a1 : Int) (r1 : Int) (r2 : Int) (w : World) (h : number_Gcd.f k a0 a1 = some (r1, r2)) :
    Calls Try.prog 59 #[.int .i64 a0, .int .i64 a1] w fun e w' => e = .returned (.tuple #[.int .i64 r1, .int .i64 r2]) ∧ Below w.heap.size w w' := by
  have HB := Aside0.mk (Below.refl w.heap.size w)
  have H : ((number_both.f a0 a1).bind fun t103 => (if t103 = true then ((number_abs.f a0).bind fun t104 => ((number_abs.f a1).bind fun t105 => ((number_gcd.f k t104 t105).bind fun t106 => (some (t106, 0))))) else (some (0, 6)))) = some (r1, r2) := h
  clear h
  replace H := Option.bind_eq_some_iff.mp H
  obtain ⟨t103, A30, H⟩ := H
  replace H : (if t103 = true then ((number_abs.f a0).bind fun t104 => ((number_abs.f a1).bind fun t105 => ((number_gcd.f k t104 t105).bind fun t106 => (some (t106, 0))))) else (some (0, 6))) = some (r1, r2) := H
  have A3 := Aside0.mk A30
  clear A30
  by_cases c4 : t103 = true
  · subst c4
    have H1 : ((number_abs.f a0).bind fun t104 => ((number_abs.f a1).bind fun t105 => ((number_gcd.f k t104 t105).bind fun t106 => (some (t106, 0))))) = some (r1, r2) := by rw [if_pos rfl] at H; exact H
    clear H
    have H := H1
    clear H1
    replace H := Option.bind_eq_some_iff.mp H
    obtain ⟨t104, A50, H⟩ := H
    replace H : ((number_abs.f a1).bind fun t105 => ((number_gcd.f k t104 t105).bind fun t106 => (some (t106, 0)))) = some (r1, r2) := H
    have A5 := Aside0.mk A50
    clear A50
    replace H := Option.bind_eq_some_iff.mp H
    obtain ⟨t105, A60, H⟩ := H
    replace H : ((number_gcd.f k t104 t105).bind fun t106 => (some (t106, 0))) = some (r1, r2) := H
    have A6 := Aside0.mk A60
    clear A60
    replace H := Option.bind_eq_some_iff.mp H
    obtain ⟨t106, A70, H⟩ := H
    replace H : (some (t106, 0)) = some (r1, r2) := H
    have A7 := Aside0.mk A70
    clear A70
    simp only [Option.some.injEq, Prod.mk.injEq] at H
    obtain ⟨rfl, rfl⟩ := H
    go_enter Try.func59, Try.ntmps59
    go_wp2_with (first | ((with_reducible refine gate_callee (f := 87) rfl ?_); refine goesL_ (some 8) rfl rfl Try.func87 (by kernel_rfl) rfl #[.int .i64 a0, .int .i64 a1] rfl (by (try simp only [List.map_toArray, List.map_cons, List.map_nil]); first | done | rfl | (simp only [List.length_drop, List.length_take]; rfl)) ?_; (with_reducible refine (number_both.calls a0 a1 true _ A3.out).mono ?_); rintro e w' ⟨rfl, ⟨nd, rfl⟩⟩; refine ⟨_, rfl, ?_⟩) | ((with_reducible refine gate_callee (f := 89) rfl ?_); refine goesL_ (some 11) rfl rfl Try.func89 (by kernel_rfl) rfl #[.int .i64 a0] rfl (by (try simp only [List.map_toArray, List.map_cons, List.map_nil]); first | done | rfl | (simp only [List.length_drop, List.length_take]; rfl)) ?_; (with_reducible refine (number_abs.calls a0 t104 _ A5.out).mono ?_); rintro e w8 ⟨rfl, hb⟩; refine ⟨_, rfl, ?_⟩; have n0_ := Aside0.mk (below_step (by repeat (first | (with_reducible first | exact HB.out | apply below_alloc | apply pw_below_drewN | apply below_drew1) | exact HB.out)) hb); clear HB; have HB := n0_; clear n0_; (try clear hb); (try clear hb2); (try clear hk); (try clear hi)) | ((with_reducible refine gate_callee (f := 89) rfl ?_); refine goesL_ (some 13) rfl rfl Try.func89 (by kernel_rfl) rfl #[.int .i64 a1] rfl (by (try simp only [List.map_toArray, List.map_cons, List.map_nil]); first | done | rfl | (simp only [List.length_drop, List.length_take]; rfl)) ?_; (with_reducible refine (number_abs.calls a1 t105 _ A6.out).mono ?_); rintro e w9 ⟨rfl, hb⟩; refine ⟨_, rfl, ?_⟩; have n0_ := Aside0.mk (below_step (by repeat (first | (with_reducible first | exact HB.out | apply below_alloc | apply pw_below_drewN | apply below_drew1) | exact HB.out)) hb); clear HB; have HB := n0_; clear n0_; (try clear hb); (try clear hb2); (try clear hk); (try clear hi)) | ((with_reducible refine gate_callee (f := 88) rfl ?_); refine goesL_ (some 14) rfl rfl Try.func88 (by kernel_rfl) rfl #[.int .i64 t104, .int .i64 t105] rfl (by (try simp only [List.map_toArray, List.map_cons, List.map_nil]); first | done | rfl | (simp only [List.length_drop, List.length_take]; rfl)) ?_; (with_reducible refine (number_gcd.calls k t104 t105 t106 _ A7.out).mono ?_); rintro e w' ⟨rfl, ⟨nd, rfl⟩⟩; refine ⟨_, rfl, ?_⟩))
    go_ret2
    exact ⟨by first | rfl | (simp [errW_none, errW_some] <;> rfl) | (simp [*, errW_none, errW_some] <;> rfl), by repeat (first | (with_reducible first | exact HB.out | apply below_alloc | apply pw_below_drewN | apply below_drew1) | exact HB.out)⟩
  · replace c4 := Bool.eq_false_iff.mpr c4
    subst c4
    have H1 : (some (0, 6)) = some (r1, r2) := by rw [if_neg (show ¬ (false = true) by decide)] at H; exact H
    clear H
    have H := H1
    clear H1
    simp only [Option.some.injEq, Prod.mk.injEq] at H
    obtain ⟨rfl, rfl⟩ := H
    go_enter Try.func59, Try.ntmps59
    go_wp2_with (first | ((with_reducible refine gate_callee (f := 87) rfl ?_); refine goesL_ (some 8) rfl rfl Try.func87 (by kernel_rfl) rfl #[.int .i64 a0, .int .i64 a1] rfl (by (try simp only [List.map_toArray, List.map_cons, List.map_nil]); first | done | rfl | (simp only [List.length_drop, List.length_take]; rfl)) ?_; (with_reducible refine (number_both.calls a0 a1 false _ A3.out).mono ?_); rintro e w' ⟨rfl, ⟨nd, rfl⟩⟩; refine ⟨_, rfl, ?_⟩))
    go_ret2
    exact ⟨by first | rfl | (simp [errW_none, errW_some] <;> rfl) | (simp [*, errW_none, errW_some] <;> rfl), by repeat (first | (with_reducible first | exact HB.out | apply below_alloc | apply pw_below_drewN | apply below_drew1) | exact HB.out)⟩

/-! ### bch_divisor: function 28 -/
def bch_divisor.f (k : Nat) (a0 : Int) (a1 : Int) : Option (Int) := (bch_modulo.f a0 a1).bind fun t107 => ((number_Gcd.f k t107 a1).bind fun bt108 => (some bt108.1))
theorem bch_divisor.mono : ∀ a0 a1 k, LeO (bch_divisor.f k a0 a1) (bch_divisor.f (k + 1) a0 a1) := by
  intro a0 a1 k
  unfold bch_divisor.f
  repeat' first
      | (with_reducible exact number_Gcd.mono _ _ _)
      | (with_reducible exact LeO.refl _)
      | (with_reducible exact LeO.none _)
      | (with_reducible refine LeO.ite ?_ ?_)
      | (with_reducible refine LeO.bind ?_ (fun _ => ?_))
      | exact number_Gcd.mono _ _ _
      | exact LeO.none _
      | refine LeO.ite ?_ ?_
      | refine LeO.bind ?_ (fun _ => ?_)
set_option maxHeartbeats 8000000 in
set_option maxRecDepth 100000 in
theorem bch_divisor.calls (k : Nat) (a0 : Int) (a1 : Int) (r : Int) (w : World) (h : bch_divisor.f k a0 a1 = some r) :
    Calls Try.prog 28 #[.int .i64 a0, .int .i64 a1] w fun e w' => e = .returned (.int .i64 r) ∧ Below w.heap.size w w' := by
  have HB := Aside0.mk (Below.refl w.heap.size w)
  have H : ((bch_modulo.f a0 a1).bind fun t107 => ((number_Gcd.f k t107 a1).bind fun bt108 => (some bt108.1))) = some r := h
  clear h
  replace H := Option.bind_eq_some_iff.mp H
  obtain ⟨t107, A30, H⟩ := H
  replace H : ((number_Gcd.f k t107 a1).bind fun bt108 => (some bt108.1)) = some r := H
  have A3 := Aside0.mk A30
  clear A30
  replace H := Option.bind_eq_some_iff.mp H
  obtain ⟨⟨t108, t109⟩, A40, H⟩ := H
  replace H : (some t108) = some r := H
  have A4 := Aside0.mk A40
  clear A40
  obtain rfl := Option.some.inj H
  go_enter Try.func28, Try.ntmps28
  go_wp2_with (first | ((with_reducible refine gate_callee (f := 30) rfl ?_); refine goesL_ (some 10) rfl rfl Try.func30 (by kernel_rfl) rfl #[.int .i64 a0, .int .i64 a1] rfl (by (try simp only [List.map_toArray, List.map_cons, List.map_nil]); first | done | rfl | (simp only [List.length_drop, List.length_take]; rfl)) ?_; (with_reducible refine (bch_modulo.calls a0 a1 t107 _ A3.out).mono ?_); rintro e w' ⟨rfl, ⟨nd, rfl⟩⟩; refine ⟨_, rfl, ?_⟩) | ((with_reducible refine gate_callee (f := 59) rfl ?_); refine goesL_ (some 12) rfl rfl Try.func59 (by kernel_rfl) rfl #[.int .i64 t107, .int .i64 a1] rfl (by (try simp only [List.map_toArray, List.map_cons, List.map_nil]); first | done | rfl | (simp only [List.length_drop, List.length_take]; rfl)) ?_; (with_reducible refine (number_Gcd.calls k t107 a1 t108 t109 _ A4.out).mono ?_); rintro e w5 ⟨rfl, hb⟩; refine ⟨_, rfl, ?_⟩; have n0_ := Aside0.mk (below_step (by repeat (first | (with_reducible first | exact HB.out | apply below_alloc | apply pw_below_drewN | apply below_drew1) | exact HB.out)) hb); clear HB; have HB := n0_; clear n0_; (try clear hb); (try clear hb2); (try clear hk); (try clear hi)))
  go_ret
  exact ⟨by first | rfl | (simp [errW_none, errW_some] <;> rfl) | (simp [*, errW_none, errW_some] <;> rfl), by repeat (first | (with_reducible first | exact HB.out | apply below_alloc | apply pw_below_drewN | apply below_drew1) | exact HB.out)⟩

/-! ### bch_members: function 29 -/
def bch_members.l0 : Nat → Int → List Bool → List Int → Int → Int → Option (List Bool)
  | 0, _, _, _, _, _ => none
  | k + 1, x0, x5, x10, x11, x12 => if x12 < x11 then (if 0 ≤ x12 then (if x12 < (x10.length : Int) then ((bch_modulo.f (rd x10 x12) x0).bind fun t114 => (if 0 ≤ t114 then (if t114 < (x5.length : Int) then (bch_members.l0 k x0 (x5.set (t114 : Int).toNat true) x10 x11 (wrap64 (x12 + 1))) else (none)) else (none))) else (none)) else (none)) else (some x5)
def bch_members.f (k : Nat) (a0 : Int) (l1 : List Int) : Option (List Bool) := if 0 ≤ a0 then (if (a0 : Int).toNat ≤ 281474976710656 then (bch_members.l0 k a0 (List.replicate (a0 : Int).toNat false) l1 (l1.length : Int) 0) else (none)) else (none)
theorem bch_members.mono_l : ∀ k, (∀ y0 y1 y2 y3 y4, LeO (bch_members.l0 k y0 y1 y2 y3 y4) (bch_members.l0 (k + 1) y0 y1 y2 y3 y4))
  | 0 => fun _ _ _ _ _ r h => by simp [bch_members.l0] at h
  | k + 1 => by
    have ih0 := bch_members.mono_l k
    · intro y0 y1 y2 y3 y4
      unfold bch_members.l0
      repeat' first
      | (with_reducible exact ih0 _ _ _ _ _)
      | (with_reducible exact LeO.refl _)
      | (with_reducible exact LeO.none _)
      | (with_reducible refine LeO.ite ?_ ?_)
      | (with_reducible refine LeO.bind ?_ (fun _ => ?_))
      | exact ih0 _ _ _ _ _
      | exact LeO.none _
      | refine LeO.ite ?_ ?_
      | refine LeO.bind ?_ (fun _ => ?_)
theorem bch_members.mono : ∀ a0 a1 k, LeO (bch_members.f k a0 a1) (bch_members.f (k + 1) a0 a1) := by
  intro a0 a1 k
  have ih0 := bch_members.mono_l k
  unfold bch_members.f
  repeat' first
      | (with_reducible exact ih0 _ _ _ _ _)
      | (with_reducible exact LeO.refl _)
      | (with_reducible exact LeO.none _)
      | (with_reducible refine LeO.ite ?_ ?_)
      | (with_reducible refine LeO.bind ?_ (fun _ => ?_))
      | exact ih0 _ _ _ _ _
      | exact LeO.none _
      | refine LeO.ite ?_ ?_
      | refine LeO.bind ?_ (fun _ => ?_)
set_option maxHeartbeats 8000000 in
set_option maxRecDepth 100000 in
theorem bch_members.calls (k : Nat) (a0 : Int) (A1 : Option Addr) (c1 : Nat) (l1 : List Int) (r : List Bool) (w : World) (hr1 : Kd.C (Kd.int .i64) w A1 l1.length l1) (hc1 : l1.length ≤ c1) (h : bch_members.f k a0 l1 = some r) :
    Calls Try.prog 29 #[.int .i64 a0, .slice A1 l1.length c1] w fun e w' => ∃ v0_ : Value, e = .returned (v0_) ∧ Kd.R Kd.bool 4 w' w.heap.size (fun _ => True) v0_ r ∧ Below w.heap.size w w' := by
  have HR1 := Aside0.mk hr1
  have HC1 := Aside0.mk hc1
  clear hr1 hc1
  have HB := Aside0.mk (Below.refl w.heap.size w)
  have H : (if 0 ≤ a0 then (if (a0 : Int).toNat ≤ 281474976710656 then (bch_members.l0 k a0 (List.replicate (a0 : Int).toNat false) l1 (l1.length : Int) 0) else (none)) else (none)) = some r := h
  clear h
  by_cases c3 : 0 ≤ a0
  · rw [if_pos c3] at H
    have c3b0 := eq_true c3
    have c3b1 : decide (0 ≤ a0) = true := decide_eq_true c3
    clear c3
    by_cases c4 : (a0 : Int).toNat ≤ 281474976710656
    · rw [if_pos c4] at H
      have c4b0 := eq_true c4
      have c4b1 : decide ((a0 : Int).toNat ≤ 281474976710656) = true := decide_eq_true c4
      clear c4
      obtain ⟨y110, hy110⟩ : ∃ y_ : List Bool, y_ = (List.replicate (a0 : Int).toNat false) := ⟨_, rfl⟩
      replace H : (bch_members.l0 k a0 y110 l1 (l1.length : Int) 0) = some r := by first | (rw [hy110]; with_reducible exact H) | (have H2_ := (Option.bind_some _ _).symm.trans H; rw [hy110]; with_reducible exact H2_) | (have H2_ := (Option.bind_some _ _).symm.trans H; with_reducible exact H2_) | with_reducible exact H | (rw [hy110]; exact H) | exact H
      have Ny110 := Aside0.mk hy110
      clear hy110
      have H' := Aside0.mk H
      clear H
      go_enter Try.func29, Try.ntmps29
      go_wp2_with (first | ((with_reducible refine gate_dst (N := 9) rfl ?_); refine Kd.R_make Kd.bool _ 4 rfl (N := 9) rfl 56 _ _ rfl a0 rfl rfl Try.underlying56 (.bool false) 1 info4 rfl (by decide) (by omega) false (ok := fun _ => True) (okp := fun _ => True) rfl (fun _ hk => hk) trivial (of_decide_eq_true (by first | (with_reducible assumption) | assumption)) (Nat.le_trans (Nat.mul_le_mul_right _ (of_decide_eq_true (by first | (with_reducible assumption) | assumption) : a0.toNat ≤ 281474976710656)) (by omega)) (Below.refl _ _) (Nat.le_refl _) ?_; intro v111 w5 ho6 hb hg_ hnew_; clear hg_ hnew_; (first | rw [← Ny110.out] at ho6 | (simp only [Int.reduceToNat] at ho6; rw [← Ny110.out] at ho6)); have n0_ := Aside0.mk (Kd.R_lower ho6 (below_size (by repeat (first | (with_reducible first | exact HB.out | apply below_alloc | apply pw_below_drewN | apply below_drew1) | exact HB.out)))); have n1_ := Aside0.mk (below_step (by repeat (first | (with_reducible first | exact HB.out | apply below_alloc | apply pw_below_drewN | apply below_drew1) | exact HB.out)) hb); clear HB; have HO112 := n0_; have HB := n1_; clear n0_ n1_; clear hb ho6))
      go_loopg [12] k (fun kq v12 w' => ∃ (x5_1 : List Bool) (x12_1 : Int), v12 = .int .i64 x12_1 ∧ Aside0 (bch_members.l0 kq a0 x5_1 l1 (l1.length : Int) x12_1 = some r) ∧ Aside0 (kq ≤ k) ∧ Aside0 (Kd.R Kd.bool 4 w' w.heap.size (fun _ => True) v111 x5_1) ∧ Aside0 (Below w.heap.size w w'))
      case atStart => exact ⟨(y110), (0), (by first | rfl | (simp; done) | (simp [*]; done)), H', ⟨Nat.le_refl _⟩, ⟨by (with_reducible repeat (first | apply Kd.R_alloc | apply Kd.R_drewN | apply Kd.R_drew)); exact HO112.out⟩, ⟨by repeat (first | (with_reducible first | exact HB.out | apply below_alloc | apply pw_below_drewN | apply below_drew1) | exact HB.out)⟩⟩
      case round =>
        clear H'
        try clear c1
        try clear c2
        try clear p2
        try clear c3
        try clear c3b0
        try clear c3b1
        try clear c4
        try clear c4b0
        try clear c4b1
        obtain ⟨x5_1, x12_1, rfl, HA, HK1, HO_5, HB⟩ := hrel
        cases gk with
        | zero => exact absurd HA.out (by simp [bch_members.l0])
        | succ k1 =>
          have H := HA.out
          clear HA
          simp only [bch_members.l0] at H
          by_cases c7 : x12_1 < (l1.length : Int)
          · rw [if_pos c7] at H
            have c7b0 : decide (x12_1 < (l1.length : Int)) = true := decide_eq_true c7
            clear c7
            by_cases c8 : 0 ≤ x12_1
            · rw [if_pos c8] at H
              have c8b0 : decide (0 ≤ x12_1) = true := decide_eq_true c8
              clear c8
              by_cases c9 : x12_1 < (l1.length : Int)
              · rw [if_pos c9] at H
                have c9b0 : decide (x12_1 < (l1.length : Int)) = true := decide_eq_true c9
                clear c9
                replace H := Option.bind_eq_some_iff.mp H
                obtain ⟨t114, A100, H⟩ := H
                replace H : (if 0 ≤ t114 then (if t114 < (x5_1.length : Int) then (bch_members.l0 k1 a0 (x5_1.set (t114 : Int).toNat true) l1 (l1.length : Int) (wrap64 (x12_1 + 1))) else (none)) else (none)) = some r := H
                have A10 := Aside0.mk A100
                clear A100
                by_cases c11 : 0 ≤ t114
                · rw [if_pos c11] at H
                  have c11b0 : decide (0 ≤ t114) = true := decide_eq_true c11
                  clear c11
                  by_cases c12 : t114 < (x5_1.length : Int)
                  · rw [if_pos c12] at H
                    have c12b0 : decide (t114 < (x5_1.length : Int)) = true := decide_eq_true c12
                    clear c12
                    obtain ⟨y115, hy115⟩ : ∃ y_ : List Bool, y_ = (x5_1.set (t114 : Int).toNat true) := ⟨_, rfl⟩
                    replace H : (bch_members.l0 k1 a0 y115 l1 (l1.length : Int) (wrap64 (x12_1 + 1))) = some r := by first | (rw [hy115]; with_reducible exact H) | (have H2_ := (Option.bind_some _ _).symm.trans H; rw [hy115]; with_reducible exact H2_) | (have H2_ := (Option.bind_some _ _).symm.trans H; with_reducible exact H2_) | with_reducible exact H | (rw [hy115]; exact H) | exact H
                    have Ny115 := Aside0.mk hy115
                    clear hy115
                    have H' := Aside0.mk H
                    clear H
                    have p113 : 0 ≤ (x12_1 : Int) := of_decide_eq_true (by first | (with_reducible assumption) | assumption)
                    have q113 : x12_1 < (l1.length : Int) := of_decide_eq_true (by first | (with_reducible assumption) | assumption)
                    obtain ⟨ad113, e113, hx113_0⟩ := Kd.at_int HR1.out x12_1 p113 q113
                    cases e113
                    replace hx113_0 := (HB.out.cell (World.block_lt_of_cell? w _ hx113_0)).trans hx113_0
                    replace p113 := eq_true p113
                    replace q113 := eq_true q113
                    go_wp2_with (first | ((with_reducible refine gate_callee (f := 30) rfl ?_); refine goesL_ (some 19) rfl rfl Try.func30 (by kernel_rfl) rfl #[.int .i64 (rd l1 x12_1), .int .i64 a0] rfl (by (try simp only [List.map_toArray, List.map_cons, List.map_nil]); first | done | rfl | (simp only [List.length_drop, List.length_take]; rfl)) ?_; (with_reducible refine (bch_modulo.calls (rd l1 x12_1) a0 t114 _ A10.out).mono ?_); rintro e w' ⟨rfl, ⟨nd, rfl⟩⟩; refine ⟨_, rfl, ?_⟩; (try (rw [drewN_self wr]; generalize hq_ : World.drewN wr _ = wr; have n0_ : Aside0 (Kd.R Kd.bool 4 wr w.heap.size (fun _ => True) v111 x5_1) := ⟨by rw [← hq_]; exact (by (with_reducible repeat (first | apply Kd.R_alloc | apply Kd.R_drewN | apply Kd.R_drew)); exact HO_5.out)⟩; have n1_ : Aside0 (Below w.heap.size w wr) := ⟨by rw [← hq_]; exact (by repeat (first | (with_reducible first | exact HB.out | apply below_alloc | apply pw_below_drewN | apply below_drew1) | exact HB.out))⟩; clear HO_5 HB hq_; have HO_5 := n0_; have HB := n1_; clear n0_ n1_)); have p13 : 0 ≤ (t114 : Int) := of_decide_eq_true (by first | (with_reducible assumption) | assumption); have q13 : (t114 : Int) < ((x5_1.length : Int) : Int) := of_decide_eq_true (by first | (with_reducible assumption) | assumption); obtain ⟨go13, co13, eo13, gb13, gl13, cl13, HG13⟩ := Kd.R_form HO_5.out (by omega); (first | cases eo13 | (injection eo13 with ea_ en_ ec_; (first | subst ea_ | (injection ea_ with ea_; subst ea_)); subst ec_; clear en_)); have GB13 := Aside0.mk gb13; have GG13 := Aside0.mk HG13; clear gb13 gl13 HG13; obtain ⟨hx13_0, hf13_0⟩ := Kd.R_celln false HO_5.out (t114 : Int) p13 q13; replace p13 := eq_true p13; replace q13 := eq_true q13; obtain ⟨hy14_, hz14_⟩ := Kd.R_celln false HO_5.out (t114 : Int) (of_decide_eq_true (by first | (with_reducible assumption) | assumption)) (of_decide_eq_true (by first | (with_reducible assumption) | assumption)); have HP14 := Kd.R_putg HO_5.out (t114 : Int) true) | ((with_reducible refine gate_store (t := 4) (p := 20) rfl ?_); refine store_event (t := 4) (p := 20) (v := ?vo_w15) (w1 := (wr.setCell ⟨go13, (t114 : Int).toNat, none⟩ (.bool true))) ?hg ?ho ?hn ?hr ?_; (case ho => rfl); (case hg => rfl); (case hn => rfl); (case hr => first | (go_simp; done) | (go_simp; rfl)); intro w15 hw; have hg : wr.grownBy w15 (some go13) := (by rw [hw]; exact HP14.2); have hp_ : Kd.R Kd.bool 4 w15 w.heap.size (fun _ => True) (.slice (some ⟨go13, 0, none⟩) x5_1.length co13) y115 := (by rw [hw, Ny115.out]; exact HP14.1); clear HP14; have n0_ := Aside0.mk (hp_); have n1_ := Aside0.mk ((by rw [hw]; exact below_set (HB.out) GB13.out : Below w.heap.size w w15)); clear HO_5; clear HB; have HO_5 := n0_; have HB := n1_; clear n0_ n1_; clear hg hw hp_))
                    go_roundg k1
                    case measure => have := HK1.out; omega
                    case rel => exact ⟨(y115), (wrap64 (x12_1 + 1)), (by first | rfl | (simp; done) | (simp [*]; done)), H', ⟨by have := HK1.out; omega⟩, ⟨by (with_reducible repeat (first | apply Kd.R_alloc | apply Kd.R_drewN | apply Kd.R_drew)); exact HO_5.out⟩, ⟨by repeat (first | (with_reducible first | exact HB.out | apply below_alloc | apply pw_below_drewN | apply below_drew1) | exact HB.out)⟩⟩
                  · rw [if_neg c12] at H
                    exact absurd H (by simp)
                · rw [if_neg c11] at H
                  exact absurd H (by simp)
              · rw [if_neg c9] at H
                exact absurd H (by simp)
            · rw [if_neg c8] at H
              exact absurd H (by simp)
          · rw [if_neg c7] at H
            have c7b0 : decide (x12_1 < (l1.length : Int)) = false := decide_eq_false c7
            clear c7
            obtain rfl := Option.some.inj H
            go_wp2
            go_ret
            exact ⟨_, by first | rfl | (simp [errW_none, errW_some] <;> rfl) | (simp [*, errW_none, errW_some] <;> rfl), by (with_reducible repeat (first | apply Kd.R_alloc | apply Kd.R_drewN | apply Kd.R_drew)); exact HO_5.out, by repeat (first | (with_reducible first | exact HB.out | apply below_alloc | apply pw_below_drewN | apply below_drew1) | exact HB.out)⟩
    · rw [if_neg c4] at H
      exact absurd H (by simp)
  · rw [if_neg c3] at H
    exact absurd H (by simp)

end Go.Proofs.Ytibbdjkboglepaa.PBchChecks

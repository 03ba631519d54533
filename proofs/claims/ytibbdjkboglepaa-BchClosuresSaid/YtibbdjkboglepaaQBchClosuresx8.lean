-- My own print: a program's text for this claim
import Derived.Test.YtibbdjkboglepaaSortW
import Derived.Test.YtibbdjkboglepaaQBchClosuresx0
namespace Go.Proofs.Ytibbdjkboglepaa.QBchClosures
open Go.RowKit Go.Proofs.YtibbdjkboglepaaW.PrintWords Go.Proofs.YtibbdjkboglepaaW.PrintLast Go.Proofs.YtibbdjkboglepaaW.PrintMore
attribute [local go_sem] max2_int min2_int max_two min_two max_three min_three max_four min_four   -- for this text's walks alone
set_option linter.unusedVariables false
set_option linter.unusedSimpArgs false

-- NOT PRINTED: function 106 (slices_partitionOrdered_int)

-- NOT PRINTED: function 72 (slices_pdqsortOrdered_int)

/-! ### slices_Sort_int_int: function 46 (by the shelf's contract) -/
def slices_Sort_int_int.f (k : Nat) (l0 : List Int) : Option (List Int) := if l0.length < 4611686018427387904 then some (My.sorted l0) else none
theorem slices_Sort_int_int.mono : ∀ a0 k, LeO (slices_Sort_int_int.f k a0) (slices_Sort_int_int.f (k + 1) a0) := fun _ _ => LeO.refl _
theorem slices_Sort_int_int.calls (k : Nat) (P0_ : Nat → Prop) (u9000_ : Value) (l0 : List Int) (r : List Int) (w0 w : World) (hB : Below w0.heap.size w0 w) (ho0 : Kd.R (Kd.int .i64) 3 w w0.heap.size P0_ u9000_ l0) (h : slices_Sort_int_int.f k l0 = some r) :
    Calls Try.prog 46 #[u9000_] w fun e w' => e = .returned (.tuple #[]) ∧ Kd.R (Kd.int .i64) 3 w' w0.heap.size (fun k_ => (P0_ k_ ∨ w.heap.size ≤ k_)) u9000_ r ∧ Below w0.heap.size w0 w' ∧ Kept w w' (fun k_ => P0_ k_) := by
  unfold slices_Sort_int_int.f at h
  by_cases hl : l0.length < 4611686018427387904
  · rw [if_pos hl] at h
    injection h with h
    subst h
    by_cases hp : 0 < l0.length
    · obtain ⟨g, cap, rfl, hb, _, _⟩ := Kd.R_form ho0 hp
      have hP : P0_ g := ho0.1 g rfl
      refine (My.sort_calls ho0 hl).mono ?_
      rintro e w' ⟨rfl, hr, hg⟩
      exact ⟨rfl, Kd.R_mono hr (fun k_ hk => .inl hk), hB.grown hg hB.size (fun k e => by cases e; exact hb), hg.size, fun i hi hS => hg.block i hi (fun e => hS (by cases e; exact hP))⟩
    · obtain rfl : l0 = [] := List.eq_nil_of_length_eq_zero (by omega)
      obtain ⟨A, c, rfl⟩ := Kd.R_slice ho0
      refine (Try.slices_Sort_int_none A c w).mono ?_
      rintro e w' ⟨rfl, rfl⟩
      exact ⟨rfl, by have e : My.sorted [] = [] := List.eq_nil_of_length_eq_zero (My.sorted_length []); rw [e]; exact Kd.R_mono ho0 (fun k_ hk => .inl hk), hB, Kept.refl _ _⟩
  · rw [if_neg hl] at h
    exact absurd h (by simp)

/-! ### number_in: function 121 -/
def number_in.f (a0 : Int) (a1 : Int) : Option (Bool) := if a0 ≥ a1 then (some (decide (a0 ≤ 2147483647))) else (some false)
set_option maxHeartbeats 8000000 in
set_option maxRecDepth 100000 in
theorem number_in.calls (a0 : Int) (a1 : Int) (r : Bool) (w : World) (h : number_in.f a0 a1 = some r) :
    Calls Try.prog 121 #[.int .i64 a0, .int .i64 a1] w fun e w' => e = .returned (.bool r) ∧ Drawn0 w w' := by
  have H : (if a0 ≥ a1 then (some (decide (a0 ≤ 2147483647))) else (some false)) = some r := h
  clear h
  by_cases c3 : a0 ≥ a1
  · rw [if_pos c3] at H
    have c3b0 : decide (a1 ≤ a0) = true := decide_eq_true c3
    clear c3
    obtain rfl := Option.some.inj H
    go_enter Try.func121, Try.ntmps121
    go_wp2
    go_ret
    exact ⟨by first | rfl | (simp; done) | (simp [*]; done), by repeat (first | exact Drawn0.refl _ | apply Drawn0.step)⟩
  · rw [if_neg c3] at H
    have c3b0 : decide (a1 ≤ a0) = false := decide_eq_false c3
    clear c3
    obtain rfl := Option.some.inj H
    go_enter Try.func121, Try.ntmps121
    go_wp2
    go_ret
    exact ⟨by first | rfl | (simp; done) | (simp [*]; done), by repeat (first | exact Drawn0.refl _ | apply Drawn0.step)⟩

/-! ### number_both: function 87 -/
def number_both.f (a0 : Int) (a1 : Int) : Option (Bool) := (number_in.f a0 (-2147483647)).bind fun t229 => (if t229 = true then ((number_in.f a1 (-2147483647)).bind fun t230 => (some t230)) else (some false))
set_option maxHeartbeats 8000000 in
set_option maxRecDepth 100000 in
theorem number_both.calls (a0 : Int) (a1 : Int) (r : Bool) (w : World) (h : number_both.f a0 a1 = some r) :
    Calls Try.prog 87 #[.int .i64 a0, .int .i64 a1] w fun e w' => e = .returned (.bool r) ∧ Drawn0 w w' := by
  have H : ((number_in.f a0 (-2147483647)).bind fun t229 => (if t229 = true then ((number_in.f a1 (-2147483647)).bind fun t230 => (some t230)) else (some false))) = some r := h
  clear h
  replace H := Option.bind_eq_some_iff.mp H
  obtain ⟨t229, A30, H⟩ := H
  replace H : (if t229 = true then ((number_in.f a1 (-2147483647)).bind fun t230 => (some t230)) else (some false)) = some r := H
  have A3 := Aside0.mk A30
  clear A30
  by_cases c4 : t229 = true
  · subst c4
    have H1 : ((number_in.f a1 (-2147483647)).bind fun t230 => (some t230)) = some r := by rw [if_pos rfl] at H; exact H
    clear H
    have H := H1
    clear H1
    replace H := Option.bind_eq_some_iff.mp H
    obtain ⟨t230, A50, H⟩ := H
    replace H : (some t230) = some r := H
    have A5 := Aside0.mk A50
    clear A50
    obtain rfl := Option.some.inj H
    go_enter Try.func87, Try.ntmps87
    go_wp2_with (first | ((with_reducible refine gate_callee (f := 121) rfl ?_); refine goesL_ (some 6) rfl rfl Try.func121 (by kernel_rfl) rfl #[.int .i64 a0, .int .i64 (-2147483647)] rfl (by (try simp only [List.map_toArray, List.map_cons, List.map_nil]); first | done | rfl | (simp only [List.length_drop, List.length_take]; rfl)) ?_; (with_reducible refine (number_in.calls a0 (-2147483647) true _ A3.out).mono ?_); rintro e w' ⟨rfl, ⟨nd, rfl⟩⟩; refine ⟨_, rfl, ?_⟩) | (go_at_call 121; (with_reducible refine (number_in.calls a1 (-2147483647) t230 _ A5.out).mono ?_); rintro e w' ⟨rfl, ⟨nd, rfl⟩⟩))
    go_ret
    exact ⟨by first | rfl | (simp; done) | (simp [*]; done), by repeat (first | exact Drawn0.refl _ | apply Drawn0.step)⟩
  · replace c4 := Bool.eq_false_iff.mpr c4
    subst c4
    have H1 : (some false) = some r := by rw [if_neg (show ¬ (false = true) by decide)] at H; exact H
    clear H
    have H := H1
    clear H1
    obtain rfl := Option.some.inj H
    go_enter Try.func87, Try.ntmps87
    go_wp2_with (first | ((with_reducible refine gate_callee (f := 121) rfl ?_); refine goesL_ (some 6) rfl rfl Try.func121 (by kernel_rfl) rfl #[.int .i64 a0, .int .i64 (-2147483647)] rfl (by (try simp only [List.map_toArray, List.map_cons, List.map_nil]); first | done | rfl | (simp only [List.length_drop, List.length_take]; rfl)) ?_; (with_reducible refine (number_in.calls a0 (-2147483647) false _ A3.out).mono ?_); rintro e w' ⟨rfl, ⟨nd, rfl⟩⟩; refine ⟨_, rfl, ?_⟩))
    go_ret
    exact ⟨by first | rfl | (simp; done) | (simp [*]; done), by repeat (first | exact Drawn0.refl _ | apply Drawn0.step)⟩

/-! ### number_gcd: function 88 -/
def number_gcd.l0 : Nat → Int → Int → Option (Int)
  | 0, _, _ => none
  | k + 1, x0, x1 => if x1 = 0 then (some x0) else (number_gcd.l0 k x1 (Int.tmod x0 x1))
def number_gcd.f (k : Nat) (a0 : Int) (a1 : Int) : Option (Int) := number_gcd.l0 k a0 a1
theorem number_gcd.mono_l : ∀ k, (∀ y0 y1, LeO (number_gcd.l0 k y0 y1) (number_gcd.l0 (k + 1) y0 y1))
  | 0 => fun _ _ r h => by simp [number_gcd.l0] at h
  | k + 1 => by
    have ih0 := number_gcd.mono_l k
    · intro y0 y1
      unfold number_gcd.l0
      repeat' first
      | (with_reducible exact ih0 _ _)
      | (with_reducible exact LeO.refl _)
      | (with_reducible exact LeO.none _)
      | (with_reducible refine LeO.ite ?_ ?_)
      | (with_reducible refine LeO.bind ?_ (fun _ => ?_))
      | exact ih0 _ _
      | exact LeO.none _
      | refine LeO.ite ?_ ?_
      | refine LeO.bind ?_ (fun _ => ?_)
theorem number_gcd.mono : ∀ a0 a1 k, LeO (number_gcd.f k a0 a1) (number_gcd.f (k + 1) a0 a1) := by
  intro a0 a1 k
  have ih0 := number_gcd.mono_l k
  unfold number_gcd.f
  repeat' first
      | (with_reducible exact ih0 _ _)
      | (with_reducible exact LeO.refl _)
      | (with_reducible exact LeO.none _)
      | (with_reducible refine LeO.ite ?_ ?_)
      | (with_reducible refine LeO.bind ?_ (fun _ => ?_))
      | exact ih0 _ _
      | exact LeO.none _
      | refine LeO.ite ?_ ?_
      | refine LeO.bind ?_ (fun _ => ?_)
set_option maxHeartbeats 8000000 in
set_option maxRecDepth 100000 in
theorem number_gcd.calls (k : Nat) (a0 : Int) (a1 : Int) (r : Int) (w : World) (h : number_gcd.f k a0 a1 = some r) :
    Calls Try.prog 88 #[.int .i64 a0, .int .i64 a1] w fun e w' => e = .returned (.int .i64 r) ∧ Drawn0 w w' := by
  have H : (number_gcd.l0 k a0 a1) = some r := h
  clear h
  have H' := Aside0.mk H
  clear H
  go_enter Try.func88, Try.ntmps88
  go_wp2
  repeat (go_quiet (fail); try go_wp2)
  go_loopg [0, 1] k (fun kq v0 v1 w' => ∃ (x0_1 : Int) (x1_1 : Int), v0 = .int .i64 x0_1 ∧ v1 = .int .i64 x1_1 ∧ Aside0 (number_gcd.l0 kq x0_1 x1_1 = some r) ∧ Aside0 (kq ≤ k) ∧ Drawn0 w w')
  case atStart => exact ⟨(a0), (a1), (by first | rfl | (simp; done) | (simp [*]; done)), (by first | rfl | (simp; done) | (simp [*]; done)), H', ⟨Nat.le_refl _⟩, by repeat (first | exact Drawn0.refl _ | apply Drawn0.step)⟩
  case round =>
    clear H'
    try clear p2
    obtain ⟨x0_1, x1_1, rfl, rfl, HA, HK1, ⟨m1, rfl⟩⟩ := hrel
    cases gk with
    | zero => exact absurd HA.out (by simp [number_gcd.l0])
    | succ k1 =>
      have H := HA.out
      clear HA
      simp only [number_gcd.l0] at H
      by_cases c3 : x1_1 = 0
      · rw [if_pos c3] at H
        have c3b0 : (x1_1 == 0) = true := beq_iff_eq.mpr c3
        have c3b1 : (x1_1 != 0) = false := bne_eq_false_iff_eq.mpr c3
        clear c3
        obtain rfl := Option.some.inj H
        go_wp2
        repeat (go_quiet (fail); try go_wp2)
        go_ret
        exact ⟨by first | rfl | (simp; done) | (simp [*]; done), by repeat (first | exact Drawn0.refl _ | apply Drawn0.step)⟩
      · rw [if_neg c3] at H
        have c3b0 : (x1_1 == 0) = false := beq_eq_false_iff_ne.mpr c3
        have c3b1 : (x1_1 != 0) = true := bne_iff_ne.mpr c3
        have H' := Aside0.mk H
        clear H
        go_wp2
        repeat (go_quiet (fail); try go_wp2)
        go_roundg k1
        case measure => have := HK1.out; omega
        case rel => exact ⟨(x1_1), (Int.tmod x0_1 x1_1), (by first | rfl | (simp; done) | (simp [*]; done)), (by first | rfl | (simp; done) | (simp [*]; done)), H', ⟨by have := HK1.out; omega⟩, by repeat (first | exact Drawn0.refl _ | apply Drawn0.step)⟩

/-! ### number_abs: function 89 -/
def number_abs.f (a0 : Int) : Option (Int) := some (mx a0 (wrap64 (-a0)))
set_option maxHeartbeats 8000000 in
set_option maxRecDepth 100000 in
theorem number_abs.calls (a0 : Int) (r : Int) (w : World) (h : number_abs.f a0 = some r) :
    Calls Try.prog 89 #[.int .i64 a0] w fun e w' => e = .returned (.int .i64 r) ∧ Below w.heap.size w w' := by
  have HB := Aside0.mk (Below.refl w.heap.size w)
  have H : (some (mx a0 (wrap64 (-a0)))) = some r := h
  clear h
  obtain ⟨ji2, hji2⟩ : ∃ j_ : Int, (mx a0 (wrap64 (-a0))) = j_ := ⟨_, rfl⟩
  replace H : (some ji2) = some r := by first | (rw [hji2] at H; exact H) | (simp only [hji2] at H ⊢; exact H)
  have hji2_ : (if a0 < (wrap64 (-a0)) then (wrap64 (-a0)) else a0) = ji2 := hji2
  obtain rfl := Option.some.inj H
  go_enter Try.func89, Try.ntmps89
  go_wp2
  go_ret
  exact ⟨by first | rfl | (simp [errW_none, errW_some] <;> rfl) | (simp only [← hji2]; first | rfl | (simp [errW_none, errW_some] <;> rfl)) | (simp [*, errW_none, errW_some] <;> rfl), by repeat (first | (with_reducible first | exact HB.out | apply below_alloc | apply pw_below_drewN | apply below_drew1) | exact HB.out)⟩

/-! ### number_Gcd: function 59 -/
def number_Gcd.f (k : Nat) (a0 : Int) (a1 : Int) : Option (Int × Int) := (number_both.f a0 a1).bind fun t231 => (if t231 = true then ((number_abs.f a0).bind fun t232 => ((number_abs.f a1).bind fun t233 => ((number_gcd.f k t232 t233).bind fun t234 => (some (t234, 0))))) else (some (0, 6)))
theorem number_Gcd.mono : ∀ a0 a1 k, LeO (number_Gcd.f k a0 a1) (number_Gcd.f (k + 1) a0 a1) := by
  intro a0 a1 k
  unfold number_Gcd.f
  repeat' first
      | (with_reducible exact number_gcd.mono _ _ _)
      | (with_reducible exact LeO.refl _)
      | (with_reducible exact LeO.none _)
      | (with_reducible refine LeO.ite ?_ ?_)
      | (with_reducible refine LeO.bind ?_ (fun _ => ?_))
      | exact number_gcd.mono _ _ _
      | exact LeO.none _
      | refine LeO.ite ?_ ?_
      | refine LeO.bind ?_ (fun _ => ?_)
set_option maxHeartbeats 8000000 in
set_option maxRecDepth 100000 in
theorem number_Gcd.calls (k : Nat) (a0 : Int) (a1 : Int) (r1 : Int) (r2 : Int) (w : World) (h : number_Gcd.f k a0 a1 = some (r1, r2)) :
    Calls Try.prog 59 #[.int .i64 a0, .int .i64 a1] w fun e w' => e = .returned (.tuple #[.int .i64 r1, .int .i64 r2]) ∧ Below w.heap.size w w' := by
  have HB := Aside0.mk (Below.refl w.heap.size w)
  have H : ((number_both.f a0 a1).bind fun t231 => (if t231 = true then ((number_abs.f a0).bind fun t232 => ((number_abs.f a1).bind fun t233 => ((number_gcd.f k t232 t233).bind fun t234 => (some (t234, 0))))) else (some (0, 6)))) = some (r1, r2) := h
  clear h
  replace H := Option.bind_eq_some_iff.mp H
  obtain ⟨t231, A30, H⟩ := H
  replace H : (if t231 = true then ((number_abs.f a0).bind fun t232 => ((number_abs.f a1).bind fun t233 => ((number_gcd.f k t232 t233).bind fun t234 => (some (t234, 0))))) else (some (0, 6))) = some (r1, r2) := H
  have A3 := Aside0.mk A30
  clear A30
  by_cases c4 : t231 = true
  · subst c4
    have H1 : ((number_abs.f a0).bind fun t232 => ((number_abs.f a1).bind fun t233 => ((number_gcd.f k t232 t233).bind fun t234 => (some (t234, 0))))) = some (r1, r2) := by rw [if_pos rfl] at H; exact H
    clear H
    have H := H1
    clear H1
    replace H := Option.bind_eq_some_iff.mp H
    obtain ⟨t232, A50, H⟩ := H
    replace H : ((number_abs.f a1).bind fun t233 => ((number_gcd.f k t232 t233).bind fun t234 => (some (t234, 0)))) = some (r1, r2) := H
    have A5 := Aside0.mk A50
    clear A50
    replace H := Option.bind_eq_some_iff.mp H
    obtain ⟨t233, A60, H⟩ := H
    replace H : ((number_gcd.f k t232 t233).bind fun t234 => (some (t234, 0))) = some (r1, r2) := H
    have A6 := Aside0.mk A60
    clear A60
    replace H := Option.bind_eq_some_iff.mp H
    obtain ⟨t234, A70, H⟩ := H
    replace H : (some (t234, 0)) = some (r1, r2) := H
    have A7 := Aside0.mk A70
    clear A70
    simp only [Option.some.injEq, Prod.mk.injEq] at H
    obtain ⟨rfl, rfl⟩ := H
    go_enter Try.func59, Try.ntmps59
    go_wp2_with (first | ((with_reducible refine gate_callee (f := 87) rfl ?_); refine goesL_ (some 8) rfl rfl Try.func87 (by kernel_rfl) rfl #[.int .i64 a0, .int .i64 a1] rfl (by (try simp only [List.map_toArray, List.map_cons, List.map_nil]); first | done | rfl | (simp only [List.length_drop, List.length_take]; rfl)) ?_; (with_reducible refine (number_both.calls a0 a1 true _ A3.out).mono ?_); rintro e w' ⟨rfl, ⟨nd, rfl⟩⟩; refine ⟨_, rfl, ?_⟩) | ((with_reducible refine gate_callee (f := 89) rfl ?_); refine goesL_ (some 11) rfl rfl Try.func89 (by kernel_rfl) rfl #[.int .i64 a0] rfl (by (try simp only [List.map_toArray, List.map_cons, List.map_nil]); first | done | rfl | (simp only [List.length_drop, List.length_take]; rfl)) ?_; (with_reducible refine (number_abs.calls a0 t232 _ A5.out).mono ?_); rintro e w8 ⟨rfl, hb⟩; refine ⟨_, rfl, ?_⟩; have n0_ := Aside0.mk (below_step (by repeat (first | (with_reducible first | exact HB.out | apply below_alloc | apply pw_below_drewN | apply below_drew1) | exact HB.out)) hb); clear HB; have HB := n0_; clear n0_; (try clear hb); (try clear hb2); (try clear hk); (try clear hi)) | ((with_reducible refine gate_callee (f := 89) rfl ?_); refine goesL_ (some 13) rfl rfl Try.func89 (by kernel_rfl) rfl #[.int .i64 a1] rfl (by (try simp only [List.map_toArray, List.map_cons, List.map_nil]); first | done | rfl | (simp only [List.length_drop, List.length_take]; rfl)) ?_; (with_reducible refine (number_abs.calls a1 t233 _ A6.out).mono ?_); rintro e w9 ⟨rfl, hb⟩; refine ⟨_, rfl, ?_⟩; have n0_ := Aside0.mk (below_step (by repeat (first | (with_reducible first | exact HB.out | apply below_alloc | apply pw_below_drewN | apply below_drew1) | exact HB.out)) hb); clear HB; have HB := n0_; clear n0_; (try clear hb); (try clear hb2); (try clear hk); (try clear hi)) | ((with_reducible refine gate_callee (f := 88) rfl ?_); refine goesL_ (some 14) rfl rfl Try.func88 (by kernel_rfl) rfl #[.int .i64 t232, .int .i64 t233] rfl (by (try simp only [List.map_toArray, List.map_cons, List.map_nil]); first | done | rfl | (simp only [List.length_drop, List.length_take]; rfl)) ?_; (with_reducible refine (number_gcd.calls k t232 t233 t234 _ A7.out).mono ?_); rintro e w' ⟨rfl, ⟨nd, rfl⟩⟩; refine ⟨_, rfl, ?_⟩))
    go_ret2
    exact ⟨by first | rfl | (simp [errW_none, errW_some] <;> rfl) | (simp [*, errW_none, errW_some] <;> rfl), by repeat (first | (with_reducible first | exact HB.out | apply below_alloc | apply pw_below_drewN | apply below_drew1) | exact HB.out)⟩
  · replace c4 := Bool.eq_false_iff.mpr c4
    subst c4
    have H1 : (some (0, 6)) = some (r1, r2) := by rw [if_neg (show ¬ (false = true) by decide)] at H; exact H
    clear H
    have H := H1
    clear H1
    simp only [Option.some.injEq, Prod.mk.injEq] at H
    obtain ⟨rfl, rfl⟩ := H
    go_enter Try.func59, Try.ntmps59
    go_wp2_with (first | ((with_reducible refine gate_callee (f := 87) rfl ?_); refine goesL_ (some 8) rfl rfl Try.func87 (by kernel_rfl) rfl #[.int .i64 a0, .int .i64 a1] rfl (by (try simp only [List.map_toArray, List.map_cons, List.map_nil]); first | done | rfl | (simp only [List.length_drop, List.length_take]; rfl)) ?_; (with_reducible refine (number_both.calls a0 a1 false _ A3.out).mono ?_); rintro e w' ⟨rfl, ⟨nd, rfl⟩⟩; refine ⟨_, rfl, ?_⟩))
    go_ret2
    exact ⟨by first | rfl | (simp [errW_none, errW_some] <;> rfl) | (simp [*, errW_none, errW_some] <;> rfl), by repeat (first | (with_reducible first | exact HB.out | apply below_alloc | apply pw_below_drewN | apply below_drew1) | exact HB.out)⟩

/-! ### cyclic_Cosets: function 43 -/
mutual
def cyclic_Cosets.j0 : Nat → Int → Int → Bool → Option ((List (List Int)) × Int)
  | 0, _, _, _ => none
  | k + 1, x0, x1, x26 => if x26 = true then (some (([] : List (List Int)), 6)) else ((number_Gcd.f k x0 x1).bind fun bt235 => (if bt235.1 = 1 then (if 0 ≤ x1 then (if (x1 : Int).toNat ≤ 281474976710656 then (cyclic_Cosets.l0 k x0 x1 ([] : List (List Int)) (List.replicate (x1 : Int).toNat false) x1 0) else (none)) else (none)) else (some (([] : List (List Int)), 10))))
def cyclic_Cosets.l0 : Nat → Int → Int → List (List Int) → List Bool → Int → Int → Option ((List (List Int)) × Int)
  | 0, _, _, _, _, _, _ => none
  | k + 1, x0, x1, x8, x9, x37, x38 => if x38 < x37 then (if 0 ≤ x38 then (if x38 < (x9.length : Int) then (if rdOf false x9 x38 = true then (cyclic_Cosets.l0 k x0 x1 x8 x9 x37 (wrap64 (x38 + 1))) else (cyclic_Cosets.l1 k x0 x1 x8 x9 ([] : List Int) x38 x37 x38)) else (none)) else (none)) else (some (x8, 0))
def cyclic_Cosets.l1 : Nat → Int → Int → List (List Int) → List Bool → List Int → Int → Int → Int → Option ((List (List Int)) × Int)
  | 0, _, _, _, _, _, _, _, _ => none
  | k + 1, x0, x1, x8, x9, x11, x12, x37, x38 => if 0 ≤ x12 then (if x12 < (x9.length : Int) then (if rdOf false x9 x12 = true then ((slices_Sort_int_int.f k x11).bind fun t242 => (if x8.length < 5864062014805 then (cyclic_Cosets.l0 k x0 x1 (x8 ++ [t242]) x9 x37 (wrap64 (x38 + 1))) else (none))) else (if x11.length < 17592186044416 then (if x1 = 0 then (none) else (cyclic_Cosets.l1 k x0 x1 x8 (x9.set (x12 : Int).toNat true) (x11 ++ [x12]) (Int.tmod (wrap64 (x12 * x0)) x1) x37 x38)) else (none))) else (none)) else (none)
end
def cyclic_Cosets.f (k : Nat) (a0 : Int) (a1 : Int) : Option ((List (List Int)) × Int) := if a0 < 2 then (cyclic_Cosets.j0 k a0 a1 true) else (if a0 > 256 then (cyclic_Cosets.j0 k a0 a1 true) else (if a1 < 1 then (cyclic_Cosets.j0 k a0 a1 true) else (cyclic_Cosets.j0 k a0 a1 (decide (a1 > 65536)))))
theorem cyclic_Cosets.mono_l : ∀ k, (∀ y0 y1 y2, LeO (cyclic_Cosets.j0 k y0 y1 y2) (cyclic_Cosets.j0 (k + 1) y0 y1 y2)) ∧ (∀ y0 y1 y2 y3 y4 y5, LeO (cyclic_Cosets.l0 k y0 y1 y2 y3 y4 y5) (cyclic_Cosets.l0 (k + 1) y0 y1 y2 y3 y4 y5)) ∧ (∀ y0 y1 y2 y3 y4 y5 y6 y7, LeO (cyclic_Cosets.l1 k y0 y1 y2 y3 y4 y5 y6 y7) (cyclic_Cosets.l1 (k + 1) y0 y1 y2 y3 y4 y5 y6 y7))
  | 0 => ⟨fun _ _ _ r h => by simp [cyclic_Cosets.j0] at h, fun _ _ _ _ _ _ r h => by simp [cyclic_Cosets.l0] at h, fun _ _ _ _ _ _ _ _ r h => by simp [cyclic_Cosets.l1] at h⟩
  | k + 1 => by
    obtain ⟨ih0, ih1, ih2⟩ := cyclic_Cosets.mono_l k
    refine ⟨?_, ?_, ?_⟩
    · intro y0 y1 y2
      unfold cyclic_Cosets.j0
      repeat' first
      | (with_reducible exact ih0 _ _ _)
      | (with_reducible exact ih1 _ _ _ _ _ _)
      | (with_reducible exact ih2 _ _ _ _ _ _ _ _)
      | (with_reducible exact number_Gcd.mono _ _ _)
      | (with_reducible exact slices_Sort_int_int.mono _ _)
      | (with_reducible exact LeO.refl _)
      | (with_reducible exact LeO.none _)
      | (with_reducible refine LeO.ite ?_ ?_)
      | (with_reducible refine LeO.bind ?_ (fun _ => ?_))
      | exact ih0 _ _ _
      | exact ih1 _ _ _ _ _ _
      | exact ih2 _ _ _ _ _ _ _ _
      | exact number_Gcd.mono _ _ _
      | exact slices_Sort_int_int.mono _ _
      | exact LeO.none _
      | refine LeO.ite ?_ ?_
      | refine LeO.bind ?_ (fun _ => ?_)
    · intro y0 y1 y2 y3 y4 y5
      unfold cyclic_Cosets.l0
      repeat' first
      | (with_reducible exact ih0 _ _ _)
      | (with_reducible exact ih1 _ _ _ _ _ _)
      | (with_reducible exact ih2 _ _ _ _ _ _ _ _)
      | (with_reducible exact number_Gcd.mono _ _ _)
      | (with_reducible exact slices_Sort_int_int.mono _ _)
      | (with_reducible exact LeO.refl _)
      | (with_reducible exact LeO.none _)
      | (with_reducible refine LeO.ite ?_ ?_)
      | (with_reducible refine LeO.bind ?_ (fun _ => ?_))
      | exact ih0 _ _ _
      | exact ih1 _ _ _ _ _ _
      | exact ih2 _ _ _ _ _ _ _ _
      | exact number_Gcd.mono _ _ _
      | exact slices_Sort_int_int.mono _ _
      | exact LeO.none _
      | refine LeO.ite ?_ ?_
      | refine LeO.bind ?_ (fun _ => ?_)
    · intro y0 y1 y2 y3 y4 y5 y6 y7
      unfold cyclic_Cosets.l1
      repeat' first
      | (with_reducible exact ih0 _ _ _)
      | (with_reducible exact ih1 _ _ _ _ _ _)
      | (with_reducible exact ih2 _ _ _ _ _ _ _ _)
      | (with_reducible exact number_Gcd.mono _ _ _)
      | (with_reducible exact slices_Sort_int_int.mono _ _)
      | (with_reducible exact LeO.refl _)
      | (with_reducible exact LeO.none _)
      | (with_reducible refine LeO.ite ?_ ?_)
      | (with_reducible refine LeO.bind ?_ (fun _ => ?_))
      | exact ih0 _ _ _
      | exact ih1 _ _ _ _ _ _
      | exact ih2 _ _ _ _ _ _ _ _
      | exact number_Gcd.mono _ _ _
      | exact slices_Sort_int_int.mono _ _
      | exact LeO.none _
      | refine LeO.ite ?_ ?_
      | refine LeO.bind ?_ (fun _ => ?_)
theorem cyclic_Cosets.mono : ∀ a0 a1 k, LeO (cyclic_Cosets.f k a0 a1) (cyclic_Cosets.f (k + 1) a0 a1) := by
  intro a0 a1 k
  obtain ⟨ih0, ih1, ih2⟩ := cyclic_Cosets.mono_l k
  unfold cyclic_Cosets.f
  repeat' first
      | (with_reducible exact ih0 _ _ _)
      | (with_reducible exact ih1 _ _ _ _ _ _)
      | (with_reducible exact ih2 _ _ _ _ _ _ _ _)
      | (with_reducible exact number_Gcd.mono _ _ _)
      | (with_reducible exact slices_Sort_int_int.mono _ _)
      | (with_reducible exact LeO.refl _)
      | (with_reducible exact LeO.none _)
      | (with_reducible refine LeO.ite ?_ ?_)
      | (with_reducible refine LeO.bind ?_ (fun _ => ?_))
      | exact ih0 _ _ _
      | exact ih1 _ _ _ _ _ _
      | exact ih2 _ _ _ _ _ _ _ _
      | exact number_Gcd.mono _ _ _
      | exact slices_Sort_int_int.mono _ _
      | exact LeO.none _
      | refine LeO.ite ?_ ?_
      | refine LeO.bind ?_ (fun _ => ?_)
set_option maxHeartbeats 8000000 in
set_option maxRecDepth 100000 in
theorem cyclic_Cosets.calls (k : Nat) (a0 : Int) (a1 : Int) (r1 : List (List Int)) (r2 : Int) (w : World) (h : cyclic_Cosets.f k a0 a1 = some (r1, r2)) :
    Calls Try.prog 43 #[.int .i64 a0, .int .i64 a1] w fun e w' => ∃ v0_ : Value, e = .returned (.tuple #[v0_, .int .i64 r2]) ∧ Kd.S (Kd.slice 3 (Kd.int .i64)) 22 w' w.heap.size (fun _ => True) v0_ r1 ∧ Below w.heap.size w w' := by
  have HB := Aside0.mk (Below.refl w.heap.size w)
  have H : (if a0 < 2 then (cyclic_Cosets.j0 k a0 a1 true) else (if a0 > 256 then (cyclic_Cosets.j0 k a0 a1 true) else (if a1 < 1 then (cyclic_Cosets.j0 k a0 a1 true) else (cyclic_Cosets.j0 k a0 a1 (decide (a1 > 65536)))))) = some (r1, r2) := h
  clear h
  have HC3 := Aside0.mk H
  clear H
  go_enter Try.func43, Try.ntmps43
  go_upto_region 1 with (fail)
  go_cut [26] (fun v26 wc => ∃ (kq : Nat) (x26_2 : Bool), v26 = .bool x26_2 ∧ Aside0 (cyclic_Cosets.j0 kq a0 a1 x26_2 = some (r1, r2)) ∧ Aside0 (kq ≤ k) ∧ Aside0 (Below w.heap.size w wc))
  case first =>
    have H := HC3.out
    clear HC3
    by_cases c4 : a0 < 2
    · rw [if_pos c4] at H
      have c4b0 : decide (a0 < 2) = true := decide_eq_true c4
      clear c4
      (first | rw [c4b0] | (simp only [i64_w, i32_w]; rw [c4b0]) | skip)
      have H' := Aside0.mk H
      clear H
      go_wp2
      go_meet
      case rel => exact ⟨_, (true), (by first | rfl | (simp; done) | (simp [*]; done)), H', ⟨by first | omega | exact Nat.le_refl _⟩, ⟨by repeat (first | (with_reducible first | exact HB.out | apply below_alloc | apply pw_below_drewN | apply below_drew1) | exact HB.out)⟩⟩
    · rw [if_neg c4] at H
      have c4b0 : decide (a0 < 2) = false := decide_eq_false c4
      clear c4
      (first | rw [c4b0] | (simp only [i64_w, i32_w]; rw [c4b0]) | skip)
      by_cases c5 : a0 > 256
      · rw [if_pos c5] at H
        have c5b0 : decide (256 < a0) = true := decide_eq_true c5
        clear c5
        have H' := Aside0.mk H
        clear H
        go_wp2
        go_meet
        case rel => exact ⟨_, (true), (by first | rfl | (simp; done) | (simp [*]; done)), H', ⟨by first | omega | exact Nat.le_refl _⟩, ⟨by repeat (first | (with_reducible first | exact HB.out | apply below_alloc | apply pw_below_drewN | apply below_drew1) | exact HB.out)⟩⟩
      · rw [if_neg c5] at H
        have c5b0 : decide (256 < a0) = false := decide_eq_false c5
        clear c5
        by_cases c6 : a1 < 1
        · rw [if_pos c6] at H
          have c6b0 : decide (a1 < 1) = true := decide_eq_true c6
          clear c6
          have H' := Aside0.mk H
          clear H
          go_wp2
          go_meet
          case rel => exact ⟨_, (true), (by first | rfl | (simp; done) | (simp [*]; done)), H', ⟨by first | omega | exact Nat.le_refl _⟩, ⟨by repeat (first | (with_reducible first | exact HB.out | apply below_alloc | apply pw_below_drewN | apply below_drew1) | exact HB.out)⟩⟩
        · rw [if_neg c6] at H
          have c6b0 : decide (a1 < 1) = false := decide_eq_false c6
          clear c6
          have H' := Aside0.mk H
          clear H
          go_wp2
          go_meet
          case rel => exact ⟨_, (decide (a1 > 65536)), (by first | rfl | (simp; done) | (simp [*]; done)), H', ⟨by first | omega | exact Nat.le_refl _⟩, ⟨by repeat (first | (with_reducible first | exact HB.out | apply below_alloc | apply pw_below_drewN | apply below_drew1) | exact HB.out)⟩⟩
  case rest =>
    clear HC3
    try clear p2
    try clear c4
    try clear c4b0
    try clear c5
    try clear c5b0
    try clear c6
    try clear c6b0
    obtain ⟨kq, x26_2, rfl, HA, HJ2, HB⟩ := hcut
    cases kq with
    | zero => exact absurd HA.out (by simp [cyclic_Cosets.j0])
    | succ kj2 =>
      have H := HA.out
      clear HA
      simp only [cyclic_Cosets.j0] at H
      by_cases c7 : x26_2 = true
      · subst c7
        have H1 : (some (([] : List (List Int)), 6)) = some (r1, r2) := by rw [if_pos rfl] at H; exact H
        clear H
        have H := H1
        clear H1
        simp only [Option.some.injEq, Prod.mk.injEq] at H
        obtain ⟨rfl, rfl⟩ := H
        go_wp2
        go_ret2
        exact ⟨_, by first | rfl | (simp [errW_none, errW_some] <;> rfl) | (simp [*, errW_none, errW_some] <;> rfl), by first | exact Kd.S_nil _ _ _ _ _ | exact Kd.N_nil _ _ _ _ _ | exact Kd.V_nil _ _ _ _ _ | exact Kd.Q_nil _ _ _ _ _ | exact Kd.R_nil _ _ _ _ _, by repeat (first | (with_reducible first | exact HB.out | apply below_alloc | apply pw_below_drewN | apply below_drew1) | exact HB.out)⟩
      · replace c7 := Bool.eq_false_iff.mpr c7
        subst c7
        have H1 : ((number_Gcd.f kj2 a0 a1).bind fun bt235 => (if bt235.1 = 1 then (if 0 ≤ a1 then (if (a1 : Int).toNat ≤ 281474976710656 then (cyclic_Cosets.l0 kj2 a0 a1 ([] : List (List Int)) (List.replicate (a1 : Int).toNat false) a1 0) else (none)) else (none)) else (some (([] : List (List Int)), 10)))) = some (r1, r2) := by rw [if_neg (show ¬ (false = true) by decide)] at H; exact H
        clear H
        have H := H1
        clear H1
        replace H := Option.bind_eq_some_iff.mp H
        obtain ⟨⟨t235, t236⟩, A80, H⟩ := H
        replace H : (if t235 = 1 then (if 0 ≤ a1 then (if (a1 : Int).toNat ≤ 281474976710656 then (cyclic_Cosets.l0 kj2 a0 a1 ([] : List (List Int)) (List.replicate (a1 : Int).toNat false) a1 0) else (none)) else (none)) else (some (([] : List (List Int)), 10))) = some (r1, r2) := H
        have A8 := Aside0.mk A80
        clear A80
        by_cases c9 : t235 = 1
        · rw [if_pos c9] at H
          have c9b0 : (t235 == 1) = true := beq_iff_eq.mpr c9
          have c9b1 : (t235 != 1) = false := bne_eq_false_iff_eq.mpr c9
          clear c9
          by_cases c10 : 0 ≤ a1
          · rw [if_pos c10] at H
            have c10b0 := eq_true c10
            have c10b1 : decide (0 ≤ a1) = true := decide_eq_true c10
            clear c10
            by_cases c11 : (a1 : Int).toNat ≤ 281474976710656
            · rw [if_pos c11] at H
              have c11b0 := eq_true c11
              have c11b1 : decide ((a1 : Int).toNat ≤ 281474976710656) = true := decide_eq_true c11
              clear c11
              obtain ⟨y237, hy237⟩ : ∃ y_ : List Bool, y_ = (List.replicate (a1 : Int).toNat false) := ⟨_, rfl⟩
              replace H : (cyclic_Cosets.l0 kj2 a0 a1 ([] : List (List Int)) y237 a1 0) = some (r1, r2) := by first | (rw [hy237]; with_reducible exact H) | (have H2_ := (Option.bind_some _ _).symm.trans H; rw [hy237]; with_reducible exact H2_) | (have H2_ := (Option.bind_some _ _).symm.trans H; with_reducible exact H2_) | with_reducible exact H | (rw [hy237]; exact H) | exact H
              have Ny237 := Aside0.mk hy237
              clear hy237
              have H' := Aside0.mk H
              clear H
              go_wp2_with (first | ((with_reducible refine gate_callee (f := 59) rfl ?_); refine goesL_ (some 30) rfl rfl Try.func59 (by kernel_rfl) rfl #[.int .i64 a0, .int .i64 a1] rfl (by (try simp only [List.map_toArray, List.map_cons, List.map_nil]); first | done | rfl | (simp only [List.length_drop, List.length_take]; rfl)) ?_; (with_reducible refine (number_Gcd.calls kj2 a0 a1 t235 t236 _ A8.out).mono ?_); rintro e w12 ⟨rfl, hb⟩; refine ⟨_, rfl, ?_⟩; have n0_ := Aside0.mk (below_step (by repeat (first | (with_reducible first | exact HB.out | apply below_alloc | apply pw_below_drewN | apply below_drew1) | exact HB.out)) hb); clear HB; have HB := n0_; clear n0_; (try clear hb); (try clear hb2); (try clear hk); (try clear hi)) | ((with_reducible refine gate_dst (N := 36) rfl ?_); refine Kd.R_make Kd.bool _ 4 rfl (N := 36) rfl 56 _ _ rfl a1 rfl rfl Try.underlying56 (.bool false) 1 info4 rfl (by decide) (by omega) false (ok := fun _ => True) (okp := fun _ => True) rfl (fun _ hk => hk) trivial (of_decide_eq_true (by first | (with_reducible assumption) | assumption)) (Nat.le_trans (Nat.mul_le_mul_right _ (of_decide_eq_true (by first | (with_reducible assumption) | assumption) : a1.toNat ≤ 281474976710656)) (by omega)) (Below.refl _ _) (Nat.le_refl _) ?_; intro v238 w13 ho14 hb hg_ hnew_; clear hg_ hnew_; (first | rw [← Ny237.out] at ho14 | (simp only [Int.reduceToNat] at ho14; rw [← Ny237.out] at ho14)); have n0_ := Aside0.mk (Kd.R_lower ho14 (below_size (by repeat (first | (with_reducible first | exact HB.out | apply below_alloc | apply pw_below_drewN | apply below_drew1) | exact HB.out)))); have n1_ := Aside0.mk (below_step (by repeat (first | (with_reducible first | exact HB.out | apply below_alloc | apply pw_below_drewN | apply below_drew1) | exact HB.out)) hb); clear HB; have HO239 := n0_; have HB := n1_; clear n0_ n1_; clear hb ho14))
              go_loopg [8, 38] kj2 (fun kq v8 v38 w' => ∃ (x8_2 : List (List Int)) (x9_2 : List Bool) (x38_2 : Int), v38 = .int .i64 x38_2 ∧ Aside0 (cyclic_Cosets.l0 kq a0 a1 x8_2 x9_2 a1 x38_2 = some (r1, r2)) ∧ Aside0 (kq ≤ kj2) ∧ Aside0 (Kd.S (Kd.slice 3 (Kd.int .i64)) 22 w' w.heap.size (fun _ => True) v8 x8_2) ∧ Aside0 (Kd.R Kd.bool 4 w' w.heap.size (fun _ => True) v238 x9_2) ∧ Aside0 (Below w.heap.size w w'))
              case atStart => exact ⟨(([] : List (List Int))), (y237), (0), (by first | rfl | (simp; done) | (simp [*]; done)), H', ⟨Nat.le_refl _⟩, ⟨by first | exact Kd.S_nil _ _ _ _ _ | exact Kd.N_nil _ _ _ _ _ | exact Kd.V_nil _ _ _ _ _ | exact Kd.Q_nil _ _ _ _ _ | exact Kd.R_nil _ _ _ _ _⟩, ⟨by (with_reducible repeat (first | apply Kd.R_alloc | apply Kd.R_drewN | apply Kd.R_drew)); exact HO239.out⟩, ⟨by repeat (first | (with_reducible first | exact HB.out | apply below_alloc | apply pw_below_drewN | apply below_drew1) | exact HB.out)⟩⟩
              case round =>
                clear H'
                try clear c1
                try clear p2
                try clear c4
                try clear c4b0
                try clear c5
                try clear c5b0
                try clear c6
                try clear c6b0
                try clear c7
                try clear c9
                try clear c9b0
                try clear c9b1
                try clear c10
                try clear c10b0
                try clear c10b1
                try clear c11
                try clear c11b0
                try clear c11b1
                try clear p2
                obtain ⟨x8_2, x9_2, x38_2, rfl, HA, HK2, HO_8, HO_9, HB⟩ := hrel
                cases gk with
                | zero => exact absurd HA.out (by simp [cyclic_Cosets.l0])
                | succ k2 =>
                  have H := HA.out
                  clear HA
                  simp only [cyclic_Cosets.l0] at H
                  by_cases c15 : x38_2 < a1
                  · rw [if_pos c15] at H
                    have c15b0 : decide (x38_2 < a1) = true := decide_eq_true c15
                    clear c15
                    by_cases c16 : 0 ≤ x38_2
                    · rw [if_pos c16] at H
                      have c16b0 : decide (0 ≤ x38_2) = true := decide_eq_true c16
                      clear c16
                      by_cases c17 : x38_2 < (x9_2.length : Int)
                      · rw [if_pos c17] at H
                        have c17b0 : decide (x38_2 < (x9_2.length : Int)) = true := decide_eq_true c17
                        clear c17
                        obtain ⟨bq18, hbq18⟩ : ∃ b_ : Bool, b_ = (rdOf false x9_2 x38_2) := ⟨_, rfl⟩
                        replace H : (if bq18 = true then (cyclic_Cosets.l0 k2 a0 a1 x8_2 x9_2 a1 (wrap64 (x38_2 + 1))) else (cyclic_Cosets.l1 k2 a0 a1 x8_2 x9_2 ([] : List Int) x38_2 a1 x38_2)) = some (r1, r2) := by rw [← hbq18] at H; exact H
                        have Nbq18 := Aside0.mk hbq18
                        clear hbq18
                        by_cases c19 : bq18 = true
                        · subst c19
                          have H1 : (cyclic_Cosets.l0 k2 a0 a1 x8_2 x9_2 a1 (wrap64 (x38_2 + 1))) = some (r1, r2) := by rw [if_pos rfl] at H; exact H
                          clear H
                          have H := H1
                          clear H1
                          have H' := Aside0.mk H
                          clear H
                          obtain ⟨Ao20, co20, eo20⟩ := Kd.R_slice HO_9.out
                          subst eo20
                          have p240 : 0 ≤ (x38_2 : Int) := of_decide_eq_true (by first | (with_reducible assumption) | assumption)
                          have q240 : x38_2 < (x9_2.length : Int) := of_decide_eq_true (by first | (with_reducible assumption) | assumption)
                          obtain ⟨ad240, e240, hx240_0⟩ := Kd.at_bool (Kd.R_reads' HO_9.out).2.2 x38_2 p240 q240
                          (try rw [← Nbq18.out] at hx240_0)
                          cases e240
                          replace p240 := eq_true p240
                          replace q240 := eq_true q240
                          go_wp2
                          go_roundg k2
                          case measure => have := HJ2.out; have := HK2.out; omega
                          case rel => exact ⟨(x8_2), (x9_2), (wrap64 (x38_2 + 1)), (by first | rfl | (simp; done) | (simp [*]; done)), H', ⟨by have := HJ2.out; have := HK2.out; omega⟩, ⟨by (with_reducible repeat (first | apply Kd.S_alloc | apply Kd.S_drewN | apply Kd.S_drew)); exact HO_8.out⟩, ⟨by (with_reducible repeat (first | apply Kd.R_alloc | apply Kd.R_drewN | apply Kd.R_drew)); exact HO_9.out⟩, ⟨by repeat (first | (with_reducible first | exact HB.out | apply below_alloc | apply pw_below_drewN | apply below_drew1) | exact HB.out)⟩⟩
                        · replace c19 := Bool.eq_false_iff.mpr c19
                          subst c19
                          have H1 : (cyclic_Cosets.l1 k2 a0 a1 x8_2 x9_2 ([] : List Int) x38_2 a1 x38_2) = some (r1, r2) := by rw [if_neg (show ¬ (false = true) by decide)] at H; exact H
                          clear H
                          have H := H1
                          clear H1
                          have H' := Aside0.mk H
                          clear H
                          obtain ⟨go21, co21, eo21, gb21_, gl21_, HG21_⟩ := Kd.R_form HO_9.out (by have := (of_decide_eq_true (by first | (with_reducible assumption) | assumption) : 0 ≤ (x38_2 : Int)); have := (of_decide_eq_true (by first | (with_reducible assumption) | assumption) : x38_2 < (x9_2.length : Int)); omega)
                          subst eo21
                          have p240 : 0 ≤ (x38_2 : Int) := of_decide_eq_true (by first | (with_reducible assumption) | assumption)
                          have q240 : x38_2 < (x9_2.length : Int) := of_decide_eq_true (by first | (with_reducible assumption) | assumption)
                          obtain ⟨ad240, e240, hx240_0⟩ := Kd.at_bool (Kd.R_reads' HO_9.out).2.2 x38_2 p240 q240
                          (try rw [← Nbq18.out] at hx240_0)
                          cases e240
                          (first | simp only [add_plain] at hx240_0 | skip)
                          replace p240 := eq_true p240
                          replace q240 := eq_true q240
                          go_wp2
                          go_loopg [11, 12] k2 (fun kq v11 v12 w' => ∃ (x9_3 : List Bool) (x11_3 : List Int) (x12_3 : Int), v12 = .int .i64 x12_3 ∧ Aside0 (cyclic_Cosets.l1 kq a0 a1 x8_2 x9_3 x11_3 x12_3 a1 x38_2 = some (r1, r2)) ∧ Aside0 (kq ≤ k2) ∧ Aside0 (Kd.S (Kd.slice 3 (Kd.int .i64)) 22 w' w.heap.size (fun k_ => some k_ ≠ (v11 : Value).ownBlock) u8 x8_2) ∧ Aside0 (Kd.R Kd.bool 4 w' w.heap.size (fun _ => True) (.slice (some ⟨go21, 0, none⟩) x9_2.length co21) x9_3) ∧ Aside0 (Kd.R (Kd.int .i64) 3 w' w.heap.size (fun _ => True) v11 x11_3) ∧ Aside0 (Below w.heap.size w w'))
                          case atStart => exact ⟨(x9_2), (([] : List Int)), (x38_2), (by first | rfl | (simp; done) | (simp [*]; done)), H', ⟨Nat.le_refl _⟩, ⟨by (with_reducible repeat (first | apply Kd.S_alloc | apply Kd.S_drewN | apply Kd.S_drew)); exact Kd.S_mono HO_8.out (fun _ hk => (by simp [Value.ownBlock]))⟩, ⟨by (with_reducible repeat (first | apply Kd.R_alloc | apply Kd.R_drewN | apply Kd.R_drew)); exact HO_9.out⟩, ⟨by first | exact Kd.R_nil _ _ _ _ _ | exact Kd.N_nil _ _ _ _ _ | exact Kd.V_nil _ _ _ _ _ | exact Kd.Q_nil _ _ _ _ _ | exact Kd.S_nil _ _ _ _ _⟩, ⟨by repeat (first | (with_reducible first | exact HB.out | apply below_alloc | apply pw_below_drewN | apply below_drew1) | exact HB.out)⟩⟩
                          case round =>
                            clear H'
                            try clear c1
                            try clear q1
                            try clear p2
                            try clear q2
                            try clear hx2
                            try clear c4
                            try clear c4b0
                            try clear c5
                            try clear c5b0
                            try clear c6
                            try clear c6b0
                            try clear p6
                            try clear c7
                            try clear c9
                            try clear c9b0
                            try clear c9b1
                            try clear c10
                            try clear c10b0
                            try clear c10b1
                            try clear c11
                            try clear c11b0
                            try clear c11b1
                            try clear c15
                            try clear c15b0
                            try clear c16
                            try clear c16b0
                            try clear c17
                            try clear c17b0
                            try clear q18
                            try clear c19
                            try clear hx240_0
                            try clear p2
                            try clear p240
                            try clear q240
                            obtain ⟨x9_3, x11_3, x12_3, rfl, HA, HK3, HO_8, HO_9, HO_11, HB⟩ := hrel
                            have hl9_3 := (Kd.R_reads' HO_9.out).1
                            rw [hl9_3] at HO_9
                            (try simp only [hl9_3])
                            (try simp only [hl9_3] at HO_8)
                            (try simp only [hl9_3] at HO_11)
                            cases gk with
                            | zero => exact absurd HA.out (by simp [cyclic_Cosets.l1])
                            | succ k3 =>
                              have H := HA.out
                              clear HA
                              simp only [cyclic_Cosets.l1] at H
                              by_cases c22 : 0 ≤ x12_3
                              · rw [if_pos c22] at H
                                have c22b0 : decide (0 ≤ x12_3) = true := decide_eq_true c22
                                clear c22
                                by_cases c23 : x12_3 < (x9_3.length : Int)
                                · rw [if_pos c23] at H
                                  have c23b0 : decide (x12_3 < (x9_3.length : Int)) = true := decide_eq_true c23
                                  clear c23
                                  obtain ⟨bq24, hbq24⟩ : ∃ b_ : Bool, b_ = (rdOf false x9_3 x12_3) := ⟨_, rfl⟩
                                  replace H : (if bq24 = true then ((slices_Sort_int_int.f k3 x11_3).bind fun t242 => (if x8_2.length < 5864062014805 then (cyclic_Cosets.l0 k3 a0 a1 (x8_2 ++ [t242]) x9_3 a1 (wrap64 (x38_2 + 1))) else (none))) else (if x11_3.length < 17592186044416 then (if a1 = 0 then (none) else (cyclic_Cosets.l1 k3 a0 a1 x8_2 (x9_3.set (x12_3 : Int).toNat true) (x11_3 ++ [x12_3]) (Int.tmod (wrap64 (x12_3 * a0)) a1) a1 x38_2)) else (none))) = some (r1, r2) := by rw [← hbq24] at H; exact H
                                  have Nbq24 := Aside0.mk hbq24
                                  clear hbq24
                                  by_cases c25 : bq24 = true
                                  · subst c25
                                    have H1 : ((slices_Sort_int_int.f k3 x11_3).bind fun t242 => (if x8_2.length < 5864062014805 then (cyclic_Cosets.l0 k3 a0 a1 (x8_2 ++ [t242]) x9_3 a1 (wrap64 (x38_2 + 1))) else (none))) = some (r1, r2) := by rw [if_pos rfl] at H; exact H
                                    clear H
                                    have H := H1
                                    clear H1
                                    replace H := Option.bind_eq_some_iff.mp H
                                    obtain ⟨t242, A260, H⟩ := H
                                    replace H : (if x8_2.length < 5864062014805 then (cyclic_Cosets.l0 k3 a0 a1 (x8_2 ++ [t242]) x9_3 a1 (wrap64 (x38_2 + 1))) else (none)) = some (r1, r2) := H
                                    have A26 := Aside0.mk A260
                                    clear A260
                                    by_cases c27 : x8_2.length < 5864062014805
                                    · rw [if_pos c27] at H
                                      have LMc27 := Aside0.mk c27
                                      clear c27
                                      obtain ⟨y243, hy243⟩ : ∃ y_ : List (List Int), y_ = (x8_2 ++ [t242]) := ⟨_, rfl⟩
                                      replace H : (cyclic_Cosets.l0 k3 a0 a1 y243 x9_3 a1 (wrap64 (x38_2 + 1))) = some (r1, r2) := by first | (rw [hy243]; with_reducible exact H) | (have H2_ := (Option.bind_some _ _).symm.trans H; rw [hy243]; with_reducible exact H2_) | (have H2_ := (Option.bind_some _ _).symm.trans H; with_reducible exact H2_) | with_reducible exact H | (rw [hy243]; exact H) | exact H
                                      have Ny243 := Aside0.mk hy243
                                      clear hy243
                                      have H' := Aside0.mk H
                                      clear H
                                      have p241 : 0 ≤ (x12_3 : Int) := of_decide_eq_true (by first | (with_reducible assumption) | assumption)
                                      have q241 : x12_3 < (x9_3.length : Int) := of_decide_eq_true (by first | (with_reducible assumption) | assumption)
                                      obtain ⟨ad241, e241, hx241_0⟩ := Kd.at_bool (Kd.R_reads' HO_9.out).2.2 x12_3 p241 q241
                                      (try rw [← Nbq18.out] at hx241_0)
                                      (try rw [← Nbq24.out] at hx241_0)
                                      obtain rfl : (⟨go21, 0, none⟩ : Addr) = ad241 := (by injection e241)
                                      (first | simp only [add_plain] at hx241_0 | skip)
                                      replace p241 := eq_true p241
                                      replace q241 := eq_true q241
                                      obtain ⟨Ao28, co28, eo28⟩ := Kd.R_slice HO_11.out
                                      subst eo28
                                      go_wp2_with (first | ((with_reducible refine gate_callee (f := 46) rfl ?_); refine goesL_ (some 64) rfl rfl Try.func46 (by kernel_rfl) rfl #[.slice Ao28 x11_3.length co28] rfl (by (try simp only [List.map_toArray, List.map_cons, List.map_nil]); first | done | rfl | (simp only [List.length_drop, List.length_take]; rfl)) ?_; (with_reducible refine (slices_Sort_int_int.calls k3 (fun k_ => some k_ = (.slice Ao28 x11_3.length co28 : Value).ownBlock) (.slice Ao28 x11_3.length co28) x11_3 t242 w _ ?side1 ?side2 A26.out).mono ?_); (case side1 => repeat (first | (with_reducible first | exact HB.out | apply below_alloc | apply pw_below_drewN | apply below_drew1) | exact HB.out)); (case side2 => exact Kd.R_tight rfl HO_11.out); rintro e w29 ⟨rfl, hy0, hb, hkp⟩; refine ⟨_, rfl, ?_⟩; have n0_ := Aside0.mk (Kd.S_mono (ok' := fun k_ => some k_ ≠ (.slice Ao28 x11_3.length co28 : Value).ownBlock) (Kd.S_keptB (HO_8.out) hkp (fun k_ hk_ hs_ => (hk_) hs_)) (fun k_ hk_ => hk_.1)); have n1_ := Aside0.mk (Kd.R_mono (ok' := fun k_ => True) (Kd.R_keptB ((Kd.R_apart' HO_9.out (Kd.R_typed HO_11.out) (by decide))) hkp (fun k_ hk_ hs_ => (hk_.2) hs_)) (fun k_ hk_ => trivial)); have n2_ := Aside0.mk (Kd.R_reok rfl hy0 (fun k_ e_ => HO_11.out.1 k_ e_)); have n3_ := Aside0.mk (hb); clear HO_8; clear HO_9; clear HO_11; clear HB; have HO_8 := n0_; have HO_9 := n1_; have HO_11 := n2_; have HB := n3_; clear n0_ n1_ n2_ n3_; (try clear hb); (try clear hkp); (try clear hy0)) | ((with_reducible refine gate_builtin (b := .append) (xs := #[.tmp 65, .tmp 67]) rfl ?_); at_builtin; refine Kd.S_append (Kd.slice 3 (Kd.int .i64)) (w0 := w) w.heap.size rfl (.tmp 65) (.tmp 67) 47 22 (.slice none 0 0) 24 rfl Try.underlying47 info22 rfl (by decide) (by omega) u8 x8_2 t242 [.slice Ao28 x11_3.length co28] (fun _ => True) (fun k_ => some k_ = (.slice Ao28 x11_3.length co28 : Value).ownBlock) rfl rfl ?aP (fun k_ hk_ => ((Kd.R_mono (ok' := fun k_ => ((fun _ => True)) k_ ∧ some k_ ≠ (u8 : Value).ownBlock) (Kd.R_apart' (HO_11.out) (Kd.S_typed HO_8.out) (by decide)) (fun k_ hk => ⟨trivial, hk.2⟩))).1 k_ hk_.symm) ?aF ?aO ?aB ?aS ?aL ?_; (case aP => exact Kd.M_row (Kd.R_mono (Kd.R_tight rfl (Kd.R_mono (ok' := fun k_ => ((fun _ => True)) k_ ∧ some k_ ≠ (u8 : Value).ownBlock) (Kd.R_apart' (HO_11.out) (Kd.S_typed HO_8.out) (by decide)) (fun k_ hk => ⟨trivial, hk.2⟩))) (fun _ h_ => h_))); (case aB => exact (by repeat (first | (with_reducible first | exact HB.out | apply below_alloc | apply pw_below_drewN | apply below_drew1) | exact HB.out))); (case aF => exact (fun _ _ => trivial)); (case aO => exact (by (with_reducible repeat (first | apply Kd.S_alloc | apply Kd.S_drewN | apply Kd.S_drew)); exact Kd.S_mono HO_8.out (fun k_ hk => ⟨trivial, fun e_ => hk e_⟩))); (case aS => exact (below_size (by repeat (first | (with_reducible first | exact HB.out | apply below_alloc | apply pw_below_drewN | apply below_drew1) | exact HB.out)))); (case aL => have := LMc27.out; omega); intro v244 w30 ho hb hg hat; rw [← Ny243.out] at ho; have n0_ := Aside0.mk (Kd.R_over' (by (with_reducible repeat (first | apply Kd.R_alloc | apply Kd.R_drewN | apply Kd.R_drew)); exact HO_9.out) (Kd.S_typed (by (with_reducible repeat (first | apply Kd.S_alloc | apply Kd.S_drewN | apply Kd.S_drew)); exact HO_8.out)) (by decide) hg); have n1_ := Aside0.mk (hb); have n2_ := Aside0.mk (ho); clear HO_9; clear HB; clear HO_8; clear HO_11; have HO_9 := n0_; have HB := n1_; have HO245 := n2_; clear n0_ n1_ n2_; clear ho hb hg hat))
                                      (try simp only [← hl9_3])
                                      go_roundg k3
                                      case measure => have := HJ2.out; have := HK2.out; have := HK3.out; omega
                                      case rel => exact ⟨(y243), (x9_3), (wrap64 (x38_2 + 1)), (by first | rfl | (simp; done) | (simp [*]; done)), H', ⟨by have := HJ2.out; have := HK2.out; have := HK3.out; omega⟩, ⟨by (try simp only [hl9_3]); (with_reducible repeat (first | apply Kd.S_alloc | apply Kd.S_drewN | apply Kd.S_drew)); exact HO245.out⟩, ⟨by (try simp only [hl9_3]); (with_reducible repeat (first | apply Kd.R_alloc | apply Kd.R_drewN | apply Kd.R_drew)); exact HO_9.out⟩, ⟨by repeat (first | (with_reducible first | exact HB.out | apply below_alloc | apply pw_below_drewN | apply below_drew1) | exact HB.out)⟩⟩
                                    · rw [if_neg c27] at H
                                      exact absurd H (by simp)
                                  · replace c25 := Bool.eq_false_iff.mpr c25
                                    subst c25
                                    have H1 : (if x11_3.length < 17592186044416 then (if a1 = 0 then (none) else (cyclic_Cosets.l1 k3 a0 a1 x8_2 (x9_3.set (x12_3 : Int).toNat true) (x11_3 ++ [x12_3]) (Int.tmod (wrap64 (x12_3 * a0)) a1) a1 x38_2)) else (none)) = some (r1, r2) := by rw [if_neg (show ¬ (false = true) by decide)] at H; exact H
                                    clear H
                                    have H := H1
                                    clear H1
                                    obtain ⟨y246, hy246⟩ : ∃ y_ : List Bool, y_ = (x9_3.set (x12_3 : Int).toNat true) := ⟨_, rfl⟩
                                    replace H : (if x11_3.length < 17592186044416 then (if a1 = 0 then (none) else (cyclic_Cosets.l1 k3 a0 a1 x8_2 y246 (x11_3 ++ [x12_3]) (Int.tmod (wrap64 (x12_3 * a0)) a1) a1 x38_2)) else (none)) = some (r1, r2) := by first | (rw [hy246]; with_reducible exact H) | (have H2_ := (Option.bind_some _ _).symm.trans H; rw [hy246]; with_reducible exact H2_) | (have H2_ := (Option.bind_some _ _).symm.trans H; with_reducible exact H2_) | with_reducible exact H | (rw [hy246]; exact H) | exact H
                                    have Ny246 := Aside0.mk hy246
                                    clear hy246
                                    by_cases c32 : x11_3.length < 17592186044416
                                    · rw [if_pos c32] at H
                                      have LMc32 := Aside0.mk c32
                                      clear c32
                                      obtain ⟨y247, hy247⟩ : ∃ y_ : List Int, y_ = (x11_3 ++ [x12_3]) := ⟨_, rfl⟩
                                      replace H : (if a1 = 0 then (none) else (cyclic_Cosets.l1 k3 a0 a1 x8_2 y246 y247 (Int.tmod (wrap64 (x12_3 * a0)) a1) a1 x38_2)) = some (r1, r2) := by first | (rw [hy247]; with_reducible exact H) | (have H2_ := (Option.bind_some _ _).symm.trans H; rw [hy247]; with_reducible exact H2_) | (have H2_ := (Option.bind_some _ _).symm.trans H; with_reducible exact H2_) | with_reducible exact H | (rw [hy247]; exact H) | exact H
                                      have Ny247 := Aside0.mk hy247
                                      clear hy247
                                      by_cases c33 : a1 = 0
                                      · rw [if_pos c33] at H
                                        exact absurd H (by simp)
                                      · rw [if_neg c33] at H
                                        have c33b0 : (a1 == 0) = false := beq_eq_false_iff_ne.mpr c33
                                        have c33b1 : (a1 != 0) = true := bne_iff_ne.mpr c33
                                        have H' := Aside0.mk H
                                        clear H
                                        have p241 : 0 ≤ (x12_3 : Int) := of_decide_eq_true (by first | (with_reducible assumption) | assumption)
                                        have q241 : x12_3 < (x9_3.length : Int) := of_decide_eq_true (by first | (with_reducible assumption) | assumption)
                                        obtain ⟨ad241, e241, hx241_0⟩ := Kd.at_bool (Kd.R_reads' HO_9.out).2.2 x12_3 p241 q241
                                        (try rw [← Nbq18.out] at hx241_0)
                                        (try rw [← Nbq24.out] at hx241_0)
                                        obtain rfl : (⟨go21, 0, none⟩ : Addr) = ad241 := (by injection e241)
                                        (first | simp only [add_plain] at hx241_0 | skip)
                                        replace p241 := eq_true p241
                                        replace q241 := eq_true q241
                                        have p31 : 0 ≤ (x12_3 : Int) := of_decide_eq_true (by first | (with_reducible assumption) | assumption)
                                        have q31 : (x12_3 : Int) < ((x9_3.length : Int) : Int) := of_decide_eq_true (by first | (with_reducible assumption) | assumption)
                                        obtain ⟨go31_, co31_, eo31, gb31, gl31, cl31, HG31⟩ := Kd.R_form HO_9.out (by omega)
                                        (first | cases eo31 | (injection eo31 with ea_ en_ ec_; (first | subst ea_ | (injection ea_ with ea_; subst ea_)); subst ec_; clear en_))
                                        have GB31 := Aside0.mk gb31
                                        have GG31 := Aside0.mk HG31
                                        clear gb31 gl31 HG31
                                        (first | simp only [add_plain] at hx240_0 | skip)
                                        (first | simp only [add_plain] at hx241_0 | skip)
                                        obtain ⟨hx31_0, hf31_0⟩ := Kd.R_celln false HO_9.out (x12_3 : Int) p31 q31
                                        replace p31 := eq_true p31
                                        replace q31 := eq_true q31
                                        have HP34 := Kd.R_putg HO_9.out (x12_3 : Int) true
                                        go_wp2_with (first | ((with_reducible refine gate_store (t := 4) (p := 58) rfl ?_); refine store_event (t := 4) (p := 58) (v := ?vo_w35) (w1 := (wr.setCell ⟨go21, (x12_3 : Int).toNat, none⟩ (.bool true))) ?hg ?ho ?hn ?hr ?_; (case ho => rfl); (case hg => rfl); (case hn => rfl); (case hr => first | (go_simp; done) | (go_simp; rfl)); intro w35 hw; have hg : wr.grownBy w35 (some go21) := (by rw [hw]; exact HP34.2); have hp_ : Kd.R Kd.bool 4 w35 w.heap.size (fun _ => True) (.slice (some ⟨go21, 0, none⟩) x9_3.length co21) y246 := (by rw [hw, Ny246.out]; exact HP34.1); clear HP34; have n0_ := Aside0.mk (Kd.S_over' (v := (.slice (some ⟨go21, 0, none⟩) x9_3.length co21)) (by (with_reducible repeat (first | apply Kd.S_alloc | apply Kd.S_drewN | apply Kd.S_drew)); exact HO_8.out) (Kd.R_typed HO_9.out) (by decide) hg); have n1_ := Aside0.mk (hp_); have n2_ := Aside0.mk (Kd.R_over' (v := (.slice (some ⟨go21, 0, none⟩) x9_3.length co21)) (by (with_reducible repeat (first | apply Kd.R_alloc | apply Kd.R_drewN | apply Kd.R_drew)); exact HO_11.out) (Kd.R_typed HO_9.out) (by decide) hg); have n3_ := Aside0.mk ((by rw [hw]; exact below_set (HB.out) GB31.out : Below w.heap.size w w35)); clear HO_8; clear HO_9; clear HO_11; clear HB; have HO_8 := n0_; have HO_9 := n1_; have HO_11 := n2_; have HB := n3_; clear n0_ n1_ n2_ n3_; clear hg hw hp_) | ((with_reducible refine gate_builtin (b := .append) (xs := #[.tmp 59, .tmp 61]) rfl ?_); at_builtin; refine Kd.R_append (Kd.int .i64) (w0 := w) w.heap.size rfl (.tmp 59) (.tmp 61) 22 3 (.int .i64 0) 8 rfl Try.underlying22 info3 rfl (by decide) (by omega) u11 x11_3 x12_3 [.int .i64 x12_3] (fun _ => True) (fun _ => False) rfl rfl ?aP (fun _ hk => hk.elim) ?aF ?aO ?aB ?aS ?aL ?_; (case aP => exact rfl); (case aB => exact (by repeat (first | (with_reducible first | exact HB.out | apply below_alloc | apply pw_below_drewN | apply below_drew1) | exact HB.out))); (case aF => exact (fun _ _ => trivial)); (case aO => exact (by (with_reducible repeat (first | apply Kd.R_alloc | apply Kd.R_drewN | apply Kd.R_drew)); exact HO_11.out)); (case aS => exact (below_size (by repeat (first | (with_reducible first | exact HB.out | apply below_alloc | apply pw_below_drewN | apply below_drew1) | exact HB.out)))); (case aL => have := LMc32.out; omega); intro v248 w36 ho hb hg hat; rw [← Ny247.out] at ho; have n0_ := Aside0.mk (Kd.S_after (ok := (fun _ => True)) (by (with_reducible repeat (first | apply Kd.S_alloc | apply Kd.S_drewN | apply Kd.S_drew)); exact Kd.S_mono HO_8.out (fun _ hk => ⟨trivial, hk⟩)) hg hat); have n1_ := Aside0.mk (Kd.R_over' (by (with_reducible repeat (first | apply Kd.R_alloc | apply Kd.R_drewN | apply Kd.R_drew)); exact HO_9.out) (Kd.R_typed (by (with_reducible repeat (first | apply Kd.R_alloc | apply Kd.R_drewN | apply Kd.R_drew)); exact HO_11.out)) (by decide) hg); have n2_ := Aside0.mk (hb); have n3_ := Aside0.mk (ho); clear HO_8; clear HO_9; clear HB; clear HO_11; have HO_8 := n0_; have HO_9 := n1_; have HB := n2_; have HO249 := n3_; clear n0_ n1_ n2_ n3_; clear ho hb hg hat))
                                        (try simp only [← hl9_3])
                                        go_roundg k3
                                        case measure => have := HJ2.out; have := HK2.out; have := HK3.out; omega
                                        case rel => exact ⟨(y246), (y247), (Int.tmod (wrap64 (x12_3 * a0)) a1), (by first | rfl | (simp; done) | (simp [*]; done)), H', ⟨by have := HJ2.out; have := HK2.out; have := HK3.out; omega⟩, ⟨by (try simp only [hl9_3]); (with_reducible repeat (first | apply Kd.S_alloc | apply Kd.S_drewN | apply Kd.S_drew)); exact Kd.S_mono HO_8.out (fun _ hk => hk.2)⟩, ⟨by (try simp only [hl9_3]); (with_reducible repeat (first | apply Kd.R_alloc | apply Kd.R_drewN | apply Kd.R_drew)); exact HO_9.out⟩, ⟨by (try simp only [hl9_3]); (with_reducible repeat (first | apply Kd.R_alloc | apply Kd.R_drewN | apply Kd.R_drew)); exact HO249.out⟩, ⟨by repeat (first | (with_reducible first | exact HB.out | apply below_alloc | apply pw_below_drewN | apply below_drew1) | exact HB.out)⟩⟩
                                    · rw [if_neg c32] at H
                                      exact absurd H (by simp)
                                · rw [if_neg c23] at H
                                  exact absurd H (by simp)
                              · rw [if_neg c22] at H
                                exact absurd H (by simp)
                      · rw [if_neg c17] at H
                        exact absurd H (by simp)
                    · rw [if_neg c16] at H
                      exact absurd H (by simp)
                  · rw [if_neg c15] at H
                    have c15b0 : decide (x38_2 < a1) = false := decide_eq_false c15
                    clear c15
                    simp only [Option.some.injEq, Prod.mk.injEq] at H
                    obtain ⟨rfl, rfl⟩ := H
                    go_wp2
                    go_ret2
                    exact ⟨_, by first | rfl | (simp [errW_none, errW_some] <;> rfl) | (simp [*, errW_none, errW_some] <;> rfl), by (with_reducible repeat (first | apply Kd.S_alloc | apply Kd.S_drewN | apply Kd.S_drew)); exact HO_8.out, by repeat (first | (with_reducible first | exact HB.out | apply below_alloc | apply pw_below_drewN | apply below_drew1) | exact HB.out)⟩
            · rw [if_neg c11] at H
              exact absurd H (by simp)
          · rw [if_neg c10] at H
            exact absurd H (by simp)
        · rw [if_neg c9] at H
          have c9b0 : (t235 == 1) = false := beq_eq_false_iff_ne.mpr c9
          have c9b1 : (t235 != 1) = true := bne_iff_ne.mpr c9
          simp only [Option.some.injEq, Prod.mk.injEq] at H
          obtain ⟨rfl, rfl⟩ := H
          go_wp2_with (first | ((with_reducible refine gate_callee (f := 59) rfl ?_); refine goesL_ (some 30) rfl rfl Try.func59 (by kernel_rfl) rfl #[.int .i64 a0, .int .i64 a1] rfl (by (try simp only [List.map_toArray, List.map_cons, List.map_nil]); first | done | rfl | (simp only [List.length_drop, List.length_take]; rfl)) ?_; (with_reducible refine (number_Gcd.calls kj2 a0 a1 t235 t236 _ A8.out).mono ?_); rintro e w37 ⟨rfl, hb⟩; refine ⟨_, rfl, ?_⟩; have n0_ := Aside0.mk (below_step (by repeat (first | (with_reducible first | exact HB.out | apply below_alloc | apply pw_below_drewN | apply below_drew1) | exact HB.out)) hb); clear HB; have HB := n0_; clear n0_; (try clear hb); (try clear hb2); (try clear hk); (try clear hi)))
          go_ret2
          exact ⟨_, by first | rfl | (simp [errW_none, errW_some] <;> rfl) | (simp [*, errW_none, errW_some] <;> rfl), by first | exact Kd.S_nil _ _ _ _ _ | exact Kd.N_nil _ _ _ _ _ | exact Kd.V_nil _ _ _ _ _ | exact Kd.Q_nil _ _ _ _ _ | exact Kd.R_nil _ _ _ _ _, by repeat (first | (with_reducible first | exact HB.out | apply below_alloc | apply pw_below_drewN | apply below_drew1) | exact HB.out)⟩

-- NOT PRINTED: function 71 (slices_IndexFunc_int_int)

-- NOT PRINTED: function 44 (slices_ContainsFunc_int_int)

-- NOT PRINTED: function 20 (bch_Closure)

end Go.Proofs.Ytibbdjkboglepaa.QBchClosures

-- My own print: a program's text for this claim
import Derived.Test.YtibbdjkboglepaaQBchRootsx0
import Derived.Test.YtibbdjkboglepaaQBchRootsx1
import Derived.Test.YtibbdjkboglepaaCopyW
namespace Go.Proofs.Ytibbdjkboglepaa.QBchRoots
open Go.RowKit Go.Proofs.YtibbdjkboglepaaW.PrintWords Go.Proofs.YtibbdjkboglepaaW.PrintLast Go.Proofs.YtibbdjkboglepaaW.PrintMore
attribute [local go_sem] max2_int min2_int max_two min_two max_three min_three max_four min_four   -- for this text's walks alone
set_option linter.unusedVariables false
set_option linter.unusedSimpArgs false

/-! ### field_multiply: function 92 -/
mutual
def field_multiply.l0 : Nat → List Int → List Int → List Int → Int → Int → Int → List Int → Option (Int)
 | 0, _, _, _, _, _, _, _ => none
 | k + 1, x7, x8, x9, x10, x111000, x111001, x111002 => if x10 ≥ 0 then (if 0 ≤ (wrap64 (x111001 - 1)) then (if (wrap64 (x111001 - 1)) < (x9.length : Int) then (if 1 ≤ (x9.length : Int) then (if (wrap64 (x111001 - 1)) ≤ (x9.length : Int) then (if 0 < (x9.length : Int) then (field_multiply.l1 k x7 x8 ((My.shiftL (wrap64 (x111001 - 1)).toNat x9).set (0 : Int).toNat 0) x10 (rd x9 (wrap64 (x111001 - 1))) (x9.length : Int) 0 x111000 x111001 x111002) else (none)) else (none)) else (none)) else (none)) else (none)) else ((field_valueOf.f k x9 x111000).bind fun t120 => (some t120))
def field_multiply.l1 : Nat → List Int → List Int → List Int → Int → Int → Int → Int → Int → Int → List Int → Option (Int)
 | 0, _, _, _, _, _, _, _, _, _, _ => none
 | k + 1, x7, x8, x9, x10, x11, x53, x54, x111000, x111001, x111002 => if x54 < x53 then (if x111001 > 1 then (if 0 ≤ x54 then (if x54 < (x111002.length : Int) then (if x54 < (x9.length : Int) then (if 0 ≤ x10 then (if x10 < (x8.length : Int) then (if x54 < (x7.length : Int) then (if x111000 = 0 then (none) else (field_multiply.l1 k x7 x8 (x9.set (x54 : Int).toNat (Int.tmod (wrap64 ((wrap64 ((rd x9 x54) + (wrap64 ((wrap64 (x111000 - x11)) * (rd x111002 x54))))) + (wrap64 ((rd x8 x10) * (rd x7 x54))))) x111000)) x10 x11 x53 (wrap64 (x54 + 1)) x111000 x111001 x111002)) else (none)) else (none)) else (none)) else (none)) else (none)) else (none)) else (if 0 ≤ x54 then (if x54 < (x9.length : Int) then (if 0 ≤ x10 then (if x10 < (x8.length : Int) then (if x54 < (x7.length : Int) then (if x111000 = 0 then (none) else (field_multiply.l1 k x7 x8 (x9.set (x54 : Int).toNat (Int.tmod (wrap64 ((wrap64 ((rd x9 x54) + (wrap64 0))) + (wrap64 ((rd x8 x10) * (rd x7 x54))))) x111000)) x10 x11 x53 (wrap64 (x54 + 1)) x111000 x111001 x111002)) else (none)) else (none)) else (none)) else (none)) else (none))) else (field_multiply.l0 k x7 x8 x9 (wrap64 (x10 - 1)) x111000 x111001 x111002)
end
def field_multiply.f (k : Nat) (a0_0 : Int) (a0_1 : Int) (l0_2 : List Int) (a1 : Int) (a2 : Int) : Option (Int) := (field_digitsOf.f k a1 a0_0 a0_1).bind fun t111 => ((field_digitsOf.f k a2 a0_0 a0_1).bind fun t114 => (if 0 ≤ a0_1 then (if (a0_1 : Int).toNat ≤ 35184372088832 then (field_multiply.l0 k t111 t114 (List.replicate (a0_1 : Int).toNat 0) (wrap64 (a0_1 - 1)) a0_0 a0_1 l0_2) else (none)) else (none)))
theorem field_multiply.mono_l : ∀ k, (∀ y0 y1 y2 y3 y4 y5 y6, LeO (field_multiply.l0 k y0 y1 y2 y3 y4 y5 y6) (field_multiply.l0 (k + 1) y0 y1 y2 y3 y4 y5 y6)) ∧ (∀ y0 y1 y2 y3 y4 y5 y6 y7 y8 y9, LeO (field_multiply.l1 k y0 y1 y2 y3 y4 y5 y6 y7 y8 y9) (field_multiply.l1 (k + 1) y0 y1 y2 y3 y4 y5 y6 y7 y8 y9))
 | 0 => ⟨fun _ _ _ _ _ _ _ r h => by simp [field_multiply.l0] at h, fun _ _ _ _ _ _ _ _ _ _ r h => by simp [field_multiply.l1] at h⟩
 | k + 1 => by
  obtain ⟨ih0, ih1⟩ := field_multiply.mono_l k
  refine ⟨?_, ?_⟩
  ·intro y0 y1 y2 y3 y4 y5 y6
   unfold field_multiply.l0
   repeat' first
   | (with_reducible exact ih0 _ _ _ _ _ _ _)
   | (with_reducible exact ih1 _ _ _ _ _ _ _ _ _ _)
   | (with_reducible exact field_digitsOf.mono _ _ _ _)
   | (with_reducible exact field_valueOf.mono _ _ _)
   | (with_reducible exact LeO.refl _)
   | (with_reducible exact LeO.none _)
   | (with_reducible refine LeO.ite ?_ ?_)
   | (with_reducible refine LeO.bind ?_ (fun _ => ?_))
   | exact ih0 _ _ _ _ _ _ _
   | exact ih1 _ _ _ _ _ _ _ _ _ _
   | exact field_digitsOf.mono _ _ _ _
   | exact field_valueOf.mono _ _ _
   | exact LeO.none _
   | refine LeO.ite ?_ ?_
   | refine LeO.bind ?_ (fun _ => ?_)
  ·intro y0 y1 y2 y3 y4 y5 y6 y7 y8 y9
   unfold field_multiply.l1
   repeat' first
   | (with_reducible exact ih0 _ _ _ _ _ _ _)
   | (with_reducible exact ih1 _ _ _ _ _ _ _ _ _ _)
   | (with_reducible exact field_digitsOf.mono _ _ _ _)
   | (with_reducible exact field_valueOf.mono _ _ _)
   | (with_reducible exact LeO.refl _)
   | (with_reducible exact LeO.none _)
   | (with_reducible refine LeO.ite ?_ ?_)
   | (with_reducible refine LeO.bind ?_ (fun _ => ?_))
   | exact ih0 _ _ _ _ _ _ _
   | exact ih1 _ _ _ _ _ _ _ _ _ _
   | exact field_digitsOf.mono _ _ _ _
   | exact field_valueOf.mono _ _ _
   | exact LeO.none _
   | refine LeO.ite ?_ ?_
   | refine LeO.bind ?_ (fun _ => ?_)
theorem field_multiply.mono : ∀ a0 a1 a2 a3 a4 k, LeO (field_multiply.f k a0 a1 a2 a3 a4) (field_multiply.f (k + 1) a0 a1 a2 a3 a4) := by
 intro a0 a1 a2 a3 a4 k
 obtain ⟨ih0, ih1⟩ := field_multiply.mono_l k
 unfold field_multiply.f
 repeat' first
   | (with_reducible exact ih0 _ _ _ _ _ _ _)
   | (with_reducible exact ih1 _ _ _ _ _ _ _ _ _ _)
   | (with_reducible exact field_digitsOf.mono _ _ _ _)
   | (with_reducible exact field_valueOf.mono _ _ _)
   | (with_reducible exact LeO.refl _)
   | (with_reducible exact LeO.none _)
   | (with_reducible refine LeO.ite ?_ ?_)
   | (with_reducible refine LeO.bind ?_ (fun _ => ?_))
   | exact ih0 _ _ _ _ _ _ _
   | exact ih1 _ _ _ _ _ _ _ _ _ _
   | exact field_digitsOf.mono _ _ _ _
   | exact field_valueOf.mono _ _ _
   | exact LeO.none _
   | refine LeO.ite ?_ ?_
   | refine LeO.bind ?_ (fun _ => ?_)
def field_multiply.T1 : Bool × List (List Nat × List Nat) := (true, [([], []), ([], []), ([1], [1]), ([], []), ([3], [3]), ([0, 2, 4], [0, 2, 4]), ([], []), ([], []), ([7], [7]), ([], []), ([9], [9]), ([6, 8, 10, 5], [6, 8, 10]), ([5, 11, 0, 1, 2, 3, 4, 5], [5]), ([11, 12, 0, 1, 2, 3, 4, 5, 6, 7, 8, 9, 10, 11, 12], [11])])
def field_multiply.B1 : List Nat := [0, 0, 2, 0, 8, 31, 0, 0, 128, 0, 512, 2047, 4095, 8191]
theorem field_multiply.tab1 : rtab .any (opsOf Try.f92 1) = field_multiply.T1 := by kernel_rfl
theorem field_multiply.bits1 : waitsOk field_multiply.T1.2 field_multiply.B1 = true := by kernel_rfl
def field_multiply.T7 : Bool × List (List Nat × List Nat) := (true, [([], []), ([0], [0]), ([], []), ([], []), ([3], [3]), ([4], [4]), ([2, 5], [2, 5]), ([1, 6], [1, 6])])
def field_multiply.B7 : List Nat := [0, 1, 0, 0, 8, 24, 60, 127]
theorem field_multiply.tab7 : rtab .any (opsOf Try.f92 7) = field_multiply.T7 := by kernel_rfl
theorem field_multiply.bits7 : waitsOk field_multiply.T7.2 field_multiply.B7 = true := by kernel_rfl
def field_multiply.T15 : Bool × List (List Nat × List Nat) := (true, [([], []), ([], []), ([], []), ([], []), ([2, 3], [2, 3]), ([4], [4]), ([], []), ([6], [6]), ([], []), ([7, 8], [7, 8]), ([], []), ([9, 10], [9, 10]), ([5, 11], [5, 11]), ([], []), ([], []), ([13, 14], [13, 14]), ([15], [15]), ([], []), ([], []), ([17, 18], [17, 18]), ([19], [19]), ([16, 20], [16, 20]), ([12, 21], [12, 21]), ([], []), ([23], [23]), ([22, 24], [22, 24]), ([0, 1, 0, 1, 2, 3, 4, 5, 6, 7, 8, 9, 10, 11, 12, 13, 14, 15, 16, 17, 18, 19, 20, 21, 22, 23, 24, 25], [0, 1]), ([26, 25, 0, 1, 2, 3, 4, 5, 6, 7, 8, 9, 10, 11, 12, 13, 14, 15, 16, 17, 18, 19, 20, 21, 22, 23, 24, 25], [25, 26])])
def field_multiply.B15 : List Nat := [0, 0, 0, 0, 12, 28, 0, 64, 0, 448, 0, 1984, 4092, 0, 0, 24576, 57344, 0, 0, 393216, 917504, 2088960, 4194300, 0, 8388608, 33554428, 67108863, 134217727]
theorem field_multiply.tab15 : rtab .any (opsOf Try.f92 15) = field_multiply.T15 := by kernel_rfl
theorem field_multiply.bits15 : waitsOk field_multiply.T15.2 field_multiply.B15 = true := by kernel_rfl
set_option maxHeartbeats 8000000 in
set_option maxRecDepth 100000 in
theorem field_multiply.calls (k : Nat) (a0_0 : Int) (a0_1 : Int) (A0_2 : Option Addr) (c0_2 : Nat) (l0_2 : List Int) (a1 : Int) (a2 : Int) (r : Int) (w : World) (hr0_2 : Kd.C (Kd.int .i64) w A0_2 l0_2.length l0_2) (hc0_2 : l0_2.length ≤ c0_2) (h : field_multiply.f k a0_0 a0_1 l0_2 a1 a2 = some r) :
  Calls Try.prog 92 #[.agg #[.int .i64 a0_0, .int .i64 a0_1, .slice A0_2 l0_2.length c0_2], .int .i64 a1, .int .i64 a2] w fun e w' => e = .returned (.int .i64 r) ∧ Below w.heap.size w w' := by
 have hu36 := Try.underlying36
 have HR0_2 := Aside0.mk hr0_2
 have HC0_2 := Aside0.mk hc0_2
 clear hr0_2 hc0_2
 have HB := Aside0.mk (Below.refl w.heap.size w)
 have H : ((field_digitsOf.f k a1 a0_0 a0_1).bind fun t111 => ((field_digitsOf.f k a2 a0_0 a0_1).bind fun t114 => (if 0 ≤ a0_1 then (if (a0_1 : Int).toNat ≤ 35184372088832 then (field_multiply.l0 k t111 t114 (List.replicate (a0_1 : Int).toNat 0) (wrap64 (a0_1 - 1)) a0_0 a0_1 l0_2) else (none)) else (none)))) = some r := h
 clear h
 replace H := Option.bind_eq_some_iff.mp H
 obtain ⟨t111, A40, H⟩ := H
 replace H : ((field_digitsOf.f k a2 a0_0 a0_1).bind fun t114 => (if 0 ≤ a0_1 then (if (a0_1 : Int).toNat ≤ 35184372088832 then (field_multiply.l0 k t111 t114 (List.replicate (a0_1 : Int).toNat 0) (wrap64 (a0_1 - 1)) a0_0 a0_1 l0_2) else (none)) else (none))) = some r := H
 have A4 := Aside0.mk A40
 clear A40
 replace H := Option.bind_eq_some_iff.mp H
 obtain ⟨t114, A50, H⟩ := H
 replace H : (if 0 ≤ a0_1 then (if (a0_1 : Int).toNat ≤ 35184372088832 then (field_multiply.l0 k t111 t114 (List.replicate (a0_1 : Int).toNat 0) (wrap64 (a0_1 - 1)) a0_0 a0_1 l0_2) else (none)) else (none)) = some r := H
 have A5 := Aside0.mk A50
 clear A50
 by_cases c6 : 0 ≤ a0_1
 ·rw [if_pos c6] at H
  have c6b0 := eq_true c6
  have c6b1 : decide (0 ≤ a0_1) = true := decide_eq_true c6
  clear c6
  by_cases c7 : (a0_1 : Int).toNat ≤ 35184372088832
  ·rw [if_pos c7] at H
   have c7b0 := eq_true c7
   have c7b1 : decide ((a0_1 : Int).toNat ≤ 35184372088832) = true := decide_eq_true c7
   clear c7
   obtain ⟨y117, hy117⟩ : ∃ y_ : List Int, y_ = (List.replicate (a0_1 : Int).toNat 0) := ⟨_, rfl⟩
   replace H : (field_multiply.l0 k t111 t114 y117 (wrap64 (a0_1 - 1)) a0_0 a0_1 l0_2) = some r := by first | (rw [hy117]; with_reducible exact H) | (have H2_ := (Option.bind_some _ _).symm.trans H; rw [hy117]; with_reducible exact H2_) | (have H2_ := (Option.bind_some _ _).symm.trans H; with_reducible exact H2_) | with_reducible exact H | (rw [hy117]; exact H) | exact H
   have Ny117 := Aside0.mk hy117
   clear hy117
   have H' := Aside0.mk H
   clear H
   go_enter Try.func92, Try.ntmps92
   try go_wp2_with (first | ((with_reducible refine gate_dst (N := 3) rfl ?_); refine box_event ?hg (N := 3) ?hd (cs := #[.int .i64 a0_0, .int .i64 a0_1, .slice A0_2 l0_2.length c0_2]) (t := 36) ?hr ?_; (case hd => rfl); (case hg => rfl); (case hr => first | (go_simp; done) | (go_simp; rfl)); intro gb110 hg w8 hbox hb; have n0_ := Aside0.mk (below_step (by repeat (first | (with_reducible first | exact HB.out | apply below_alloc | apply pw_below_drewN | apply below_drew1) | exact HB.out)) hb); have n1_ := Aside0.mk (hbox); have n2_ := Aside0.mk ((by rw [hg]; exact (below_size (by repeat (first | (with_reducible first | exact HB.out | apply below_alloc | apply pw_below_drewN | apply below_drew1) | exact HB.out))) : w.heap.size ≤ gb110)); have n3_ := Aside0.mk ((by rw [hg]; exact (below_size (by repeat (first | (with_reducible first | exact HB.out | apply below_alloc | apply pw_below_drewN | apply below_drew1) | exact HB.out))) : w.heap.size ≤ gb110)); clear HB; have HB := n0_; have BK110 := n1_; have GW110 := n2_; have GE110 := n3_; clear n0_ n1_ n2_ n3_; clear hb hbox hg))
   have n0_ := Aside0.mk (blk_drew BK110.out)
   have n1_ := Aside0.mk (below_drew1 HB.out)
   clear BK110
   clear HB
   have BK110 := n0_
   have HB := n1_
   clear n0_ n1_
   refine start_ (n := 14) (S := fun w' => w'.cell? ⟨gb110, 0, none⟩ = some (.int .i64 a0_0) ∧ w'.cell? ⟨gb110, 1, none⟩ = some (.int .i64 a0_1) ∧ w'.cell? ⟨gb110, 2, none⟩ = some (.slice A0_2 l0_2.length c0_2)) (ds := []) #[false, false, false, false, false, false, false, false, false, false, false, false, false, false] (by kernel_rfl) rfl rfl ⟨(blk_cell BK110.out 0).trans rfl, (blk_cell BK110.out 1).trans rfl, (blk_cell BK110.out 2).trans rfl⟩ (fun hHeld => ?_); refine with_tabW field_multiply.tab1 field_multiply.bits1 (fun HT_ HW_ => ?_)
   generalize w8.drew = w9 at BK110 HB hHeld ⊢
   refine pure_ (i := 0) (N := some 14) (v := ?_) (a' := ?_) #[true, false, false, false, false, false, false, false, false, false, false, false, false, false] rfl rfl (any_of HT_.out (by kernel_rfl)) (fun _ _ _ h => h) (Or.inl ⟨by rfl, ?_⟩) ?_ ?_
   rotate_left
   ·intro w'
    go_simp
    with_reducible rfl
   rotate_left
   ·simp only [Act.put, List.setIfInBounds_toArray, List.set_cons_zero, List.set_cons_succ, i64_w, i32_w]
    rfl
   refine pure_ (i := 1) (N := some 15) (v := ?_) (a' := ?_) #[true, true, false, false, false, false, false, false, false, false, false, false, false, false] rfl rfl (any_of HT_.out (by kernel_rfl)) (fun _ _ _ h => h) (Or.inl ⟨by rfl, ?_⟩) ?_ ?_
   rotate_left
   ·intro w'
    go_simp
    with_reducible rfl
   rotate_left
   ·simp only [Act.put, List.setIfInBounds_toArray, List.set_cons_zero, List.set_cons_succ, i64_w, i32_w]
    rfl
   refine pure_ (i := 3) (N := some 17) (v := ?_) (a' := ?_) #[true, true, false, true, false, false, false, false, false, false, false, false, false, false] rfl rfl (any_of HT_.out (by kernel_rfl)) (fun _ _ _ h => h) (Or.inl ⟨by rfl, ?_⟩) ?_ ?_
   rotate_left
   ·intro w'
    go_simp
    with_reducible rfl
   rotate_left
   ·simp only [Act.put, List.setIfInBounds_toArray, List.set_cons_zero, List.set_cons_succ, i64_w, i32_w]
    rfl
   refine pure_ (i := 6) (N := some 20) (v := ?_) (a' := ?_) #[true, true, false, true, false, false, true, false, false, false, false, false, false, false] rfl rfl (any_of HT_.out (by kernel_rfl)) (fun _ _ _ h => h) (Or.inl ⟨by rfl, ?_⟩) ?_ ?_
   rotate_left
   ·intro w'
    go_simp
    with_reducible rfl
   rotate_left
   ·simp only [Act.put, List.setIfInBounds_toArray, List.set_cons_zero, List.set_cons_succ, i64_w, i32_w]
    rfl
   refine pure_ (i := 7) (N := some 21) (v := ?_) (a' := ?_) #[true, true, false, true, false, false, true, true, false, false, false, false, false, false] rfl rfl (any_of HT_.out (by kernel_rfl)) (fun _ _ _ h => h) (Or.inl ⟨by rfl, ?_⟩) ?_ ?_
   rotate_left
   ·intro w'
    go_simp
    with_reducible rfl
   rotate_left
   ·simp only [Act.put, List.setIfInBounds_toArray, List.set_cons_zero, List.set_cons_succ, i64_w, i32_w]
    rfl
   refine pure_ (i := 9) (N := some 23) (v := ?_) (a' := ?_) #[true, true, false, true, false, false, true, true, false, true, false, false, false, false] rfl rfl (any_of HT_.out (by kernel_rfl)) (fun _ _ _ h => h) (Or.inl ⟨by rfl, ?_⟩) ?_ ?_
   rotate_left
   ·intro w'
    go_simp
    with_reducible rfl
   rotate_left
   ·simp only [Act.put, List.setIfInBounds_toArray, List.set_cons_zero, List.set_cons_succ, i64_w, i32_w]
    rfl
   refine take_ (i := 2) (N := some 16) (v := ?_) (a' := ?_) #[true, true, true, true, false, false, true, true, false, true, false, false, false, false] rfl rfl (take_ofW HT_.out HW_.out (by kernel_rfl)) (fun _ _ _ h => h) (Or.inl ⟨by rfl, ?_⟩) hHeld ?_ ?_
   rotate_left
   ·rintro w' ⟨s0, s1, s2⟩
    go_simp
    with_reducible rfl
   rotate_left
   ·simp only [Act.put, List.setIfInBounds_toArray, List.set_cons_zero, List.set_cons_succ, i64_w, i32_w]
    rfl
   refine take_ (i := 4) (N := some 18) (v := ?_) (a' := ?_) #[true, true, true, true, true, false, true, true, false, true, false, false, false, false] rfl rfl (take_ofW HT_.out HW_.out (by kernel_rfl)) (fun _ _ _ h => h) (Or.inl ⟨by rfl, ?_⟩) hHeld ?_ ?_
   rotate_left
   ·rintro w' ⟨s0, s1, s2⟩
    go_simp
    with_reducible rfl
   rotate_left
   ·simp only [Act.put, List.setIfInBounds_toArray, List.set_cons_zero, List.set_cons_succ, i64_w, i32_w]
    rfl
   refine take_ (i := 8) (N := some 22) (v := ?_) (a' := ?_) #[true, true, true, true, true, false, true, true, true, true, false, false, false, false] rfl rfl (take_ofW HT_.out HW_.out (by kernel_rfl)) (fun _ _ _ h => h) (Or.inl ⟨by rfl, ?_⟩) hHeld ?_ ?_
   rotate_left
   ·rintro w' ⟨s0, s1, s2⟩
    go_simp
    with_reducible rfl
   rotate_left
   ·simp only [Act.put, List.setIfInBounds_toArray, List.set_cons_zero, List.set_cons_succ, i64_w, i32_w]
    rfl
   refine take_ (i := 10) (N := some 24) (v := ?_) (a' := ?_) #[true, true, true, true, true, false, true, true, true, true, true, false, false, false] rfl rfl (take_ofW HT_.out HW_.out (by kernel_rfl)) (fun _ _ _ h => h) (Or.inl ⟨by rfl, ?_⟩) hHeld ?_ ?_
   rotate_left
   ·rintro w' ⟨s0, s1, s2⟩
    go_simp
    with_reducible rfl
   rotate_left
   ·simp only [Act.put, List.setIfInBounds_toArray, List.set_cons_zero, List.set_cons_succ, i64_w, i32_w]
    rfl
   refine one_ (i := 5) (N := some 19) #[true, true, true, true, true, true, true, true, true, true, true, false, false, false] rfl rfl (one_of HT_.out (by kernel_rfl)) (by decide) (fun K hK => ?_)
   refine goes_ Try.func122 (by kernel_rfl) rfl #[.int .i64 a1, .int .i64 a0_0, .int .i64 a0_1] (by rfl) rfl rfl (by (try simp only [List.map_toArray, List.map_cons, List.map_nil]); first | done | rfl | (simp only [List.length_drop, List.length_take]; rfl)) ?_
   with_reducible refine (field_digitsOf.calls k a1 a0_0 a0_1 t111 _ A4.out).mono ?_
   rintro e w10 ⟨v112, rfl, ho0, hb⟩
   refine ⟨_, rfl, ?_⟩
   have n0_ := Aside0.mk (Kd.R_lower ho0 (below_size (by repeat (first | (with_reducible first | exact HB.out | apply below_alloc | apply pw_below_drewN | apply below_drew1 | refine below_set ?_ GE110.out) | exact HB.out))))
   have n1_ := Aside0.mk (blk_below (g := gb110) (o := .cells #[.int .i64 a0_0, .int .i64 a0_1, .slice A0_2 l0_2.length c0_2] 36 (0, 0)) (by (with_reducible repeat (first | refine blk_drewN ?_ _ | refine blk_drew ?_ | refine blk_alloc ?_ _)); exact BK110.out) hb)
   have n2_ := Aside0.mk (below_step (by repeat (first | (with_reducible first | exact HB.out | apply below_alloc | apply pw_below_drewN | apply below_drew1 | refine below_set ?_ GE110.out) | exact HB.out)) hb)
   clear BK110
   clear HB
   have HO113 := n0_
   have BK110 := n1_
   have HB := n2_
   clear n0_ n1_ n2_
   (try clear hb)
   (try clear hb2)
   (try clear hk)
   (try clear hi)
   (try clear ho0)
   refine hK.out _ _ ⟨(blk_cell BK110.out 0).trans rfl, (blk_cell BK110.out 1).trans rfl, (blk_cell BK110.out 2).trans rfl⟩ (fun hHeld => ?_)
   clear hK K
   refine norm_ (a' := ?_) ?_ ?_
   rotate_left
   ·show Act.put _ (some 19) _ = _
    simp only [Act.put, List.setIfInBounds_toArray, List.set_cons_zero, List.set_cons_succ, i64_w, i32_w]
    rfl
   refine one_ (i := 11) (N := some 25) #[true, true, true, true, true, true, true, true, true, true, true, true, false, false] rfl rfl (one_of HT_.out (by kernel_rfl)) (by decide) (fun K hK => ?_)
   refine goes_ Try.func122 (by kernel_rfl) rfl #[.int .i64 a2, .int .i64 a0_0, .int .i64 a0_1] (by rfl) rfl rfl (by (try simp only [List.map_toArray, List.map_cons, List.map_nil]); first | done | rfl | (simp only [List.length_drop, List.length_take]; rfl)) ?_
   with_reducible refine (field_digitsOf.calls k a2 a0_0 a0_1 t114 _ A5.out).mono ?_
   rintro e w11 ⟨v115, rfl, ho0, hb⟩
   refine ⟨_, rfl, ?_⟩
   have n0_ := Aside0.mk (Kd.R_elder' (by (with_reducible repeat (first | apply Kd.R_alloc | apply Kd.R_drewN | apply Kd.R_drew)); exact HO113.out) (Kd.R_base ho0) hb)
   have n1_ := Aside0.mk (Kd.R_lower (Kd.R_new' ho0 (Kd.R_lt (by (with_reducible repeat (first | apply Kd.R_alloc | apply Kd.R_drewN | apply Kd.R_drew)); exact HO113.out))) (below_size (by repeat (first | (with_reducible first | exact HB.out | apply below_alloc | apply pw_below_drewN | apply below_drew1 | refine below_set ?_ GE110.out) | exact HB.out))))
   have n2_ := Aside0.mk (blk_below (g := gb110) (o := .cells #[.int .i64 a0_0, .int .i64 a0_1, .slice A0_2 l0_2.length c0_2] 36 (0, 0)) (by (with_reducible repeat (first | refine blk_drewN ?_ _ | refine blk_drew ?_ | refine blk_alloc ?_ _)); exact BK110.out) hb)
   have n3_ := Aside0.mk (below_step (by repeat (first | (with_reducible first | exact HB.out | apply below_alloc | apply pw_below_drewN | apply below_drew1 | refine below_set ?_ GE110.out) | exact HB.out)) hb)
   clear HO113
   clear BK110
   clear HB
   have HO113 := n0_
   have HO116 := n1_
   have BK110 := n2_
   have HB := n3_
   clear n0_ n1_ n2_ n3_
   (try clear hb)
   (try clear hb2)
   (try clear hk)
   (try clear hi)
   (try clear ho0)
   refine hK.out _ _ ⟨(blk_cell BK110.out 0).trans rfl, (blk_cell BK110.out 1).trans rfl, (blk_cell BK110.out 2).trans rfl⟩ (fun hHeld => ?_)
   clear hK K
   refine norm_ (a' := ?_) ?_ ?_
   rotate_left
   ·show Act.put _ (some 25) _ = _
    simp only [Act.put, List.setIfInBounds_toArray, List.set_cons_zero, List.set_cons_succ, i64_w, i32_w]
    rfl
   refine pure_ (i := 12) (N := some 7) (v := ?_) (a' := ?_) #[true, true, true, true, true, true, true, true, true, true, true, true, true, false] rfl rfl (any_of HT_.out (by kernel_rfl)) (fun _ _ _ h => h) (Or.inl ⟨by rfl, ?_⟩) ?_ ?_
   rotate_left
   ·intro w'
    go_simp
    with_reducible rfl
   rotate_left
   ·simp only [Act.put, List.setIfInBounds_toArray, List.set_cons_zero, List.set_cons_succ, i64_w, i32_w]
    rfl
   refine pure_ (i := 13) (N := some 8) (v := ?_) (a' := ?_) #[true, true, true, true, true, true, true, true, true, true, true, true, true, true] rfl rfl (any_of HT_.out (by kernel_rfl)) (fun _ _ _ h => h) (Or.inl ⟨by rfl, ?_⟩) ?_ ?_
   rotate_left
   ·intro w'
    go_simp
    with_reducible rfl
   rotate_left
   ·simp only [Act.put, List.setIfInBounds_toArray, List.set_cons_zero, List.set_cons_succ, i64_w, i32_w]
    rfl
   refine done_ (done_of HT_.out (by kernel_rfl)) ?_
   have hcz12_0 : w11.cell? ⟨gb110, 0, none⟩ = some (.int .i64 a0_0) := (blk_cell BK110.out 0).trans rfl
   have hcz12_1 : w11.cell? ⟨gb110, 1, none⟩ = some (.int .i64 a0_1) := (blk_cell BK110.out 1).trans rfl
   have hcz12_2 : w11.cell? ⟨gb110, 2, none⟩ = some (.slice A0_2 l0_2.length c0_2) := (blk_cell BK110.out 2).trans rfl
   have hfz12_0 := blk_frozen BK110.out 0
   have hfz12_1 := blk_frozen BK110.out 1
   have hfz12_2 := blk_frozen BK110.out 2
   try go_wp2_with (first | ((with_reducible refine gate_dst (N := 28) rfl ?_); refine Kd.R_make (Kd.int .i64) _ 3 rfl (N := 28) rfl 22 _ _ rfl a0_1 rfl rfl Try.underlying22 (.int .i64 0) 8 info3 rfl (by decide) (by omega) 0 (ok := fun _ => True) (okp := fun _ => True) rfl (fun _ hk => hk) trivial (of_decide_eq_true (by first | (with_reducible assumption) | assumption)) (Nat.le_trans (Nat.mul_le_mul_right _ (of_decide_eq_true (by first | (with_reducible assumption) | assumption) : a0_1.toNat ≤ 35184372088832)) (by omega)) (Below.refl _ _) (Nat.le_refl _) ?_; intro v118 w13 ho14 hb hg_ hnew_; clear hg_ hnew_; (first | rw [← Ny117.out] at ho14 | (simp only [Int.reduceToNat] at ho14; rw [← Ny117.out] at ho14)); have n0_ := Aside0.mk (Kd.R_elder' (by (with_reducible repeat (first | apply Kd.R_alloc | apply Kd.R_drewN | apply Kd.R_drew)); exact HO113.out) (Kd.R_base ho14) hb); have n1_ := Aside0.mk (Kd.R_elder' (by (with_reducible repeat (first | apply Kd.R_alloc | apply Kd.R_drewN | apply Kd.R_drew)); exact HO116.out) (Kd.R_base ho14) hb); have n2_ := Aside0.mk (Kd.R_lower (Kd.R_new' (Kd.R_new' ho14 (Kd.R_lt (by (with_reducible repeat (first | apply Kd.R_alloc | apply Kd.R_drewN | apply Kd.R_drew)); exact HO113.out))) (Kd.R_lt (by (with_reducible repeat (first | apply Kd.R_alloc | apply Kd.R_drewN | apply Kd.R_drew)); exact HO116.out))) (below_size (by repeat (first | (with_reducible first | exact HB.out | apply below_alloc | apply pw_below_drewN | apply below_drew1 | refine below_set ?_ GE110.out) | exact HB.out)))); have n3_ := Aside0.mk (blk_below (g := gb110) (o := .cells #[.int .i64 a0_0, .int .i64 a0_1, .slice A0_2 l0_2.length c0_2] 36 (0, 0)) (by (with_reducible repeat (first | refine blk_drewN ?_ _ | refine blk_drew ?_ | refine blk_alloc ?_ _)); exact BK110.out) hb); have n4_ := Aside0.mk (below_step (by repeat (first | (with_reducible first | exact HB.out | apply below_alloc | apply pw_below_drewN | apply below_drew1 | refine below_set ?_ GE110.out) | exact HB.out)) hb); clear HO113; clear HO116; clear BK110; clear HB; have HO113 := n0_; have HO116 := n1_; have HO119 := n2_; have BK110 := n3_; have HB := n4_; clear n0_ n1_ n2_ n3_ n4_; clear hb ho14; have hcz15_0 : w13.cell? ⟨gb110, 0, none⟩ = some (.int .i64 a0_0) := (blk_cell BK110.out 0).trans rfl; have hcz15_1 : w13.cell? ⟨gb110, 1, none⟩ = some (.int .i64 a0_1) := (blk_cell BK110.out 1).trans rfl; have hcz15_2 : w13.cell? ⟨gb110, 2, none⟩ = some (.slice A0_2 l0_2.length c0_2) := (blk_cell BK110.out 2).trans rfl; have hfz15_0 := blk_frozen BK110.out 0; have hfz15_1 := blk_frozen BK110.out 1; have hfz15_2 := blk_frozen BK110.out 2))
   go_loopg [10] k (fun kq v10 w' => ∃ (x9_1 : List Int) (x10_1 : Int), v10 = .int .i64 x10_1 ∧ Aside0 (field_multiply.l0 kq t111 t114 x9_1 x10_1 a0_0 a0_1 l0_2 = some r) ∧ Aside0 (kq ≤ k) ∧ Aside0 (Kd.R (Kd.int .i64) 3 w' w.heap.size (fun k_ => some k_ ≠ (v115 : Value).ownBlock ∧ some k_ ≠ (v118 : Value).ownBlock) v112 t111) ∧ Aside0 (Kd.R (Kd.int .i64) 3 w' w.heap.size (fun k_ => some k_ ≠ (v112 : Value).ownBlock ∧ some k_ ≠ (v118 : Value).ownBlock) v115 t114) ∧ Aside0 (Kd.R (Kd.int .i64) 3 w' w.heap.size (fun k_ => some k_ ≠ (v112 : Value).ownBlock ∧ some k_ ≠ (v115 : Value).ownBlock) v118 x9_1) ∧ Aside0 (w'.heap[gb110]? = some (.cells #[.int .i64 a0_0, .int .i64 a0_1, (.slice A0_2 l0_2.length c0_2)] 36 (0, 0))) ∧ Aside0 (Below w.heap.size w w'))
   case atStart => exact ⟨(y117), (wrap64 (a0_1 - 1)), (by first | rfl | (simp; done) | (simp [*]; done)), H', ⟨Nat.le_refl _⟩, ⟨by (with_reducible repeat (first | apply Kd.R_alloc | apply Kd.R_drewN | apply Kd.R_drew)); exact Kd.R_mono HO113.out (fun _ hk => ⟨hk.1.2, hk.2⟩)⟩, ⟨by (with_reducible repeat (first | apply Kd.R_alloc | apply Kd.R_drewN | apply Kd.R_drew)); exact Kd.R_mono HO116.out (fun _ hk => ⟨hk.1.2, hk.2⟩)⟩, ⟨by (with_reducible repeat (first | apply Kd.R_alloc | apply Kd.R_drewN | apply Kd.R_drew)); exact Kd.R_mono HO119.out (fun _ hk => ⟨hk.1.2, hk.2⟩)⟩, ⟨by (with_reducible repeat (first | refine blk_drewN ?_ _ | refine blk_drew ?_ | refine blk_alloc ?_ _)); exact BK110.out⟩, ⟨by repeat (first | (with_reducible first | exact HB.out | apply below_alloc | apply pw_below_drewN | apply below_drew1 | refine below_set ?_ GE110.out) | exact HB.out)⟩⟩
   case round =>
    clear H'
    try clear c1
    try clear p2
    try clear c6
    try clear c6b0
    try clear c6b1
    try clear p6
    try clear c7
    try clear c7b0
    try clear c7b1
    try clear c9
    try clear c12
    try clear hcz12_0
    try clear hcz12_1
    try clear hcz12_2
    try clear hcz15_0
    try clear hcz15_1
    try clear hcz15_2
    try clear hfz12_0
    try clear hfz12_1
    try clear hfz12_2
    try clear hfz15_0
    try clear hfz15_1
    try clear hfz15_2
    obtain ⟨x9_1, x10_1, rfl, HA, HK1, HO_7, HO_8, HO_9, BK110, HB⟩ := hrel
    cases gk with
    | zero => exact absurd HA.out (by simp [field_multiply.l0])
    | succ k1 =>
     have H := HA.out
     clear HA
     simp only [field_multiply.l0] at H
     by_cases c16 : x10_1 ≥ 0
     ·rw [if_pos c16] at H
      have c16b0 : decide (0 ≤ x10_1) = true := decide_eq_true c16
      clear c16
      obtain ⟨ji17, hji17⟩ : ∃ j_ : Int, (wrap64 (a0_1 - 1)) = j_ := ⟨_, rfl⟩
      replace H : (if 0 ≤ (ji17) then (if (ji17) < (x9_1.length : Int) then (if 1 ≤ (x9_1.length : Int) then (if (ji17) ≤ (x9_1.length : Int) then (if 0 < (x9_1.length : Int) then (field_multiply.l1 k1 t111 t114 ((My.shiftL (ji17 : Int).toNat x9_1).set (0 : Int).toNat 0) x10_1 (rd x9_1 (ji17)) (x9_1.length : Int) 0 a0_0 a0_1 l0_2) else (none)) else (none)) else (none)) else (none)) else (none)) = some r := by first | (rw [hji17] at H; exact H) | (simp only [hji17] at H ⊢; exact H)
      have hji17w : (IntKind.i64.wrap (a0_1 - 1)) = ji17 := (i64_w _).trans hji17
      by_cases c18 : 0 ≤ (ji17)
      ·rw [if_pos c18] at H
       have c18b0 : decide (0 ≤ (ji17)) = true := decide_eq_true c18
       clear c18
       by_cases c19 : (ji17) < (x9_1.length : Int)
       ·rw [if_pos c19] at H
        have c19b0 : decide ((ji17) < (x9_1.length : Int)) = true := decide_eq_true c19
        clear c19
        by_cases c20 : 1 ≤ (x9_1.length : Int)
        ·rw [if_pos c20] at H
         have c20b0 := eq_true c20
         have c20b1 : decide (1 ≤ (x9_1.length : Int)) = true := decide_eq_true c20
         clear c20
         obtain ⟨y122, hy122⟩ : ∃ y_ : List Int, y_ = (x9_1.drop 1) := ⟨_, rfl⟩
         replace H : (if (ji17) ≤ (x9_1.length : Int) then (if 0 < (x9_1.length : Int) then (field_multiply.l1 k1 t111 t114 ((My.shiftL (ji17 : Int).toNat x9_1).set (0 : Int).toNat 0) x10_1 (rd x9_1 (ji17)) (x9_1.length : Int) 0 a0_0 a0_1 l0_2) else (none)) else (none)) = some r := by first | (rw [hy122]; with_reducible exact H) | (have H2_ := (Option.bind_some _ _).symm.trans H; rw [hy122]; with_reducible exact H2_) | (have H2_ := (Option.bind_some _ _).symm.trans H; with_reducible exact H2_) | with_reducible exact H | (rw [hy122]; exact H) | exact H
         have Ny122 := Aside0.mk hy122
         clear hy122
         have c21b0 := eq_true (of_decide_eq_true (by first | (with_reducible assumption) | assumption) : 0 ≤ (ji17))
         by_cases c22 : (ji17) ≤ (x9_1.length : Int)
         ·rw [if_pos c22] at H
          have c22b0 := eq_true c22
          have c22b1 : decide ((ji17) ≤ (x9_1.length : Int)) = true := decide_eq_true c22
          clear c22
          obtain ⟨y126, hy126⟩ : ∃ y_ : List Int, y_ = (x9_1.take ((ji17) : Int).toNat) := ⟨_, rfl⟩
          replace H : (if 0 < (x9_1.length : Int) then (field_multiply.l1 k1 t111 t114 ((My.shiftL (ji17 : Int).toNat x9_1).set (0 : Int).toNat 0) x10_1 (rd x9_1 (ji17)) (x9_1.length : Int) 0 a0_0 a0_1 l0_2) else (none)) = some r := by first | (rw [hy126]; with_reducible exact H) | (have H2_ := (Option.bind_some _ _).symm.trans H; rw [hy126]; with_reducible exact H2_) | (have H2_ := (Option.bind_some _ _).symm.trans H; with_reducible exact H2_) | with_reducible exact H | (rw [hy126]; exact H) | exact H
          have Ny126 := Aside0.mk hy126
          clear hy126
          by_cases c23 : 0 < (x9_1.length : Int)
          ·rw [if_pos c23] at H
           have c23b0 : decide (0 < (x9_1.length : Int)) = true := decide_eq_true c23
           have c23b1 : decide (0 < x9_1.length) = true := decide_eq_true (by omega)
           clear c23
           obtain ⟨y130, hy130⟩ : ∃ y_ : List Int, y_ = ((My.shiftL (ji17 : Int).toNat x9_1).set (0 : Int).toNat 0) := ⟨_, rfl⟩
           replace H : (field_multiply.l1 k1 t111 t114 y130 x10_1 (rd x9_1 (ji17)) (x9_1.length : Int) 0 a0_0 a0_1 l0_2) = some r := by first | (rw [hy130]; with_reducible exact H) | (have H2_ := (Option.bind_some _ _).symm.trans H; rw [hy130]; with_reducible exact H2_) | (have H2_ := (Option.bind_some _ _).symm.trans H; with_reducible exact H2_) | with_reducible exact H | (rw [hy130]; exact H) | exact H
           have Ny130 := Aside0.mk hy130
           clear hy130
           have H' := Aside0.mk H
           clear H
           have hcz25_0 : wr.cell? ⟨gb110, 0, none⟩ = some (.int .i64 a0_0) := (blk_cell BK110.out 0).trans rfl
           have hcz25_1 : wr.cell? ⟨gb110, 1, none⟩ = some (.int .i64 a0_1) := (blk_cell BK110.out 1).trans rfl
           have hcz25_2 : wr.cell? ⟨gb110, 2, none⟩ = some (.slice A0_2 l0_2.length c0_2) := (blk_cell BK110.out 2).trans rfl
           have hfz25_0 := blk_frozen BK110.out 0
           have hfz25_1 := blk_frozen BK110.out 1
           have hfz25_2 := blk_frozen BK110.out 2
           obtain ⟨Ao26, co26, eo26⟩ := Kd.R_slice HO_9.out
           subst eo26
           have p121 : 0 ≤ ((ji17) : Int) := of_decide_eq_true (by first | (with_reducible assumption) | assumption)
           have q121 : (ji17) < (x9_1.length : Int) := of_decide_eq_true (by first | (with_reducible assumption) | assumption)
           obtain ⟨ad121, e121, hx121_0⟩ := Kd.at_int (Kd.R_reads' HO_9.out).2.2 (ji17) p121 q121
           cases e121
           replace p121 := eq_true p121
           replace q121 := eq_true q121
           try go_wp2
           have n0_ := Aside0.mk (Kd.R_drew HO_7.out)
           have n1_ := Aside0.mk (Kd.R_drew HO_8.out)
           have n2_ := Aside0.mk (Kd.R_drew HO_9.out)
           have n3_ := Aside0.mk (blk_drew BK110.out)
           have n4_ := Aside0.mk (below_drew1 HB.out)
           clear HO_7
           clear HO_8
           clear HO_9
           clear BK110
           clear HB
           have HO_7 := n0_
           have HO_8 := n1_
           have HO_9 := n2_
           have BK110 := n3_
           have HB := n4_
           clear n0_ n1_ n2_ n3_ n4_
           have q24x : (0 : Int) < (x9_1.length : Int) := of_decide_eq_true (by first | (with_reducible assumption) | assumption)
           obtain ⟨go24, co24, eo24, gb24, gl24, cl24, HG24⟩ := Kd.R_form HO_9.out (by omega)
           (first | cases eo24 | (injection eo24 with ea_ en_ ec_; (first | subst ea_ | (injection ea_ with ea_; subst ea_)); subst ec_; clear en_))
           have GB24 := Aside0.mk gb24
           have GG24 := Aside0.mk HG24
           clear gb24 gl24 HG24
           (first | simp only [add_plain] at hx121_0 | skip)
           have q28 : (1 : Int) ≤ ((x9_1.length : Int) : Int) := of_decide_eq_true (by first | (with_reducible assumption) | assumption)
           obtain ⟨i028, hi028, _, hsz28, _⟩ := info_parts info3
           have hroom28 : x9_1.length ≤ co26 := (Kd.R_reads' HO_9.out).2.1
           have hC28 : Kd.C (Kd.int .i64) _ (some (⟨go24, 0, none⟩ : Addr)) x9_1.length x9_1 := (Kd.R_reads' HO_9.out).2.2
           have hcut28 := cut_from (P := Try.prog) 22 3 .i64 Try.underlying22 hi028 1 hsz28 (some (⟨go24, 0, none⟩ : Addr)) x9_1.length co26 1 (by omega) q28
           have hr28 := Kd.C_drop (m := (1 : Int).toNat) (c := co26) hC28 (by omega) hroom28
           obtain ⟨A28, hA28⟩ : ∃ A1, A1 = (if co26 = (1 : Int).toNat then (some (⟨go24, 0, none⟩ : Addr)) else ((some (⟨go24, 0, none⟩ : Addr)) : Option Addr).map (·.add ((1 : Int).toNat * 1))) := ⟨_, rfl⟩
           obtain ⟨c28, hc28⟩ : ∃ c1, c1 = co26 - (1 : Int).toNat := ⟨_, rfl⟩
           have hy28 : y122.length = x9_1.length - (1 : Int).toNat := (by rw [Ny122.out, List.length_drop] <;> omega)
           rw [show (x9_1).drop (1 : Int).toNat = y122 from Ny122.out.symm] at hr28
           replace hr28 : Kd.C (Kd.int .i64) _ A28 y122.length y122 := (by rw [hA28]; exact hr28)
           rw [← hy28, ← hA28, ← hc28] at hcut28
           have HR125 := Aside0.mk hr28
           have HC125 := Aside0.mk (show y122.length ≤ c28 from by rw [hy28, hc28]; exact Nat.sub_le_sub_right hroom28 _)
           clear hr28 hC28 hroom28 hi028 hsz28 hc28
           have KY28 := Aside0.mk hy28
           have KA28 := Aside0.mk hA28
           clear hy28 hA28
           have KL28 := Aside0.mk (show 1 ≤ x9_1.length from by omega)
           replace q28 := eq_true q28
           have q29 : ((ji17) : Int) ≤ ((x9_1.length : Int) : Int) := of_decide_eq_true (by first | (with_reducible assumption) | assumption)
           obtain ⟨i029, hi029, _, hsz29, _⟩ := info_parts info3
           have hroom29 : x9_1.length ≤ co26 := (Kd.R_reads' HO_9.out).2.1
           have hC29 : Kd.C (Kd.int .i64) _ (some (⟨go24, 0, none⟩ : Addr)) x9_1.length x9_1 := (Kd.R_reads' HO_9.out).2.2
           have hcut29 := cut_to (P := Try.prog) 22 3 .i64 Try.underlying22 hi029 (some (⟨go24, 0, none⟩ : Addr)) x9_1.length co26 (ji17) (of_decide_eq_true (by first | (with_reducible assumption) | assumption)) q29 hroom29
           have hr29 := Kd.C_take (m := ((ji17) : Int).toNat) hC29 (by omega)
           have hy29 : y126.length = ((ji17) : Int).toNat := (by rw [Ny126.out, List.length_take]; omega)
           rw [← Ny126.out] at hr29
           rw [← hy29] at hcut29
           have HR129 := Aside0.mk hr29
           have HC129 := Aside0.mk (show y126.length ≤ co26 from by omega)
           clear hr29 hC29 hroom29 hi029 hsz29
           have KY29 := Aside0.mk hy29
           clear hy29
           have KL29 := Aside0.mk (show ((ji17) : Int).toNat ≤ x9_1.length from by omega)
           replace q29 := eq_true q29
           refine start_ (n := 8) (S := fun w' => w'.cell? ⟨gb110, 0, none⟩ = some (.int .i64 a0_0) ∧ w'.cell? ⟨gb110, 1, none⟩ = some (.int .i64 a0_1) ∧ w'.cell? ⟨gb110, 2, none⟩ = some (.slice A0_2 l0_2.length c0_2)) (ds := [7]) #[false, false, false, false, false, false, false, false] (by kernel_rfl) rfl rfl ⟨(blk_cell BK110.out 0).trans rfl, (blk_cell BK110.out 1).trans rfl, (blk_cell BK110.out 2).trans rfl⟩ (fun hHeld => ?_); refine with_tabW field_multiply.tab7 field_multiply.bits7 (fun HT_ HW_ => ?_)
           generalize wr.drew = w27 at HO_7 HO_8 HO_9 BK110 HB HR125 HR129 hHeld ⊢
           refine pure_ (i := 0) (N := some 42) (v := ?_) (a' := ?_) #[true, false, false, false, false, false, false, false] rfl rfl (any_of HT_.out (by kernel_rfl)) (fun _ _ _ h => h) (Or.inl ⟨by rfl, ?_⟩) ?_ ?_
           rotate_left
           ·intro w'
            go_simp
            with_reducible rfl
           rotate_left
           ·simp only [Act.put, List.setIfInBounds_toArray, List.set_cons_zero, List.set_cons_succ, i64_w, i32_w]
            rfl
           refine pure_ (i := 1) (N := some 43) (v := ?_) (a' := ?_) #[true, true, false, false, false, false, false, false] rfl rfl (any_of HT_.out (by kernel_rfl)) (fun _ _ _ h => h) (Or.inl ⟨by rfl, ?_⟩) ?_ ?_
           rotate_left
           ·intro w'
            go_simp
            with_reducible rfl
           rotate_left
           ·simp only [Act.put, List.setIfInBounds_toArray, List.set_cons_zero, List.set_cons_succ, i64_w, i32_w]
            rfl
           refine pure_ (i := 2) (N := some 44) (v := ?_) (a' := ?_) #[true, true, true, false, false, false, false, false] rfl rfl (any_of HT_.out (by kernel_rfl)) (fun _ _ _ h => h) (Or.inl ⟨by rfl, ?_⟩) ?_ ?_
           rotate_left
           ·intro w'
            go_simp
            with_reducible rfl
           rotate_left
           ·simp only [Act.put, List.setIfInBounds_toArray, List.set_cons_zero, List.set_cons_succ, i64_w, i32_w]
            rfl
           refine pure_ (i := 3) (N := some 45) (v := ?_) (a' := ?_) #[true, true, true, true, false, false, false, false] rfl rfl (any_of HT_.out (by kernel_rfl)) (fun _ _ _ h => h) (Or.inl ⟨by rfl, ?_⟩) ?_ ?_
           rotate_left
           ·intro w'
            go_simp
            with_reducible rfl
           rotate_left
           ·simp only [Act.put, List.setIfInBounds_toArray, List.set_cons_zero, List.set_cons_succ, i64_w, i32_w]
            rfl
           refine take_ (i := 4) (N := some 46) (v := ?_) (a' := ?_) #[true, true, true, true, true, false, false, false] rfl rfl (take_ofW HT_.out HW_.out (by kernel_rfl)) (fun _ _ _ h => h) (Or.inl ⟨by rfl, ?_⟩) hHeld ?_ ?_
           rotate_left
           ·rintro w' ⟨s0, s1, s2⟩
            go_simp
            with_reducible rfl
           rotate_left
           ·simp only [Act.put, List.setIfInBounds_toArray, List.set_cons_zero, List.set_cons_succ, i64_w, i32_w]
            rfl
           refine pure_ (i := 5) (N := some 47) (v := ?_) (a' := ?_) #[true, true, true, true, true, true, false, false] rfl rfl (any_of HT_.out (by kernel_rfl)) (fun _ _ _ h => h) (Or.inl ⟨by rfl, ?_⟩) ?_ ?_
           rotate_left
           ·intro w'
            go_simp
            with_reducible rfl
           rotate_left
           ·simp only [Act.put, List.setIfInBounds_toArray, List.set_cons_zero, List.set_cons_succ, i64_w, i32_w]
            rfl
           refine pure_ (i := 6) (N := some 48) (v := ?_) (a' := ?_) #[true, true, true, true, true, true, true, false] rfl rfl (any_of HT_.out (by kernel_rfl)) (fun _ _ _ h => h) (Or.inl ⟨by rfl, ?_⟩) ?_ ?_
           rotate_left
           ·intro w'
            go_simp
            with_reducible rfl
           rotate_left
           ·simp only [Act.put, List.setIfInBounds_toArray, List.set_cons_zero, List.set_cons_succ, i64_w, i32_w]
            rfl
           refine last_ (i := 7) (N := some 49) #[true, true, true, true, true, true, true, true] rfl rfl (one_of HT_.out (by kernel_rfl)) (by decide) (fun K hK => ?_)
           have hlen_ : 0 < x9_1.length := by omega
           refine My.shift_step rfl (.tmp 43) (.tmp 48) 22 22 rfl 3 Try.underlying22 (by kernel_rfl) HO_9.out hlen_ (A := A28) (dLen := y122.length) (dCap := c28) (sLen := y126.length) KA28.out (by rw [KY28.out]; rfl) (by rw [KY29.out]; exact KL29.out) (Kd.R_reads' HO_9.out).2.1 rfl rfl ?_
           intro w28 hR28 hg28
           refine hK.out _ _ ?_
           clear hK K
           refine done_ (done_of HT_.out (by kernel_rfl)) ?_
           have n0_ := Aside0.mk (Kd.R_grown HO_7.out hg28 (fun k hk => by have := hk.2; simpa [Value.ownBlock] using this))
           have n1_ := Aside0.mk (Kd.R_grown HO_8.out hg28 (fun k hk => by have := hk.2; simpa [Value.ownBlock] using this))
           have n2_ := Aside0.mk (by rw [KY29.out] at hR28; exact hR28 : Kd.R (Kd.int .i64) 3 w28 w.heap.size (fun k_ => some k_ ≠ (v112 : Value).ownBlock ∧ some k_ ≠ (v115 : Value).ownBlock) (.slice (some ⟨go24, 0, none⟩) x9_1.length co26) (My.shiftL (ji17 : Int).toNat x9_1))
           have n3_ := Aside0.mk (blk_grown (g := gb110) (o := .cells #[.int .i64 a0_0, .int .i64 a0_1, .slice A0_2 l0_2.length c0_2] 36 (0, 0)) BK110.out hg28 (Kd.R_ne HO_9.out BK110.out (by decide)))
           have n4_ := Aside0.mk (HB.out.grown hg28 HB.out.size (fun k e_ => by cases e_; exact GB24.out))
           clear HO_7 HO_8 HO_9 BK110 HB
           have HO_7 := n0_
           have HO_8 := n1_
           have HO_9 := n2_
           have BK110 := n3_
           have HB := n4_
           clear n0_ n1_ n2_ n3_ n4_ hg28 hR28 HR125 HR129
           have hcz28_0 : w28.cell? ⟨gb110, 0, none⟩ = some (.int .i64 a0_0) := (blk_cell BK110.out 0).trans rfl
           have hcz28_1 : w28.cell? ⟨gb110, 1, none⟩ = some (.int .i64 a0_1) := (blk_cell BK110.out 1).trans rfl
           have hcz28_2 : w28.cell? ⟨gb110, 2, none⟩ = some (.slice A0_2 l0_2.length c0_2) := (blk_cell BK110.out 2).trans rfl
           have hfz28_0 := blk_frozen BK110.out 0
           have hfz28_1 := blk_frozen BK110.out 1
           have hfz28_2 := blk_frozen BK110.out 2
           simp only [Act.put, List.setIfInBounds_toArray, List.set_cons_zero, List.set_cons_succ]
           have p24 : 0 ≤ (0 : Int) := (by omega)
           have q24 : (0 : Int) < ((x9_1.length : Int) : Int) := of_decide_eq_true (by first | (with_reducible assumption) | assumption)
           have qi24 : (0 < x9_1.length) = True := eq_true (by omega)
           (first | simp only [add_plain] at hx121_0 | skip)
           obtain ⟨hx24_0, hf24_0⟩ := Kd.R_celln 0 HO_9.out (0 : Int) p24 q24
           (try rw [show ((0 : Int)).toNat = 0 from rfl] at hx24_0)
           (try simp only [Nat.reduceMul, Nat.zero_mul, Nat.zero_add, Nat.reduceAdd] at hx24_0)
           (try rw [show ((0 : Int)).toNat = 0 from rfl] at hf24_0)
           (try simp only [Nat.reduceMul, Nat.zero_mul, Nat.zero_add, Nat.reduceAdd] at hf24_0)
           replace p24 := eq_true p24
           replace q24 := eq_true q24
           obtain ⟨hy30_, hz30_⟩ := Kd.R_celln 0 HO_9.out (0 : Int) (by omega) (of_decide_eq_true (by first | (with_reducible assumption) | assumption))
           (try simp only [Int.reduceToNat, Int.toNat_zero, Int.toNat_ofNat, Nat.reduceMul, Nat.zero_mul, Nat.zero_add] at hy30_ hz30_)
           (try rw [show ((0 : Int)).toNat = 0 from rfl] at hy30_)
           (try rw [show ((0 : Int)).toNat = 0 from rfl] at hz30_)
           have HP30 := Kd.R_putg HO_9.out (0 : Int) 0
           try go_wp2_with (first | ((with_reducible refine gate_store (t := 3) (p := 51) rfl ?_); refine store_event (t := 3) (p := 51) (v := ?vo_w31) (w1 := (w28.setCell ⟨go24, (0 : Int).toNat, none⟩ (.int .i64 0))) ?hg ?ho ?hn ?hr ?_; (case ho => rfl); (case hg => rfl); (case hn => rfl); (case hr => first | (go_simp; done) | (go_simp; rfl)); intro w31 hw; have hg : w28.grownBy w31 (some go24) := (by rw [hw]; exact HP30.2); have hp_ : Kd.R (Kd.int .i64) 3 w31 w.heap.size (fun k_ => some k_ ≠ (v112 : Value).ownBlock ∧ some k_ ≠ (v115 : Value).ownBlock) (.slice (some ⟨go24, 0, none⟩) x9_1.length co26) y130 := (by rw [hw, Ny130.out]; exact HP30.1); clear HP30; have n0_ := Aside0.mk (Kd.R_after (v := (.slice (some ⟨go24, 0, none⟩) x9_1.length co26)) (v1 := (.slice (some ⟨go24, 0, none⟩) x9_1.length co26)) (ok := (fun k_ => some k_ ≠ (v115 : Value).ownBlock)) (by (with_reducible repeat (first | apply Kd.R_alloc | apply Kd.R_drewN | apply Kd.R_drew)); exact HO_7.out) hg (.inl rfl)); have n1_ := Aside0.mk (Kd.R_after (v := (.slice (some ⟨go24, 0, none⟩) x9_1.length co26)) (v1 := (.slice (some ⟨go24, 0, none⟩) x9_1.length co26)) (ok := (fun k_ => some k_ ≠ (v112 : Value).ownBlock)) (by (with_reducible repeat (first | apply Kd.R_alloc | apply Kd.R_drewN | apply Kd.R_drew)); exact HO_8.out) hg (.inl rfl)); have n2_ := Aside0.mk (hp_); have n3_ := Aside0.mk (blk_grown (g := gb110) (o := .cells #[.int .i64 a0_0, .int .i64 a0_1, .slice A0_2 l0_2.length c0_2] 36 (0, 0)) (by (with_reducible repeat (first | refine blk_drewN ?_ _ | refine blk_drew ?_ | refine blk_alloc ?_ _)); exact BK110.out) hg (Kd.R_ne HO_9.out BK110.out (by decide))); have n4_ := Aside0.mk ((by rw [hw]; exact below_set (HB.out) GB24.out : Below w.heap.size w w31)); clear HO_7; clear HO_8; clear HO_9; clear BK110; clear HB; have HO_7 := n0_; have HO_8 := n1_; have HO_9 := n2_; have BK110 := n3_; have HB := n4_; clear n0_ n1_ n2_ n3_ n4_; clear hg hw hp_))
           go_loopg [54] k1 (fun kq v54 w' => ∃ (x9_2 : List Int) (x54_2 : Int), v54 = .int .i64 x54_2 ∧ Aside0 (field_multiply.l1 kq t111 t114 x9_2 x10_1 (rd x9_1 (ji17)) (x9_1.length : Int) x54_2 a0_0 a0_1 l0_2 = some r) ∧ Aside0 (kq ≤ k1) ∧ Aside0 (Kd.R (Kd.int .i64) 3 w' w.heap.size (fun k_ => some k_ ≠ (v115 : Value).ownBlock ∧ some k_ ≠ ((.slice (some ⟨go24, 0, none⟩) x9_1.length co26) : Value).ownBlock) v112 t111) ∧ Aside0 (Kd.R (Kd.int .i64) 3 w' w.heap.size (fun k_ => some k_ ≠ (v112 : Value).ownBlock ∧ some k_ ≠ ((.slice (some ⟨go24, 0, none⟩) x9_1.length co26) : Value).ownBlock) v115 t114) ∧ Aside0 (Kd.R (Kd.int .i64) 3 w' w.heap.size (fun k_ => some k_ ≠ (v112 : Value).ownBlock ∧ some k_ ≠ (v115 : Value).ownBlock) (.slice (some ⟨go24, 0, none⟩) x9_1.length co26) x9_2) ∧ Aside0 (w'.heap[gb110]? = some (.cells #[.int .i64 a0_0, .int .i64 a0_1, (.slice A0_2 l0_2.length c0_2)] 36 (0, 0))) ∧ Aside0 (Below w.heap.size w w'))
           case atStart => exact ⟨(y130), (0), (by first | rfl | (simp; done) | (simp [*]; done)), H', ⟨Nat.le_refl _⟩, ⟨by (with_reducible repeat (first | apply Kd.R_alloc | apply Kd.R_drewN | apply Kd.R_drew)); exact HO_7.out⟩, ⟨by (with_reducible repeat (first | apply Kd.R_alloc | apply Kd.R_drewN | apply Kd.R_drew)); exact HO_8.out⟩, ⟨by (with_reducible repeat (first | apply Kd.R_alloc | apply Kd.R_drewN | apply Kd.R_drew)); exact HO_9.out⟩, ⟨by (with_reducible repeat (first | refine blk_drewN ?_ _ | refine blk_drew ?_ | refine blk_alloc ?_ _)); exact BK110.out⟩, ⟨by repeat (first | (with_reducible first | exact HB.out | apply below_alloc | apply pw_below_drewN | apply below_drew1 | refine below_set ?_ GE110.out) | exact HB.out)⟩⟩
           case round =>
            clear H'
            try clear c1
            try clear p1
            try clear q1
            try clear hx1
            try clear c2
            try clear p2
            try clear q2
            try clear hx2
            try clear qi2
            try clear c6
            try clear c6b0
            try clear c6b1
            try clear p6
            try clear c7
            try clear c7b0
            try clear c7b1
            try clear c9
            try clear c12
            try clear p12
            try clear q12
            try clear hx12
            try clear c16
            try clear c16b0
            try clear c18
            try clear c18b0
            try clear c19
            try clear c19b0
            try clear c20
            try clear c20b0
            try clear c20b1
            try clear c21
            try clear c21b0
            try clear c22
            try clear c22b0
            try clear c22b1
            try clear c23
            try clear c23b0
            try clear c23b1
            try clear p24
            try clear q24
            try clear hx24
            try clear qi24
            try clear hf24
            try clear c28
            try clear q28
            try clear q29
            try clear hcz12_0
            try clear hcz12_1
            try clear hcz12_2
            try clear hcz15_0
            try clear hcz15_1
            try clear hcz15_2
            try clear hcz25_0
            try clear hcz25_1
            try clear hcz25_2
            try clear hfz12_0
            try clear hfz12_1
            try clear hfz12_2
            try clear hfz15_0
            try clear hfz15_1
            try clear hfz15_2
            try clear hfz25_0
            try clear hfz25_1
            try clear hfz25_2
            try clear hx121_0
            try clear hx24_0
            try clear p121
            try clear p2
            try clear p24
            try clear p6
            try clear q121
            try clear q24
            try clear q28
            try clear q29
            obtain ⟨x9_2, x54_2, rfl, HA, HK2, HO_7, HO_8, HO_9, BK110, HB⟩ := hrel
            have hl9_2 := (Kd.R_reads' HO_9.out).1
            rw [hl9_2] at HO_9
            (try simp only [hl9_2])
            (try simp only [hl9_2] at BK110)
            (try simp only [hl9_2] at HO_7)
            (try simp only [hl9_2] at HO_8)
            cases gk with
            | zero => exact absurd HA.out (by simp [field_multiply.l1])
            | succ k2 =>
             have H := HA.out
             clear HA
             simp only [field_multiply.l1] at H
             by_cases c32 : x54_2 < (x9_1.length : Int)
             ·rw [if_pos c32] at H
              have c32b0 : decide (x54_2 < (x9_1.length : Int)) = true := decide_eq_true c32
              clear c32
              by_cases c33 : a0_1 > 1
              ·rw [if_pos c33] at H
               have c33b0 : decide (1 < a0_1) = true := decide_eq_true c33
               clear c33
               by_cases c34 : 0 ≤ x54_2
               ·rw [if_pos c34] at H
                have c34b0 : decide (0 ≤ x54_2) = true := decide_eq_true c34
                clear c34
                by_cases c35 : x54_2 < (l0_2.length : Int)
                ·rw [if_pos c35] at H
                 have c35b0 : decide (x54_2 < (l0_2.length : Int)) = true := decide_eq_true c35
                 clear c35
                 by_cases c36 : x54_2 < (x9_2.length : Int)
                 ·rw [if_pos c36] at H
                  have c36b0 : decide (x54_2 < (x9_2.length : Int)) = true := decide_eq_true c36
                  clear c36
                  by_cases c37 : 0 ≤ x10_1
                  ·rw [if_pos c37] at H
                   have c37b0 : decide (0 ≤ x10_1) = true := decide_eq_true c37
                   clear c37
                   by_cases c38 : x10_1 < (t114.length : Int)
                   ·rw [if_pos c38] at H
                    have c38b0 : decide (x10_1 < (t114.length : Int)) = true := decide_eq_true c38
                    clear c38
                    by_cases c39 : x54_2 < (t111.length : Int)
                    ·rw [if_pos c39] at H
                     have c39b0 : decide (x54_2 < (t111.length : Int)) = true := decide_eq_true c39
                     clear c39
                     by_cases c40 : a0_0 = 0
                     ·rw [if_pos c40] at H
                      exact absurd H (by simp)
                     ·rw [if_neg c40] at H
                      have c40b0 : (a0_0 == 0) = false := beq_eq_false_iff_ne.mpr c40
                      have c40b1 : (a0_0 != 0) = true := bne_iff_ne.mpr c40
                      obtain ⟨y135, hy135⟩ : ∃ y_ : List Int, y_ = (x9_2.set (x54_2 : Int).toNat (Int.tmod (wrap64 ((wrap64 ((rd x9_2 x54_2) + (wrap64 ((wrap64 (a0_0 - (rd x9_1 (ji17)))) * (rd l0_2 x54_2))))) + (wrap64 ((rd t114 x10_1) * (rd t111 x54_2))))) a0_0)) := ⟨_, rfl⟩
                      replace H : (field_multiply.l1 k2 t111 t114 y135 x10_1 (rd x9_1 (ji17)) (x9_1.length : Int) (wrap64 (x54_2 + 1)) a0_0 a0_1 l0_2) = some r := by first | (rw [hy135]; with_reducible exact H) | (have H2_ := (Option.bind_some _ _).symm.trans H; rw [hy135]; with_reducible exact H2_) | (have H2_ := (Option.bind_some _ _).symm.trans H; with_reducible exact H2_) | with_reducible exact H | (rw [hy135]; exact H) | exact H
                      have Ny135 := Aside0.mk hy135
                      clear hy135
                      have H' := Aside0.mk H
                      clear H
                      have hcz42_0 : wr.cell? ⟨gb110, 0, none⟩ = some (.int .i64 a0_0) := (blk_cell BK110.out 0).trans rfl
                      have hcz42_1 : wr.cell? ⟨gb110, 1, none⟩ = some (.int .i64 a0_1) := (blk_cell BK110.out 1).trans rfl
                      have hcz42_2 : wr.cell? ⟨gb110, 2, none⟩ = some (.slice A0_2 l0_2.length c0_2) := (blk_cell BK110.out 2).trans rfl
                      have hfz42_0 := blk_frozen BK110.out 0
                      have hfz42_1 := blk_frozen BK110.out 1
                      have hfz42_2 := blk_frozen BK110.out 2
                      have p131 : 0 ≤ (x54_2 : Int) := of_decide_eq_true (by first | (with_reducible assumption) | assumption)
                      have q131 : x54_2 < (l0_2.length : Int) := of_decide_eq_true (by first | (with_reducible assumption) | assumption)
                      obtain ⟨ad131, e131, hx131_0⟩ := Kd.at_int HR0_2.out x54_2 p131 q131
                      cases e131
                      replace hx131_0 := (HB.out.cell (World.block_lt_of_cell? w _ hx131_0)).trans hx131_0
                      replace p131 := eq_true p131
                      replace q131 := eq_true q131
                      try go_wp2
                      have n0_ := Aside0.mk (Kd.R_drew HO_7.out)
                      have n1_ := Aside0.mk (Kd.R_drew HO_8.out)
                      have n2_ := Aside0.mk (Kd.R_drew HO_9.out)
                      have n3_ := Aside0.mk (blk_drew BK110.out)
                      have n4_ := Aside0.mk (below_drew1 HB.out)
                      clear HO_7
                      clear HO_8
                      clear HO_9
                      clear BK110
                      clear HB
                      have HO_7 := n0_
                      have HO_8 := n1_
                      have HO_9 := n2_
                      have BK110 := n3_
                      have HB := n4_
                      clear n0_ n1_ n2_ n3_ n4_
                      have p132 : 0 ≤ (x54_2 : Int) := of_decide_eq_true (by first | (with_reducible assumption) | assumption)
                      have q132 : x54_2 < (x9_2.length : Int) := of_decide_eq_true (by first | (with_reducible assumption) | assumption)
                      obtain ⟨ad132, e132, hx132_0⟩ := Kd.at_int (Kd.R_reads' HO_9.out).2.2 x54_2 p132 q132
                      obtain rfl : (⟨go24, 0, none⟩ : Addr) = ad132 := (by injection e132)
                      (first | simp only [add_plain] at hx132_0 | simp only [add_at] at hx132_0 | simp only [Addr.add, Nat.zero_add] at hx132_0 | skip)
                      replace p132 := eq_true p132
                      replace q132 := eq_true q132
                      obtain ⟨Ao44, co44, eo44⟩ := Kd.R_slice HO_8.out
                      (first | subst eo44 | (injection eo44 with f1_ f2_ f3_; have f4_ := f1_.symm; have f5_ := f3_.symm; clear f1_ f2_ f3_; subst f4_; subst f5_))
                      have p133 : 0 ≤ (x10_1 : Int) := of_decide_eq_true (by first | (with_reducible assumption) | assumption)
                      have q133 : x10_1 < (t114.length : Int) := of_decide_eq_true (by first | (with_reducible assumption) | assumption)
                      obtain ⟨ad133, e133, hx133_0⟩ := Kd.at_int (Kd.R_reads' HO_8.out).2.2 x10_1 p133 q133
                      cases e133
                      replace p133 := eq_true p133
                      replace q133 := eq_true q133
                      obtain ⟨Ao45, co45, eo45⟩ := Kd.R_slice HO_7.out
                      (first | subst eo45 | (injection eo45 with f1_ f2_ f3_; have f4_ := f1_.symm; have f5_ := f3_.symm; clear f1_ f2_ f3_; subst f4_; subst f5_))
                      have p134 : 0 ≤ (x54_2 : Int) := of_decide_eq_true (by first | (with_reducible assumption) | assumption)
                      have q134 : x54_2 < (t111.length : Int) := of_decide_eq_true (by first | (with_reducible assumption) | assumption)
                      obtain ⟨ad134, e134, hx134_0⟩ := Kd.at_int (Kd.R_reads' HO_7.out).2.2 x54_2 p134 q134
                      cases e134
                      replace p134 := eq_true p134
                      replace q134 := eq_true q134
                      have p41 : 0 ≤ (x54_2 : Int) := of_decide_eq_true (by first | (with_reducible assumption) | assumption)
                      have q41 : (x54_2 : Int) < ((x9_2.length : Int) : Int) := of_decide_eq_true (by first | (with_reducible assumption) | assumption)
                      obtain ⟨hx41_0, hf41_0⟩ := Kd.R_celln 0 HO_9.out (x54_2 : Int) p41 q41
                      replace p41 := eq_true p41
                      replace q41 := eq_true q41
                      have HP46 := Kd.R_putn HO_9.out (x54_2 : Int) (Int.tmod (wrap64 ((wrap64 ((rd x9_2 x54_2) + (wrap64 ((wrap64 (a0_0 - (rd x9_1 (ji17)))) * (rd l0_2 x54_2))))) + (wrap64 ((rd t114 x10_1) * (rd t111 x54_2))))) a0_0)
                      rw [← Ny135.out] at HP46
                      have HQ46 := Aside0.mk HP46
                      clear HP46
                      refine start_ (n := 28) (S := fun w' => w'.cell? ⟨gb110, 0, none⟩ = some (.int .i64 a0_0) ∧ w'.cell? ⟨gb110, 1, none⟩ = some (.int .i64 a0_1) ∧ w'.cell? ⟨gb110, 2, none⟩ = some (.slice (some ad131) l0_2.length c0_2) ∧ w'.cell? ⟨go24, (x54_2).toNat, none⟩ = some (.int .i64 (rd x9_2 x54_2)) ∧ w'.cell? (ad133.add (x10_1).toNat) = some (.int .i64 (rd t114 x10_1)) ∧ w'.cell? (ad134.add (x54_2).toNat) = some (.int .i64 (rd t111 x54_2))) (ds := [27]) #[false, false, false, false, false, false, false, false, false, false, false, false, false, false, false, false, false, false, false, false, false, false, false, false, false, false, false, false] (by kernel_rfl) rfl rfl ⟨(blk_cell BK110.out 0).trans rfl, (blk_cell BK110.out 1).trans rfl, (blk_cell BK110.out 2).trans rfl, hx132_0, hx133_0, hx134_0⟩ (fun hHeld => ?_); refine with_tabW field_multiply.tab15 field_multiply.bits15 (fun HT_ HW_ => ?_)
                      generalize wr.drew = w43 at HO_7 HO_8 HO_9 BK110 HB HQ46 hf41_0 hx132_0 hx133_0 hx134_0 hx41_0 hHeld ⊢
                      refine pure_ (i := 0) (N := some 65) (v := ?_) (a' := ?_) #[true, false, false, false, false, false, false, false, false, false, false, false, false, false, false, false, false, false, false, false, false, false, false, false, false, false, false, false] rfl rfl (any_of HT_.out (by kernel_rfl)) (fun _ _ _ h => h) (Or.inl ⟨by rfl, ?_⟩) ?_ ?_
                      rotate_left
                      ·intro w'
                       go_simp
                       with_reducible rfl
                      rotate_left
                      ·simp only [Act.put, List.setIfInBounds_toArray, List.set_cons_zero, List.set_cons_succ, i64_w, i32_w]
                       rfl
                      refine pure_ (i := 1) (N := some 66) (v := ?_) (a' := ?_) #[true, true, false, false, false, false, false, false, false, false, false, false, false, false, false, false, false, false, false, false, false, false, false, false, false, false, false, false] rfl rfl (any_of HT_.out (by kernel_rfl)) (fun _ _ _ h => h) (Or.inl ⟨by rfl, ?_⟩) ?_ ?_
                      rotate_left
                      ·intro w'
                       go_simp
                       with_reducible rfl
                      rotate_left
                      ·simp only [Act.put, List.setIfInBounds_toArray, List.set_cons_zero, List.set_cons_succ, i64_w, i32_w]
                       rfl
                      refine pure_ (i := 2) (N := some 67) (v := ?_) (a' := ?_) #[true, true, true, false, false, false, false, false, false, false, false, false, false, false, false, false, false, false, false, false, false, false, false, false, false, false, false, false] rfl rfl (any_of HT_.out (by kernel_rfl)) (fun _ _ _ h => h) (Or.inl ⟨by rfl, ?_⟩) ?_ ?_
                      rotate_left
                      ·intro w'
                       go_simp
                       with_reducible rfl
                      rotate_left
                      ·simp only [Act.put, List.setIfInBounds_toArray, List.set_cons_zero, List.set_cons_succ, i64_w, i32_w]
                       rfl
                      refine pure_ (i := 3) (N := some 68) (v := ?_) (a' := ?_) #[true, true, true, true, false, false, false, false, false, false, false, false, false, false, false, false, false, false, false, false, false, false, false, false, false, false, false, false] rfl rfl (any_of HT_.out (by kernel_rfl)) (fun _ _ _ h => h) (Or.inl ⟨by rfl, ?_⟩) ?_ ?_
                      rotate_left
                      ·intro w'
                       go_simp
                       with_reducible rfl
                      rotate_left
                      ·simp only [Act.put, List.setIfInBounds_toArray, List.set_cons_zero, List.set_cons_succ, i64_w, i32_w]
                       rfl
                      refine pure_ (i := 4) (N := some 69) (v := ?_) (a' := ?_) #[true, true, true, true, true, false, false, false, false, false, false, false, false, false, false, false, false, false, false, false, false, false, false, false, false, false, false, false] rfl rfl (any_of HT_.out (by kernel_rfl)) (fun _ _ _ h => h) (Or.inl ⟨by rfl, ?_⟩) ?_ ?_
                      rotate_left
                      ·intro w'
                       go_simp
                       with_reducible rfl
                      rotate_left
                      ·simp only [Act.put, List.setIfInBounds_toArray, List.set_cons_zero, List.set_cons_succ, i64_w, i32_w]
                       rfl
                      refine pure_ (i := 6) (N := some 71) (v := ?_) (a' := ?_) #[true, true, true, true, true, false, true, false, false, false, false, false, false, false, false, false, false, false, false, false, false, false, false, false, false, false, false, false] rfl rfl (any_of HT_.out (by kernel_rfl)) (fun _ _ _ h => h) (Or.inl ⟨by rfl, ?_⟩) ?_ ?_
                      rotate_left
                      ·intro w'
                       go_simp
                       with_reducible rfl
                      rotate_left
                      ·simp only [Act.put, List.setIfInBounds_toArray, List.set_cons_zero, List.set_cons_succ, i64_w, i32_w]
                       rfl
                      refine pure_ (i := 8) (N := some 73) (v := ?_) (a' := ?_) #[true, true, true, true, true, false, true, false, true, false, false, false, false, false, false, false, false, false, false, false, false, false, false, false, false, false, false, false] rfl rfl (any_of HT_.out (by kernel_rfl)) (fun _ _ _ h => h) (Or.inl ⟨by rfl, ?_⟩) ?_ ?_
                      rotate_left
                      ·intro w'
                       go_simp
                       with_reducible rfl
                      rotate_left
                      ·simp only [Act.put, List.setIfInBounds_toArray, List.set_cons_zero, List.set_cons_succ, i64_w, i32_w]
                       rfl
                      refine pure_ (i := 10) (N := some 75) (v := ?_) (a' := ?_) #[true, true, true, true, true, false, true, false, true, false, true, false, false, false, false, false, false, false, false, false, false, false, false, false, false, false, false, false] rfl rfl (any_of HT_.out (by kernel_rfl)) (fun _ _ _ h => h) (Or.inl ⟨by rfl, ?_⟩) ?_ ?_
                      rotate_left
                      ·intro w'
                       go_simp
                       with_reducible rfl
                      rotate_left
                      ·simp only [Act.put, List.setIfInBounds_toArray, List.set_cons_zero, List.set_cons_succ, i64_w, i32_w]
                       rfl
                      refine pure_ (i := 13) (N := some 78) (v := ?_) (a' := ?_) #[true, true, true, true, true, false, true, false, true, false, true, false, false, true, false, false, false, false, false, false, false, false, false, false, false, false, false, false] rfl rfl (any_of HT_.out (by kernel_rfl)) (fun _ _ _ h => h) (Or.inl ⟨by rfl, ?_⟩) ?_ ?_
                      rotate_left
                      ·intro w'
                       go_simp
                       with_reducible rfl
                      rotate_left
                      ·simp only [Act.put, List.setIfInBounds_toArray, List.set_cons_zero, List.set_cons_succ, i64_w, i32_w]
                       rfl
                      refine pure_ (i := 14) (N := some 79) (v := ?_) (a' := ?_) #[true, true, true, true, true, false, true, false, true, false, true, false, false, true, true, false, false, false, false, false, false, false, false, false, false, false, false, false] rfl rfl (any_of HT_.out (by kernel_rfl)) (fun _ _ _ h => h) (Or.inl ⟨by rfl, ?_⟩) ?_ ?_
                      rotate_left
                      ·intro w'
                       go_simp
                       with_reducible rfl
                      rotate_left
                      ·simp only [Act.put, List.setIfInBounds_toArray, List.set_cons_zero, List.set_cons_succ, i64_w, i32_w]
                       rfl
                      refine pure_ (i := 15) (N := some 80) (v := ?_) (a' := ?_) #[true, true, true, true, true, false, true, false, true, false, true, false, false, true, true, true, false, false, false, false, false, false, false, false, false, false, false, false] rfl rfl (any_of HT_.out (by kernel_rfl)) (fun _ _ _ h => h) (Or.inl ⟨by rfl, ?_⟩) ?_ ?_
                      rotate_left
                      ·intro w'
                       go_simp
                       with_reducible rfl
                      rotate_left
                      ·simp only [Act.put, List.setIfInBounds_toArray, List.set_cons_zero, List.set_cons_succ, i64_w, i32_w]
                       rfl
                      refine pure_ (i := 17) (N := some 82) (v := ?_) (a' := ?_) #[true, true, true, true, true, false, true, false, true, false, true, false, false, true, true, true, false, true, false, false, false, false, false, false, false, false, false, false] rfl rfl (any_of HT_.out (by kernel_rfl)) (fun _ _ _ h => h) (Or.inl ⟨by rfl, ?_⟩) ?_ ?_
                      rotate_left
                      ·intro w'
                       go_simp
                       with_reducible rfl
                      rotate_left
                      ·simp only [Act.put, List.setIfInBounds_toArray, List.set_cons_zero, List.set_cons_succ, i64_w, i32_w]
                       rfl
                      refine pure_ (i := 18) (N := some 83) (v := ?_) (a' := ?_) #[true, true, true, true, true, false, true, false, true, false, true, false, false, true, true, true, false, true, true, false, false, false, false, false, false, false, false, false] rfl rfl (any_of HT_.out (by kernel_rfl)) (fun _ _ _ h => h) (Or.inl ⟨by rfl, ?_⟩) ?_ ?_
                      rotate_left
                      ·intro w'
                       go_simp
                       with_reducible rfl
                      rotate_left
                      ·simp only [Act.put, List.setIfInBounds_toArray, List.set_cons_zero, List.set_cons_succ, i64_w, i32_w]
                       rfl
                      refine pure_ (i := 19) (N := some 84) (v := ?_) (a' := ?_) #[true, true, true, true, true, false, true, false, true, false, true, false, false, true, true, true, false, true, true, true, false, false, false, false, false, false, false, false] rfl rfl (any_of HT_.out (by kernel_rfl)) (fun _ _ _ h => h) (Or.inl ⟨by rfl, ?_⟩) ?_ ?_
                      rotate_left
                      ·intro w'
                       go_simp
                       with_reducible rfl
                      rotate_left
                      ·simp only [Act.put, List.setIfInBounds_toArray, List.set_cons_zero, List.set_cons_succ, i64_w, i32_w]
                       rfl
                      refine pure_ (i := 23) (N := some 88) (v := ?_) (a' := ?_) #[true, true, true, true, true, false, true, false, true, false, true, false, false, true, true, true, false, true, true, true, false, false, false, true, false, false, false, false] rfl rfl (any_of HT_.out (by kernel_rfl)) (fun _ _ _ h => h) (Or.inl ⟨by rfl, ?_⟩) ?_ ?_
                      rotate_left
                      ·intro w'
                       go_simp
                       with_reducible rfl
                      rotate_left
                      ·simp only [Act.put, List.setIfInBounds_toArray, List.set_cons_zero, List.set_cons_succ, i64_w, i32_w]
                       rfl
                      refine take_ (i := 5) (N := some 70) (v := ?_) (a' := ?_) #[true, true, true, true, true, true, true, false, true, false, true, false, false, true, true, true, false, true, true, true, false, false, false, true, false, false, false, false] rfl rfl (take_ofW HT_.out HW_.out (by kernel_rfl)) (fun _ _ _ h => h) (Or.inl ⟨by rfl, ?_⟩) hHeld ?_ ?_
                      rotate_left
                      ·rintro w' ⟨s0, s1, s2, s3, s4, s5⟩
                       go_simp
                       with_reducible rfl
                      rotate_left
                      ·simp only [Act.put, List.setIfInBounds_toArray, List.set_cons_zero, List.set_cons_succ, i64_w, i32_w]
                       rfl
                      refine take_ (i := 7) (N := some 72) (v := ?_) (a' := ?_) #[true, true, true, true, true, true, true, true, true, false, true, false, false, true, true, true, false, true, true, true, false, false, false, true, false, false, false, false] rfl rfl (take_ofW HT_.out HW_.out (by kernel_rfl)) (fun _ _ _ h => h) (Or.inl ⟨by rfl, ?_⟩) hHeld ?_ ?_
                      rotate_left
                      ·rintro w' ⟨s0, s1, s2, s3, s4, s5⟩
                       go_simp
                       with_reducible rfl
                      rotate_left
                      ·simp only [Act.put, List.setIfInBounds_toArray, List.set_cons_zero, List.set_cons_succ, i64_w, i32_w]
                       rfl
                      refine pure_ (i := 9) (N := some 74) (v := ?_) (a' := ?_) #[true, true, true, true, true, true, true, true, true, true, true, false, false, true, true, true, false, true, true, true, false, false, false, true, false, false, false, false] rfl rfl (any_of HT_.out (by kernel_rfl)) (fun _ _ _ h => h) (Or.inl ⟨by rfl, ?_⟩) ?_ ?_
                      rotate_left
                      ·intro w'
                       go_simp
                       with_reducible rfl
                      rotate_left
                      ·simp only [Act.put, List.setIfInBounds_toArray, List.set_cons_zero, List.set_cons_succ, i64_w, i32_w]
                       rfl
                      refine pure_ (i := 11) (N := some 76) (v := ?_) (a' := ?_) #[true, true, true, true, true, true, true, true, true, true, true, true, false, true, true, true, false, true, true, true, false, false, false, true, false, false, false, false] rfl rfl (any_of HT_.out (by kernel_rfl)) (fun _ _ _ h => h) (Or.inl ⟨by rfl, ?_⟩) ?_ ?_
                      rotate_left
                      ·intro w'
                       go_simp
                       with_reducible rfl
                      rotate_left
                      ·simp only [Act.put, List.setIfInBounds_toArray, List.set_cons_zero, List.set_cons_succ, i64_w, i32_w]
                       rfl
                      refine pure_ (i := 12) (N := some 77) (v := ?_) (a' := ?_) #[true, true, true, true, true, true, true, true, true, true, true, true, true, true, true, true, false, true, true, true, false, false, false, true, false, false, false, false] rfl rfl (any_of HT_.out (by kernel_rfl)) (fun _ _ _ h => h) (Or.inl ⟨by rfl, ?_⟩) ?_ ?_
                      rotate_left
                      ·intro w'
                       go_simp
                       with_reducible rfl
                      rotate_left
                      ·simp only [Act.put, List.setIfInBounds_toArray, List.set_cons_zero, List.set_cons_succ, i64_w, i32_w]
                       rfl
                      refine take_ (i := 16) (N := some 81) (v := ?_) (a' := ?_) #[true, true, true, true, true, true, true, true, true, true, true, true, true, true, true, true, true, true, true, true, false, false, false, true, false, false, false, false] rfl rfl (take_ofW HT_.out HW_.out (by kernel_rfl)) (fun _ _ _ h => h) (Or.inl ⟨by rfl, ?_⟩) hHeld ?_ ?_
                      rotate_left
                      ·rintro w' ⟨s0, s1, s2, s3, s4, s5⟩
                       go_simp
                       with_reducible rfl
                      rotate_left
                      ·simp only [Act.put, List.setIfInBounds_toArray, List.set_cons_zero, List.set_cons_succ, i64_w, i32_w]
                       rfl
                      refine take_ (i := 20) (N := some 85) (v := ?_) (a' := ?_) #[true, true, true, true, true, true, true, true, true, true, true, true, true, true, true, true, true, true, true, true, true, false, false, true, false, false, false, false] rfl rfl (take_ofW HT_.out HW_.out (by kernel_rfl)) (fun _ _ _ h => h) (Or.inl ⟨by rfl, ?_⟩) hHeld ?_ ?_
                      rotate_left
                      ·rintro w' ⟨s0, s1, s2, s3, s4, s5⟩
                       go_simp
                       with_reducible rfl
                      rotate_left
                      ·simp only [Act.put, List.setIfInBounds_toArray, List.set_cons_zero, List.set_cons_succ, i64_w, i32_w]
                       rfl
                      refine pure_ (i := 21) (N := some 86) (v := ?_) (a' := ?_) #[true, true, true, true, true, true, true, true, true, true, true, true, true, true, true, true, true, true, true, true, true, true, false, true, false, false, false, false] rfl rfl (any_of HT_.out (by kernel_rfl)) (fun _ _ _ h => h) (Or.inl ⟨by rfl, ?_⟩) ?_ ?_
                      rotate_left
                      ·intro w'
                       go_simp
                       with_reducible rfl
                      rotate_left
                      ·simp only [Act.put, List.setIfInBounds_toArray, List.set_cons_zero, List.set_cons_succ, i64_w, i32_w]
                       rfl
                      refine pure_ (i := 22) (N := some 87) (v := ?_) (a' := ?_) #[true, true, true, true, true, true, true, true, true, true, true, true, true, true, true, true, true, true, true, true, true, true, true, true, false, false, false, false] rfl rfl (any_of HT_.out (by kernel_rfl)) (fun _ _ _ h => h) (Or.inl ⟨by rfl, ?_⟩) ?_ ?_
                      rotate_left
                      ·intro w'
                       go_simp
                       with_reducible rfl
                      rotate_left
                      ·simp only [Act.put, List.setIfInBounds_toArray, List.set_cons_zero, List.set_cons_succ, i64_w, i32_w]
                       rfl
                      refine take_ (i := 24) (N := some 89) (v := ?_) (a' := ?_) #[true, true, true, true, true, true, true, true, true, true, true, true, true, true, true, true, true, true, true, true, true, true, true, true, true, false, false, false] rfl rfl (take_ofW HT_.out HW_.out (by kernel_rfl)) (fun _ _ _ h => h) (Or.inl ⟨by rfl, ?_⟩) hHeld ?_ ?_
                      rotate_left
                      ·rintro w' ⟨s0, s1, s2, s3, s4, s5⟩
                       go_simp
                       with_reducible rfl
                      rotate_left
                      ·simp only [Act.put, List.setIfInBounds_toArray, List.set_cons_zero, List.set_cons_succ, i64_w, i32_w]
                       rfl
                      refine pure_ (i := 25) (N := some 90) (v := ?_) (a' := ?_) #[true, true, true, true, true, true, true, true, true, true, true, true, true, true, true, true, true, true, true, true, true, true, true, true, true, true, false, false] rfl rfl (any_of HT_.out (by kernel_rfl)) (fun _ _ _ h => h) (Or.inl ⟨by rfl, ?_⟩) ?_ ?_
                      rotate_left
                      ·intro w'
                       go_simp
                       with_reducible rfl
                      rotate_left
                      ·simp only [Act.put, List.setIfInBounds_toArray, List.set_cons_zero, List.set_cons_succ, i64_w, i32_w]
                       rfl
                      refine pure_ (i := 26) (N := some 91) (v := ?_) (a' := ?_) #[true, true, true, true, true, true, true, true, true, true, true, true, true, true, true, true, true, true, true, true, true, true, true, true, true, true, true, false] rfl rfl (any_of HT_.out (by kernel_rfl)) (fun _ _ _ h => h) (Or.inl ⟨by rfl, ?_⟩) ?_ ?_
                      rotate_left
                      ·intro w'
                       go_simp
                       with_reducible rfl
                      rotate_left
                      ·simp only [Act.put, List.setIfInBounds_toArray, List.set_cons_zero, List.set_cons_succ, i64_w, i32_w]
                       rfl
                      refine last_ (i := 27) (N := none) #[true, true, true, true, true, true, true, true, true, true, true, true, true, true, true, true, true, true, true, true, true, true, true, true, true, true, true, true] rfl rfl (one_of HT_.out (by kernel_rfl)) (by decide) (fun K hK => ?_)
                      refine skip_ (w1 := ?_) (by rfl) rfl ?_ ?_
                      rotate_left
                      ·go_simp
                       rfl
                      refine hK.out _ _ ?_
                      clear hK K
                      refine done_ (done_of HT_.out (by kernel_rfl)) ?_
                      try go_wp2
                      (try simp only [← hl9_2])
                      go_roundg k2
                      case measure => have := HK1.out; have := HK2.out; omega
                      case rel => exact ⟨(y135), (wrap64 (x54_2 + 1)), (by first | rfl | (simp; done) | (simp [*]; done)), H', ⟨by have := HK1.out; have := HK2.out; omega⟩, ⟨by (try simp only [hl9_2]); (with_reducible repeat (first | apply Kd.R_alloc | apply Kd.R_drewN | apply Kd.R_drew)); exact Kd.R_mono (Kd.R_far (p := ⟨go24, (x54_2 : Int).toNat, none⟩) (Kd.R_mono HO_7.out (fun k_ hk => (⟨hk, fun e_ => hk.2 (by rw [e_]; rfl)⟩ : _ ∧ k_ ≠ go24))) (fun _ hk => hk.2) (.int .i64 (Int.tmod (wrap64 ((wrap64 ((rd x9_2 x54_2) + (wrap64 ((wrap64 (a0_0 - (rd x9_1 (ji17)))) * (rd l0_2 x54_2))))) + (wrap64 ((rd t114 x10_1) * (rd t111 x54_2))))) a0_0))) (fun _ hk => ⟨hk.1.1, hk.1.2⟩)⟩, ⟨by (try simp only [hl9_2]); (with_reducible repeat (first | apply Kd.R_alloc | apply Kd.R_drewN | apply Kd.R_drew)); exact Kd.R_mono (Kd.R_far (p := ⟨go24, (x54_2 : Int).toNat, none⟩) (Kd.R_mono HO_8.out (fun k_ hk => (⟨hk, fun e_ => hk.2 (by rw [e_]; rfl)⟩ : _ ∧ k_ ≠ go24))) (fun _ hk => hk.2) (.int .i64 (Int.tmod (wrap64 ((wrap64 ((rd x9_2 x54_2) + (wrap64 ((wrap64 (a0_0 - (rd x9_1 (ji17)))) * (rd l0_2 x54_2))))) + (wrap64 ((rd t114 x10_1) * (rd t111 x54_2))))) a0_0))) (fun _ hk => ⟨hk.1.1, hk.1.2⟩)⟩, ⟨by (try simp only [hl9_2]); (with_reducible repeat (first | apply Kd.R_alloc | apply Kd.R_drewN | apply Kd.R_drew)); exact HQ46.out⟩, ⟨by (try simp only [hl9_2]); (with_reducible repeat (first | refine blk_drewN ?_ _ | refine blk_drew ?_ | refine blk_alloc ?_ _)); refine blk_far ?_ (by have h_ := Kd.R_ne HO_9.out BK110.out (by decide); intro e_; exact h_ (by rw [e_]; rfl)) _; (with_reducible repeat (first | refine blk_drewN ?_ _ | refine blk_drew ?_ | refine blk_alloc ?_ _)); exact BK110.out⟩, ⟨by repeat (first | (with_reducible first | exact HB.out | apply below_alloc | apply pw_below_drewN | apply below_drew1 | refine below_set ?_ GB24.out | refine below_set ?_ GE110.out) | exact HB.out)⟩⟩
                    ·rw [if_neg c39] at H
                     exact absurd H (by simp)
                   ·rw [if_neg c38] at H
                    exact absurd H (by simp)
                  ·rw [if_neg c37] at H
                   exact absurd H (by simp)
                 ·rw [if_neg c36] at H
                  exact absurd H (by simp)
                ·rw [if_neg c35] at H
                 exact absurd H (by simp)
               ·rw [if_neg c34] at H
                exact absurd H (by simp)
              ·rw [if_neg c33] at H
               have c33b0 : decide (1 < a0_1) = false := decide_eq_false c33
               clear c33
               by_cases c47 : 0 ≤ x54_2
               ·rw [if_pos c47] at H
                have c47b0 : decide (0 ≤ x54_2) = true := decide_eq_true c47
                clear c47
                by_cases c48 : x54_2 < (x9_2.length : Int)
                ·rw [if_pos c48] at H
                 have c48b0 : decide (x54_2 < (x9_2.length : Int)) = true := decide_eq_true c48
                 clear c48
                 by_cases c49 : 0 ≤ x10_1
                 ·rw [if_pos c49] at H
                  have c49b0 : decide (0 ≤ x10_1) = true := decide_eq_true c49
                  clear c49
                  by_cases c50 : x10_1 < (t114.length : Int)
                  ·rw [if_pos c50] at H
                   have c50b0 : decide (x10_1 < (t114.length : Int)) = true := decide_eq_true c50
                   clear c50
                   by_cases c51 : x54_2 < (t111.length : Int)
                   ·rw [if_pos c51] at H
                    have c51b0 : decide (x54_2 < (t111.length : Int)) = true := decide_eq_true c51
                    clear c51
                    by_cases c52 : a0_0 = 0
                    ·rw [if_pos c52] at H
                     exact absurd H (by simp)
                    ·rw [if_neg c52] at H
                     have c52b0 : (a0_0 == 0) = false := beq_eq_false_iff_ne.mpr c52
                     have c52b1 : (a0_0 != 0) = true := bne_iff_ne.mpr c52
                     obtain ⟨y139, hy139⟩ : ∃ y_ : List Int, y_ = (x9_2.set (x54_2 : Int).toNat (Int.tmod (wrap64 ((wrap64 ((rd x9_2 x54_2) + (wrap64 0))) + (wrap64 ((rd t114 x10_1) * (rd t111 x54_2))))) a0_0)) := ⟨_, rfl⟩
                     replace H : (field_multiply.l1 k2 t111 t114 y139 x10_1 (rd x9_1 (ji17)) (x9_1.length : Int) (wrap64 (x54_2 + 1)) a0_0 a0_1 l0_2) = some r := by first | (rw [hy139]; with_reducible exact H) | (have H2_ := (Option.bind_some _ _).symm.trans H; rw [hy139]; with_reducible exact H2_) | (have H2_ := (Option.bind_some _ _).symm.trans H; with_reducible exact H2_) | with_reducible exact H | (rw [hy139]; exact H) | exact H
                     have Ny139 := Aside0.mk hy139
                     clear hy139
                     have H' := Aside0.mk H
                     clear H
                     have hcz54_0 : wr.cell? ⟨gb110, 0, none⟩ = some (.int .i64 a0_0) := (blk_cell BK110.out 0).trans rfl
                     have hcz54_1 : wr.cell? ⟨gb110, 1, none⟩ = some (.int .i64 a0_1) := (blk_cell BK110.out 1).trans rfl
                     have hcz54_2 : wr.cell? ⟨gb110, 2, none⟩ = some (.slice A0_2 l0_2.length c0_2) := (blk_cell BK110.out 2).trans rfl
                     have hfz54_0 := blk_frozen BK110.out 0
                     have hfz54_1 := blk_frozen BK110.out 1
                     have hfz54_2 := blk_frozen BK110.out 2
                     try go_wp2
                     have n0_ := Aside0.mk (Kd.R_drew HO_7.out)
                     have n1_ := Aside0.mk (Kd.R_drew HO_8.out)
                     have n2_ := Aside0.mk (Kd.R_drew HO_9.out)
                     have n3_ := Aside0.mk (blk_drew BK110.out)
                     have n4_ := Aside0.mk (below_drew1 HB.out)
                     clear HO_7
                     clear HO_8
                     clear HO_9
                     clear BK110
                     clear HB
                     have HO_7 := n0_
                     have HO_8 := n1_
                     have HO_9 := n2_
                     have BK110 := n3_
                     have HB := n4_
                     clear n0_ n1_ n2_ n3_ n4_
                     have p136 : 0 ≤ (x54_2 : Int) := of_decide_eq_true (by first | (with_reducible assumption) | assumption)
                     have q136 : x54_2 < (x9_2.length : Int) := of_decide_eq_true (by first | (with_reducible assumption) | assumption)
                     obtain ⟨ad136, e136, hx136_0⟩ := Kd.at_int (Kd.R_reads' HO_9.out).2.2 x54_2 p136 q136
                     obtain rfl : (⟨go24, 0, none⟩ : Addr) = ad136 := (by injection e136)
                     (first | simp only [add_plain] at hx136_0 | simp only [add_at] at hx136_0 | simp only [Addr.add, Nat.zero_add] at hx136_0 | skip)
                     replace p136 := eq_true p136
                     replace q136 := eq_true q136
                     obtain ⟨Ao56, co56, eo56⟩ := Kd.R_slice HO_8.out
                     (first | subst eo56 | (injection eo56 with f1_ f2_ f3_; have f4_ := f1_.symm; have f5_ := f3_.symm; clear f1_ f2_ f3_; subst f4_; subst f5_))
                     have p137 : 0 ≤ (x10_1 : Int) := of_decide_eq_true (by first | (with_reducible assumption) | assumption)
                     have q137 : x10_1 < (t114.length : Int) := of_decide_eq_true (by first | (with_reducible assumption) | assumption)
                     obtain ⟨ad137, e137, hx137_0⟩ := Kd.at_int (Kd.R_reads' HO_8.out).2.2 x10_1 p137 q137
                     cases e137
                     replace p137 := eq_true p137
                     replace q137 := eq_true q137
                     obtain ⟨Ao57, co57, eo57⟩ := Kd.R_slice HO_7.out
                     (first | subst eo57 | (injection eo57 with f1_ f2_ f3_; have f4_ := f1_.symm; have f5_ := f3_.symm; clear f1_ f2_ f3_; subst f4_; subst f5_))
                     have p138 : 0 ≤ (x54_2 : Int) := of_decide_eq_true (by first | (with_reducible assumption) | assumption)
                     have q138 : x54_2 < (t111.length : Int) := of_decide_eq_true (by first | (with_reducible assumption) | assumption)
                     obtain ⟨ad138, e138, hx138_0⟩ := Kd.at_int (Kd.R_reads' HO_7.out).2.2 x54_2 p138 q138
                     cases e138
                     replace p138 := eq_true p138
                     replace q138 := eq_true q138
                     have p53 : 0 ≤ (x54_2 : Int) := of_decide_eq_true (by first | (with_reducible assumption) | assumption)
                     have q53 : (x54_2 : Int) < ((x9_2.length : Int) : Int) := of_decide_eq_true (by first | (with_reducible assumption) | assumption)
                     obtain ⟨hx53_0, hf53_0⟩ := Kd.R_celln 0 HO_9.out (x54_2 : Int) p53 q53
                     replace p53 := eq_true p53
                     replace q53 := eq_true q53
                     have HP58 := Kd.R_putn HO_9.out (x54_2 : Int) (Int.tmod (wrap64 ((wrap64 ((rd x9_2 x54_2) + (wrap64 0))) + (wrap64 ((rd t114 x10_1) * (rd t111 x54_2))))) a0_0)
                     rw [← Ny139.out] at HP58
                     have HQ58 := Aside0.mk HP58
                     clear HP58
                     refine start_ (n := 28) (S := fun w' => w'.cell? ⟨gb110, 0, none⟩ = some (.int .i64 a0_0) ∧ w'.cell? ⟨gb110, 1, none⟩ = some (.int .i64 a0_1) ∧ w'.cell? ⟨gb110, 2, none⟩ = some (.slice A0_2 l0_2.length c0_2) ∧ w'.cell? ⟨go24, (x54_2).toNat, none⟩ = some (.int .i64 (rd x9_2 x54_2)) ∧ w'.cell? (ad137.add (x10_1).toNat) = some (.int .i64 (rd t114 x10_1)) ∧ w'.cell? (ad138.add (x54_2).toNat) = some (.int .i64 (rd t111 x54_2))) (ds := [27]) #[false, false, false, false, false, false, false, false, false, false, false, false, false, false, false, false, false, false, false, false, false, false, false, false, false, false, false, false] (by kernel_rfl) rfl rfl ⟨(blk_cell BK110.out 0).trans rfl, (blk_cell BK110.out 1).trans rfl, (blk_cell BK110.out 2).trans rfl, hx136_0, hx137_0, hx138_0⟩ (fun hHeld => ?_); refine with_tabW field_multiply.tab15 field_multiply.bits15 (fun HT_ HW_ => ?_)
                     generalize wr.drew = w55 at HO_7 HO_8 HO_9 BK110 HB HQ58 hf53_0 hx136_0 hx137_0 hx138_0 hx53_0 hHeld ⊢
                     refine pure_ (i := 0) (N := some 65) (v := ?_) (a' := ?_) #[true, false, false, false, false, false, false, false, false, false, false, false, false, false, false, false, false, false, false, false, false, false, false, false, false, false, false, false] rfl rfl (any_of HT_.out (by kernel_rfl)) (fun _ _ _ h => h) (Or.inl ⟨by rfl, ?_⟩) ?_ ?_
                     rotate_left
                     ·intro w'
                      go_simp
                      with_reducible rfl
                     rotate_left
                     ·simp only [Act.put, List.setIfInBounds_toArray, List.set_cons_zero, List.set_cons_succ, i64_w, i32_w]
                      rfl
                     refine pure_ (i := 1) (N := some 66) (v := ?_) (a' := ?_) #[true, true, false, false, false, false, false, false, false, false, false, false, false, false, false, false, false, false, false, false, false, false, false, false, false, false, false, false] rfl rfl (any_of HT_.out (by kernel_rfl)) (fun _ _ _ h => h) (Or.inl ⟨by rfl, ?_⟩) ?_ ?_
                     rotate_left
                     ·intro w'
                      go_simp
                      with_reducible rfl
                     rotate_left
                     ·simp only [Act.put, List.setIfInBounds_toArray, List.set_cons_zero, List.set_cons_succ, i64_w, i32_w]
                      rfl
                     refine pure_ (i := 2) (N := some 67) (v := ?_) (a' := ?_) #[true, true, true, false, false, false, false, false, false, false, false, false, false, false, false, false, false, false, false, false, false, false, false, false, false, false, false, false] rfl rfl (any_of HT_.out (by kernel_rfl)) (fun _ _ _ h => h) (Or.inl ⟨by rfl, ?_⟩) ?_ ?_
                     rotate_left
                     ·intro w'
                      go_simp
                      with_reducible rfl
                     rotate_left
                     ·simp only [Act.put, List.setIfInBounds_toArray, List.set_cons_zero, List.set_cons_succ, i64_w, i32_w]
                      rfl
                     refine pure_ (i := 3) (N := some 68) (v := ?_) (a' := ?_) #[true, true, true, true, false, false, false, false, false, false, false, false, false, false, false, false, false, false, false, false, false, false, false, false, false, false, false, false] rfl rfl (any_of HT_.out (by kernel_rfl)) (fun _ _ _ h => h) (Or.inl ⟨by rfl, ?_⟩) ?_ ?_
                     rotate_left
                     ·intro w'
                      go_simp
                      with_reducible rfl
                     rotate_left
                     ·simp only [Act.put, List.setIfInBounds_toArray, List.set_cons_zero, List.set_cons_succ, i64_w, i32_w]
                      rfl
                     refine pure_ (i := 4) (N := some 69) (v := ?_) (a' := ?_) #[true, true, true, true, true, false, false, false, false, false, false, false, false, false, false, false, false, false, false, false, false, false, false, false, false, false, false, false] rfl rfl (any_of HT_.out (by kernel_rfl)) (fun _ _ _ h => h) (Or.inl ⟨by rfl, ?_⟩) ?_ ?_
                     rotate_left
                     ·intro w'
                      go_simp
                      with_reducible rfl
                     rotate_left
                     ·simp only [Act.put, List.setIfInBounds_toArray, List.set_cons_zero, List.set_cons_succ, i64_w, i32_w]
                      rfl
                     refine pure_ (i := 6) (N := some 71) (v := ?_) (a' := ?_) #[true, true, true, true, true, false, true, false, false, false, false, false, false, false, false, false, false, false, false, false, false, false, false, false, false, false, false, false] rfl rfl (any_of HT_.out (by kernel_rfl)) (fun _ _ _ h => h) (Or.inl ⟨by rfl, ?_⟩) ?_ ?_
                     rotate_left
                     ·intro w'
                      go_simp
                      with_reducible rfl
                     rotate_left
                     ·simp only [Act.put, List.setIfInBounds_toArray, List.set_cons_zero, List.set_cons_succ, i64_w, i32_w]
                      rfl
                     refine pure_ (i := 8) (N := some 73) (v := ?_) (a' := ?_) #[true, true, true, true, true, false, true, false, true, false, false, false, false, false, false, false, false, false, false, false, false, false, false, false, false, false, false, false] rfl rfl (any_of HT_.out (by kernel_rfl)) (fun _ _ _ h => h) (Or.inl ⟨by rfl, ?_⟩) ?_ ?_
                     rotate_left
                     ·intro w'
                      go_simp
                      with_reducible rfl
                     rotate_left
                     ·simp only [Act.put, List.setIfInBounds_toArray, List.set_cons_zero, List.set_cons_succ, i64_w, i32_w]
                      rfl
                     refine pure_ (i := 10) (N := some 75) (v := ?_) (a' := ?_) #[true, true, true, true, true, false, true, false, true, false, true, false, false, false, false, false, false, false, false, false, false, false, false, false, false, false, false, false] rfl rfl (any_of HT_.out (by kernel_rfl)) (fun _ _ _ h => h) (Or.inl ⟨by rfl, ?_⟩) ?_ ?_
                     rotate_left
                     ·intro w'
                      go_simp
                      with_reducible rfl
                     rotate_left
                     ·simp only [Act.put, List.setIfInBounds_toArray, List.set_cons_zero, List.set_cons_succ, i64_w, i32_w]
                      rfl
                     refine pure_ (i := 13) (N := some 78) (v := ?_) (a' := ?_) #[true, true, true, true, true, false, true, false, true, false, true, false, false, true, false, false, false, false, false, false, false, false, false, false, false, false, false, false] rfl rfl (any_of HT_.out (by kernel_rfl)) (fun _ _ _ h => h) (Or.inl ⟨by rfl, ?_⟩) ?_ ?_
                     rotate_left
                     ·intro w'
                      go_simp
                      with_reducible rfl
                     rotate_left
                     ·simp only [Act.put, List.setIfInBounds_toArray, List.set_cons_zero, List.set_cons_succ, i64_w, i32_w]
                      rfl
                     refine pure_ (i := 14) (N := some 79) (v := ?_) (a' := ?_) #[true, true, true, true, true, false, true, false, true, false, true, false, false, true, true, false, false, false, false, false, false, false, false, false, false, false, false, false] rfl rfl (any_of HT_.out (by kernel_rfl)) (fun _ _ _ h => h) (Or.inl ⟨by rfl, ?_⟩) ?_ ?_
                     rotate_left
                     ·intro w'
                      go_simp
                      with_reducible rfl
                     rotate_left
                     ·simp only [Act.put, List.setIfInBounds_toArray, List.set_cons_zero, List.set_cons_succ, i64_w, i32_w]
                      rfl
                     refine pure_ (i := 15) (N := some 80) (v := ?_) (a' := ?_) #[true, true, true, true, true, false, true, false, true, false, true, false, false, true, true, true, false, false, false, false, false, false, false, false, false, false, false, false] rfl rfl (any_of HT_.out (by kernel_rfl)) (fun _ _ _ h => h) (Or.inl ⟨by rfl, ?_⟩) ?_ ?_
                     rotate_left
                     ·intro w'
                      go_simp
                      with_reducible rfl
                     rotate_left
                     ·simp only [Act.put, List.setIfInBounds_toArray, List.set_cons_zero, List.set_cons_succ, i64_w, i32_w]
                      rfl
                     refine pure_ (i := 17) (N := some 82) (v := ?_) (a' := ?_) #[true, true, true, true, true, false, true, false, true, false, true, false, false, true, true, true, false, true, false, false, false, false, false, false, false, false, false, false] rfl rfl (any_of HT_.out (by kernel_rfl)) (fun _ _ _ h => h) (Or.inl ⟨by rfl, ?_⟩) ?_ ?_
                     rotate_left
                     ·intro w'
                      go_simp
                      with_reducible rfl
                     rotate_left
                     ·simp only [Act.put, List.setIfInBounds_toArray, List.set_cons_zero, List.set_cons_succ, i64_w, i32_w]
                      rfl
                     refine pure_ (i := 18) (N := some 83) (v := ?_) (a' := ?_) #[true, true, true, true, true, false, true, false, true, false, true, false, false, true, true, true, false, true, true, false, false, false, false, false, false, false, false, false] rfl rfl (any_of HT_.out (by kernel_rfl)) (fun _ _ _ h => h) (Or.inl ⟨by rfl, ?_⟩) ?_ ?_
                     rotate_left
                     ·intro w'
                      go_simp
                      with_reducible rfl
                     rotate_left
                     ·simp only [Act.put, List.setIfInBounds_toArray, List.set_cons_zero, List.set_cons_succ, i64_w, i32_w]
                      rfl
                     refine pure_ (i := 19) (N := some 84) (v := ?_) (a' := ?_) #[true, true, true, true, true, false, true, false, true, false, true, false, false, true, true, true, false, true, true, true, false, false, false, false, false, false, false, false] rfl rfl (any_of HT_.out (by kernel_rfl)) (fun _ _ _ h => h) (Or.inl ⟨by rfl, ?_⟩) ?_ ?_
                     rotate_left
                     ·intro w'
                      go_simp
                      with_reducible rfl
                     rotate_left
                     ·simp only [Act.put, List.setIfInBounds_toArray, List.set_cons_zero, List.set_cons_succ, i64_w, i32_w]
                      rfl
                     refine pure_ (i := 23) (N := some 88) (v := ?_) (a' := ?_) #[true, true, true, true, true, false, true, false, true, false, true, false, false, true, true, true, false, true, true, true, false, false, false, true, false, false, false, false] rfl rfl (any_of HT_.out (by kernel_rfl)) (fun _ _ _ h => h) (Or.inl ⟨by rfl, ?_⟩) ?_ ?_
                     rotate_left
                     ·intro w'
                      go_simp
                      with_reducible rfl
                     rotate_left
                     ·simp only [Act.put, List.setIfInBounds_toArray, List.set_cons_zero, List.set_cons_succ, i64_w, i32_w]
                      rfl
                     refine take_ (i := 5) (N := some 70) (v := ?_) (a' := ?_) #[true, true, true, true, true, true, true, false, true, false, true, false, false, true, true, true, false, true, true, true, false, false, false, true, false, false, false, false] rfl rfl (take_ofW HT_.out HW_.out (by kernel_rfl)) (fun _ _ _ h => h) (Or.inl ⟨by rfl, ?_⟩) hHeld ?_ ?_
                     rotate_left
                     ·rintro w' ⟨s0, s1, s2, s3, s4, s5⟩
                      go_simp
                      with_reducible rfl
                     rotate_left
                     ·simp only [Act.put, List.setIfInBounds_toArray, List.set_cons_zero, List.set_cons_succ, i64_w, i32_w]
                      rfl
                     refine take_ (i := 7) (N := some 72) (v := ?_) (a' := ?_) #[true, true, true, true, true, true, true, true, true, false, true, false, false, true, true, true, false, true, true, true, false, false, false, true, false, false, false, false] rfl rfl (take_ofW HT_.out HW_.out (by kernel_rfl)) (fun _ _ _ h => h) (Or.inl ⟨by rfl, ?_⟩) hHeld ?_ ?_
                     rotate_left
                     ·rintro w' ⟨s0, s1, s2, s3, s4, s5⟩
                      go_simp
                      with_reducible rfl
                     rotate_left
                     ·simp only [Act.put, List.setIfInBounds_toArray, List.set_cons_zero, List.set_cons_succ, i64_w, i32_w]
                      rfl
                     refine pure_ (i := 9) (N := some 74) (v := ?_) (a' := ?_) #[true, true, true, true, true, true, true, true, true, true, true, false, false, true, true, true, false, true, true, true, false, false, false, true, false, false, false, false] rfl rfl (any_of HT_.out (by kernel_rfl)) (fun _ _ _ h => h) (Or.inl ⟨by rfl, ?_⟩) ?_ ?_
                     rotate_left
                     ·intro w'
                      go_simp
                      with_reducible rfl
                     rotate_left
                     ·simp only [Act.put, List.setIfInBounds_toArray, List.set_cons_zero, List.set_cons_succ, i64_w, i32_w]
                      rfl
                     refine pure_ (i := 11) (N := some 76) (v := ?_) (a' := ?_) #[true, true, true, true, true, true, true, true, true, true, true, true, false, true, true, true, false, true, true, true, false, false, false, true, false, false, false, false] rfl rfl (any_of HT_.out (by kernel_rfl)) (fun _ _ _ h => h) (Or.inl ⟨by rfl, ?_⟩) ?_ ?_
                     rotate_left
                     ·intro w'
                      go_simp
                      with_reducible rfl
                     rotate_left
                     ·simp only [Act.put, List.setIfInBounds_toArray, List.set_cons_zero, List.set_cons_succ, i64_w, i32_w]
                      rfl
                     refine pure_ (i := 12) (N := some 77) (v := ?_) (a' := ?_) #[true, true, true, true, true, true, true, true, true, true, true, true, true, true, true, true, false, true, true, true, false, false, false, true, false, false, false, false] rfl rfl (any_of HT_.out (by kernel_rfl)) (fun _ _ _ h => h) (Or.inl ⟨by rfl, ?_⟩) ?_ ?_
                     rotate_left
                     ·intro w'
                      go_simp
                      with_reducible rfl
                     rotate_left
                     ·simp only [Act.put, List.setIfInBounds_toArray, List.set_cons_zero, List.set_cons_succ, i64_w, i32_w]
                      rfl
                     refine take_ (i := 16) (N := some 81) (v := ?_) (a' := ?_) #[true, true, true, true, true, true, true, true, true, true, true, true, true, true, true, true, true, true, true, true, false, false, false, true, false, false, false, false] rfl rfl (take_ofW HT_.out HW_.out (by kernel_rfl)) (fun _ _ _ h => h) (Or.inl ⟨by rfl, ?_⟩) hHeld ?_ ?_
                     rotate_left
                     ·rintro w' ⟨s0, s1, s2, s3, s4, s5⟩
                      go_simp
                      with_reducible rfl
                     rotate_left
                     ·simp only [Act.put, List.setIfInBounds_toArray, List.set_cons_zero, List.set_cons_succ, i64_w, i32_w]
                      rfl
                     refine take_ (i := 20) (N := some 85) (v := ?_) (a' := ?_) #[true, true, true, true, true, true, true, true, true, true, true, true, true, true, true, true, true, true, true, true, true, false, false, true, false, false, false, false] rfl rfl (take_ofW HT_.out HW_.out (by kernel_rfl)) (fun _ _ _ h => h) (Or.inl ⟨by rfl, ?_⟩) hHeld ?_ ?_
                     rotate_left
                     ·rintro w' ⟨s0, s1, s2, s3, s4, s5⟩
                      go_simp
                      with_reducible rfl
                     rotate_left
                     ·simp only [Act.put, List.setIfInBounds_toArray, List.set_cons_zero, List.set_cons_succ, i64_w, i32_w]
                      rfl
                     refine pure_ (i := 21) (N := some 86) (v := ?_) (a' := ?_) #[true, true, true, true, true, true, true, true, true, true, true, true, true, true, true, true, true, true, true, true, true, true, false, true, false, false, false, false] rfl rfl (any_of HT_.out (by kernel_rfl)) (fun _ _ _ h => h) (Or.inl ⟨by rfl, ?_⟩) ?_ ?_
                     rotate_left
                     ·intro w'
                      go_simp
                      with_reducible rfl
                     rotate_left
                     ·simp only [Act.put, List.setIfInBounds_toArray, List.set_cons_zero, List.set_cons_succ, i64_w, i32_w]
                      rfl
                     refine pure_ (i := 22) (N := some 87) (v := ?_) (a' := ?_) #[true, true, true, true, true, true, true, true, true, true, true, true, true, true, true, true, true, true, true, true, true, true, true, true, false, false, false, false] rfl rfl (any_of HT_.out (by kernel_rfl)) (fun _ _ _ h => h) (Or.inl ⟨by rfl, ?_⟩) ?_ ?_
                     rotate_left
                     ·intro w'
                      go_simp
                      with_reducible rfl
                     rotate_left
                     ·simp only [Act.put, List.setIfInBounds_toArray, List.set_cons_zero, List.set_cons_succ, i64_w, i32_w]
                      rfl
                     refine take_ (i := 24) (N := some 89) (v := ?_) (a' := ?_) #[true, true, true, true, true, true, true, true, true, true, true, true, true, true, true, true, true, true, true, true, true, true, true, true, true, false, false, false] rfl rfl (take_ofW HT_.out HW_.out (by kernel_rfl)) (fun _ _ _ h => h) (Or.inl ⟨by rfl, ?_⟩) hHeld ?_ ?_
                     rotate_left
                     ·rintro w' ⟨s0, s1, s2, s3, s4, s5⟩
                      go_simp
                      with_reducible rfl
                     rotate_left
                     ·simp only [Act.put, List.setIfInBounds_toArray, List.set_cons_zero, List.set_cons_succ, i64_w, i32_w]
                      rfl
                     refine pure_ (i := 25) (N := some 90) (v := ?_) (a' := ?_) #[true, true, true, true, true, true, true, true, true, true, true, true, true, true, true, true, true, true, true, true, true, true, true, true, true, true, false, false] rfl rfl (any_of HT_.out (by kernel_rfl)) (fun _ _ _ h => h) (Or.inl ⟨by rfl, ?_⟩) ?_ ?_
                     rotate_left
                     ·intro w'
                      go_simp
                      with_reducible rfl
                     rotate_left
                     ·simp only [Act.put, List.setIfInBounds_toArray, List.set_cons_zero, List.set_cons_succ, i64_w, i32_w]
                      rfl
                     refine pure_ (i := 26) (N := some 91) (v := ?_) (a' := ?_) #[true, true, true, true, true, true, true, true, true, true, true, true, true, true, true, true, true, true, true, true, true, true, true, true, true, true, true, false] rfl rfl (any_of HT_.out (by kernel_rfl)) (fun _ _ _ h => h) (Or.inl ⟨by rfl, ?_⟩) ?_ ?_
                     rotate_left
                     ·intro w'
                      go_simp
                      with_reducible rfl
                     rotate_left
                     ·simp only [Act.put, List.setIfInBounds_toArray, List.set_cons_zero, List.set_cons_succ, i64_w, i32_w]
                      rfl
                     refine last_ (i := 27) (N := none) #[true, true, true, true, true, true, true, true, true, true, true, true, true, true, true, true, true, true, true, true, true, true, true, true, true, true, true, true] rfl rfl (one_of HT_.out (by kernel_rfl)) (by decide) (fun K hK => ?_)
                     refine skip_ (w1 := ?_) (by rfl) rfl ?_ ?_
                     rotate_left
                     ·go_simp
                      rfl
                     refine hK.out _ _ ?_
                     clear hK K
                     refine done_ (done_of HT_.out (by kernel_rfl)) ?_
                     try go_wp2
                     (try simp only [← hl9_2])
                     go_roundg k2
                     case measure => have := HK1.out; have := HK2.out; omega
                     case rel => exact ⟨(y139), (wrap64 (x54_2 + 1)), (by first | rfl | (simp; done) | (simp [*]; done)), H', ⟨by have := HK1.out; have := HK2.out; omega⟩, ⟨by (try simp only [hl9_2]); (with_reducible repeat (first | apply Kd.R_alloc | apply Kd.R_drewN | apply Kd.R_drew)); exact Kd.R_mono (Kd.R_far (p := ⟨go24, (x54_2 : Int).toNat, none⟩) (Kd.R_mono HO_7.out (fun k_ hk => (⟨hk, fun e_ => hk.2 (by rw [e_]; rfl)⟩ : _ ∧ k_ ≠ go24))) (fun _ hk => hk.2) (.int .i64 (Int.tmod (wrap64 ((wrap64 ((rd x9_2 x54_2) + (wrap64 0))) + (wrap64 ((rd t114 x10_1) * (rd t111 x54_2))))) a0_0))) (fun _ hk => ⟨hk.1.1, hk.1.2⟩)⟩, ⟨by (try simp only [hl9_2]); (with_reducible repeat (first | apply Kd.R_alloc | apply Kd.R_drewN | apply Kd.R_drew)); exact Kd.R_mono (Kd.R_far (p := ⟨go24, (x54_2 : Int).toNat, none⟩) (Kd.R_mono HO_8.out (fun k_ hk => (⟨hk, fun e_ => hk.2 (by rw [e_]; rfl)⟩ : _ ∧ k_ ≠ go24))) (fun _ hk => hk.2) (.int .i64 (Int.tmod (wrap64 ((wrap64 ((rd x9_2 x54_2) + (wrap64 0))) + (wrap64 ((rd t114 x10_1) * (rd t111 x54_2))))) a0_0))) (fun _ hk => ⟨hk.1.1, hk.1.2⟩)⟩, ⟨by (try simp only [hl9_2]); (with_reducible repeat (first | apply Kd.R_alloc | apply Kd.R_drewN | apply Kd.R_drew)); exact HQ58.out⟩, ⟨by (try simp only [hl9_2]); (with_reducible repeat (first | refine blk_drewN ?_ _ | refine blk_drew ?_ | refine blk_alloc ?_ _)); refine blk_far ?_ (by have h_ := Kd.R_ne HO_9.out BK110.out (by decide); intro e_; exact h_ (by rw [e_]; rfl)) _; (with_reducible repeat (first | refine blk_drewN ?_ _ | refine blk_drew ?_ | refine blk_alloc ?_ _)); exact BK110.out⟩, ⟨by repeat (first | (with_reducible first | exact HB.out | apply below_alloc | apply pw_below_drewN | apply below_drew1 | refine below_set ?_ GB24.out | refine below_set ?_ GE110.out) | exact HB.out)⟩⟩
                   ·rw [if_neg c51] at H
                    exact absurd H (by simp)
                  ·rw [if_neg c50] at H
                   exact absurd H (by simp)
                 ·rw [if_neg c49] at H
                  exact absurd H (by simp)
                ·rw [if_neg c48] at H
                 exact absurd H (by simp)
               ·rw [if_neg c47] at H
                exact absurd H (by simp)
             ·rw [if_neg c32] at H
              have c32b0 : decide (x54_2 < (x9_1.length : Int)) = false := decide_eq_false c32
              clear c32
              (try rw [hl9_2] at c32b0)
              have H' := Aside0.mk H
              clear H
              go_wp2
              (try simp only [← hl9_2])
              refine Handed.intro k2 ?measure ?_
              rotate_left
              go_step
              (repeat apply Exists.intro)
              refine ⟨?rel, (by first | rfl | (rw [hji17]; done) | (rw [hji17]; rfl))⟩
              case measure => have := HK1.out; have := HK2.out; omega
              case rel => exact ⟨(x9_2), (wrap64 (x10_1 - 1)), (by first | rfl | (simp; done) | (simp [*]; done)), H', ⟨by have := HK1.out; have := HK2.out; omega⟩, ⟨by (try simp only [hl9_2]); (with_reducible repeat (first | apply Kd.R_alloc | apply Kd.R_drewN | apply Kd.R_drew)); exact HO_7.out⟩, ⟨by (try simp only [hl9_2]); (with_reducible repeat (first | apply Kd.R_alloc | apply Kd.R_drewN | apply Kd.R_drew)); exact HO_8.out⟩, ⟨by (try simp only [hl9_2]); (with_reducible repeat (first | apply Kd.R_alloc | apply Kd.R_drewN | apply Kd.R_drew)); exact HO_9.out⟩, ⟨by (try simp only [hl9_2]); (with_reducible repeat (first | refine blk_drewN ?_ _ | refine blk_drew ?_ | refine blk_alloc ?_ _)); exact BK110.out⟩, ⟨by repeat (first | (with_reducible first | exact HB.out | apply below_alloc | apply pw_below_drewN | apply below_drew1 | refine below_set ?_ GE110.out) | exact HB.out)⟩⟩
          ·rw [if_neg c23] at H
           exact absurd H (by simp)
         ·rw [if_neg c22] at H
          exact absurd H (by simp)
        ·rw [if_neg c20] at H
         exact absurd H (by simp)
       ·rw [if_neg c19] at H
        exact absurd H (by simp)
      ·rw [if_neg c18] at H
       exact absurd H (by simp)
     ·rw [if_neg c16] at H
      have c16b0 : decide (0 ≤ x10_1) = false := decide_eq_false c16
      clear c16
      replace H := Option.bind_eq_some_iff.mp H
      obtain ⟨t120, A590, H⟩ := H
      replace H : (some t120) = some r := H
      have A59 := Aside0.mk A590
      clear A590
      obtain rfl := Option.some.inj H
      have hcz60_0 : wr.cell? ⟨gb110, 0, none⟩ = some (.int .i64 a0_0) := (blk_cell BK110.out 0).trans rfl
      have hcz60_1 : wr.cell? ⟨gb110, 1, none⟩ = some (.int .i64 a0_1) := (blk_cell BK110.out 1).trans rfl
      have hcz60_2 : wr.cell? ⟨gb110, 2, none⟩ = some (.slice A0_2 l0_2.length c0_2) := (blk_cell BK110.out 2).trans rfl
      have hfz60_0 := blk_frozen BK110.out 0
      have hfz60_1 := blk_frozen BK110.out 1
      have hfz60_2 := blk_frozen BK110.out 2
      obtain ⟨Ao61, co61, eo61⟩ := Kd.R_slice HO_9.out
      subst eo61
      go_wp2_with (first | ((with_reducible refine gate_callee (f := 123) rfl ?_); refine goesL_ (some 96) rfl rfl Try.func123 (by kernel_rfl) rfl #[.slice Ao61 x9_1.length co61, .int .i64 a0_0] rfl (by (try simp only [List.map_toArray, List.map_cons, List.map_nil]); first | done | rfl | (simp only [List.length_drop, List.length_take]; rfl)) ?_; (with_reducible refine (field_valueOf.calls k1 _ _ x9_1 a0_0 t120 _ ?side1 ?side2 A59.out).mono ?_); (case side1 => repeat (first | exact (Kd.R_reads' HO_9.out).2.2 | (with_reducible refine Kd.C_alloc ?_ _) | (with_reducible refine Kd.C_drewN ?_ _) | (with_reducible refine Kd.C_drew ?_))); (case side2 => exact (Kd.R_reads' HO_9.out).2.1); rintro e w' ⟨rfl, ⟨nd, rfl⟩⟩; refine ⟨_, rfl, ?_⟩))
      go_ret
      exact ⟨by first | rfl | (simp [errW_none, errW_some] <;> rfl) | (simp [*, errW_none, errW_some] <;> rfl), by repeat (first | (with_reducible first | exact HB.out | apply below_alloc | apply pw_below_drewN | apply below_drew1 | refine below_set ?_ GE110.out) | exact HB.out)⟩
  ·rw [if_neg c7] at H
   exact absurd H (by simp)
 ·rw [if_neg c6] at H
  exact absurd H (by simp)

end Go.Proofs.Ytibbdjkboglepaa.QBchRoots

-- My own print: a program's text for this claim
import Derived.Test.YtibbdjkboglepaaQBchRootsx0
import Derived.Test.YtibbdjkboglepaaQBchRootsx4
namespace Go.Proofs.Ytibbdjkboglepaa.QBchRoots
open Go.RowKit Go.Proofs.YtibbdjkboglepaaW.PrintWords Go.Proofs.YtibbdjkboglepaaW.PrintLast Go.Proofs.YtibbdjkboglepaaW.PrintMore
attribute [local go_sem] max2_int min2_int max_two min_two max_three min_three max_four min_four   -- for this text's walks alone
set_option linter.unusedVariables false
set_option linter.unusedSimpArgs false

/-! ### codewrightref04_divides: function 94 -/
mutual
def codewrightref04_divides.l0 : Nat → List Int → Int → Int → List Int → Int → Option (Bool)
 | 0, _, _, _, _, _ => none
 | k + 1, x0, x2, x7, x8, x9 => if x9 ≥ x7 then (if 0 ≤ x9 then (if x9 < (x8.length : Int) then (codewrightref04_divides.l1 k x0 x2 x7 x8 x9 (rd x8 x9) 0) else (none)) else (none)) else (codewrightref04_divides.l2 k x8 0)
def codewrightref04_divides.l1 : Nat → List Int → Int → Int → List Int → Int → Int → Int → Option (Bool)
 | 0, _, _, _, _, _, _, _ => none
 | k + 1, x0, x2, x7, x8, x9, x10, x11 => if x11 < x7 then (if 0 ≤ (wrap64 ((wrap64 (x9 - x7)) + x11)) then (if (wrap64 ((wrap64 (x9 - x7)) + x11)) < (x8.length : Int) then (if 0 ≤ x11 then (if x11 < (x0.length : Int) then (if x2 = 0 then (none) else (codewrightref04_divides.l1 k x0 x2 x7 (x8.set ((wrap64 ((wrap64 (x9 - x7)) + x11)) : Int).toNat (Int.tmod (wrap64 ((rd x8 (wrap64 ((wrap64 (x9 - x7)) + x11))) + (wrap64 ((wrap64 (x2 - x10)) * (rd x0 x11))))) x2)) x9 x10 (wrap64 (x11 + 1)))) else (none)) else (none)) else (none)) else (none)) else (if 0 ≤ x9 then (if x9 < (x8.length : Int) then (codewrightref04_divides.l0 k x0 x2 x7 (x8.set (x9 : Int).toNat 0) (wrap64 (x9 - 1))) else (none)) else (none))
def codewrightref04_divides.l2 : Nat → List Int → Int → Option (Bool)
 | 0, _, _ => none
 | k + 1, x8, x12 => if x12 < (x8.length : Int) then (if 0 ≤ x12 then (if (rd x8 x12) = 0 then (codewrightref04_divides.l2 k x8 (wrap64 (x12 + 1))) else (some false)) else (none)) else (some true)
end
def codewrightref04_divides.f (k : Nat) (l0 : List Int) (l1 : List Int) (a2 : Int) : Option (Bool) := (some (([] : List Int) : List Int)).bind fun y215 => (if y215.length + l1.length < 17592186044416 then ((some (y215 ++ l1 : List Int)).bind fun y218 => (if y218.length < 17592186044416 then ((some (y218 ++ [1] : List Int)).bind fun y221 => (codewrightref04_divides.l0 k l0 a2 (l0.length : Int) y221 (wrap64 ((y221.length : Int) - 1)))) else (none))) else (none))
theorem codewrightref04_divides.mono_l : ∀ k, (∀ y0 y1 y2 y3 y4, LeO (codewrightref04_divides.l0 k y0 y1 y2 y3 y4) (codewrightref04_divides.l0 (k + 1) y0 y1 y2 y3 y4)) ∧ (∀ y0 y1 y2 y3 y4 y5 y6, LeO (codewrightref04_divides.l1 k y0 y1 y2 y3 y4 y5 y6) (codewrightref04_divides.l1 (k + 1) y0 y1 y2 y3 y4 y5 y6)) ∧ (∀ y0 y1, LeO (codewrightref04_divides.l2 k y0 y1) (codewrightref04_divides.l2 (k + 1) y0 y1))
 | 0 => ⟨fun _ _ _ _ _ r h => by simp [codewrightref04_divides.l0] at h, fun _ _ _ _ _ _ _ r h => by simp [codewrightref04_divides.l1] at h, fun _ _ r h => by simp [codewrightref04_divides.l2] at h⟩
 | k + 1 => by
  obtain ⟨ih0, ih1, ih2⟩ := codewrightref04_divides.mono_l k
  refine ⟨?_, ?_, ?_⟩
  ·intro y0 y1 y2 y3 y4
   unfold codewrightref04_divides.l0
   repeat' first
   | (with_reducible exact ih0 _ _ _ _ _)
   | (with_reducible exact ih1 _ _ _ _ _ _ _)
   | (with_reducible exact ih2 _ _)
   | (with_reducible exact LeO.refl _)
   | (with_reducible exact LeO.none _)
   | (with_reducible refine LeO.ite ?_ ?_)
   | (with_reducible refine LeO.bind ?_ (fun _ => ?_))
   | exact ih0 _ _ _ _ _
   | exact ih1 _ _ _ _ _ _ _
   | exact ih2 _ _
   | exact LeO.none _
   | refine LeO.ite ?_ ?_
   | refine LeO.bind ?_ (fun _ => ?_)
  ·intro y0 y1 y2 y3 y4 y5 y6
   unfold codewrightref04_divides.l1
   repeat' first
   | (with_reducible exact ih0 _ _ _ _ _)
   | (with_reducible exact ih1 _ _ _ _ _ _ _)
   | (with_reducible exact ih2 _ _)
   | (with_reducible exact LeO.refl _)
   | (with_reducible exact LeO.none _)
   | (with_reducible refine LeO.ite ?_ ?_)
   | (with_reducible refine LeO.bind ?_ (fun _ => ?_))
   | exact ih0 _ _ _ _ _
   | exact ih1 _ _ _ _ _ _ _
   | exact ih2 _ _
   | exact LeO.none _
   | refine LeO.ite ?_ ?_
   | refine LeO.bind ?_ (fun _ => ?_)
  ·intro y0 y1
   unfold codewrightref04_divides.l2
   repeat' first
   | (with_reducible exact ih0 _ _ _ _ _)
   | (with_reducible exact ih1 _ _ _ _ _ _ _)
   | (with_reducible exact ih2 _ _)
   | (with_reducible exact LeO.refl _)
   | (with_reducible exact LeO.none _)
   | (with_reducible refine LeO.ite ?_ ?_)
   | (with_reducible refine LeO.bind ?_ (fun _ => ?_))
   | exact ih0 _ _ _ _ _
   | exact ih1 _ _ _ _ _ _ _
   | exact ih2 _ _
   | exact LeO.none _
   | refine LeO.ite ?_ ?_
   | refine LeO.bind ?_ (fun _ => ?_)
theorem codewrightref04_divides.mono : ∀ a0 a1 a2 k, LeO (codewrightref04_divides.f k a0 a1 a2) (codewrightref04_divides.f (k + 1) a0 a1 a2) := by
 intro a0 a1 a2 k
 obtain ⟨ih0, ih1, ih2⟩ := codewrightref04_divides.mono_l k
 unfold codewrightref04_divides.f
 repeat' first
   | (with_reducible exact ih0 _ _ _ _ _)
   | (with_reducible exact ih1 _ _ _ _ _ _ _)
   | (with_reducible exact ih2 _ _)
   | (with_reducible exact LeO.refl _)
   | (with_reducible exact LeO.none _)
   | (with_reducible refine LeO.ite ?_ ?_)
   | (with_reducible refine LeO.bind ?_ (fun _ => ?_))
   | exact ih0 _ _ _ _ _
   | exact ih1 _ _ _ _ _ _ _
   | exact ih2 _ _
   | exact LeO.none _
   | refine LeO.ite ?_ ?_
   | refine LeO.bind ?_ (fun _ => ?_)
def codewrightref04_divides.T11 : Bool × List (List Nat × List Nat) := (true, [([], []), ([], []), ([], []), ([1, 2], [1, 2]), ([], []), ([3, 4], [3, 4]), ([], []), ([], []), ([], []), ([7, 8], [7, 8]), ([], []), ([9, 10], [9, 10]), ([6, 11], [6, 11]), ([12], [12]), ([], []), ([], []), ([14, 15], [14, 15]), ([], []), ([], []), ([17, 18], [17, 18]), ([19], [19]), ([16, 20], [16, 20]), ([13, 21], [13, 21]), ([], []), ([22, 23], [22, 23]), ([0, 5, 0, 1, 2, 3, 4, 5, 6, 7, 8, 9, 10, 11, 12, 13, 14, 15, 16, 17, 18, 19, 20, 21, 22, 23, 24], [0, 5]), ([25, 24, 0, 1, 2, 3, 4, 5, 6, 7, 8, 9, 10, 11, 12, 13, 14, 15, 16, 17, 18, 19, 20, 21, 22, 23, 24], [24, 25])])
def codewrightref04_divides.B11 : List Nat := [0, 0, 0, 6, 0, 30, 0, 0, 0, 384, 0, 1920, 4032, 8128, 0, 0, 49152, 0, 0, 393216, 917504, 2080768, 4194240, 0, 16777152, 33554431, 67108863]
theorem codewrightref04_divides.tab11 : rtab .any (opsOf Try.f94 11) = codewrightref04_divides.T11 := by kernel_rfl
theorem codewrightref04_divides.bits11 : waitsOk codewrightref04_divides.T11.2 codewrightref04_divides.B11 = true := by kernel_rfl
set_option maxHeartbeats 8000000 in
set_option maxRecDepth 100000 in
theorem codewrightref04_divides.calls (k : Nat) (A0 : Option Addr) (c0 : Nat) (l0 : List Int) (A1 : Option Addr) (c1 : Nat) (l1 : List Int) (a2 : Int) (r : Bool) (w : World) (hr0 : Kd.C (Kd.int .i64) w A0 l0.length l0) (hc0 : l0.length ≤ c0) (hr1 : Kd.C (Kd.int .i64) w A1 l1.length l1) (hc1 : l1.length ≤ c1) (h : codewrightref04_divides.f k l0 l1 a2 = some r) :
  Calls Try.prog 94 #[.slice A0 l0.length c0, .slice A1 l1.length c1, .int .i64 a2] w fun e w' => e = .returned (.bool r) ∧ Below w.heap.size w w' := by
 have HR0 := Aside0.mk hr0
 have HC0 := Aside0.mk hc0
 clear hr0 hc0
 have HR1 := Aside0.mk hr1
 have HC1 := Aside0.mk hc1
 clear hr1 hc1
 have HB := Aside0.mk (Below.refl w.heap.size w)
 have H : ((some (([] : List Int) : List Int)).bind fun y215 => (if y215.length + l1.length < 17592186044416 then ((some (y215 ++ l1 : List Int)).bind fun y218 => (if y218.length < 17592186044416 then ((some (y218 ++ [1] : List Int)).bind fun y221 => (codewrightref04_divides.l0 k l0 a2 (l0.length : Int) y221 (wrap64 ((y221.length : Int) - 1)))) else (none))) else (none))) = some r := h
 clear h
 obtain ⟨y215, hy215⟩ : ∃ y_ : List Int, y_ = (([] : List Int)) := ⟨_, rfl⟩
 replace H : (if y215.length + l1.length < 17592186044416 then ((some (y215 ++ l1 : List Int)).bind fun y218 => (if y218.length < 17592186044416 then ((some (y218 ++ [1] : List Int)).bind fun y221 => (codewrightref04_divides.l0 k l0 a2 (l0.length : Int) y221 (wrap64 ((y221.length : Int) - 1)))) else (none))) else (none)) = some r := by first | (rw [hy215]; with_reducible exact H) | (have H2_ := (Option.bind_some _ _).symm.trans H; rw [hy215]; with_reducible exact H2_) | (have H2_ := (Option.bind_some _ _).symm.trans H; with_reducible exact H2_) | with_reducible exact H | (rw [hy215]; exact H) | exact H
 have Ny215 := Aside0.mk hy215
 clear hy215
 by_cases c4 : y215.length + l1.length < 17592186044416
 ·rw [if_pos c4] at H
  have LMc4 := Aside0.mk c4
  clear c4
  obtain ⟨y218, hy218⟩ : ∃ y_ : List Int, y_ = (y215 ++ l1) := ⟨_, rfl⟩
  replace H : (if y218.length < 17592186044416 then ((some (y218 ++ [1] : List Int)).bind fun y221 => (codewrightref04_divides.l0 k l0 a2 (l0.length : Int) y221 (wrap64 ((y221.length : Int) - 1)))) else (none)) = some r := by first | (rw [hy218]; with_reducible exact H) | (have H2_ := (Option.bind_some _ _).symm.trans H; rw [hy218]; with_reducible exact H2_) | (have H2_ := (Option.bind_some _ _).symm.trans H; with_reducible exact H2_) | with_reducible exact H | (rw [hy218]; exact H) | exact H
  have Ny218 := Aside0.mk hy218
  clear hy218
  by_cases c5 : y218.length < 17592186044416
  ·rw [if_pos c5] at H
   have LMc5 := Aside0.mk c5
   clear c5
   obtain ⟨y221, hy221⟩ : ∃ y_ : List Int, y_ = (y218 ++ [1]) := ⟨_, rfl⟩
   replace H : (codewrightref04_divides.l0 k l0 a2 (l0.length : Int) y221 (wrap64 ((y221.length : Int) - 1))) = some r := by first | (rw [hy221]; with_reducible exact H) | (have H2_ := (Option.bind_some _ _).symm.trans H; rw [hy221]; with_reducible exact H2_) | (have H2_ := (Option.bind_some _ _).symm.trans H; with_reducible exact H2_) | with_reducible exact H | (rw [hy221]; exact H) | exact H
   have Ny221 := Aside0.mk hy221
   clear hy221
   have H' := Aside0.mk H
   clear H
   go_enter Try.func94, Try.ntmps94
   go_wp2_with (first | ((with_reducible refine gate_dst (N := 15) rfl ?_); refine Kd.R_lit (Kd.int .i64) _ 3 ?hg (N := 15) ?hd (xs := ([] : List Int)) (inner := []) (ok := fun _ => True) (okp := fun _ => True) ?hr ?hp (fun _ hk => hk) trivial (Below.refl _ _) (Nat.le_refl _) (by simp) ?_; (case hd => rfl); (case hg => rfl); (case hr => first | (go_simp; done) | (go_simp; rfl)); (case hp => exact (Reps.none _ _)); intro v216 w6 ho7 hb hg_ hnew_; clear hg_ hnew_; (first | rw [← Ny215.out] at ho7 | (simp only [Int.reduceToNat] at ho7; rw [← Ny215.out] at ho7)); have n0_ := Aside0.mk (Kd.R_lower ho7 (below_size (by repeat (first | (with_reducible first | exact HB.out | apply below_alloc | apply pw_below_drewN | apply below_drew1) | exact HB.out)))); have n1_ := Aside0.mk (below_step (by repeat (first | (with_reducible first | exact HB.out | apply below_alloc | apply pw_below_drewN | apply below_drew1) | exact HB.out)) hb); clear HB; have HO217 := n0_; have HB := n1_; clear n0_ n1_; clear hb ho7) | ((with_reducible refine gate_builtin (b := .append) (xs := #[.tmp 15, .tmp 16]) rfl ?_); at_builtin; refine Kd.R_append_rows (Kd.int .i64) (w0 := w) w.heap.size rfl (.tmp 15) (.tmp 16) 22 3 (.int .i64 0) 8 rfl Try.underlying22 info3 rfl (by decide) (by omega) v216 y215 l1 _ _ _ (fun _ => True) (fun _ => False) rfl rfl ?aO ?aR (fun _ _ h => h) (fun _ h => h.elim) ?aF ?aB ?aS ?aL ?_; (case aR => repeat (first | exact (Kd.C_below HR1.out HB.out) | (with_reducible refine Kd.C_alloc ?_ _) | (with_reducible refine Kd.C_drewN ?_ _) | (with_reducible refine Kd.C_drew ?_))); (case aB => exact (by repeat (first | (with_reducible first | exact HB.out | apply below_alloc | apply pw_below_drewN | apply below_drew1) | exact HB.out))); (case aF => exact (fun _ _ => trivial)); (case aO => exact (by (with_reducible repeat (first | apply Kd.R_alloc | apply Kd.R_drewN | apply Kd.R_drew)); exact HO217.out)); (case aS => exact (below_size (by repeat (first | (with_reducible first | exact HB.out | apply below_alloc | apply pw_below_drewN | apply below_drew1) | exact HB.out)))); (case aL => have := LMc4.out; omega); intro v219 w8 ho hb hg hat; rw [← Ny218.out] at ho; have n0_ := Aside0.mk (hb); have n1_ := Aside0.mk (ho); clear HB; clear HO217; have HB := n0_; have HO220 := n1_; clear n0_ n1_; clear ho hb hg hat) | ((with_reducible refine gate_builtin (b := .append) (xs := #[.tmp 18, .tmp 19]) rfl ?_); at_builtin; refine Kd.R_append (Kd.int .i64) (w0 := w) w.heap.size rfl (.tmp 18) (.tmp 19) 22 3 (.int .i64 0) 8 rfl Try.underlying22 info3 rfl (by decide) (by omega) v219 y218 1 [.int .i64 1] (fun _ => True) (fun _ => False) rfl rfl ?aP (fun _ hk => hk.elim) ?aF ?aO ?aB ?aS ?aL ?_; (case aP => exact rfl); (case aB => exact (by repeat (first | (with_reducible first | exact HB.out | apply below_alloc | apply pw_below_drewN | apply below_drew1) | exact HB.out))); (case aF => exact (fun _ _ => trivial)); (case aO => exact (by (with_reducible repeat (first | apply Kd.R_alloc | apply Kd.R_drewN | apply Kd.R_drew)); exact HO220.out)); (case aS => exact (below_size (by repeat (first | (with_reducible first | exact HB.out | apply below_alloc | apply pw_below_drewN | apply below_drew1) | exact HB.out)))); (case aL => have := LMc5.out; omega); intro v222 w9 ho hb hg hat; rw [← Ny221.out] at ho; have n0_ := Aside0.mk (hb); have n1_ := Aside0.mk (ho); clear HB; clear HO220; have HB := n0_; have HO223 := n1_; clear n0_ n1_; clear ho hb hg hat; obtain ⟨Ao10, co10, eo10⟩ := Kd.R_slice HO223.out; subst eo10))
   go_loopg [9] k (fun kq v9 w' => ∃ (x8_1 : List Int) (x9_1 : Int), v9 = .int .i64 x9_1 ∧ Aside0 (codewrightref04_divides.l0 kq l0 a2 (l0.length : Int) x8_1 x9_1 = some r) ∧ Aside0 (kq ≤ k) ∧ Aside0 (Kd.R (Kd.int .i64) 3 w' w.heap.size (fun _ => True) (.slice Ao10 y221.length co10) x8_1) ∧ Aside0 (Below w.heap.size w w'))
   case atStart => exact ⟨(y221), (wrap64 ((y221.length : Int) - 1)), (by first | rfl | (simp; done) | (simp [*]; done)), H', ⟨Nat.le_refl _⟩, ⟨by (with_reducible repeat (first | apply Kd.R_alloc | apply Kd.R_drewN | apply Kd.R_drew)); exact HO223.out⟩, ⟨by repeat (first | (with_reducible first | exact HB.out | apply below_alloc | apply pw_below_drewN | apply below_drew1) | exact HB.out)⟩⟩
   case round =>
    clear H'
    try clear c1
    try clear p2
    try clear c4
    try clear c5
    try clear p6
    try clear c9
    obtain ⟨x8_1, x9_1, rfl, HA, HK1, HO_8, HB⟩ := hrel
    have hl8_1 := (Kd.R_reads' HO_8.out).1
    rw [hl8_1] at HO_8
    (try simp only [hl8_1])
    cases gk with
    | zero => exact absurd HA.out (by simp [codewrightref04_divides.l0])
    | succ k1 =>
     have H := HA.out
     clear HA
     simp only [codewrightref04_divides.l0] at H
     by_cases c11 : x9_1 ≥ (l0.length : Int)
     ·rw [if_pos c11] at H
      have c11b0 : decide ((l0.length : Int) ≤ x9_1) = true := decide_eq_true c11
      clear c11
      by_cases c12 : 0 ≤ x9_1
      ·rw [if_pos c12] at H
       have c12b0 : decide (0 ≤ x9_1) = true := decide_eq_true c12
       clear c12
       by_cases c13 : x9_1 < (x8_1.length : Int)
       ·rw [if_pos c13] at H
        have c13b0 : decide (x9_1 < (x8_1.length : Int)) = true := decide_eq_true c13
        clear c13
        have H' := Aside0.mk H
        clear H
        have p224 : 0 ≤ (x9_1 : Int) := of_decide_eq_true (by first | (with_reducible assumption) | assumption)
        have q224 : x9_1 < (x8_1.length : Int) := of_decide_eq_true (by first | (with_reducible assumption) | assumption)
        obtain ⟨ad224, e224, hx224_0⟩ := Kd.at_int (Kd.R_reads' HO_8.out).2.2 x9_1 p224 q224
        cases e224
        replace p224 := eq_true p224
        replace q224 := eq_true q224
        go_wp2
        go_loopg [11] k1 (fun kq v11 w' => ∃ (x8_2 : List Int) (x11_2 : Int), v11 = .int .i64 x11_2 ∧ Aside0 (codewrightref04_divides.l1 kq l0 a2 (l0.length : Int) x8_2 x9_1 (rd x8_1 x9_1) x11_2 = some r) ∧ Aside0 (kq ≤ k1) ∧ Aside0 (Kd.R (Kd.int .i64) 3 w' w.heap.size (fun _ => True) (.slice (some ad224) x8_1.length co10) x8_2) ∧ Aside0 (Below w.heap.size w w'))
        case atStart => exact ⟨(x8_1), (0), (by first | rfl | (simp; done) | (simp [*]; done)), H', ⟨Nat.le_refl _⟩, ⟨by (try simp only [hl8_1]); (with_reducible repeat (first | apply Kd.R_alloc | apply Kd.R_drewN | apply Kd.R_drew)); exact HO_8.out⟩, ⟨by repeat (first | (with_reducible first | exact HB.out | apply below_alloc | apply pw_below_drewN | apply below_drew1) | exact HB.out)⟩⟩
        case round =>
         clear H'
         try clear c1
         try clear p2
         try clear q2
         try clear hx2
         try clear c4
         try clear c5
         try clear p6
         try clear c9
         try clear c11
         try clear c11b0
         try clear c12
         try clear c12b0
         try clear c13
         try clear c13b0
         try clear hx224_0
         try clear p2
         try clear p224
         try clear p6
         try clear q224
         obtain ⟨x8_2, x11_2, rfl, HA, HK2, HO_8, HB⟩ := hrel
         have hl8_2 := (Kd.R_reads' HO_8.out).1
         rw [hl8_2] at HO_8
         (try simp only [hl8_2])
         cases gk with
         | zero => exact absurd HA.out (by simp [codewrightref04_divides.l1])
         | succ k2 =>
          have H := HA.out
          clear HA
          simp only [codewrightref04_divides.l1] at H
          by_cases c14 : x11_2 < (l0.length : Int)
          ·rw [if_pos c14] at H
           have c14b0 : decide (x11_2 < (l0.length : Int)) = true := decide_eq_true c14
           clear c14
           obtain ⟨ji15, hji15⟩ : ∃ j_ : Int, (wrap64 ((wrap64 (x9_1 - (l0.length : Int))) + x11_2)) = j_ := ⟨_, rfl⟩
           replace H : (if 0 ≤ (ji15) then (if (ji15) < (x8_2.length : Int) then (if 0 ≤ x11_2 then (if x11_2 < (l0.length : Int) then (if a2 = 0 then (none) else (codewrightref04_divides.l1 k2 l0 a2 (l0.length : Int) (x8_2.set ((ji15) : Int).toNat (Int.tmod (wrap64 ((rd x8_2 (ji15)) + (wrap64 ((wrap64 (a2 - (rd x8_1 x9_1))) * (rd l0 x11_2))))) a2)) x9_1 (rd x8_1 x9_1) (wrap64 (x11_2 + 1)))) else (none)) else (none)) else (none)) else (none)) = some r := by first | (rw [hji15] at H; exact H) | (simp only [hji15] at H ⊢; exact H)
           have hji15w : (IntKind.i64.wrap ((wrap64 (x9_1 - (l0.length : Int))) + x11_2)) = ji15 := (i64_w _).trans hji15
           by_cases c16 : 0 ≤ (ji15)
           ·rw [if_pos c16] at H
            have c16b0 : decide (0 ≤ (ji15)) = true := decide_eq_true c16
            clear c16
            by_cases c17 : (ji15) < (x8_2.length : Int)
            ·rw [if_pos c17] at H
             have c17b0 : decide ((ji15) < (x8_2.length : Int)) = true := decide_eq_true c17
             clear c17
             by_cases c18 : 0 ≤ x11_2
             ·rw [if_pos c18] at H
              have c18b0 : decide (0 ≤ x11_2) = true := decide_eq_true c18
              clear c18
              by_cases c19 : x11_2 < (l0.length : Int)
              ·rw [if_pos c19] at H
               have c19b0 : decide (x11_2 < (l0.length : Int)) = true := decide_eq_true c19
               clear c19
               by_cases c20 : a2 = 0
               ·rw [if_pos c20] at H
                exact absurd H (by simp)
               ·rw [if_neg c20] at H
                have c20b0 : (a2 == 0) = false := beq_eq_false_iff_ne.mpr c20
                have c20b1 : (a2 != 0) = true := bne_iff_ne.mpr c20
                obtain ⟨y227, hy227⟩ : ∃ y_ : List Int, y_ = (x8_2.set ((ji15) : Int).toNat (Int.tmod (wrap64 ((rd x8_2 (ji15)) + (wrap64 ((wrap64 (a2 - (rd x8_1 x9_1))) * (rd l0 x11_2))))) a2)) := ⟨_, rfl⟩
                replace H : (codewrightref04_divides.l1 k2 l0 a2 (l0.length : Int) y227 x9_1 (rd x8_1 x9_1) (wrap64 (x11_2 + 1))) = some r := by first | (rw [hy227]; with_reducible exact H) | (have H2_ := (Option.bind_some _ _).symm.trans H; rw [hy227]; with_reducible exact H2_) | (have H2_ := (Option.bind_some _ _).symm.trans H; with_reducible exact H2_) | with_reducible exact H | (rw [hy227]; exact H) | exact H
                have Ny227 := Aside0.mk hy227
                clear hy227
                have H' := Aside0.mk H
                clear H
                try go_wp2
                have n0_ := Aside0.mk (Kd.R_drew HO_8.out)
                have n1_ := Aside0.mk (below_drew1 HB.out)
                clear HO_8
                clear HB
                have HO_8 := n0_
                have HB := n1_
                clear n0_ n1_
                have p225 : 0 ≤ ((ji15) : Int) := of_decide_eq_true (by first | (with_reducible assumption) | assumption)
                have q225 : (ji15) < (x8_2.length : Int) := of_decide_eq_true (by first | (with_reducible assumption) | assumption)
                obtain ⟨ad225, e225, hx225_0⟩ := Kd.at_int (Kd.R_reads' HO_8.out).2.2 (ji15) p225 q225
                obtain rfl : ad224 = ad225 := (by injection e225)
                replace p225 := eq_true p225
                replace q225 := eq_true q225
                have p226 : 0 ≤ (x11_2 : Int) := of_decide_eq_true (by first | (with_reducible assumption) | assumption)
                have q226 : x11_2 < (l0.length : Int) := of_decide_eq_true (by first | (with_reducible assumption) | assumption)
                obtain ⟨ad226, e226, hx226_0⟩ := Kd.at_int HR0.out x11_2 p226 q226
                have hw226_0 := hx226_0
                cases e226
                replace hx226_0 := (HB.out.cell (World.block_lt_of_cell? w _ hx226_0)).trans hx226_0
                replace p226 := eq_true p226
                replace q226 := eq_true q226
                have p21 : 0 ≤ ((ji15) : Int) := of_decide_eq_true (by first | (with_reducible assumption) | assumption)
                have q21 : ((ji15) : Int) < ((x8_2.length : Int) : Int) := of_decide_eq_true (by first | (with_reducible assumption) | assumption)
                obtain ⟨go21, co21, eo21, gb21, gl21, cl21, HG21⟩ := Kd.R_form HO_8.out (by omega)
                (first | cases eo21 | (injection eo21 with ea_ en_ ec_; (first | subst ea_ | (injection ea_ with ea_; subst ea_)); subst ec_; clear en_))
                have GB21 := Aside0.mk gb21
                have GG21 := Aside0.mk HG21
                clear gb21 gl21 HG21
                (first | simp only [add_plain] at hx224_0 | skip)
                (first | simp only [add_plain] at hx225_0 | skip)
                obtain ⟨hx21_0, hf21_0⟩ := Kd.R_celln 0 HO_8.out ((ji15) : Int) p21 q21
                replace p21 := eq_true p21
                replace q21 := eq_true q21
                have HP23 := Kd.R_putn HO_8.out ((ji15) : Int) (Int.tmod (wrap64 ((rd x8_2 (ji15)) + (wrap64 ((wrap64 (a2 - (rd x8_1 x9_1))) * (rd l0 x11_2))))) a2)
                rw [← Ny227.out] at HP23
                have HQ23 := Aside0.mk HP23
                clear HP23
                refine start_ (n := 27) (S := fun w' => w'.cell? ⟨go21, ((ji15)).toNat, none⟩ = some (.int .i64 (rd x8_2 (ji15))) ∧ w'.cell? (ad226.add (x11_2).toNat) = some (.int .i64 (rd l0 x11_2))) (ds := [26]) #[false, false, false, false, false, false, false, false, false, false, false, false, false, false, false, false, false, false, false, false, false, false, false, false, false, false, false] (by kernel_rfl) rfl rfl ⟨hx225_0, ((HB.out.cell (World.block_lt_of_cell? w _ hw226_0)).trans hw226_0)⟩ (fun hHeld => ?_); refine with_tabW codewrightref04_divides.tab11 codewrightref04_divides.bits11 (fun HT_ HW_ => ?_)
                generalize wr.drew = w22 at HO_8 HB GG21 HQ23 hf21_0 hx21_0 hx225_0 hx226_0 hHeld ⊢
                refine pure_ (i := 0) (N := some 38) (v := ?_) (a' := ?_) #[true, false, false, false, false, false, false, false, false, false, false, false, false, false, false, false, false, false, false, false, false, false, false, false, false, false, false] rfl rfl (any_of HT_.out (by kernel_rfl)) (fun _ _ _ h => h) (Or.inl ⟨by rfl, ?_⟩) ?_ ?_
                rotate_left
                ·intro w'
                 go_simp
                 with_reducible rfl
                rotate_left
                ·simp only [Act.put, List.setIfInBounds_toArray, List.set_cons_zero, List.set_cons_succ, i64_w, i32_w]
                 rfl
                refine pure_ (i := 1) (N := some 39) (v := ?_) (a' := ?_) #[true, true, false, false, false, false, false, false, false, false, false, false, false, false, false, false, false, false, false, false, false, false, false, false, false, false, false] rfl rfl (any_of HT_.out (by kernel_rfl)) (fun _ _ _ h => h) (Or.inl ⟨by rfl, ?_⟩) ?_ ?_
                rotate_left
                ·intro w'
                 go_simp
                 with_reducible rfl
                rotate_left
                ·simp only [Act.put, List.setIfInBounds_toArray, List.set_cons_zero, List.set_cons_succ, i64_w, i32_w]
                 rfl
                refine pure_ (i := 2) (N := some 40) (v := ?_) (a' := ?_) #[true, true, true, false, false, false, false, false, false, false, false, false, false, false, false, false, false, false, false, false, false, false, false, false, false, false, false] rfl rfl (any_of HT_.out (by kernel_rfl)) (fun _ _ _ h => h) (Or.inl ⟨by rfl, ?_⟩) ?_ ?_
                rotate_left
                ·intro w'
                 go_simp
                 with_reducible rfl
                rotate_left
                ·simp only [Act.put, List.setIfInBounds_toArray, List.set_cons_zero, List.set_cons_succ, i64_w, i32_w]
                 rfl
                refine pure_ (i := 3) (N := some 41) (v := ?_) (a' := ?_) #[true, true, true, true, false, false, false, false, false, false, false, false, false, false, false, false, false, false, false, false, false, false, false, false, false, false, false] rfl rfl (any_of HT_.out (by kernel_rfl)) (fun _ _ _ h => h) (Or.inl ⟨by rfl, ?_⟩) ?_ ?_
                rotate_left
                ·intro w'
                 go_simp
                 with_reducible rfl
                rotate_left
                ·simp only [Act.put, List.setIfInBounds_toArray, List.set_cons_zero, List.set_cons_succ, i64_w, i32_w]
                 rfl
                refine pure_ (i := 4) (N := some 42) (v := ?_) (a' := ?_) #[true, true, true, true, true, false, false, false, false, false, false, false, false, false, false, false, false, false, false, false, false, false, false, false, false, false, false] rfl rfl (any_of HT_.out (by kernel_rfl)) (fun _ _ _ h => h) (Or.inl ⟨by rfl, ?_⟩) ?_ ?_
                rotate_left
                ·intro w'
                 go_simp
                 with_reducible rfl
                rotate_left
                ·simp only [Act.put, List.setIfInBounds_toArray, List.set_cons_zero, List.set_cons_succ, i64_w, i32_w]
                 rfl
                refine pure_ (i := 5) (N := some 43) (v := ?_) (a' := ?_) #[true, true, true, true, true, true, false, false, false, false, false, false, false, false, false, false, false, false, false, false, false, false, false, false, false, false, false] rfl rfl (any_of HT_.out (by kernel_rfl)) (fun _ _ _ h => h) (Or.inl ⟨by rfl, ?_⟩) ?_ ?_
                rotate_left
                ·intro w'
                 go_simp
                 with_reducible rfl
                rotate_left
                ·simp only [Act.put, List.setIfInBounds_toArray, List.set_cons_zero, List.set_cons_succ, i64_w, i32_w]
                 rfl
                refine pure_ (i := 6) (N := some 44) (v := ?_) (a' := ?_) #[true, true, true, true, true, true, true, false, false, false, false, false, false, false, false, false, false, false, false, false, false, false, false, false, false, false, false] rfl rfl (any_of HT_.out (by kernel_rfl)) (fun _ _ _ h => h) (Or.inl ⟨by rfl, ?_⟩) ?_ ?_
                rotate_left
                ·intro w'
                 go_simp
                 with_reducible rfl
                rotate_left
                ·simp only [Act.put, List.setIfInBounds_toArray, List.set_cons_zero, List.set_cons_succ, i64_w, i32_w]
                 rfl
                refine pure_ (i := 7) (N := some 45) (v := ?_) (a' := ?_) #[true, true, true, true, true, true, true, true, false, false, false, false, false, false, false, false, false, false, false, false, false, false, false, false, false, false, false] rfl rfl (any_of HT_.out (by kernel_rfl)) (fun _ _ _ h => h) (Or.inl ⟨by rfl, ?_⟩) ?_ ?_
                rotate_left
                ·intro w'
                 go_simp
                 with_reducible rfl
                rotate_left
                ·simp only [Act.put, List.setIfInBounds_toArray, List.set_cons_zero, List.set_cons_succ, i64_w, i32_w]
                 rfl
                refine pure_ (i := 8) (N := some 46) (v := ?_) (a' := ?_) #[true, true, true, true, true, true, true, true, true, false, false, false, false, false, false, false, false, false, false, false, false, false, false, false, false, false, false] rfl rfl (any_of HT_.out (by kernel_rfl)) (fun _ _ _ h => h) (Or.inl ⟨by rfl, ?_⟩) ?_ ?_
                rotate_left
                ·intro w'
                 go_simp
                 with_reducible rfl
                rotate_left
                ·simp only [Act.put, List.setIfInBounds_toArray, List.set_cons_zero, List.set_cons_succ, i64_w, i32_w]
                 rfl
                refine pure_ (i := 9) (N := some 47) (v := ?_) (a' := ?_) #[true, true, true, true, true, true, true, true, true, true, false, false, false, false, false, false, false, false, false, false, false, false, false, false, false, false, false] rfl rfl (any_of HT_.out (by kernel_rfl)) (fun _ _ _ h => h) (Or.inl ⟨by rfl, ?_⟩) ?_ ?_
                rotate_left
                ·intro w'
                 go_simp
                 with_reducible rfl
                rotate_left
                ·simp only [Act.put, List.setIfInBounds_toArray, List.set_cons_zero, List.set_cons_succ, i64_w, i32_w]
                 rfl
                refine pure_ (i := 10) (N := some 48) (v := ?_) (a' := ?_) #[true, true, true, true, true, true, true, true, true, true, true, false, false, false, false, false, false, false, false, false, false, false, false, false, false, false, false] rfl rfl (any_of HT_.out (by kernel_rfl)) (fun _ _ _ h => h) (Or.inl ⟨by rfl, ?_⟩) ?_ ?_
                rotate_left
                ·intro w'
                 go_simp
                 with_reducible rfl
                rotate_left
                ·simp only [Act.put, List.setIfInBounds_toArray, List.set_cons_zero, List.set_cons_succ, i64_w, i32_w]
                 rfl
                refine pure_ (i := 11) (N := some 49) (v := ?_) (a' := ?_) #[true, true, true, true, true, true, true, true, true, true, true, true, false, false, false, false, false, false, false, false, false, false, false, false, false, false, false] rfl rfl (any_of HT_.out (by kernel_rfl)) (fun _ _ _ h => h) (Or.inl ⟨by rfl, ?_⟩) ?_ ?_
                rotate_left
                ·intro w'
                 go_simp
                 with_reducible rfl
                rotate_left
                ·simp only [Act.put, List.setIfInBounds_toArray, List.set_cons_zero, List.set_cons_succ, i64_w, i32_w]
                 rfl
                refine pure_ (i := 12) (N := some 50) (v := ?_) (a' := ?_) #[true, true, true, true, true, true, true, true, true, true, true, true, true, false, false, false, false, false, false, false, false, false, false, false, false, false, false] rfl rfl (any_of HT_.out (by kernel_rfl)) (fun _ _ _ h => h) (Or.inl ⟨by rfl, ?_⟩) ?_ ?_
                rotate_left
                ·intro w'
                 go_simp
                 with_reducible rfl
                rotate_left
                ·simp only [Act.put, List.setIfInBounds_toArray, List.set_cons_zero, List.set_cons_succ, i64_w, i32_w]
                 rfl
                refine pure_ (i := 14) (N := some 52) (v := ?_) (a' := ?_) #[true, true, true, true, true, true, true, true, true, true, true, true, true, false, true, false, false, false, false, false, false, false, false, false, false, false, false] rfl rfl (any_of HT_.out (by kernel_rfl)) (fun _ _ _ h => h) (Or.inl ⟨by rfl, ?_⟩) ?_ ?_
                rotate_left
                ·intro w'
                 go_simp
                 with_reducible rfl
                rotate_left
                ·simp only [Act.put, List.setIfInBounds_toArray, List.set_cons_zero, List.set_cons_succ, i64_w, i32_w]
                 rfl
                refine pure_ (i := 15) (N := some 53) (v := ?_) (a' := ?_) #[true, true, true, true, true, true, true, true, true, true, true, true, true, false, true, true, false, false, false, false, false, false, false, false, false, false, false] rfl rfl (any_of HT_.out (by kernel_rfl)) (fun _ _ _ h => h) (Or.inl ⟨by rfl, ?_⟩) ?_ ?_
                rotate_left
                ·intro w'
                 go_simp
                 with_reducible rfl
                rotate_left
                ·simp only [Act.put, List.setIfInBounds_toArray, List.set_cons_zero, List.set_cons_succ, i64_w, i32_w]
                 rfl
                refine pure_ (i := 16) (N := some 54) (v := ?_) (a' := ?_) #[true, true, true, true, true, true, true, true, true, true, true, true, true, false, true, true, true, false, false, false, false, false, false, false, false, false, false] rfl rfl (any_of HT_.out (by kernel_rfl)) (fun _ _ _ h => h) (Or.inl ⟨by rfl, ?_⟩) ?_ ?_
                rotate_left
                ·intro w'
                 go_simp
                 with_reducible rfl
                rotate_left
                ·simp only [Act.put, List.setIfInBounds_toArray, List.set_cons_zero, List.set_cons_succ, i64_w, i32_w]
                 rfl
                refine pure_ (i := 17) (N := some 55) (v := ?_) (a' := ?_) #[true, true, true, true, true, true, true, true, true, true, true, true, true, false, true, true, true, true, false, false, false, false, false, false, false, false, false] rfl rfl (any_of HT_.out (by kernel_rfl)) (fun _ _ _ h => h) (Or.inl ⟨by rfl, ?_⟩) ?_ ?_
                rotate_left
                ·intro w'
                 go_simp
                 with_reducible rfl
                rotate_left
                ·simp only [Act.put, List.setIfInBounds_toArray, List.set_cons_zero, List.set_cons_succ, i64_w, i32_w]
                 rfl
                refine pure_ (i := 18) (N := some 56) (v := ?_) (a' := ?_) #[true, true, true, true, true, true, true, true, true, true, true, true, true, false, true, true, true, true, true, false, false, false, false, false, false, false, false] rfl rfl (any_of HT_.out (by kernel_rfl)) (fun _ _ _ h => h) (Or.inl ⟨by rfl, ?_⟩) ?_ ?_
                rotate_left
                ·intro w'
                 go_simp
                 with_reducible rfl
                rotate_left
                ·simp only [Act.put, List.setIfInBounds_toArray, List.set_cons_zero, List.set_cons_succ, i64_w, i32_w]
                 rfl
                refine pure_ (i := 19) (N := some 57) (v := ?_) (a' := ?_) #[true, true, true, true, true, true, true, true, true, true, true, true, true, false, true, true, true, true, true, true, false, false, false, false, false, false, false] rfl rfl (any_of HT_.out (by kernel_rfl)) (fun _ _ _ h => h) (Or.inl ⟨by rfl, ?_⟩) ?_ ?_
                rotate_left
                ·intro w'
                 go_simp
                 with_reducible rfl
                rotate_left
                ·simp only [Act.put, List.setIfInBounds_toArray, List.set_cons_zero, List.set_cons_succ, i64_w, i32_w]
                 rfl
                refine pure_ (i := 23) (N := some 61) (v := ?_) (a' := ?_) #[true, true, true, true, true, true, true, true, true, true, true, true, true, false, true, true, true, true, true, true, false, false, false, true, false, false, false] rfl rfl (any_of HT_.out (by kernel_rfl)) (fun _ _ _ h => h) (Or.inl ⟨by rfl, ?_⟩) ?_ ?_
                rotate_left
                ·intro w'
                 go_simp
                 with_reducible rfl
                rotate_left
                ·simp only [Act.put, List.setIfInBounds_toArray, List.set_cons_zero, List.set_cons_succ, i64_w, i32_w]
                 rfl
                refine take_ (i := 13) (N := some 51) (v := ?_) (a' := ?_) #[true, true, true, true, true, true, true, true, true, true, true, true, true, true, true, true, true, true, true, true, false, false, false, true, false, false, false] rfl rfl (take_ofW HT_.out HW_.out (by kernel_rfl)) (fun _ _ _ h => h) (Or.inl ⟨by rfl, ?_⟩) hHeld ?_ ?_
                rotate_left
                ·rintro w' ⟨s0, s1⟩
                 go_simp
                 with_reducible rfl
                rotate_left
                ·simp only [Act.put, List.setIfInBounds_toArray, List.set_cons_zero, List.set_cons_succ, i64_w, i32_w]
                 rfl
                refine take_ (i := 20) (N := some 58) (v := ?_) (a' := ?_) #[true, true, true, true, true, true, true, true, true, true, true, true, true, true, true, true, true, true, true, true, true, false, false, true, false, false, false] rfl rfl (take_ofW HT_.out HW_.out (by kernel_rfl)) (fun _ _ _ h => h) (Or.inl ⟨by rfl, ?_⟩) hHeld ?_ ?_
                rotate_left
                ·rintro w' ⟨s0, s1⟩
                 go_simp
                 with_reducible rfl
                rotate_left
                ·simp only [Act.put, List.setIfInBounds_toArray, List.set_cons_zero, List.set_cons_succ, i64_w, i32_w]
                 rfl
                refine pure_ (i := 21) (N := some 59) (v := ?_) (a' := ?_) #[true, true, true, true, true, true, true, true, true, true, true, true, true, true, true, true, true, true, true, true, true, true, false, true, false, false, false] rfl rfl (any_of HT_.out (by kernel_rfl)) (fun _ _ _ h => h) (Or.inl ⟨by rfl, ?_⟩) ?_ ?_
                rotate_left
                ·intro w'
                 go_simp
                 with_reducible rfl
                rotate_left
                ·simp only [Act.put, List.setIfInBounds_toArray, List.set_cons_zero, List.set_cons_succ, i64_w, i32_w]
                 rfl
                refine pure_ (i := 22) (N := some 60) (v := ?_) (a' := ?_) #[true, true, true, true, true, true, true, true, true, true, true, true, true, true, true, true, true, true, true, true, true, true, true, true, false, false, false] rfl rfl (any_of HT_.out (by kernel_rfl)) (fun _ _ _ h => h) (Or.inl ⟨by rfl, ?_⟩) ?_ ?_
                rotate_left
                ·intro w'
                 go_simp
                 with_reducible rfl
                rotate_left
                ·simp only [Act.put, List.setIfInBounds_toArray, List.set_cons_zero, List.set_cons_succ, i64_w, i32_w]
                 rfl
                refine pure_ (i := 24) (N := some 62) (v := ?_) (a' := ?_) #[true, true, true, true, true, true, true, true, true, true, true, true, true, true, true, true, true, true, true, true, true, true, true, true, true, false, false] rfl rfl (any_of HT_.out (by kernel_rfl)) (fun _ _ _ h => h) (Or.inl ⟨by rfl, ?_⟩) ?_ ?_
                rotate_left
                ·intro w'
                 go_simp
                 with_reducible rfl
                rotate_left
                ·simp only [Act.put, List.setIfInBounds_toArray, List.set_cons_zero, List.set_cons_succ, i64_w, i32_w]
                 rfl
                refine pure_ (i := 25) (N := some 63) (v := ?_) (a' := ?_) #[true, true, true, true, true, true, true, true, true, true, true, true, true, true, true, true, true, true, true, true, true, true, true, true, true, true, false] rfl rfl (any_of HT_.out (by kernel_rfl)) (fun _ _ _ h => h) (Or.inl ⟨by rfl, ?_⟩) ?_ ?_
                rotate_left
                ·intro w'
                 go_simp
                 with_reducible rfl
                rotate_left
                ·simp only [Act.put, List.setIfInBounds_toArray, List.set_cons_zero, List.set_cons_succ, i64_w, i32_w]
                 rfl
                refine last_ (i := 26) (N := none) #[true, true, true, true, true, true, true, true, true, true, true, true, true, true, true, true, true, true, true, true, true, true, true, true, true, true, true] rfl rfl (one_of HT_.out (by kernel_rfl)) (by decide) (fun K hK => ?_)
                refine skip_ (w1 := ?_) (by rfl) rfl ?_ ?_
                rotate_left
                ·go_simp
                 rfl
                refine hK.out _ _ ?_
                clear hK K
                refine done_ (done_of HT_.out (by kernel_rfl)) ?_
                try go_wp2
                (try simp only [← hl8_2])
                refine Handed.intro k2 ?measure ?_
                rotate_left
                go_step
                (repeat apply Exists.intro)
                refine ⟨?rel, (by first | rfl | (rw [add_plain]; done) | (rw [add_plain]; rfl))⟩
                case measure => have := HK1.out; have := HK2.out; omega
                case rel => exact ⟨(y227), (wrap64 (x11_2 + 1)), (by first | rfl | (simp; done) | (simp [*]; done)), H', ⟨by have := HK1.out; have := HK2.out; omega⟩, ⟨by (try simp only [hl8_1]); (try simp only [hl8_2]); (with_reducible repeat (first | apply Kd.R_alloc | apply Kd.R_drewN | apply Kd.R_drew)); exact HQ23.out⟩, ⟨by repeat (first | (with_reducible first | exact HB.out | apply below_alloc | apply pw_below_drewN | apply below_drew1 | refine below_set ?_ GB21.out) | exact HB.out)⟩⟩
              ·rw [if_neg c19] at H
               exact absurd H (by simp)
             ·rw [if_neg c18] at H
              exact absurd H (by simp)
            ·rw [if_neg c17] at H
             exact absurd H (by simp)
           ·rw [if_neg c16] at H
            exact absurd H (by simp)
          ·rw [if_neg c14] at H
           have c14b0 : decide (x11_2 < (l0.length : Int)) = false := decide_eq_false c14
           clear c14
           by_cases c24 : 0 ≤ x9_1
           ·rw [if_pos c24] at H
            have c24b0 : decide (0 ≤ x9_1) = true := decide_eq_true c24
            clear c24
            by_cases c25 : x9_1 < (x8_2.length : Int)
            ·rw [if_pos c25] at H
             have c25b0 : decide (x9_1 < (x8_2.length : Int)) = true := decide_eq_true c25
             clear c25
             obtain ⟨y228, hy228⟩ : ∃ y_ : List Int, y_ = (x8_2.set (x9_1 : Int).toNat 0) := ⟨_, rfl⟩
             replace H : (codewrightref04_divides.l0 k2 l0 a2 (l0.length : Int) y228 (wrap64 (x9_1 - 1))) = some r := by first | (rw [hy228]; with_reducible exact H) | (have H2_ := (Option.bind_some _ _).symm.trans H; rw [hy228]; with_reducible exact H2_) | (have H2_ := (Option.bind_some _ _).symm.trans H; with_reducible exact H2_) | with_reducible exact H | (rw [hy228]; exact H) | exact H
             have Ny228 := Aside0.mk hy228
             clear hy228
             have H' := Aside0.mk H
             clear H
             have p26 : 0 ≤ (x9_1 : Int) := of_decide_eq_true (by first | (with_reducible assumption) | assumption)
             have q26 : (x9_1 : Int) < ((x8_2.length : Int) : Int) := of_decide_eq_true (by first | (with_reducible assumption) | assumption)
             obtain ⟨go26, co26, eo26, gb26, gl26, cl26, HG26⟩ := Kd.R_form HO_8.out (by omega)
             (first | cases eo26 | (injection eo26 with ea_ en_ ec_; (first | subst ea_ | (injection ea_ with ea_; subst ea_)); subst ec_; clear en_))
             have GB26 := Aside0.mk gb26
             have GG26 := Aside0.mk HG26
             clear gb26 gl26 HG26
             obtain ⟨hx26_0, hf26_0⟩ := Kd.R_celln 0 HO_8.out (x9_1 : Int) p26 q26
             replace p26 := eq_true p26
             replace q26 := eq_true q26
             have HP27 := Kd.R_putg HO_8.out (x9_1 : Int) 0
             go_wp2_with (first | ((with_reducible refine gate_store (t := 3) (p := 66) rfl ?_); refine store_event (t := 3) (p := 66) (v := ?vo_w28) (w1 := (wr.setCell ⟨go26, (x9_1 : Int).toNat, none⟩ (.int .i64 0))) ?hg ?ho ?hn ?hr ?_; (case ho => rfl); (case hg => rfl); (case hn => rfl); (case hr => first | (go_simp; done) | (go_simp; rfl)); intro w28 hw; have hg : wr.grownBy w28 (some go26) := (by rw [hw]; exact HP27.2); have hp_ : Kd.R (Kd.int .i64) 3 w28 w.heap.size (fun _ => True) (.slice (some ⟨go26, 0, none⟩) x8_2.length co10) y228 := (by rw [hw, Ny228.out]; exact HP27.1); clear HP27; have n0_ := Aside0.mk (hp_); have n1_ := Aside0.mk ((by rw [hw]; exact below_set (HB.out) GB26.out : Below w.heap.size w w28)); clear HO_8; clear HB; have HO_8 := n0_; have HB := n1_; clear n0_ n1_; clear hg hw hp_))
             (try simp only [← hl8_1, ← hl8_2])
             go_roundg k2
             case measure => have := HK1.out; have := HK2.out; omega
             case rel => exact ⟨(y228), (wrap64 (x9_1 - 1)), (by first | rfl | (simp; done) | (simp [*]; done)), H', ⟨by have := HK1.out; have := HK2.out; omega⟩, ⟨by (try simp only [hl8_1]); (try simp only [hl8_2]); (with_reducible repeat (first | apply Kd.R_alloc | apply Kd.R_drewN | apply Kd.R_drew)); exact HO_8.out⟩, ⟨by repeat (first | (with_reducible first | exact HB.out | apply below_alloc | apply pw_below_drewN | apply below_drew1) | exact HB.out)⟩⟩
            ·rw [if_neg c25] at H
             exact absurd H (by simp)
           ·rw [if_neg c24] at H
            exact absurd H (by simp)
       ·rw [if_neg c13] at H
        exact absurd H (by simp)
      ·rw [if_neg c12] at H
       exact absurd H (by simp)
     ·rw [if_neg c11] at H
      have c11b0 : decide ((l0.length : Int) ≤ x9_1) = false := decide_eq_false c11
      clear c11
      have H' := Aside0.mk H
      clear H
      go_wp2
      go_loopg [12] k1 (fun kq v12 w' => ∃ (x12_2 : Int), v12 = .int .i64 x12_2 ∧ Aside0 (codewrightref04_divides.l2 kq x8_1 x12_2 = some r) ∧ Aside0 (kq ≤ k1) ∧ Aside0 (Kd.R (Kd.int .i64) 3 w' w.heap.size (fun _ => True) (.slice Ao10 x8_1.length co10) x8_1) ∧ Aside0 (Below w.heap.size w w'))
      case atStart => exact ⟨(0), (by first | rfl | (simp; done) | (simp [*]; done)), H', ⟨Nat.le_refl _⟩, ⟨by (try simp only [hl8_1]); (with_reducible repeat (first | apply Kd.R_alloc | apply Kd.R_drewN | apply Kd.R_drew)); exact HO_8.out⟩, ⟨by repeat (first | (with_reducible first | exact HB.out | apply below_alloc | apply pw_below_drewN | apply below_drew1) | exact HB.out)⟩⟩
      case round =>
       clear H'
       try clear c1
       try clear c2
       try clear p2
       try clear q2
       try clear hx2
       try clear c4
       try clear c5
       try clear p6
       try clear c9
       try clear c11
       try clear c11b0
       try clear c12
       try clear c12b0
       try clear c13
       try clear c13b0
       try clear c14
       try clear c14b0
       try clear c16
       try clear c16b0
       try clear c17
       try clear c17b0
       try clear c18
       try clear c18b0
       try clear c19
       try clear c19b0
       try clear c20
       try clear c20b0
       try clear c20b1
       try clear p21
       try clear q21
       try clear hx21
       try clear hf21
       try clear p22
       try clear q22
       try clear hx22
       try clear c24
       try clear c24b0
       try clear c25
       try clear c25b0
       try clear p26
       try clear q26
       try clear hx26
       try clear hf26
       try clear hx21_0
       try clear hx224_0
       try clear hx225_0
       try clear hx226_0
       try clear hx26_0
       try clear p2
       try clear p21
       try clear p224
       try clear p225
       try clear p226
       try clear p26
       try clear p6
       try clear q2
       try clear q21
       try clear q224
       try clear q225
       try clear q226
       try clear q26
       obtain ⟨x12_2, rfl, HA, HK2, HO_8, HB⟩ := hrel
       cases gk with
       | zero => exact absurd HA.out (by simp [codewrightref04_divides.l2])
       | succ k2 =>
        have H := HA.out
        clear HA
        simp only [codewrightref04_divides.l2] at H
        by_cases c29 : x12_2 < (x8_1.length : Int)
        ·rw [if_pos c29] at H
         have c29b0 : decide (x12_2 < (x8_1.length : Int)) = true := decide_eq_true c29
         clear c29
         by_cases c30 : 0 ≤ x12_2
         ·rw [if_pos c30] at H
          have c30b0 : decide (0 ≤ x12_2) = true := decide_eq_true c30
          clear c30
          by_cases c31 : (rd x8_1 x12_2) = 0
          ·rw [if_pos c31] at H
           have c31b0 : ((rd x8_1 x12_2) == 0) = true := beq_iff_eq.mpr c31
           have c31b1 : ((rd x8_1 x12_2) != 0) = false := bne_eq_false_iff_eq.mpr c31
           clear c31
           have H' := Aside0.mk H
           clear H
           have p229 : 0 ≤ (x12_2 : Int) := of_decide_eq_true (by first | (with_reducible assumption) | assumption)
           have q229 : x12_2 < (x8_1.length : Int) := of_decide_eq_true (by first | (with_reducible assumption) | assumption)
           obtain ⟨ad229, e229, hx229_0⟩ := Kd.at_int (Kd.R_reads' HO_8.out).2.2 x12_2 p229 q229
           cases e229
           replace p229 := eq_true p229
           replace q229 := eq_true q229
           go_wp2
           go_roundg k2
           case measure => have := HK1.out; have := HK2.out; omega
           case rel => exact ⟨(wrap64 (x12_2 + 1)), (by first | rfl | (simp; done) | (simp [*]; done)), H', ⟨by have := HK1.out; have := HK2.out; omega⟩, ⟨by (try simp only [hl8_1]); (with_reducible repeat (first | apply Kd.R_alloc | apply Kd.R_drewN | apply Kd.R_drew)); exact HO_8.out⟩, ⟨by repeat (first | (with_reducible first | exact HB.out | apply below_alloc | apply pw_below_drewN | apply below_drew1) | exact HB.out)⟩⟩
          ·rw [if_neg c31] at H
           have c31b0 : ((rd x8_1 x12_2) == 0) = false := beq_eq_false_iff_ne.mpr c31
           have c31b1 : ((rd x8_1 x12_2) != 0) = true := bne_iff_ne.mpr c31
           obtain rfl := Option.some.inj H
           have p229 : 0 ≤ (x12_2 : Int) := of_decide_eq_true (by first | (with_reducible assumption) | assumption)
           have q229 : x12_2 < (x8_1.length : Int) := of_decide_eq_true (by first | (with_reducible assumption) | assumption)
           obtain ⟨ad229, e229, hx229_0⟩ := Kd.at_int (Kd.R_reads' HO_8.out).2.2 x12_2 p229 q229
           cases e229
           replace p229 := eq_true p229
           replace q229 := eq_true q229
           go_wp2
           go_ret
           exact ⟨by first | rfl | (simp [errW_none, errW_some] <;> rfl) | (simp [*, errW_none, errW_some] <;> rfl), by repeat (first | (with_reducible first | exact HB.out | apply below_alloc | apply pw_below_drewN | apply below_drew1) | exact HB.out)⟩
         ·rw [if_neg c30] at H
          exact absurd H (by simp)
        ·rw [if_neg c29] at H
         have c29b0 : decide (x12_2 < (x8_1.length : Int)) = false := decide_eq_false c29
         clear c29
         obtain rfl := Option.some.inj H
         go_wp2
         go_ret
         exact ⟨by first | rfl | (simp [errW_none, errW_some] <;> rfl) | (simp [*, errW_none, errW_some] <;> rfl), by repeat (first | (with_reducible first | exact HB.out | apply below_alloc | apply pw_below_drewN | apply below_drew1) | exact HB.out)⟩
  ·rw [if_neg c5] at H
   exact absurd H (by simp)
 ·rw [if_neg c4] at H
  exact absurd H (by simp)

/-! ### codewrightref04_irreducible: function 68 -/
mutual
def codewrightref04_irreducible.l0 : Nat → List Int → Int → Int → Int → Option (Bool)
 | 0, _, _, _, _ => none
 | k + 1, x0, x1, x5, x6 => if (wrap64 (2 * x6)) ≤ (x0.length : Int) then (codewrightref04_irreducible.l1 k x0 x1 (wrap64 (x5 * x1)) x6 0) else (some true)
def codewrightref04_irreducible.l1 : Nat → List Int → Int → Int → Int → Int → Option (Bool)
 | 0, _, _, _, _, _ => none
 | k + 1, x0, x1, x5, x6, x7 => if x7 < x5 then ((codewrightref04_digits.f k x7 x1 x6).bind fun t230 => ((codewrightref04_divides.f k t230 x0 x1).bind fun t233 => (if t233 = true then (some false) else (codewrightref04_irreducible.l1 k x0 x1 x5 x6 (wrap64 (x7 + 1)))))) else (codewrightref04_irreducible.l0 k x0 x1 x5 (wrap64 (x6 + 1)))
end
def codewrightref04_irreducible.f (k : Nat) (l0 : List Int) (a1 : Int) : Option (Bool) := codewrightref04_irreducible.l0 k l0 a1 1 1
theorem codewrightref04_irreducible.mono_l : ∀ k, (∀ y0 y1 y2 y3, LeO (codewrightref04_irreducible.l0 k y0 y1 y2 y3) (codewrightref04_irreducible.l0 (k + 1) y0 y1 y2 y3)) ∧ (∀ y0 y1 y2 y3 y4, LeO (codewrightref04_irreducible.l1 k y0 y1 y2 y3 y4) (codewrightref04_irreducible.l1 (k + 1) y0 y1 y2 y3 y4))
 | 0 => ⟨fun _ _ _ _ r h => by simp [codewrightref04_irreducible.l0] at h, fun _ _ _ _ _ r h => by simp [codewrightref04_irreducible.l1] at h⟩
 | k + 1 => by
  obtain ⟨ih0, ih1⟩ := codewrightref04_irreducible.mono_l k
  refine ⟨?_, ?_⟩
  ·intro y0 y1 y2 y3
   unfold codewrightref04_irreducible.l0
   repeat' first
   | (with_reducible exact ih0 _ _ _ _)
   | (with_reducible exact ih1 _ _ _ _ _)
   | (with_reducible exact codewrightref04_digits.mono _ _ _ _)
   | (with_reducible exact codewrightref04_divides.mono _ _ _ _)
   | (with_reducible exact LeO.refl _)
   | (with_reducible exact LeO.none _)
   | (with_reducible refine LeO.ite ?_ ?_)
   | (with_reducible refine LeO.bind ?_ (fun _ => ?_))
   | exact ih0 _ _ _ _
   | exact ih1 _ _ _ _ _
   | exact codewrightref04_digits.mono _ _ _ _
   | exact codewrightref04_divides.mono _ _ _ _
   | exact LeO.none _
   | refine LeO.ite ?_ ?_
   | refine LeO.bind ?_ (fun _ => ?_)
  ·intro y0 y1 y2 y3 y4
   unfold codewrightref04_irreducible.l1
   repeat' first
   | (with_reducible exact ih0 _ _ _ _)
   | (with_reducible exact ih1 _ _ _ _ _)
   | (with_reducible exact codewrightref04_digits.mono _ _ _ _)
   | (with_reducible exact codewrightref04_divides.mono _ _ _ _)
   | (with_reducible exact LeO.refl _)
   | (with_reducible exact LeO.none _)
   | (with_reducible refine LeO.ite ?_ ?_)
   | (with_reducible refine LeO.bind ?_ (fun _ => ?_))
   | exact ih0 _ _ _ _
   | exact ih1 _ _ _ _ _
   | exact codewrightref04_digits.mono _ _ _ _
   | exact codewrightref04_divides.mono _ _ _ _
   | exact LeO.none _
   | refine LeO.ite ?_ ?_
   | refine LeO.bind ?_ (fun _ => ?_)
theorem codewrightref04_irreducible.mono : ∀ a0 a1 k, LeO (codewrightref04_irreducible.f k a0 a1) (codewrightref04_irreducible.f (k + 1) a0 a1) := by
 intro a0 a1 k
 obtain ⟨ih0, ih1⟩ := codewrightref04_irreducible.mono_l k
 unfold codewrightref04_irreducible.f
 repeat' first
   | (with_reducible exact ih0 _ _ _ _)
   | (with_reducible exact ih1 _ _ _ _ _)
   | (with_reducible exact codewrightref04_digits.mono _ _ _ _)
   | (with_reducible exact codewrightref04_divides.mono _ _ _ _)
   | (with_reducible exact LeO.refl _)
   | (with_reducible exact LeO.none _)
   | (with_reducible refine LeO.ite ?_ ?_)
   | (with_reducible refine LeO.bind ?_ (fun _ => ?_))
   | exact ih0 _ _ _ _
   | exact ih1 _ _ _ _ _
   | exact codewrightref04_digits.mono _ _ _ _
   | exact codewrightref04_divides.mono _ _ _ _
   | exact LeO.none _
   | refine LeO.ite ?_ ?_
   | refine LeO.bind ?_ (fun _ => ?_)
set_option maxHeartbeats 8000000 in
set_option maxRecDepth 100000 in
theorem codewrightref04_irreducible.calls (k : Nat) (A0 : Option Addr) (c0 : Nat) (l0 : List Int) (a1 : Int) (r : Bool) (w : World) (hr0 : Kd.C (Kd.int .i64) w A0 l0.length l0) (hc0 : l0.length ≤ c0) (h : codewrightref04_irreducible.f k l0 a1 = some r) :
  Calls Try.prog 68 #[.slice A0 l0.length c0, .int .i64 a1] w fun e w' => e = .returned (.bool r) ∧ Below w.heap.size w w' := by
 have HR0 := Aside0.mk hr0
 have HC0 := Aside0.mk hc0
 clear hr0 hc0
 have HB := Aside0.mk (Below.refl w.heap.size w)
 have H : (codewrightref04_irreducible.l0 k l0 a1 1 1) = some r := h
 clear h
 have H' := Aside0.mk H
 clear H
 go_enter Try.func68, Try.ntmps68
 go_wp2
 go_loopg [5, 6] k (fun kq v5 v6 w' => ∃ (x5_1 : Int) (x6_1 : Int), v5 = .int .i64 x5_1 ∧ v6 = .int .i64 x6_1 ∧ Aside0 (codewrightref04_irreducible.l0 kq l0 a1 x5_1 x6_1 = some r) ∧ Aside0 (kq ≤ k) ∧ Aside0 (Below w.heap.size w w'))
 case atStart => exact ⟨(1), (1), (by first | rfl | (simp; done) | (simp [*]; done)), (by first | rfl | (simp; done) | (simp [*]; done)), H', ⟨Nat.le_refl _⟩, ⟨by repeat (first | (with_reducible first | exact HB.out | apply below_alloc | apply pw_below_drewN | apply below_drew1) | exact HB.out)⟩⟩
 case round =>
  clear H'
  try clear p2
  obtain ⟨x5_1, x6_1, rfl, rfl, HA, HK1, HB⟩ := hrel
  cases gk with
  | zero => exact absurd HA.out (by simp [codewrightref04_irreducible.l0])
  | succ k1 =>
   have H := HA.out
   clear HA
   simp only [codewrightref04_irreducible.l0] at H
   by_cases c3 : (wrap64 (2 * x6_1)) ≤ (l0.length : Int)
   ·rw [if_pos c3] at H
    have c3b0 : decide ((wrap64 (2 * x6_1)) ≤ (l0.length : Int)) = true := decide_eq_true c3
    clear c3
    have H' := Aside0.mk H
    clear H
    go_wp2
    go_loopg [7] k1 (fun kq v7 w' => ∃ (x7_2 : Int), v7 = .int .i64 x7_2 ∧ Aside0 (codewrightref04_irreducible.l1 kq l0 a1 (wrap64 (x5_1 * a1)) x6_1 x7_2 = some r) ∧ Aside0 (kq ≤ k1) ∧ Aside0 (Below w.heap.size w w'))
    case atStart => exact ⟨(0), (by first | rfl | (simp; done) | (simp [*]; done)), H', ⟨Nat.le_refl _⟩, ⟨by repeat (first | (with_reducible first | exact HB.out | apply below_alloc | apply pw_below_drewN | apply below_drew1) | exact HB.out)⟩⟩
    case round =>
     clear H'
     try clear p2
     try clear c3
     try clear c3b0
     try clear p2
     obtain ⟨x7_2, rfl, HA, HK2, HB⟩ := hrel
     cases gk with
     | zero => exact absurd HA.out (by simp [codewrightref04_irreducible.l1])
     | succ k2 =>
      have H := HA.out
      clear HA
      simp only [codewrightref04_irreducible.l1] at H
      by_cases c4 : x7_2 < (wrap64 (x5_1 * a1))
      ·rw [if_pos c4] at H
       have c4b0 : decide (x7_2 < (wrap64 (x5_1 * a1))) = true := decide_eq_true c4
       clear c4
       replace H := Option.bind_eq_some_iff.mp H
       obtain ⟨t230, A50, H⟩ := H
       replace H : ((codewrightref04_divides.f k2 t230 l0 a1).bind fun t233 => (if t233 = true then (some false) else (codewrightref04_irreducible.l1 k2 l0 a1 (wrap64 (x5_1 * a1)) x6_1 (wrap64 (x7_2 + 1))))) = some r := H
       have A5 := Aside0.mk A50
       clear A50
       replace H := Option.bind_eq_some_iff.mp H
       obtain ⟨t233, A60, H⟩ := H
       replace H : (if t233 = true then (some false) else (codewrightref04_irreducible.l1 k2 l0 a1 (wrap64 (x5_1 * a1)) x6_1 (wrap64 (x7_2 + 1)))) = some r := H
       have A6 := Aside0.mk A60
       clear A60
       by_cases c7 : t233 = true
       ·subst c7
        have H1 : (some false) = some r := by rw [if_pos rfl] at H; exact H
        clear H
        have H := H1
        clear H1
        obtain rfl := Option.some.inj H
        go_wp2_with (first | ((with_reducible refine gate_callee (f := 95) rfl ?_); refine goesL_ (some 26) rfl rfl Try.func95 (by kernel_rfl) rfl #[.int .i64 x7_2, .int .i64 a1, .int .i64 x6_1] rfl (by (try simp only [List.map_toArray, List.map_cons, List.map_nil]); first | done | rfl | (simp only [List.length_drop, List.length_take]; rfl)) ?_; (with_reducible refine (codewrightref04_digits.calls k2 x7_2 a1 x6_1 t230 _ A5.out).mono ?_); rintro e w8 ⟨v231, rfl, ho0, hb⟩; refine ⟨_, rfl, ?_⟩; have n0_ := Aside0.mk (Kd.R_lower ho0 (below_size (by repeat (first | (with_reducible first | exact HB.out | apply below_alloc | apply pw_below_drewN | apply below_drew1) | exact HB.out)))); have n1_ := Aside0.mk (below_step (by repeat (first | (with_reducible first | exact HB.out | apply below_alloc | apply pw_below_drewN | apply below_drew1) | exact HB.out)) hb); clear HB; have HO232 := n0_; have HB := n1_; clear n0_ n1_; (try clear hb); (try clear hb2); (try clear hk); (try clear hi); (try clear ho0); obtain ⟨Ao9, co9, eo9⟩ := Kd.R_slice HO232.out; subst eo9) | ((with_reducible refine gate_callee (f := 94) rfl ?_); refine goesL_ (some 29) rfl rfl Try.func94 (by kernel_rfl) rfl #[.slice Ao9 t230.length co9, .slice A0 l0.length c0, .int .i64 a1] rfl (by (try simp only [List.map_toArray, List.map_cons, List.map_nil]); first | done | rfl | (simp only [List.length_drop, List.length_take]; rfl)) ?_; (with_reducible refine (codewrightref04_divides.calls k2 _ _ t230 _ _ l0 a1 true _ ?side1 ?side2 ?side3 ?side4 A6.out).mono ?_); (case side1 => repeat (first | exact (Kd.R_reads' HO232.out).2.2 | (with_reducible refine Kd.C_alloc ?_ _) | (with_reducible refine Kd.C_drewN ?_ _) | (with_reducible refine Kd.C_drew ?_))); (case side2 => exact (Kd.R_reads' HO232.out).2.1); (case side3 => repeat (first | exact (Kd.C_below HR0.out HB.out) | (with_reducible refine Kd.C_alloc ?_ _) | (with_reducible refine Kd.C_drewN ?_ _) | (with_reducible refine Kd.C_drew ?_))); (case side4 => exact HC0.out); rintro e w10 ⟨rfl, hb⟩; refine ⟨_, rfl, ?_⟩; have n0_ := Aside0.mk (Kd.R_below (by (with_reducible repeat (first | apply Kd.R_alloc | apply Kd.R_drewN | apply Kd.R_drew)); exact HO232.out) hb); have n1_ := Aside0.mk (below_step (by repeat (first | (with_reducible first | exact HB.out | apply below_alloc | apply pw_below_drewN | apply below_drew1) | exact HB.out)) hb); clear HO232; clear HB; have HO232 := n0_; have HB := n1_; clear n0_ n1_; (try clear hb); (try clear hb2); (try clear hk); (try clear hi)))
        go_ret
        exact ⟨by first | rfl | (simp [errW_none, errW_some] <;> rfl) | (simp [*, errW_none, errW_some] <;> rfl), by repeat (first | (with_reducible first | exact HB.out | apply below_alloc | apply pw_below_drewN | apply below_drew1) | exact HB.out)⟩
       ·replace c7 := Bool.eq_false_iff.mpr c7
        subst c7
        have H1 : (codewrightref04_irreducible.l1 k2 l0 a1 (wrap64 (x5_1 * a1)) x6_1 (wrap64 (x7_2 + 1))) = some r := by rw [if_neg (show ¬ (false = true) by decide)] at H; exact H
        clear H
        have H := H1
        clear H1
        have H' := Aside0.mk H
        clear H
        go_wp2_with (first | ((with_reducible refine gate_callee (f := 95) rfl ?_); refine goesL_ (some 26) rfl rfl Try.func95 (by kernel_rfl) rfl #[.int .i64 x7_2, .int .i64 a1, .int .i64 x6_1] rfl (by (try simp only [List.map_toArray, List.map_cons, List.map_nil]); first | done | rfl | (simp only [List.length_drop, List.length_take]; rfl)) ?_; (with_reducible refine (codewrightref04_digits.calls k2 x7_2 a1 x6_1 t230 _ A5.out).mono ?_); rintro e w11 ⟨v231, rfl, ho0, hb⟩; refine ⟨_, rfl, ?_⟩; have n0_ := Aside0.mk (Kd.R_lower ho0 (below_size (by repeat (first | (with_reducible first | exact HB.out | apply below_alloc | apply pw_below_drewN | apply below_drew1) | exact HB.out)))); have n1_ := Aside0.mk (below_step (by repeat (first | (with_reducible first | exact HB.out | apply below_alloc | apply pw_below_drewN | apply below_drew1) | exact HB.out)) hb); clear HB; have HO232 := n0_; have HB := n1_; clear n0_ n1_; (try clear hb); (try clear hb2); (try clear hk); (try clear hi); (try clear ho0); obtain ⟨Ao12, co12, eo12⟩ := Kd.R_slice HO232.out; subst eo12) | ((with_reducible refine gate_callee (f := 94) rfl ?_); refine goesL_ (some 29) rfl rfl Try.func94 (by kernel_rfl) rfl #[.slice Ao12 t230.length co12, .slice A0 l0.length c0, .int .i64 a1] rfl (by (try simp only [List.map_toArray, List.map_cons, List.map_nil]); first | done | rfl | (simp only [List.length_drop, List.length_take]; rfl)) ?_; (with_reducible refine (codewrightref04_divides.calls k2 _ _ t230 _ _ l0 a1 false _ ?side1 ?side2 ?side3 ?side4 A6.out).mono ?_); (case side1 => repeat (first | exact (Kd.R_reads' HO232.out).2.2 | (with_reducible refine Kd.C_alloc ?_ _) | (with_reducible refine Kd.C_drewN ?_ _) | (with_reducible refine Kd.C_drew ?_))); (case side2 => exact (Kd.R_reads' HO232.out).2.1); (case side3 => repeat (first | exact (Kd.C_below HR0.out HB.out) | (with_reducible refine Kd.C_alloc ?_ _) | (with_reducible refine Kd.C_drewN ?_ _) | (with_reducible refine Kd.C_drew ?_))); (case side4 => exact HC0.out); rintro e w13 ⟨rfl, hb⟩; refine ⟨_, rfl, ?_⟩; have n0_ := Aside0.mk (Kd.R_below (by (with_reducible repeat (first | apply Kd.R_alloc | apply Kd.R_drewN | apply Kd.R_drew)); exact HO232.out) hb); have n1_ := Aside0.mk (below_step (by repeat (first | (with_reducible first | exact HB.out | apply below_alloc | apply pw_below_drewN | apply below_drew1) | exact HB.out)) hb); clear HO232; clear HB; have HO232 := n0_; have HB := n1_; clear n0_ n1_; (try clear hb); (try clear hb2); (try clear hk); (try clear hi)))
        go_roundg k2
        case measure => have := HK1.out; have := HK2.out; omega
        case rel => exact ⟨(wrap64 (x7_2 + 1)), (by first | rfl | (simp; done) | (simp [*]; done)), H', ⟨by have := HK1.out; have := HK2.out; omega⟩, ⟨by repeat (first | (with_reducible first | exact HB.out | apply below_alloc | apply pw_below_drewN | apply below_drew1) | exact HB.out)⟩⟩
      ·rw [if_neg c4] at H
       have c4b0 : decide (x7_2 < (wrap64 (x5_1 * a1))) = false := decide_eq_false c4
       clear c4
       have H' := Aside0.mk H
       clear H
       go_wp2
       go_roundg k2
       case measure => have := HK1.out; have := HK2.out; omega
       case rel => exact ⟨((wrap64 (x5_1 * a1))), (wrap64 (x6_1 + 1)), (by first | rfl | (simp; done) | (simp [*]; done)), (by first | rfl | (simp; done) | (simp [*]; done)), H', ⟨by have := HK1.out; have := HK2.out; omega⟩, ⟨by repeat (first | (with_reducible first | exact HB.out | apply below_alloc | apply pw_below_drewN | apply below_drew1) | exact HB.out)⟩⟩
   ·rw [if_neg c3] at H
    have c3b0 : decide ((wrap64 (2 * x6_1)) ≤ (l0.length : Int)) = false := decide_eq_false c3
    clear c3
    obtain rfl := Option.some.inj H
    go_wp2
    go_ret
    exact ⟨by first | rfl | (simp [errW_none, errW_some] <;> rfl) | (simp [*, errW_none, errW_some] <;> rfl), by repeat (first | (with_reducible first | exact HB.out | apply below_alloc | apply pw_below_drewN | apply below_drew1) | exact HB.out)⟩

end Go.Proofs.Ytibbdjkboglepaa.QBchRoots

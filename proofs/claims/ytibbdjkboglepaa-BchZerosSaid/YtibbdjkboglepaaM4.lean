import Derived.Test.YtibbdjkboglepaaM3
set_option maxHeartbeats 8000000
set_option maxRecDepth 100000
set_option linter.unusedVariables false
set_option linter.unusedSimpArgs false
set_option linter.unusedSectionVars false
namespace Go.Proofs.Ytibbdjkboglepaa.QBchZeros
open Go.RowKit Go.Proofs.YtibbdjkboglepaaW.PrintWords Go.Proofs.YtibbdjkboglepaaW.PrintLast Go.Proofs.YtibbdjkboglepaaW.PrintMore Go.Proofs.Ytibbdjkboglepaa.QBchRoots
attribute [local go_sem] max2_int min2_int max_two min_two max_three min_three max_four min_four
def r4_Neg.l0 : Nat → List Int → Int → Int → Int → List Int → Option (Int)
 | 0, _, _, _, _, _ => none
 | k + 1, x5, x6, x233000, x233001, x233002 => if x6 < (x5.length : Int) then (if 0 ≤ x6 then (if x233000 = 0 then (none) else (r4_Neg.l0 k (x5.set (x6 : Int).toNat (Int.tmod (wrap64 (x233000 - (rd x5 x6))) x233000)) (wrap64 (x6 + 1)) x233000 x233001 x233002)) else (none)) else ((r4_Value.f k x233000 x233001 x233002 x5).bind fun t238 => (some t238))
def r4_Neg.f (k : Nat) (a0_0 : Int) (a0_1 : Int) (l0_2 : List Int) (a1 : Int) : Option (Int) := (r4_Digits.f k a0_0 a0_1 l0_2 a1).bind fun t233 => (r4_Neg.l0 k t233 0 a0_0 a0_1 l0_2)
def r4_Neg.T5 : Bool × List (List Nat × List Nat) := (true, [([], []), ([], []), ([], []), ([2], [2]), ([], []), ([], []), ([4, 5], [4, 5]), ([6], [6]), ([3, 7], [3, 7]), ([], []), ([9], [9]), ([8, 10], [8, 10]), ([0, 1, 0, 1, 2, 3, 4, 5, 6, 7, 8, 9, 10, 11], [0, 1]), ([12, 11, 0, 1, 2, 3, 4, 5, 6, 7, 8, 9, 10, 11], [11, 12])])
def r4_Neg.B5 : List Nat := [0, 0, 0, 4, 0, 0, 48, 112, 252, 0, 512, 2044, 4095, 8191]
theorem r4_Neg.tab5 : rtab .any (opsOf Try.f142 5) = r4_Neg.T5 := by kernel_rfl
theorem r4_Neg.bits5 : waitsOk r4_Neg.T5.2 r4_Neg.B5 = true := by kernel_rfl
theorem r4_Neg.calls (k : Nat) (a0_0 : Int) (a0_1 : Int) (A0_2 : Option Addr) (c0_2 : Nat) (l0_2 : List Int) (a1 : Int) (r : Int) (w : World) (hr0_2 : Kd.C (Kd.int .i64) w A0_2 l0_2.length l0_2) (hc0_2 : l0_2.length ≤ c0_2) (h : r4_Neg.f k a0_0 a0_1 l0_2 a1 = some r) :
  Calls Try.prog 142 #[.agg #[.int .i64 a0_0, .int .i64 a0_1, .slice A0_2 l0_2.length c0_2], .int .i64 a1] w fun e w' => e = .returned (.int .i64 r) ∧ Below w.heap.size w w' := by
 have hu36 := Try.underlying36
 have HR0_2 := Aside0.mk hr0_2
 have HC0_2 := Aside0.mk hc0_2
 clear hr0_2 hc0_2
 have HB := Aside0.mk (Below.refl w.heap.size w)
 have H := h
 clear h
 unfold r4_Neg.f at H
 obtain ⟨t233, A3, H⟩ := bE H
 have H' := Aside0.mk H
 clear H
 go_enter Try.func142, Try.ntmps142
 go_wp2_with (first | (refine bz 2 #[.int .i64 a0_0, .int .i64 a0_1, .slice A0_2 l0_2.length c0_2] 36 ?_; clear HB; intro gb232 w4 BK232 GW232 GE232 HB; obtain ⟨hcz5_0, hcz5_1, hcz5_2, hfz5_0, hfz5_1, hfz5_2⟩ := bq3 BK232.out) | (refine gL 9 Try.func84 #[.agg #[.int .i64 a0_0, .int .i64 a0_1, .slice A0_2 l0_2.length c0_2], .int .i64 a1] ?_; (with_reducible refine (r4_Digits.calls k a0_0 a0_1 _ _ l0_2 a1 t233 _ (Kd.C_below HR0_2.out bw) HC0_2.out A3.out).mono ?_); rintro e w6 ⟨v234, rfl, ho0, hb⟩; refine ⟨_, rfl, ?_⟩; have HO235 := Aside0.mk (Kd.R_lower ho0 (below_size bw)); replace BK232 := Aside0.mk (bkb BK232 hb); replace HB := Aside0.mk (below_step bw hb); (try clear hb); (try clear ho0)))
 go_loopg [6] k (fun kq v6 w' => ∃ (x5_1 : List Int) (x6_1 : Int), v6 = .int .i64 x6_1 ∧ Aside0 (r4_Neg.l0 kq x5_1 x6_1 a0_0 a0_1 l0_2 = some r) ∧ Aside0 (kq ≤ k) ∧ Aside0 (Kd.R (Kd.int .i64) 3 w' w.heap.size (fun _ => True) v234 x5_1) ∧ Aside0 (w'.heap[gb232]? = some (.cells #[.int .i64 a0_0, .int .i64 a0_1, (.slice A0_2 l0_2.length c0_2)] 36 (0, 0))) ∧ Aside0 (Below w.heap.size w w'))
 case atStart => exact ⟨(t233), (0), rX, H', ⟨Nat.le_refl _⟩, ⟨rR HO235⟩, ⟨kk BK232⟩, ⟨bw⟩⟩
 case round =>
  clear H' hcz5_0 hcz5_1 hcz5_2 hfz5_0 hfz5_1 hfz5_2
  obtain ⟨x5_1, x6_1, rfl, HA, HK1, HO_5, BK232, HB⟩ := hrel
  cases gk with
  | zero => exact absurd HA.out (by simp [r4_Neg.l0])
  | succ k1 =>
   have H := HA.out
   clear HA
   simp only [r4_Neg.l0] at H
   by_cases c7 : x6_1 < (x5_1.length : Int)
   ·rw [if_pos c7] at H
    have c7b0 := decide_eq_true c7
    clear c7
    obtain ⟨c8, H⟩ := iE H
    have c8b0 := decide_eq_true c8
    clear c8
    by_cases c9 : a0_0 = 0
    ·rw [if_pos c9] at H
     exact absurd H (by simp)
    ·rw [if_neg c9] at H
     have c9b0 := beq_eq_false_iff_ne.mpr c9
     have c9b1 := bne_iff_ne.mpr c9
     obtain ⟨y237, hy237⟩ : ∃ y_ : List Int, y_ = (x5_1.set (x6_1 : Int).toNat (Int.tmod (wrap64 (a0_0 - (rd x5_1 x6_1))) a0_0)) := ⟨_, rfl⟩
     (try rw [Option.bind_some] at H); (try rw [← hy237] at H)
     have Ny237 := Aside0.mk hy237
     clear hy237
     have H' := Aside0.mk H
     clear H
     obtain ⟨Ao11, co11, eo11⟩ := Kd.R_slice HO_5.out
     subst eo11
     try go_wp2
     replace HO_5 := Aside0.mk (Kd.R_drew HO_5.out)
     replace BK232 := Aside0.mk (blk_drew BK232.out)
     replace HB := Aside0.mk (below_drew1 HB.out)
     have p236 : 0 ≤ (x6_1 : Int) := dT
     have q236 : x6_1 < (x5_1.length : Int) := dT
     obtain ⟨ad236, e236, hx236_0⟩ := Kd.at_int (Kd.R_reads' HO_5.out).2.2 x6_1 p236 q236
     cases e236
     replace p236 := eq_true p236
     replace q236 := eq_true q236
     have p10 : 0 ≤ (x6_1 : Int) := dT
     have q10 : (x6_1 : Int) < ((x5_1.length : Int) : Int) := dT
     obtain ⟨go10, co10, eo10, gb10, gl10, cl10, HG10⟩ := Kd.R_form HO_5.out (by omega)
     (first | cases eo10 | (injection eo10 with ea_ en_ ec_; (first | subst ea_ | (injection ea_ with ea_; subst ea_)); subst ec_; clear en_))
     have GB10 := Aside0.mk gb10
     have GG10 := Aside0.mk HG10
     clear gb10 gl10 HG10
     (first | simp only [add_plain] at hx236_0 | skip)
     obtain ⟨hx10_0, hf10_0⟩ := Kd.R_celln 0 HO_5.out (x6_1 : Int) p10 q10
     replace p10 := eq_true p10
     replace q10 := eq_true q10
     have HP13 := Kd.R_putn HO_5.out (x6_1 : Int) (Int.tmod (wrap64 (a0_0 - (rd x5_1 x6_1))) a0_0)
     rw [← Ny237.out] at HP13
     have HQ13 := Aside0.mk HP13
     clear HP13
     refine start_ (n := 14) (S := fun w' => w'.cell? ⟨gb232, 0, none⟩ = some (.int .i64 a0_0) ∧ w'.cell? ⟨gb232, 1, none⟩ = some (.int .i64 a0_1) ∧ w'.cell? ⟨gb232, 2, none⟩ = some (.slice A0_2 l0_2.length c0_2) ∧ w'.cell? ⟨go10, (x6_1).toNat, none⟩ = some (.int .i64 (rd x5_1 x6_1))) (ds := [13]) (bb 14 0) (by kernel_rfl) rfl rfl ⟨bc0 BK232.out, bc1 BK232.out, bc2 BK232.out, hx236_0⟩ (fun hHeld => ?_); refine with_tabW r4_Neg.tab5 r4_Neg.bits5 (fun HT_ HW_ => ?_)
     generalize wr.drew = w12 at HO_5 BK232 HB GG10 HQ13 hf10_0 hx10_0 hx236_0 hHeld ⊢
     refine pq HT_ 0 16 (bb 14 1) ?_
     refine pq HT_ 1 17 (bb 14 3) ?_
     refine pq HT_ 2 18 (bb 14 7) ?_
     refine pq HT_ 4 20 (bb 14 23) ?_
     refine pq HT_ 5 21 (bb 14 55) ?_
     refine pq HT_ 6 22 (bb 14 119) ?_
     refine pq HT_ 9 25 (bb 14 631) ?_
     refine tq HT_ HW_ hHeld 3 19 (bb 14 639) ?_
     refine tq HT_ HW_ hHeld 7 23 (bb 14 767) ?_
     refine pq HT_ 8 24 (bb 14 1023) ?_
     refine tq HT_ HW_ hHeld 10 26 (bb 14 2047) ?_
     refine pq HT_ 11 27 (bb 14 4095) ?_
     refine pq HT_ 12 28 (bb 14 8191) ?_
     refine lq HT_ 13 none (bb 14 16383) (fun K hK => ?_)
     refine skip_ (w1 := ?_) (by rfl) rfl ?_ ?_
     rotate_left
     ·go_simp
      rfl
     refine hK.out _ _ ?_
     clear hK K
     refine dq HT_ ?_
     try go_wp2
     go_roundg k1
     case measure => have := HK1.out; omega
     case rel => exact ⟨(y237), (wrap64 (x6_1 + 1)), rX, H', mK, ⟨rR HQ13⟩, ⟨by (with_reducible repeat (first | refine blk_drewN ?_ _ | refine blk_drew ?_ | refine blk_alloc ?_ _)); refine blk_far ?_ (by have h_ := Kd.R_ne HO_5.out BK232.out (by decide); intro e_; exact h_ (by rw [e_]; rfl)) _; (with_reducible repeat (first | refine blk_drewN ?_ _ | refine blk_drew ?_ | refine blk_alloc ?_ _)); exact BK232.out⟩, ⟨bw⟩⟩
   ·rw [if_neg c7] at H
    have c7b0 := decide_eq_false c7
    clear c7
    obtain ⟨t238, A14, H⟩ := bE H
    obtain rfl := Option.some.inj H
    obtain ⟨Ao15, co15, eo15⟩ := Kd.R_slice HO_5.out
    subst eo15
    obtain ⟨hcz16_0, hcz16_1, hcz16_2, hfz16_0, hfz16_1, hfz16_2⟩ := bq3 BK232.out
    go_wp2_with (refine gL 31 Try.func97 #[.agg #[.int .i64 a0_0, .int .i64 a0_1, .slice A0_2 l0_2.length c0_2], .slice Ao15 x5_1.length co15] ?_; (with_reducible refine (r4_Value.calls k1 a0_0 a0_1 _ _ l0_2 _ _ x5_1 t238 _ (Kd.C_below HR0_2.out bw) HC0_2.out ?side3 ((Kd.R_reads' HO_5.out).2.1) A14.out).mono ?_); (case side3 => repeat (first | exact (Kd.R_reads' HO_5.out).2.2 | (with_reducible refine Kd.C_alloc ?_ _) | (with_reducible refine Kd.C_drewN ?_ _) | (with_reducible refine Kd.C_drew ?_))); rintro e w17 ⟨rfl, hb⟩; refine ⟨_, rfl, ?_⟩; replace HO_5 := Aside0.mk (Kd.R_below (rR HO_5) hb); replace BK232 := Aside0.mk (bkb BK232 hb); replace HB := Aside0.mk (below_step bw hb); (try clear hb))
    go_ret
    exact ⟨rW, bw⟩
def r9_SameRows.l0 : Nat → List (List Int) → List (List Int) → Int → Option (Bool)
 | 0, _, _, _ => none
 | k + 1, x0, x1, x5 => if x5 < (x0.length : Int) then (if 0 ≤ x5 then (if x5 < (x1.length : Int) then ((r9_SameInts.f k (rd_L1 x0 x5) (rd_L1 x1 x5)).bind fun t276 => (if t276 = true then (r9_SameRows.l0 k x0 x1 (wrap64 (x5 + 1))) else (some false))) else (none)) else (none)) else (some true)
def r9_SameRows.f (k : Nat) (l0 : List (List Int)) (l1 : List (List Int)) : Option (Bool) := if (l0.length : Int) = (l1.length : Int) then (r9_SameRows.l0 k l0 l1 0) else (some false)
theorem r9_SameRows.calls (k : Nat) (A0 : Option Addr) (c0 : Nat) (l0 : List (List Int)) (A1 : Option Addr) (c1 : Nat) (l1 : List (List Int)) (r : Bool) (w : World) (hr0 : Kd.C (Kd.slice 3 (Kd.int .i64)) w A0 l0.length l0) (hc0 : l0.length ≤ c0) (hr1 : Kd.C (Kd.slice 3 (Kd.int .i64)) w A1 l1.length l1) (hc1 : l1.length ≤ c1) (h : r9_SameRows.f k l0 l1 = some r) :
  Calls Try.prog 111 #[.slice A0 l0.length c0, .slice A1 l1.length c1] w fun e w' => e = .returned (.bool r) ∧ Drawn0 w w' := by
 have HR0 := Aside0.mk hr0
 have HC0 := Aside0.mk hc0
 clear hr0 hc0
 have HR1 := Aside0.mk hr1
 have HC1 := Aside0.mk hc1
 clear hr1 hc1
 have H := h
 clear h
 unfold r9_SameRows.f at H
 by_cases c3 : (l0.length : Int) = (l1.length : Int)
 ·rw [if_pos c3] at H
  have c3b0 := beq_iff_eq.mpr c3
  have c3b1 := bne_eq_false_iff_eq.mpr c3
  have c3b2 : (l0.length == l1.length) = true := by first | simpa using c3 | (simp at c3 ⊢; omega)
  clear c3
  have H' := Aside0.mk H
  clear H
  go_enter Try.func111, Try.ntmps111
  go_wp2
  repeat (go_quiet (fail); try go_wp2)
  go_loopg [5] k (fun kq v5 w' => ∃ (x5_1 : Int), v5 = .int .i64 x5_1 ∧ Aside0 (r9_SameRows.l0 kq l0 l1 x5_1 = some r) ∧ Aside0 (kq ≤ k) ∧ Drawn0 w w')
  case atStart => exact ⟨(0), rX, H', ⟨Nat.le_refl _⟩, by repeat (first | exact Drawn0.refl _ | apply Drawn0.step)⟩
  case round =>
   clear H' c3b0 c3b1 c3b2
   obtain ⟨x5_1, rfl, HA, HK1, ⟨m1, rfl⟩⟩ := hrel
   cases gk with
   | zero => exact absurd HA.out (by simp [r9_SameRows.l0])
   | succ k1 =>
    have H := HA.out
    clear HA
    simp only [r9_SameRows.l0] at H
    by_cases c4 : x5_1 < (l0.length : Int)
    ·rw [if_pos c4] at H
     have c4b0 := decide_eq_true c4
     clear c4
     obtain ⟨c5, H⟩ := iE H
     have c5b0 := decide_eq_true c5
     clear c5
     obtain ⟨c6, H⟩ := iE H
     have c6b0 := decide_eq_true c6
     clear c6
     obtain ⟨t276, A7, H⟩ := bE H
     by_cases c8 : t276 = true
     ·subst c8
      have H1 : (r9_SameRows.l0 k1 l0 l1 (wrap64 (x5_1 + 1))) = some r := by rw [if_pos rfl] at H; exact H
      clear H
      have H := H1
      clear H1
      have H' := Aside0.mk H
      clear H
      have p274 : 0 ≤ (x5_1 : Int) := dT
      have q274 : x5_1 < (l0.length : Int) := dT
      obtain ⟨ad274, A274_0, c274_0, e274, hx274_0, hl274_0, hi274_0⟩ := at_L1 HR0.out x5_1 p274 q274
      cases e274
      have HR274_0 := Aside0.mk hi274_0
      have HC274_0 := Aside0.mk hl274_0
      clear hi274_0 hl274_0
      replace p274 := eq_true p274
      replace q274 := eq_true q274
      have p275 : 0 ≤ (x5_1 : Int) := dT
      have q275 : x5_1 < (l1.length : Int) := dT
      obtain ⟨ad275, A275_0, c275_0, e275, hx275_0, hl275_0, hi275_0⟩ := at_L1 HR1.out x5_1 p275 q275
      cases e275
      have HR275_0 := Aside0.mk hi275_0
      have HC275_0 := Aside0.mk hl275_0
      clear hi275_0 hl275_0
      replace p275 := eq_true p275
      replace q275 := eq_true q275
      go_wp2_with (fail)
      repeat (go_quiet ((go_at_call 21; (with_reducible refine (r9_SameInts.calls k1 _ _ (rd_L1 l0 x5_1) _ _ (rd_L1 l1 x5_1) true _ ?side1 HC274_0.out ?side3 HC275_0.out A7.out).mono ?_); (case side1 => repeat (first | exact HR274_0.out | (with_reducible refine Kd.C_alloc ?_ _) | (with_reducible refine Kd.C_drewN ?_ _) | (with_reducible refine Kd.C_drew ?_))); (case side3 => repeat (first | exact HR275_0.out | (with_reducible refine Kd.C_alloc ?_ _) | (with_reducible refine Kd.C_drewN ?_ _) | (with_reducible refine Kd.C_drew ?_))); rintro e w' ⟨rfl, ⟨nd, rfl⟩⟩; (try first | exact ⟨rfl, _, World.drewN_drewN _ _ _⟩ | exact ⟨rfl, _, Eq.trans (World.drewN_drewN _ _ _) (congrArg (World.drewN _) (Nat.add_assoc _ _ _))⟩))); try go_wp2_with (fail))
      go_roundg k1
      case measure => have := HK1.out; omega
      case rel => exact ⟨(wrap64 (x5_1 + 1)), rX, H', mK, by repeat (first | exact Drawn0.refl _ | apply Drawn0.step)⟩
     ·replace c8 := Bool.eq_false_iff.mpr c8
      subst c8
      have H1 : (some false) = some r := by rw [if_neg (show ¬ (false = true) by decide)] at H; exact H
      clear H
      have H := H1
      clear H1
      obtain rfl := Option.some.inj H
      have p274 : 0 ≤ (x5_1 : Int) := dT
      have q274 : x5_1 < (l0.length : Int) := dT
      obtain ⟨ad274, A274_0, c274_0, e274, hx274_0, hl274_0, hi274_0⟩ := at_L1 HR0.out x5_1 p274 q274
      cases e274
      have HR274_0 := Aside0.mk hi274_0
      have HC274_0 := Aside0.mk hl274_0
      clear hi274_0 hl274_0
      replace p274 := eq_true p274
      replace q274 := eq_true q274
      have p275 : 0 ≤ (x5_1 : Int) := dT
      have q275 : x5_1 < (l1.length : Int) := dT
      obtain ⟨ad275, A275_0, c275_0, e275, hx275_0, hl275_0, hi275_0⟩ := at_L1 HR1.out x5_1 p275 q275
      cases e275
      have HR275_0 := Aside0.mk hi275_0
      have HC275_0 := Aside0.mk hl275_0
      clear hi275_0 hl275_0
      replace p275 := eq_true p275
      replace q275 := eq_true q275
      go_wp2_with (fail)
      repeat (go_quiet ((go_at_call 21; (with_reducible refine (r9_SameInts.calls k1 _ _ (rd_L1 l0 x5_1) _ _ (rd_L1 l1 x5_1) false _ ?side1 HC274_0.out ?side3 HC275_0.out A7.out).mono ?_); (case side1 => repeat (first | exact HR274_0.out | (with_reducible refine Kd.C_alloc ?_ _) | (with_reducible refine Kd.C_drewN ?_ _) | (with_reducible refine Kd.C_drew ?_))); (case side3 => repeat (first | exact HR275_0.out | (with_reducible refine Kd.C_alloc ?_ _) | (with_reducible refine Kd.C_drewN ?_ _) | (with_reducible refine Kd.C_drew ?_))); rintro e w' ⟨rfl, ⟨nd, rfl⟩⟩; (try first | exact ⟨rfl, _, World.drewN_drewN _ _ _⟩ | exact ⟨rfl, _, Eq.trans (World.drewN_drewN _ _ _) (congrArg (World.drewN _) (Nat.add_assoc _ _ _))⟩))); try go_wp2_with (fail))
      go_ret
      exact ⟨by first | rfl | (simp; done) | (simp [*]; done), by repeat (first | exact Drawn0.refl _ | apply Drawn0.step)⟩
    ·rw [if_neg c4] at H
     have c4b0 := decide_eq_false c4
     clear c4
     obtain rfl := Option.some.inj H
     go_wp2
     repeat (go_quiet (fail); try go_wp2)
     go_ret
     exact ⟨by first | rfl | (simp; done) | (simp [*]; done), by repeat (first | exact Drawn0.refl _ | apply Drawn0.step)⟩
 ·rw [if_neg c3] at H
  have c3b0 := beq_eq_false_iff_ne.mpr c3
  have c3b1 := bne_iff_ne.mpr c3
  have c3b2 : (l0.length == l1.length) = false := by first | simpa using c3 | (simp at c3 ⊢; omega)
  obtain rfl := Option.some.inj H
  go_enter Try.func111, Try.ntmps111
  go_wp2
  repeat (go_quiet (fail); try go_wp2)
  go_ret
  exact ⟨by first | rfl | (simp; done) | (simp [*]; done), by repeat (first | exact Drawn0.refl _ | apply Drawn0.step)⟩
def r17_Over.f (a0_0 : Int) (a0_1 : Int) (l0_2 : List Int) (a1_0 : Int) (a1_1 : Int) (l1_2 : List Int) : Option (Bool) := if a0_0 = a1_0 then (if a0_1 = 0 then (none) else (some ((Int.tmod a1_1 a0_1) == 0))) else (some false)
theorem r17_Over.calls (a0_0 : Int) (a0_1 : Int) (A0_2 : Option Addr) (c0_2 : Nat) (l0_2 : List Int) (a1_0 : Int) (a1_1 : Int) (A1_2 : Option Addr) (c1_2 : Nat) (l1_2 : List Int) (r : Bool) (w : World) (hr0_2 : Kd.C (Kd.int .i64) w A0_2 l0_2.length l0_2) (hc0_2 : l0_2.length ≤ c0_2) (hr1_2 : Kd.C (Kd.int .i64) w A1_2 l1_2.length l1_2) (hc1_2 : l1_2.length ≤ c1_2) (h : r17_Over.f a0_0 a0_1 l0_2 a1_0 a1_1 l1_2 = some r) :
  Calls Try.prog 50 #[.agg #[.int .i64 a0_0, .int .i64 a0_1, .slice A0_2 l0_2.length c0_2], .agg #[.int .i64 a1_0, .int .i64 a1_1, .slice A1_2 l1_2.length c1_2]] w fun e w' => e = .returned (.bool r) ∧ Below w.heap.size w w' := by
 have hu36 := Try.underlying36
 have HR0_2 := Aside0.mk hr0_2
 have HC0_2 := Aside0.mk hc0_2
 clear hr0_2 hc0_2
 have HR1_2 := Aside0.mk hr1_2
 have HC1_2 := Aside0.mk hc1_2
 clear hr1_2 hc1_2
 have HB := Aside0.mk (Below.refl w.heap.size w)
 have H := h
 clear h
 unfold r17_Over.f at H
 by_cases c3 : a0_0 = a1_0
 ·rw [if_pos c3] at H
  have c3b0 := beq_iff_eq.mpr c3
  have c3b1 := bne_eq_false_iff_eq.mpr c3
  clear c3
  by_cases c4 : a0_1 = 0
  ·rw [if_pos c4] at H
   exact absurd H (by simp)
  ·rw [if_neg c4] at H
   have c4b0 := beq_eq_false_iff_ne.mpr c4
   have c4b1 := bne_iff_ne.mpr c4
   obtain rfl := Option.some.inj H
   go_enter Try.func50, Try.ntmps50
   go_wp2_with (first | (refine bz 2 #[.int .i64 a0_0, .int .i64 a0_1, .slice A0_2 l0_2.length c0_2] 36 ?_; clear HB; intro gb282 w5 BK282 GW282 GE282 HB) | (refine bx 3 #[.int .i64 a1_0, .int .i64 a1_1, .slice A1_2 l1_2.length c1_2] 36 ?_; intro gb283 hg w6 hbox hb; have BK283 := Aside0.mk (hbox); have GW283 := Aside0.mk ((by rw [hg]; exact (below_size bw) : w.heap.size ≤ gb283)); have GE283 := Aside0.mk ((by rw [hg]; exact (below_size bw) : w.heap.size ≤ gb283)); replace HB := Aside0.mk (below_step bw hb); have NB282_283 := Aside0.mk ((by rw [hg]; exact Nat.ne_of_lt (blk_lt (g := gb282) (o := .cells #[.int .i64 a0_0, .int .i64 a0_1, .slice A0_2 l0_2.length c0_2] 36 (0, 0)) (kk BK282)) : gb282 ≠ gb283)); have NB283_282 := Aside0.mk ((by rw [hg]; exact Nat.ne_of_gt (blk_lt (g := gb282) (o := .cells #[.int .i64 a0_0, .int .i64 a0_1, .slice A0_2 l0_2.length c0_2] 36 (0, 0)) (kk BK282)) : gb283 ≠ gb282)); replace BK282 := Aside0.mk (bkb BK282 hb); clear hb hbox hg; have hnb7 := NB282_283.out; have hnc7 := NB283_282.out; obtain ⟨hcz8_0, hcz8_1, hcz8_2, hfz8_0, hfz8_1, hfz8_2⟩ := bq3 BK282.out; obtain ⟨hcz9_0, hcz9_1, hcz9_2, hfz9_0, hfz9_1, hfz9_2⟩ := bq3 BK283.out))
   go_ret
   exact ⟨rW, bw⟩
 ·rw [if_neg c3] at H
  have c3b0 := beq_eq_false_iff_ne.mpr c3
  have c3b1 := bne_iff_ne.mpr c3
  obtain rfl := Option.some.inj H
  go_enter Try.func50, Try.ntmps50
  go_wp2_with (first | (refine bz 2 #[.int .i64 a0_0, .int .i64 a0_1, .slice A0_2 l0_2.length c0_2] 36 ?_; clear HB; intro gb282 w10 BK282 GW282 GE282 HB) | (refine bx 3 #[.int .i64 a1_0, .int .i64 a1_1, .slice A1_2 l1_2.length c1_2] 36 ?_; intro gb283 hg w11 hbox hb; have BK283 := Aside0.mk (hbox); have GW283 := Aside0.mk ((by rw [hg]; exact (below_size bw) : w.heap.size ≤ gb283)); have GE283 := Aside0.mk ((by rw [hg]; exact (below_size bw) : w.heap.size ≤ gb283)); replace HB := Aside0.mk (below_step bw hb); have NB282_283 := Aside0.mk ((by rw [hg]; exact Nat.ne_of_lt (blk_lt (g := gb282) (o := .cells #[.int .i64 a0_0, .int .i64 a0_1, .slice A0_2 l0_2.length c0_2] 36 (0, 0)) (kk BK282)) : gb282 ≠ gb283)); have NB283_282 := Aside0.mk ((by rw [hg]; exact Nat.ne_of_gt (blk_lt (g := gb282) (o := .cells #[.int .i64 a0_0, .int .i64 a0_1, .slice A0_2 l0_2.length c0_2] 36 (0, 0)) (kk BK282)) : gb283 ≠ gb282)); replace BK282 := Aside0.mk (bkb BK282 hb); clear hb hbox hg; have hnb12 := NB282_283.out; have hnc12 := NB283_282.out; obtain ⟨hcz13_0, hcz13_1, hcz13_2, hfz13_0, hfz13_1, hfz13_2⟩ := bq3 BK282.out; obtain ⟨hcz14_0, hcz14_1, hcz14_2, hfz14_0, hfz14_1, hfz14_2⟩ := bq3 BK283.out))
  go_ret
  exact ⟨rW, bw⟩
def code_length.f (a0 : Int) : Option (Int) := if a0 < 1 then (some 4) else (if a0 > 64 then (some 4) else (some 0))
theorem code_length.calls (a0 : Int) (r : Int) (w : World) (h : code_length.f a0 = some r) :
  Calls Try.prog 77 #[.int .i64 a0] w fun e w' => e = .returned (.int .i64 r) ∧ Drawn0 w w' := by
 have H := h
 clear h
 unfold code_length.f at H
 by_cases c2 : a0 < 1
 ·rw [if_pos c2] at H
  have c2b0 := decide_eq_true c2
  clear c2
  obtain rfl := Option.some.inj H
  go_enter Try.func77, Try.ntmps77
  go_wp2
  go_ret
  exact ⟨by first | rfl | (simp; done) | (simp [*]; done), by repeat (first | exact Drawn0.refl _ | apply Drawn0.step)⟩
 ·rw [if_neg c2] at H
  have c2b0 := decide_eq_false c2
  clear c2
  by_cases c3 : a0 > 64
  ·rw [if_pos c3] at H
   have c3b0 : decide (64 < a0) = true := decide_eq_true c3
   clear c3
   obtain rfl := Option.some.inj H
   go_enter Try.func77, Try.ntmps77
   go_wp2
   go_ret
   exact ⟨by first | rfl | (simp; done) | (simp [*]; done), by repeat (first | exact Drawn0.refl _ | apply Drawn0.step)⟩
  ·rw [if_neg c3] at H
   have c3b0 : decide (64 < a0) = false := decide_eq_false c3
   clear c3
   obtain rfl := Option.some.inj H
   go_enter Try.func77, Try.ntmps77
   go_wp2
   go_ret
   exact ⟨by first | rfl | (simp; done) | (simp [*]; done), by repeat (first | exact Drawn0.refl _ | apply Drawn0.step)⟩
def matrix_entries.l0 : Nat → List Int → Int → Int → Int → Int → List Int → Int → List Int → List Int → Option (Int × Int × Int × Int)
 | 0, _, _, _, _, _, _, _, _, _ => none
 | k + 1, x7, x8, x9, x1000, x1001, x1002, x1003, x1004, x1005 => if x9 < x8 then (if 0 ≤ x9 then (if x9 < (x7.length : Int) then ((field_GF_Is.f x1000 x1001 x1002 x1003 x1004 x1005 (rd x7 x9)).bind fun bt333 => (if bt333.1 = true then (matrix_entries.l0 k x7 x8 (wrap64 (x9 + 1)) bt333.2.1 bt333.2.2.1 x1002 bt333.2.2.2 x1004 x1005) else (some (2, bt333.2.1, bt333.2.2.1, bt333.2.2.2)))) else (none)) else (none)) else (some (0, x1000, x1001, x1003))
def matrix_entries.f (k : Nat) (s0_0 : Int) (s0_1 : Int) (s0_2 : List Int) (s0_3 : Int) (s0_4 : List Int) (s0_5 : List Int) (l1 : List Int) : Option (Int × Int × Int × Int) := matrix_entries.l0 k l1 (l1.length : Int) 0 s0_0 s0_1 s0_2 s0_3 s0_4 s0_5
theorem matrix_entries.calls (k : Nat) (g : Nat) (s0_0 : Int) (s0_1 : Int) (s0_2 : List Int) (s0_3 : Int) (s0_4 : List Int) (s0_5 : List Int) (A1 : Option Addr) (c1 : Nat) (l1 : List Int) (r1 : Int) (r2 : Int) (r3 : Int) (r4 : Int) (w0 w : World) (hI : IsS92 w0 w g s0_0 s0_1 s0_2 s0_3 s0_4 s0_5) (hB : Below w0.heap.size w0 w) (hr1 : Kd.C (Kd.int .i64) w A1 l1.length l1) (hc1 : l1.length ≤ c1) (hf1 : ∀ ad, A1 = some ad → 0 < l1.length → ad.block ≠ g) (h : matrix_entries.f k s0_0 s0_1 s0_2 s0_3 s0_4 s0_5 l1 = some (r1, r2, r3, r4)) :
  Calls Try.prog 149 #[.pointer (some ⟨g, 0, none⟩), .slice A1 l1.length c1] w fun e w' => e = .returned (.int .i64 r1) ∧ IsS92 w0 w' g r2 r3 s0_2 r4 s0_4 s0_5 ∧ Below w0.heap.size w0 w' ∧ KeepBut w w' g none := by
 have HR1 := Aside0.mk hr1
 have HC1 := Aside0.mk hc1
 clear hr1 hc1
 have HI0 := Aside0.mk hI
 have HK := Aside0.mk (KeepBut.refl w g none)
 have HL := Aside0.mk hB.size
 clear hI
 have HW0 := Aside0.mk hB.size
 have HB := Aside0.mk hB
 clear hB
 have H := h
 clear h
 unfold matrix_entries.f at H
 have H' := Aside0.mk H
 clear H
 go_enter Try.func149, Try.ntmps149
 go_wp2
 go_loopg [9] k (fun kq v9 w' => ∃ (x9_1 : Int) (x1000_1 : Int) (x1001_1 : Int) (x1003_1 : Int), v9 = .int .i64 x9_1 ∧ Aside0 (matrix_entries.l0 kq l1 (l1.length : Int) x9_1 x1000_1 x1001_1 s0_2 x1003_1 s0_4 s0_5 = some (r1, r2, r3, r4)) ∧ Aside0 (kq ≤ k) ∧ Aside0 (IsS92 w0 w' g x1000_1 x1001_1 s0_2 x1003_1 s0_4 s0_5) ∧ Aside0 (KeepBut w w' g none) ∧ Aside0 (Below w0.heap.size w0 w'))
 case atStart => exact ⟨(0), (s0_0), (s0_1), (s0_3), rX, H', ⟨Nat.le_refl _⟩, ⟨bI⟩, ⟨bK⟩, ⟨bH⟩⟩
 case round =>
  clear H'
  obtain ⟨x9_1, x1000_1, x1001_1, x1003_1, rfl, HA, HK1, HI0, HK, HB⟩ := hrel
  cases gk with
  | zero => exact absurd HA.out (by simp [matrix_entries.l0])
  | succ k1 =>
   have H := HA.out
   clear HA
   simp only [matrix_entries.l0] at H
   by_cases c3 : x9_1 < (l1.length : Int)
   ·rw [if_pos c3] at H
    have c3b0 := decide_eq_true c3
    clear c3
    obtain ⟨c4, H⟩ := iE H
    have c4b0 := decide_eq_true c4
    clear c4
    obtain ⟨c5, H⟩ := iE H
    have c5b0 := decide_eq_true c5
    clear c5
    obtain ⟨⟨t333, t334, t335, t336⟩, A6, H⟩ := bE H
    (try dsimp only at H)
    by_cases c7 : t333 = true
    ·subst c7
     have H1 : (matrix_entries.l0 k1 l1 (l1.length : Int) (wrap64 (x9_1 + 1)) t334 t335 s0_2 t336 s0_4 s0_5) = some (r1, r2, r3, r4) := by rw [if_pos rfl] at H; exact H
     clear H
     have H := H1
     clear H1
     have H' := Aside0.mk H
     clear H
     have p332 : 0 ≤ (x9_1 : Int) := dT
     have q332 : x9_1 < (l1.length : Int) := dT
     obtain ⟨ad332, e332, hx332_0⟩ := Kd.at_int HR1.out x9_1 p332 q332
     cases e332
     replace hx332_0 := keep_cell HK.out hx332_0 (by first | (rw [add_block]; exact hf1 _ rfl (by omega)) | exact hf1 _ rfl (by omega) | exact hf1 ad332 rfl (by omega))
     replace p332 := eq_true p332
     replace q332 := eq_true q332
     go_wp2_with (refine gL 15 Try.func93 #[.pointer (some ⟨g, 0, none⟩), .int .i64 (rd l1 x9_1)] ?_; (with_reducible refine (field_GF_Is.calls g x1000_1 x1001_1 s0_2 x1003_1 s0_4 s0_5 (rd l1 x9_1) true t334 t335 t336 w0 _ ?side1 ?side2 A6.out).mono ?_); (case side1 => exact bI); (case side2 => exact bH); rintro e w8 ⟨rfl, hi, hb, hk⟩; refine ⟨_, rfl, ?_⟩; replace HK := Aside0.mk (KeepBut.trans bK hk (.inl rfl)); replace HB := Aside0.mk hb; replace HI0 := Aside0.mk hi; (try clear hb); (try clear hk); (try clear hi))
     go_roundg k1
     case measure => have := HK1.out; omega
     case rel => exact ⟨(wrap64 (x9_1 + 1)), (t334), (t335), (t336), rX, H', mK, ⟨bI⟩, ⟨bK⟩, ⟨bH⟩⟩
    ·replace c7 := Bool.eq_false_iff.mpr c7
     subst c7
     have H1 : (some (2, t334, t335, t336)) = some (r1, r2, r3, r4) := by rw [if_neg (show ¬ (false = true) by decide)] at H; exact H
     clear H
     have H := H1
     clear H1
     simp only [Option.some.injEq, Prod.mk.injEq] at H
     obtain ⟨rfl, rfl, rfl, rfl⟩ := H
     have p332 : 0 ≤ (x9_1 : Int) := dT
     have q332 : x9_1 < (l1.length : Int) := dT
     obtain ⟨ad332, e332, hx332_0⟩ := Kd.at_int HR1.out x9_1 p332 q332
     cases e332
     replace hx332_0 := keep_cell HK.out hx332_0 (by first | (rw [add_block]; exact hf1 _ rfl (by omega)) | exact hf1 _ rfl (by omega) | exact hf1 ad332 rfl (by omega))
     replace p332 := eq_true p332
     replace q332 := eq_true q332
     go_wp2_with (refine gL 15 Try.func93 #[.pointer (some ⟨g, 0, none⟩), .int .i64 (rd l1 x9_1)] ?_; (with_reducible refine (field_GF_Is.calls g x1000_1 x1001_1 s0_2 x1003_1 s0_4 s0_5 (rd l1 x9_1) false t334 t335 t336 w0 _ ?side1 ?side2 A6.out).mono ?_); (case side1 => exact bI); (case side2 => exact bH); rintro e w9 ⟨rfl, hi, hb, hk⟩; refine ⟨_, rfl, ?_⟩; replace HK := Aside0.mk (KeepBut.trans bK hk (.inl rfl)); replace HB := Aside0.mk hb; replace HI0 := Aside0.mk hi; (try clear hb); (try clear hk); (try clear hi))
     go_ret
     exact ⟨rW, bI, bH, bK⟩
   ·rw [if_neg c3] at H
    have c3b0 := decide_eq_false c3
    clear c3
    simp only [Option.some.injEq, Prod.mk.injEq] at H
    obtain ⟨rfl, rfl, rfl, rfl⟩ := H
    go_wp2
    go_ret
    exact ⟨rW, bI, bH, bK⟩
def field_GF_Mul.f (s0_0 : Int) (s0_1 : Int) (s0_2 : List Int) (s0_3 : Int) (s0_4 : List Int) (s0_5 : List Int) (a1 : Int) (a2 : Int) : Option (Int × Int × Int × Int) := (field_GF_in.f s0_0 s0_1 s0_2 s0_3 s0_4 s0_5 a1).bind fun bt352 => ((field_GF_in.f bt352.2.1 bt352.2.2.1 s0_2 bt352.2.2.2 s0_4 s0_5 a2).bind fun bt356 => (if bt352.1 = 0 then (some (0, bt356.2.1, bt356.2.2.1, bt356.2.2.2)) else (if bt356.1 = 0 then (some (0, bt356.2.1, bt356.2.2.1, bt356.2.2.2)) else (if 0 ≤ bt352.1 then (if bt352.1 < (s0_5.length : Int) then (if 0 ≤ bt356.1 then (if bt356.1 < (s0_5.length : Int) then (if (wrap64 (bt356.2.2.2 - 1)) = 0 then (none) else (if 0 ≤ (Int.tmod (wrap64 ((rd s0_5 bt352.1) + (rd s0_5 bt356.1))) (wrap64 (bt356.2.2.2 - 1))) then (if (Int.tmod (wrap64 ((rd s0_5 bt352.1) + (rd s0_5 bt356.1))) (wrap64 (bt356.2.2.2 - 1))) < (s0_4.length : Int) then (some (rd s0_4 (Int.tmod (wrap64 ((rd s0_5 bt352.1) + (rd s0_5 bt356.1))) (wrap64 (bt356.2.2.2 - 1))), bt356.2.1, bt356.2.2.1, bt356.2.2.2)) else (none)) else (none))) else (none)) else (none)) else (none)) else (none)))))
theorem field_GF_Mul.calls (g : Nat) (s0_0 : Int) (s0_1 : Int) (s0_2 : List Int) (s0_3 : Int) (s0_4 : List Int) (s0_5 : List Int) (a1 : Int) (a2 : Int) (r1 : Int) (r2 : Int) (r3 : Int) (r4 : Int) (w0 w : World) (hI : IsS92 w0 w g s0_0 s0_1 s0_2 s0_3 s0_4 s0_5) (hB : Below w0.heap.size w0 w) (h : field_GF_Mul.f s0_0 s0_1 s0_2 s0_3 s0_4 s0_5 a1 a2 = some (r1, r2, r3, r4)) :
  Calls Try.prog 116 #[.pointer (some ⟨g, 0, none⟩), .int .i64 a1, .int .i64 a2] w fun e w' => e = .returned (.int .i64 r1) ∧ IsS92 w0 w' g r2 r3 s0_2 r4 s0_4 s0_5 ∧ Below w0.heap.size w0 w' ∧ KeepBut w w' g none := by
 have HI0 := Aside0.mk hI
 have HK := Aside0.mk (KeepBut.refl w g none)
 have HL := Aside0.mk hB.size
 clear hI
 have HW0 := Aside0.mk hB.size
 have HB := Aside0.mk hB
 clear hB
 have H := h
 clear h
 unfold field_GF_Mul.f at H
 obtain ⟨⟨t352, t353, t354, t355⟩, A4, H⟩ := bE H
 (try dsimp only at H)
 obtain ⟨⟨t356, t357, t358, t359⟩, A5, H⟩ := bE H
 (try dsimp only at H)
 by_cases c6 : t352 = 0
 ·rw [if_pos c6] at H
  have c6b0 := beq_iff_eq.mpr c6
  have c6b1 := bne_eq_false_iff_eq.mpr c6
  clear c6
  simp only [Option.some.injEq, Prod.mk.injEq] at H
  obtain ⟨rfl, rfl, rfl, rfl⟩ := H
  go_enter Try.func116, Try.ntmps116
  go_wp2_with (first | (go_at_call 66; (with_reducible refine (field_GF_in.calls g s0_0 s0_1 s0_2 s0_3 s0_4 s0_5 a1 t352 t353 t354 t355 w0 _ ?side1 ?side2 A4.out).mono ?_); (case side1 => exact bI); (case side2 => exact bH); rintro e w7 ⟨rfl, hi, hb, hk⟩; replace HK := Aside0.mk (KeepBut.trans bK hk (.inl rfl)); replace HB := Aside0.mk hb; replace HI0 := Aside0.mk hi; (try clear hb); (try clear hk); (try clear hi)) | (go_at_call 66; (with_reducible refine (field_GF_in.calls g t353 t354 s0_2 t355 s0_4 s0_5 a2 t356 t357 t358 t359 w0 _ ?side1 ?side2 A5.out).mono ?_); (case side1 => exact bI); (case side2 => exact bH); rintro e w8 ⟨rfl, hi, hb, hk⟩; replace HK := Aside0.mk (KeepBut.trans bK hk (.inl rfl)); replace HB := Aside0.mk hb; replace HI0 := Aside0.mk hi; (try clear hb); (try clear hk); (try clear hi)))
  repeat (go_quiet (fail); try go_wp2_with (fail))
  go_ret
  exact ⟨rW, bI, bH, bK⟩
 ·rw [if_neg c6] at H
  have c6b0 := beq_eq_false_iff_ne.mpr c6
  have c6b1 := bne_iff_ne.mpr c6
  by_cases c9 : t356 = 0
  ·rw [if_pos c9] at H
   have c9b0 := beq_iff_eq.mpr c9
   have c9b1 := bne_eq_false_iff_eq.mpr c9
   clear c9
   simp only [Option.some.injEq, Prod.mk.injEq] at H
   obtain ⟨rfl, rfl, rfl, rfl⟩ := H
   go_enter Try.func116, Try.ntmps116
   go_wp2_with (first | (go_at_call 66; (with_reducible refine (field_GF_in.calls g s0_0 s0_1 s0_2 s0_3 s0_4 s0_5 a1 t352 t353 t354 t355 w0 _ ?side1 ?side2 A4.out).mono ?_); (case side1 => exact bI); (case side2 => exact bH); rintro e w10 ⟨rfl, hi, hb, hk⟩; replace HK := Aside0.mk (KeepBut.trans bK hk (.inl rfl)); replace HB := Aside0.mk hb; replace HI0 := Aside0.mk hi; (try clear hb); (try clear hk); (try clear hi)) | (go_at_call 66; (with_reducible refine (field_GF_in.calls g t353 t354 s0_2 t355 s0_4 s0_5 a2 t356 t357 t358 t359 w0 _ ?side1 ?side2 A5.out).mono ?_); (case side1 => exact bI); (case side2 => exact bH); rintro e w11 ⟨rfl, hi, hb, hk⟩; replace HK := Aside0.mk (KeepBut.trans bK hk (.inl rfl)); replace HB := Aside0.mk hb; replace HI0 := Aside0.mk hi; (try clear hb); (try clear hk); (try clear hi)))
   repeat (go_quiet (fail); try go_wp2_with (fail))
   go_ret
   exact ⟨rW, bI, bH, bK⟩
  ·rw [if_neg c9] at H
   have c9b0 := beq_eq_false_iff_ne.mpr c9
   have c9b1 := bne_iff_ne.mpr c9
   obtain ⟨c12, H⟩ := iE H
   have c12b0 := decide_eq_true c12
   clear c12
   obtain ⟨c13, H⟩ := iE H
   have c13b0 := decide_eq_true c13
   clear c13
   obtain ⟨c14, H⟩ := iE H
   have c14b0 := decide_eq_true c14
   clear c14
   obtain ⟨c15, H⟩ := iE H
   have c15b0 := decide_eq_true c15
   clear c15
   by_cases c16 : (wrap64 (t359 - 1)) = 0
   ·rw [if_pos c16] at H
    exact absurd H (by simp)
   ·rw [if_neg c16] at H
    have c16b0 := beq_eq_false_iff_ne.mpr c16
    have c16b1 := bne_iff_ne.mpr c16
    obtain ⟨ji17, hji17⟩ : ∃ j_ : Int, (Int.tmod (wrap64 ((rd s0_5 t352) + (rd s0_5 t356))) (wrap64 (t359 - 1))) = j_ := ⟨_, rfl⟩
    replace H : (if 0 ≤ (ji17) then (if (ji17) < (s0_4.length : Int) then (some (rd s0_4 (ji17), t357, t358, t359)) else (none)) else (none)) = some (r1, r2, r3, r4) := by first | (rw [hji17] at H; exact H) | (simp only [hji17] at H ⊢; exact H)
    (try rw [hji17] at A4)
    (try rw [hji17] at A5)
    obtain ⟨c18, H⟩ := iE H
    have c18b0 := decide_eq_true c18
    clear c18
    obtain ⟨c19, H⟩ := iE H
    have c19b0 := decide_eq_true c19
    clear c19
    simp only [Option.some.injEq, Prod.mk.injEq] at H
    obtain ⟨rfl, rfl, rfl, rfl⟩ := H
    go_enter Try.func116, Try.ntmps116
    go_wp2_with (first | (go_at_call 66; (with_reducible refine (field_GF_in.calls g s0_0 s0_1 s0_2 s0_3 s0_4 s0_5 a1 t352 t353 t354 t355 w0 _ ?side1 ?side2 A4.out).mono ?_); (case side1 => exact bI); (case side2 => exact bH); rintro e w20 ⟨rfl, hi, hb, hk⟩; replace HK := Aside0.mk (KeepBut.trans bK hk (.inl rfl)); replace HB := Aside0.mk hb; replace HI0 := Aside0.mk hi; (try clear hb); (try clear hk); (try clear hi)) | (go_at_call 66; (with_reducible refine (field_GF_in.calls g t353 t354 s0_2 t355 s0_4 s0_5 a2 t356 t357 t358 t359 w0 _ ?side1 ?side2 A5.out).mono ?_); (case side1 => exact bI); (case side2 => exact bH); rintro e w21 ⟨rfl, hi, hb, hk⟩; replace HK := Aside0.mk (KeepBut.trans bK hk (.inl rfl)); replace HB := Aside0.mk hb; replace HI0 := Aside0.mk hi; (try clear hb); (try clear hk); (try clear hi); obtain ⟨ASz22_2, cSz22_2, ASz22_4, cSz22_4, ASz22_5, cSz22_5, HSz22_2, HSz22_4, HSz22_5, hcz22_0, hcz22_1, hcz22_2, hcz22_3, hcz22_4, hcz22_5, hfz22_0, hfz22_1, hfz22_3⟩ := oI HI0.out; have p360 : 0 ≤ (t352 : Int) := dT; have q360 : t352 < (s0_5.length : Int) := dT; obtain ⟨ad360, e360, hx360_0⟩ := Kd.at_int HSz22_5 t352 p360 q360; cases e360; replace hx360_0 := pw_cell_below HB.out hx360_0; replace p360 := eq_true p360; replace q360 := eq_true q360; have p361 : 0 ≤ (t356 : Int) := dT; have q361 : t356 < (s0_5.length : Int) := dT; obtain ⟨ad361, e361, hx361_0⟩ := Kd.at_int HSz22_5 t356 p361 q361; obtain rfl : ad360 = ad361 := (by injection e361); replace hx361_0 := pw_cell_below HB.out hx361_0; replace p361 := eq_true p361; replace q361 := eq_true q361; have p362 : 0 ≤ ((ji17) : Int) := dT; have q362 : (ji17) < (s0_4.length : Int) := dT; obtain ⟨ad362, e362, hx362_0⟩ := Kd.at_int HSz22_4 (ji17) p362 q362; cases e362; replace hx362_0 := pw_cell_below HB.out hx362_0; replace p362 := eq_true p362; replace q362 := eq_true q362))
    repeat (go_quiet (fail); try go_wp2_with (fail))
    go_ret
    exact ⟨by first | rfl | (simp [errW_none, errW_some] <;> rfl) | (simp only [← hji17]; first | rfl | (simp [errW_none, errW_some] <;> rfl)) | (simp [*, errW_none, errW_some] <;> rfl), bI, bH, bK⟩
def field_GF_Neg.l0 : Nat → Int → Int → Int → Int → Int → List Int → Int → List Int → List Int → Option (Int × Int × Int × Int)
 | 0, _, _, _, _, _, _, _, _, _ => none
 | k + 1, x1, x5, x6, x1000, x1001, x1002, x1003, x1004, x1005 => if x1 > 0 then (if x1000 = 0 then (none) else (field_GF_Neg.l0 k (wrap64 (Int.tdiv x1 x1000)) (wrap64 (x5 + (wrap64 ((Int.tmod (wrap64 (x1000 - (Int.tmod x1 x1000))) x1000) * x6)))) (wrap64 (x6 * x1000)) x1000 x1001 x1002 x1003 x1004 x1005)) else (some (x5, x1000, x1001, x1003))
def field_GF_Neg.f (k : Nat) (s0_0 : Int) (s0_1 : Int) (s0_2 : List Int) (s0_3 : Int) (s0_4 : List Int) (s0_5 : List Int) (a1 : Int) : Option (Int × Int × Int × Int) := (field_GF_in.f s0_0 s0_1 s0_2 s0_3 s0_4 s0_5 a1).bind fun bt363 => (field_GF_Neg.l0 k bt363.1 0 1 bt363.2.1 bt363.2.2.1 s0_2 bt363.2.2.2 s0_4 s0_5)
theorem field_GF_Neg.calls (k : Nat) (g : Nat) (s0_0 : Int) (s0_1 : Int) (s0_2 : List Int) (s0_3 : Int) (s0_4 : List Int) (s0_5 : List Int) (a1 : Int) (r1 : Int) (r2 : Int) (r3 : Int) (r4 : Int) (w0 w : World) (hI : IsS92 w0 w g s0_0 s0_1 s0_2 s0_3 s0_4 s0_5) (hB : Below w0.heap.size w0 w) (h : field_GF_Neg.f k s0_0 s0_1 s0_2 s0_3 s0_4 s0_5 a1 = some (r1, r2, r3, r4)) :
  Calls Try.prog 153 #[.pointer (some ⟨g, 0, none⟩), .int .i64 a1] w fun e w' => e = .returned (.int .i64 r1) ∧ IsS92 w0 w' g r2 r3 s0_2 r4 s0_4 s0_5 ∧ Below w0.heap.size w0 w' ∧ KeepBut w w' g none := by
 have HI0 := Aside0.mk hI
 have HK := Aside0.mk (KeepBut.refl w g none)
 have HL := Aside0.mk hB.size
 clear hI
 have HW0 := Aside0.mk hB.size
 have HB := Aside0.mk hB
 clear hB
 have H := h
 clear h
 unfold field_GF_Neg.f at H
 obtain ⟨⟨t363, t364, t365, t366⟩, A3, H⟩ := bE H
 (try dsimp only at H)
 have H' := Aside0.mk H
 clear H
 go_enter Try.func153, Try.ntmps153
 go_wp2_with (go_at_call 66; (with_reducible refine (field_GF_in.calls g s0_0 s0_1 s0_2 s0_3 s0_4 s0_5 a1 t363 t364 t365 t366 w0 _ ?side1 ?side2 A3.out).mono ?_); (case side1 => exact bI); (case side2 => exact bH); rintro e w4 ⟨rfl, hi, hb, hk⟩; replace HK := Aside0.mk (KeepBut.trans bK hk (.inl rfl)); replace HB := Aside0.mk hb; replace HI0 := Aside0.mk hi; (try clear hb); (try clear hk); (try clear hi))
 repeat (go_quiet (fail); try go_wp2_with (fail))
 go_loopg [1, 5, 6] k (fun kq v1 v5 v6 w' => ∃ (x1_1 : Int) (x5_1 : Int) (x6_1 : Int), v1 = .int .i64 x1_1 ∧ v5 = .int .i64 x5_1 ∧ v6 = .int .i64 x6_1 ∧ Aside0 (field_GF_Neg.l0 kq x1_1 x5_1 x6_1 t364 t365 s0_2 t366 s0_4 s0_5 = some (r1, r2, r3, r4)) ∧ Aside0 (kq ≤ k) ∧ Aside0 (IsS92 w0 w' g t364 t365 s0_2 t366 s0_4 s0_5) ∧ Aside0 (KeepBut w w' g none) ∧ Aside0 (Below w0.heap.size w0 w'))
 case atStart => exact ⟨(t363), (0), (1), rX, rX, rX, H', ⟨Nat.le_refl _⟩, ⟨bI⟩, ⟨bK⟩, ⟨bH⟩⟩
 case round =>
  clear H'
  obtain ⟨x1_1, x5_1, x6_1, rfl, rfl, rfl, HA, HK1, HI0, HK, HB⟩ := hrel
  cases gk with
  | zero => exact absurd HA.out (by simp [field_GF_Neg.l0])
  | succ k1 =>
   have H := HA.out
   clear HA
   simp only [field_GF_Neg.l0] at H
   by_cases c5 : x1_1 > 0
   ·rw [if_pos c5] at H
    have c5b0 : decide (0 < x1_1) = true := decide_eq_true c5
    clear c5
    by_cases c6 : t364 = 0
    ·rw [if_pos c6] at H
     exact absurd H (by simp)
    ·rw [if_neg c6] at H
     have c6b0 := beq_eq_false_iff_ne.mpr c6
     have c6b1 := bne_iff_ne.mpr c6
     have H' := Aside0.mk H
     clear H
     obtain ⟨ASz7_2, cSz7_2, ASz7_4, cSz7_4, ASz7_5, cSz7_5, HSz7_2, HSz7_4, HSz7_5, hcz7_0, hcz7_1, hcz7_2, hcz7_3, hcz7_4, hcz7_5, hfz7_0, hfz7_1, hfz7_3⟩ := oI HI0.out
     go_wp2
     repeat (go_quiet (fail); try go_wp2)
     go_roundg k1
     case measure => have := HK1.out; omega
     case rel => exact ⟨(wrap64 (Int.tdiv x1_1 t364)), (wrap64 (x5_1 + (wrap64 ((Int.tmod (wrap64 (t364 - (Int.tmod x1_1 t364))) t364) * x6_1)))), (wrap64 (x6_1 * t364)), rX, rX, rX, H', mK, ⟨bI⟩, ⟨bK⟩, ⟨bH⟩⟩
   ·rw [if_neg c5] at H
    have c5b0 : decide (0 < x1_1) = false := decide_eq_false c5
    clear c5
    simp only [Option.some.injEq, Prod.mk.injEq] at H
    obtain ⟨rfl, rfl, rfl, rfl⟩ := H
    go_wp2
    repeat (go_quiet (fail); try go_wp2)
    go_ret
    exact ⟨rW, bI, bH, bK⟩
def field_GF_Inv.f (s0_0 : Int) (s0_1 : Int) (s0_2 : List Int) (s0_3 : Int) (s0_4 : List Int) (s0_5 : List Int) (a1 : Int) : Option (Int × Int × Int × Int × Int) := (field_GF_in.f s0_0 s0_1 s0_2 s0_3 s0_4 s0_5 a1).bind fun bt367 => (if bt367.1 = 0 then (some (0, 7, bt367.2.1, bt367.2.2.1, bt367.2.2.2)) else (if 0 ≤ bt367.1 then (if bt367.1 < (s0_5.length : Int) then (if (wrap64 (bt367.2.2.2 - 1)) = 0 then (none) else (if 0 ≤ (Int.tmod (wrap64 ((wrap64 (bt367.2.2.2 - 1)) - (rd s0_5 bt367.1))) (wrap64 (bt367.2.2.2 - 1))) then (if (Int.tmod (wrap64 ((wrap64 (bt367.2.2.2 - 1)) - (rd s0_5 bt367.1))) (wrap64 (bt367.2.2.2 - 1))) < (s0_4.length : Int) then (some (rd s0_4 (Int.tmod (wrap64 ((wrap64 (bt367.2.2.2 - 1)) - (rd s0_5 bt367.1))) (wrap64 (bt367.2.2.2 - 1))), 0, bt367.2.1, bt367.2.2.1, bt367.2.2.2)) else (none)) else (none))) else (none)) else (none)))
theorem field_GF_Inv.calls (g : Nat) (s0_0 : Int) (s0_1 : Int) (s0_2 : List Int) (s0_3 : Int) (s0_4 : List Int) (s0_5 : List Int) (a1 : Int) (r1 : Int) (r2 : Int) (r3 : Int) (r4 : Int) (r5 : Int) (w0 w : World) (hI : IsS92 w0 w g s0_0 s0_1 s0_2 s0_3 s0_4 s0_5) (hB : Below w0.heap.size w0 w) (h : field_GF_Inv.f s0_0 s0_1 s0_2 s0_3 s0_4 s0_5 a1 = some (r1, r2, r3, r4, r5)) :
  Calls Try.prog 154 #[.pointer (some ⟨g, 0, none⟩), .int .i64 a1] w fun e w' => e = .returned (.tuple #[.int .i64 r1, .int .i64 r2]) ∧ IsS92 w0 w' g r3 r4 s0_2 r5 s0_4 s0_5 ∧ Below w0.heap.size w0 w' ∧ KeepBut w w' g none := by
 have HI0 := Aside0.mk hI
 have HK := Aside0.mk (KeepBut.refl w g none)
 have HL := Aside0.mk hB.size
 clear hI
 have HW0 := Aside0.mk hB.size
 have HB := Aside0.mk hB
 clear hB
 have H := h
 clear h
 unfold field_GF_Inv.f at H
 obtain ⟨⟨t367, t368, t369, t370⟩, A3, H⟩ := bE H
 (try dsimp only at H)
 by_cases c4 : t367 = 0
 ·rw [if_pos c4] at H
  have c4b0 := beq_iff_eq.mpr c4
  have c4b1 := bne_eq_false_iff_eq.mpr c4
  clear c4
  simp only [Option.some.injEq, Prod.mk.injEq] at H
  obtain ⟨rfl, rfl, rfl, rfl, rfl⟩ := H
  go_enter Try.func154, Try.ntmps154
  go_wp2_with (go_at_call 66; (with_reducible refine (field_GF_in.calls g s0_0 s0_1 s0_2 s0_3 s0_4 s0_5 a1 t367 t368 t369 t370 w0 _ ?side1 ?side2 A3.out).mono ?_); (case side1 => exact bI); (case side2 => exact bH); rintro e w5 ⟨rfl, hi, hb, hk⟩; replace HK := Aside0.mk (KeepBut.trans bK hk (.inl rfl)); replace HB := Aside0.mk hb; replace HI0 := Aside0.mk hi; (try clear hb); (try clear hk); (try clear hi))
  repeat (go_quiet (fail); try go_wp2_with (fail))
  go_ret2
  exact ⟨rW, bI, bH, bK⟩
 ·rw [if_neg c4] at H
  have c4b0 := beq_eq_false_iff_ne.mpr c4
  have c4b1 := bne_iff_ne.mpr c4
  obtain ⟨c6, H⟩ := iE H
  have c6b0 := decide_eq_true c6
  clear c6
  obtain ⟨c7, H⟩ := iE H
  have c7b0 := decide_eq_true c7
  clear c7
  by_cases c8 : (wrap64 (t370 - 1)) = 0
  ·rw [if_pos c8] at H
   exact absurd H (by simp)
  ·rw [if_neg c8] at H
   have c8b0 := beq_eq_false_iff_ne.mpr c8
   have c8b1 := bne_iff_ne.mpr c8
   obtain ⟨ji9, hji9⟩ : ∃ j_ : Int, (Int.tmod (wrap64 ((wrap64 (t370 - 1)) - (rd s0_5 t367))) (wrap64 (t370 - 1))) = j_ := ⟨_, rfl⟩
   replace H : (if 0 ≤ (ji9) then (if (ji9) < (s0_4.length : Int) then (some (rd s0_4 (ji9), 0, t368, t369, t370)) else (none)) else (none)) = some (r1, r2, r3, r4, r5) := by first | (rw [hji9] at H; exact H) | (simp only [hji9] at H ⊢; exact H)
   (try rw [hji9] at A3)
   obtain ⟨c10, H⟩ := iE H
   have c10b0 := decide_eq_true c10
   clear c10
   obtain ⟨c11, H⟩ := iE H
   have c11b0 := decide_eq_true c11
   clear c11
   simp only [Option.some.injEq, Prod.mk.injEq] at H
   obtain ⟨rfl, rfl, rfl, rfl, rfl⟩ := H
   go_enter Try.func154, Try.ntmps154
   go_wp2_with (go_at_call 66; (with_reducible refine (field_GF_in.calls g s0_0 s0_1 s0_2 s0_3 s0_4 s0_5 a1 t367 t368 t369 t370 w0 _ ?side1 ?side2 A3.out).mono ?_); (case side1 => exact bI); (case side2 => exact bH); rintro e w12 ⟨rfl, hi, hb, hk⟩; replace HK := Aside0.mk (KeepBut.trans bK hk (.inl rfl)); replace HB := Aside0.mk hb; replace HI0 := Aside0.mk hi; (try clear hb); (try clear hk); (try clear hi); obtain ⟨ASz13_2, cSz13_2, ASz13_4, cSz13_4, ASz13_5, cSz13_5, HSz13_2, HSz13_4, HSz13_5, hcz13_0, hcz13_1, hcz13_2, hcz13_3, hcz13_4, hcz13_5, hfz13_0, hfz13_1, hfz13_3⟩ := oI HI0.out; have p371 : 0 ≤ (t367 : Int) := dT; have q371 : t367 < (s0_5.length : Int) := dT; obtain ⟨ad371, e371, hx371_0⟩ := Kd.at_int HSz13_5 t367 p371 q371; cases e371; replace hx371_0 := pw_cell_below HB.out hx371_0; replace p371 := eq_true p371; replace q371 := eq_true q371; have p372 : 0 ≤ ((ji9) : Int) := dT; have q372 : (ji9) < (s0_4.length : Int) := dT; obtain ⟨ad372, e372, hx372_0⟩ := Kd.at_int HSz13_4 (ji9) p372 q372; cases e372; replace hx372_0 := pw_cell_below HB.out hx372_0; replace p372 := eq_true p372; replace q372 := eq_true q372)
   repeat (go_quiet (fail); try go_wp2_with (fail))
   go_ret2
   exact ⟨by first | rfl | (simp [errW_none, errW_some] <;> rfl) | (simp only [← hji9]; first | rfl | (simp [errW_none, errW_some] <;> rfl)) | (simp [*, errW_none, errW_some] <;> rfl), bI, bH, bK⟩
def slices_Equal_int_int.l0 : Nat → List Int → List Int → Int → Int → Option (Bool)
 | 0, _, _, _, _ => none
 | k + 1, x0, x1, x12, x13 => if x13 < x12 then (if 0 ≤ x13 then (if x13 < (x0.length : Int) then (if x13 < (x1.length : Int) then (if (rd x0 x13) = (rd x1 x13) then (slices_Equal_int_int.l0 k x0 x1 x12 (wrap64 (x13 + 1))) else (some false)) else (none)) else (none)) else (none)) else (some true)
def slices_Equal_int_int.f (k : Nat) (l0 : List Int) (l1 : List Int) : Option (Bool) := if (l0.length : Int) = (l1.length : Int) then (slices_Equal_int_int.l0 k l0 l1 (l0.length : Int) 0) else (some false)
theorem slices_Equal_int_int.calls (k : Nat) (A0 : Option Addr) (c0 : Nat) (l0 : List Int) (A1 : Option Addr) (c1 : Nat) (l1 : List Int) (r : Bool) (w : World) (hr0 : Kd.C (Kd.int .i64) w A0 l0.length l0) (hc0 : l0.length ≤ c0) (hr1 : Kd.C (Kd.int .i64) w A1 l1.length l1) (hc1 : l1.length ≤ c1) (h : slices_Equal_int_int.f k l0 l1 = some r) :
  Calls Try.prog 134 #[.slice A0 l0.length c0, .slice A1 l1.length c1] w fun e w' => e = .returned (.bool r) ∧ Drawn0 w w' := by
 have HR0 := Aside0.mk hr0
 have HC0 := Aside0.mk hc0
 clear hr0 hc0
 have HR1 := Aside0.mk hr1
 have HC1 := Aside0.mk hc1
 clear hr1 hc1
 have H := h
 clear h
 unfold slices_Equal_int_int.f at H
 by_cases c3 : (l0.length : Int) = (l1.length : Int)
 ·rw [if_pos c3] at H
  have c3b0 := beq_iff_eq.mpr c3
  have c3b1 := bne_eq_false_iff_eq.mpr c3
  have c3b2 : (l0.length == l1.length) = true := by first | simpa using c3 | (simp at c3 ⊢; omega)
  clear c3
  have H' := Aside0.mk H
  clear H
  go_enter Try.func134, Try.ntmps134
  go_wp2
  repeat (go_quiet (fail); try go_wp2)
  go_loopg [13] k (fun kq v13 w' => ∃ (x13_1 : Int), v13 = .int .i64 x13_1 ∧ Aside0 (slices_Equal_int_int.l0 kq l0 l1 (l0.length : Int) x13_1 = some r) ∧ Aside0 (kq ≤ k) ∧ Drawn0 w w')
  case atStart => exact ⟨(0), rX, H', ⟨Nat.le_refl _⟩, by repeat (first | exact Drawn0.refl _ | apply Drawn0.step)⟩
  case round =>
   clear H' c3b0 c3b1 c3b2
   obtain ⟨x13_1, rfl, HA, HK1, ⟨m1, rfl⟩⟩ := hrel
   cases gk with
   | zero => exact absurd HA.out (by simp [slices_Equal_int_int.l0])
   | succ k1 =>
    have H := HA.out
    clear HA
    simp only [slices_Equal_int_int.l0] at H
    by_cases c4 : x13_1 < (l0.length : Int)
    ·rw [if_pos c4] at H
     have c4b0 := decide_eq_true c4
     clear c4
     obtain ⟨c5, H⟩ := iE H
     have c5b0 := decide_eq_true c5
     clear c5
     obtain ⟨c6, H⟩ := iE H
     have c6b0 := decide_eq_true c6
     clear c6
     obtain ⟨c7, H⟩ := iE H
     have c7b0 := decide_eq_true c7
     clear c7
     by_cases c8 : (rd l0 x13_1) = (rd l1 x13_1)
     ·rw [if_pos c8] at H
      have c8b0 := beq_iff_eq.mpr c8
      have c8b1 := bne_eq_false_iff_eq.mpr c8
      clear c8
      have H' := Aside0.mk H
      clear H
      have p379 : 0 ≤ (x13_1 : Int) := dT
      have q379 : x13_1 < (l0.length : Int) := dT
      obtain ⟨ad379, e379, hx379_0⟩ := Kd.at_int HR0.out x13_1 p379 q379
      cases e379
      replace p379 := eq_true p379
      replace q379 := eq_true q379
      have p380 : 0 ≤ (x13_1 : Int) := dT
      have q380 : x13_1 < (l1.length : Int) := dT
      obtain ⟨ad380, e380, hx380_0⟩ := Kd.at_int HR1.out x13_1 p380 q380
      cases e380
      replace p380 := eq_true p380
      replace q380 := eq_true q380
      go_wp2
      repeat (go_quiet (fail); try go_wp2)
      go_roundg k1
      case measure => have := HK1.out; omega
      case rel => exact ⟨(wrap64 (x13_1 + 1)), rX, H', mK, by repeat (first | exact Drawn0.refl _ | apply Drawn0.step)⟩
     ·rw [if_neg c8] at H
      have c8b0 := beq_eq_false_iff_ne.mpr c8
      have c8b1 := bne_iff_ne.mpr c8
      obtain rfl := Option.some.inj H
      have p379 : 0 ≤ (x13_1 : Int) := dT
      have q379 : x13_1 < (l0.length : Int) := dT
      obtain ⟨ad379, e379, hx379_0⟩ := Kd.at_int HR0.out x13_1 p379 q379
      cases e379
      replace p379 := eq_true p379
      replace q379 := eq_true q379
      have p380 : 0 ≤ (x13_1 : Int) := dT
      have q380 : x13_1 < (l1.length : Int) := dT
      obtain ⟨ad380, e380, hx380_0⟩ := Kd.at_int HR1.out x13_1 p380 q380
      cases e380
      replace p380 := eq_true p380
      replace q380 := eq_true q380
      go_wp2
      repeat (go_quiet (fail); try go_wp2)
      go_ret
      exact ⟨by first | rfl | (simp; done) | (simp [*]; done), by repeat (first | exact Drawn0.refl _ | apply Drawn0.step)⟩
    ·rw [if_neg c4] at H
     have c4b0 := decide_eq_false c4
     clear c4
     obtain rfl := Option.some.inj H
     go_wp2
     repeat (go_quiet (fail); try go_wp2)
     go_ret
     exact ⟨by first | rfl | (simp; done) | (simp [*]; done), by repeat (first | exact Drawn0.refl _ | apply Drawn0.step)⟩
 ·rw [if_neg c3] at H
  have c3b0 := beq_eq_false_iff_ne.mpr c3
  have c3b1 := bne_iff_ne.mpr c3
  have c3b2 : (l0.length == l1.length) = false := by first | simpa using c3 | (simp at c3 ⊢; omega)
  obtain rfl := Option.some.inj H
  go_enter Try.func134, Try.ntmps134
  go_wp2
  repeat (go_quiet (fail); try go_wp2)
  go_ret
  exact ⟨by first | rfl | (simp; done) | (simp [*]; done), by repeat (first | exact Drawn0.refl _ | apply Drawn0.step)⟩
def code_gen.f (a0_0 : Int) (a0_1 : Int) (l0_2 : List Int) (a0_3 : Int) (l0_4 : List (List Int)) : Option (Int × (List (List Int))) := some (a0_3, l0_4)
def field_GF_Add.l0 : Nat → Int → Int → Int → Int → Int → Int → List Int → Int → List Int → List Int → Option (Int × Int × Int × Int)
 | 0, _, _, _, _, _, _, _, _, _, _ => none
 | k + 1, x1, x2, x7, x8, x1000, x1001, x1002, x1003, x1004, x1005 => if x1 > 0 then (if x1000 = 0 then (none) else (field_GF_Add.l0 k (wrap64 (Int.tdiv x1 x1000)) (wrap64 (Int.tdiv x2 x1000)) (wrap64 (x7 + (wrap64 ((Int.tmod (wrap64 ((Int.tmod x1 x1000) + (Int.tmod x2 x1000))) x1000) * x8)))) (wrap64 (x8 * x1000)) x1000 x1001 x1002 x1003 x1004 x1005)) else (if x2 > 0 then (if x1000 = 0 then (none) else (field_GF_Add.l0 k (wrap64 (Int.tdiv x1 x1000)) (wrap64 (Int.tdiv x2 x1000)) (wrap64 (x7 + (wrap64 ((Int.tmod (wrap64 ((Int.tmod x1 x1000) + (Int.tmod x2 x1000))) x1000) * x8)))) (wrap64 (x8 * x1000)) x1000 x1001 x1002 x1003 x1004 x1005)) else (some (x7, x1000, x1001, x1003)))
def field_GF_Add.f (k : Nat) (s0_0 : Int) (s0_1 : Int) (s0_2 : List Int) (s0_3 : Int) (s0_4 : List Int) (s0_5 : List Int) (a1 : Int) (a2 : Int) : Option (Int × Int × Int × Int) := (field_GF_in.f s0_0 s0_1 s0_2 s0_3 s0_4 s0_5 a1).bind fun bt396 => ((field_GF_in.f bt396.2.1 bt396.2.2.1 s0_2 bt396.2.2.2 s0_4 s0_5 a2).bind fun bt400 => (if bt400.2.1 = 2 then (some (Go.bits .xor .i64 bt396.1 bt400.1, bt400.2.1, bt400.2.2.1, bt400.2.2.2)) else (field_GF_Add.l0 k bt396.1 bt400.1 0 1 bt400.2.1 bt400.2.2.1 s0_2 bt400.2.2.2 s0_4 s0_5)))
theorem field_GF_Add.calls (k : Nat) (g : Nat) (s0_0 : Int) (s0_1 : Int) (s0_2 : List Int) (s0_3 : Int) (s0_4 : List Int) (s0_5 : List Int) (a1 : Int) (a2 : Int) (r1 : Int) (r2 : Int) (r3 : Int) (r4 : Int) (w0 w : World) (hI : IsS92 w0 w g s0_0 s0_1 s0_2 s0_3 s0_4 s0_5) (hB : Below w0.heap.size w0 w) (h : field_GF_Add.f k s0_0 s0_1 s0_2 s0_3 s0_4 s0_5 a1 a2 = some (r1, r2, r3, r4)) :
  Calls Try.prog 120 #[.pointer (some ⟨g, 0, none⟩), .int .i64 a1, .int .i64 a2] w fun e w' => e = .returned (.int .i64 r1) ∧ IsS92 w0 w' g r2 r3 s0_2 r4 s0_4 s0_5 ∧ Below w0.heap.size w0 w' ∧ KeepBut w w' g none := by
 have HI0 := Aside0.mk hI
 have HK := Aside0.mk (KeepBut.refl w g none)
 have HL := Aside0.mk hB.size
 clear hI
 have HW0 := Aside0.mk hB.size
 have HB := Aside0.mk hB
 clear hB
 have H := h
 clear h
 unfold field_GF_Add.f at H
 obtain ⟨⟨t396, t397, t398, t399⟩, A4, H⟩ := bE H
 (try dsimp only at H)
 obtain ⟨⟨t400, t401, t402, t403⟩, A5, H⟩ := bE H
 (try dsimp only at H)
 by_cases c6 : t401 = 2
 ·rw [if_pos c6] at H
  have c6b0 := beq_iff_eq.mpr c6
  have c6b1 := bne_eq_false_iff_eq.mpr c6
  clear c6
  simp only [Option.some.injEq, Prod.mk.injEq] at H
  obtain ⟨rfl, rfl, rfl, rfl⟩ := H
  go_enter Try.func120, Try.ntmps120
  go_wp2_with (first | (go_at_call 66; (with_reducible refine (field_GF_in.calls g s0_0 s0_1 s0_2 s0_3 s0_4 s0_5 a1 t396 t397 t398 t399 w0 _ ?side1 ?side2 A4.out).mono ?_); (case side1 => exact bI); (case side2 => exact bH); rintro e w7 ⟨rfl, hi, hb, hk⟩; replace HK := Aside0.mk (KeepBut.trans bK hk (.inl rfl)); replace HB := Aside0.mk hb; replace HI0 := Aside0.mk hi; (try clear hb); (try clear hk); (try clear hi)) | (go_at_call 66; (with_reducible refine (field_GF_in.calls g t397 t398 s0_2 t399 s0_4 s0_5 a2 t400 t401 t402 t403 w0 _ ?side1 ?side2 A5.out).mono ?_); (case side1 => exact bI); (case side2 => exact bH); rintro e w8 ⟨rfl, hi, hb, hk⟩; replace HK := Aside0.mk (KeepBut.trans bK hk (.inl rfl)); replace HB := Aside0.mk hb; replace HI0 := Aside0.mk hi; (try clear hb); (try clear hk); (try clear hi); obtain ⟨ASz9_2, cSz9_2, ASz9_4, cSz9_4, ASz9_5, cSz9_5, HSz9_2, HSz9_4, HSz9_5, hcz9_0, hcz9_1, hcz9_2, hcz9_3, hcz9_4, hcz9_5, hfz9_0, hfz9_1, hfz9_3⟩ := oI HI0.out))
  repeat (go_quiet (fail); try go_wp2_with (fail))
  go_ret
  exact ⟨rW, bI, bH, bK⟩
 ·rw [if_neg c6] at H
  have c6b0 := beq_eq_false_iff_ne.mpr c6
  have c6b1 := bne_iff_ne.mpr c6
  have H' := Aside0.mk H
  clear H
  go_enter Try.func120, Try.ntmps120
  go_wp2_with (first | (go_at_call 66; (with_reducible refine (field_GF_in.calls g s0_0 s0_1 s0_2 s0_3 s0_4 s0_5 a1 t396 t397 t398 t399 w0 _ ?side1 ?side2 A4.out).mono ?_); (case side1 => exact bI); (case side2 => exact bH); rintro e w10 ⟨rfl, hi, hb, hk⟩; replace HK := Aside0.mk (KeepBut.trans bK hk (.inl rfl)); replace HB := Aside0.mk hb; replace HI0 := Aside0.mk hi; (try clear hb); (try clear hk); (try clear hi)) | (go_at_call 66; (with_reducible refine (field_GF_in.calls g t397 t398 s0_2 t399 s0_4 s0_5 a2 t400 t401 t402 t403 w0 _ ?side1 ?side2 A5.out).mono ?_); (case side1 => exact bI); (case side2 => exact bH); rintro e w11 ⟨rfl, hi, hb, hk⟩; replace HK := Aside0.mk (KeepBut.trans bK hk (.inl rfl)); replace HB := Aside0.mk hb; replace HI0 := Aside0.mk hi; (try clear hb); (try clear hk); (try clear hi); obtain ⟨ASz12_2, cSz12_2, ASz12_4, cSz12_4, ASz12_5, cSz12_5, HSz12_2, HSz12_4, HSz12_5, hcz12_0, hcz12_1, hcz12_2, hcz12_3, hcz12_4, hcz12_5, hfz12_0, hfz12_1, hfz12_3⟩ := oI HI0.out))
  repeat (go_quiet (fail); try go_wp2_with (fail))
  go_loopg [1, 2, 7, 8] k (fun kq v1 v2 v7 v8 w' => ∃ (x1_1 : Int) (x2_1 : Int) (x7_1 : Int) (x8_1 : Int), v1 = .int .i64 x1_1 ∧ v2 = .int .i64 x2_1 ∧ v7 = .int .i64 x7_1 ∧ v8 = .int .i64 x8_1 ∧ Aside0 (field_GF_Add.l0 kq x1_1 x2_1 x7_1 x8_1 t401 t402 s0_2 t403 s0_4 s0_5 = some (r1, r2, r3, r4)) ∧ Aside0 (kq ≤ k) ∧ Aside0 (IsS92 w0 w' g t401 t402 s0_2 t403 s0_4 s0_5) ∧ Aside0 (KeepBut w w' g none) ∧ Aside0 (Below w0.heap.size w0 w'))
  case atStart => exact ⟨(t396), (t400), (0), (1), rX, rX, rX, rX, H', ⟨Nat.le_refl _⟩, ⟨bI⟩, ⟨bK⟩, ⟨bH⟩⟩
  case round =>
   clear H' c6 c6b0 c6b1 hcz12_0 hcz12_1 hcz12_2 hcz12_3 hcz12_4 hcz12_5 hfz12_0 hfz12_1 hfz12_3
   obtain ⟨x1_1, x2_1, x7_1, x8_1, rfl, rfl, rfl, rfl, HA, HK1, HI0, HK, HB⟩ := hrel
   cases gk with
   | zero => exact absurd HA.out (by simp [field_GF_Add.l0])
   | succ k1 =>
    have H := HA.out
    clear HA
    simp only [field_GF_Add.l0] at H
    by_cases c13 : x1_1 > 0
    ·rw [if_pos c13] at H
     have c13b0 : decide (0 < x1_1) = true := decide_eq_true c13
     clear c13
     by_cases c14 : t401 = 0
     ·rw [if_pos c14] at H
      exact absurd H (by simp)
     ·rw [if_neg c14] at H
      have c14b0 := beq_eq_false_iff_ne.mpr c14
      have c14b1 := bne_iff_ne.mpr c14
      have H' := Aside0.mk H
      clear H
      obtain ⟨ASz15_2, cSz15_2, ASz15_4, cSz15_4, ASz15_5, cSz15_5, HSz15_2, HSz15_4, HSz15_5, hcz15_0, hcz15_1, hcz15_2, hcz15_3, hcz15_4, hcz15_5, hfz15_0, hfz15_1, hfz15_3⟩ := oI HI0.out
      go_wp2
      repeat (go_quiet (fail); try go_wp2)
      go_roundg k1
      case measure => have := HK1.out; omega
      case rel => exact ⟨(wrap64 (Int.tdiv x1_1 t401)), (wrap64 (Int.tdiv x2_1 t401)), (wrap64 (x7_1 + (wrap64 ((Int.tmod (wrap64 ((Int.tmod x1_1 t401) + (Int.tmod x2_1 t401))) t401) * x8_1)))), (wrap64 (x8_1 * t401)), rX, rX, rX, rX, H', mK, ⟨bI⟩, ⟨bK⟩, ⟨bH⟩⟩
    ·rw [if_neg c13] at H
     have c13b0 : decide (0 < x1_1) = false := decide_eq_false c13
     clear c13
     by_cases c16 : x2_1 > 0
     ·rw [if_pos c16] at H
      have c16b0 : decide (0 < x2_1) = true := decide_eq_true c16
      clear c16
      by_cases c17 : t401 = 0
      ·rw [if_pos c17] at H
       exact absurd H (by simp)
      ·rw [if_neg c17] at H
       have c17b0 := beq_eq_false_iff_ne.mpr c17
       have c17b1 := bne_iff_ne.mpr c17
       have H' := Aside0.mk H
       clear H
       obtain ⟨ASz18_2, cSz18_2, ASz18_4, cSz18_4, ASz18_5, cSz18_5, HSz18_2, HSz18_4, HSz18_5, hcz18_0, hcz18_1, hcz18_2, hcz18_3, hcz18_4, hcz18_5, hfz18_0, hfz18_1, hfz18_3⟩ := oI HI0.out
       go_wp2
       repeat (go_quiet (fail); try go_wp2)
       go_roundg k1
       case measure => have := HK1.out; omega
       case rel => exact ⟨(wrap64 (Int.tdiv x1_1 t401)), (wrap64 (Int.tdiv x2_1 t401)), (wrap64 (x7_1 + (wrap64 ((Int.tmod (wrap64 ((Int.tmod x1_1 t401) + (Int.tmod x2_1 t401))) t401) * x8_1)))), (wrap64 (x8_1 * t401)), rX, rX, rX, rX, H', mK, ⟨bI⟩, ⟨bK⟩, ⟨bH⟩⟩
     ·rw [if_neg c16] at H
      have c16b0 : decide (0 < x2_1) = false := decide_eq_false c16
      clear c16
      simp only [Option.some.injEq, Prod.mk.injEq] at H
      obtain ⟨rfl, rfl, rfl, rfl⟩ := H
      go_wp2
      repeat (go_quiet (fail); try go_wp2)
      go_ret
      exact ⟨rW, bI, bH, bK⟩
def poly_Eval.l0 : Nat → List Int → Int → Int → Int → Int → Int → List Int → Int → List Int → List Int → Option (Int × Int × Int × Int)
 | 0, _, _, _, _, _, _, _, _, _, _ => none
 | k + 1, x1, x2, x7, x8, x1000, x1001, x1002, x1003, x1004, x1005 => if x8 ≥ 0 then ((field_GF_Mul.f x1000 x1001 x1002 x1003 x1004 x1005 x7 x2).bind fun bt404 => (if 0 ≤ x8 then (if x8 < (x1.length : Int) then ((field_GF_Add.f k bt404.2.1 bt404.2.2.1 x1002 bt404.2.2.2 x1004 x1005 bt404.1 (rd x1 x8)).bind fun bt409 => (poly_Eval.l0 k x1 x2 bt409.1 (wrap64 (x8 - 1)) bt409.2.1 bt409.2.2.1 x1002 bt409.2.2.2 x1004 x1005)) else (none)) else (none))) else (some (x7, x1000, x1001, x1003))
def poly_Eval.f (k : Nat) (s0_0 : Int) (s0_1 : Int) (s0_2 : List Int) (s0_3 : Int) (s0_4 : List Int) (s0_5 : List Int) (l1 : List Int) (a2 : Int) : Option (Int × Int × Int × Int) := poly_Eval.l0 k l1 a2 0 (wrap64 ((l1.length : Int) - 1)) s0_0 s0_1 s0_2 s0_3 s0_4 s0_5
def poly_Eval.T5 : Bool × List (List Nat × List Nat) := (true, [([], []), ([], []), ([], []), ([], []), ([1, 2, 3], [1, 2, 3]), ([], []), ([], []), ([5, 6], [5, 6]), ([7], [7]), ([0, 4, 8, 4], [0, 4, 8]), ([9, 9, 0, 1, 2, 3, 4, 5, 6, 7, 8, 9], [2, 9])])
def poly_Eval.B5 : List Nat := [0, 0, 0, 0, 14, 0, 0, 96, 224, 511, 1023]
theorem poly_Eval.tab5 : rtab .any (opsOf Try.f82 5) = poly_Eval.T5 := by kernel_rfl
theorem poly_Eval.bits5 : waitsOk poly_Eval.T5.2 poly_Eval.B5 = true := by kernel_rfl
theorem poly_Eval.calls (k : Nat) (g : Nat) (s0_0 : Int) (s0_1 : Int) (s0_2 : List Int) (s0_3 : Int) (s0_4 : List Int) (s0_5 : List Int) (A1 : Option Addr) (c1 : Nat) (l1 : List Int) (a2 : Int) (r1 : Int) (r2 : Int) (r3 : Int) (r4 : Int) (w0 w : World) (hI : IsS92 w0 w g s0_0 s0_1 s0_2 s0_3 s0_4 s0_5) (hB : Below w0.heap.size w0 w) (hr1 : Kd.C (Kd.int .i64) w A1 l1.length l1) (hc1 : l1.length ≤ c1) (hf1 : ∀ ad, A1 = some ad → 0 < l1.length → ad.block ≠ g) (h : poly_Eval.f k s0_0 s0_1 s0_2 s0_3 s0_4 s0_5 l1 a2 = some (r1, r2, r3, r4)) :
  Calls Try.prog 82 #[.pointer (some ⟨g, 0, none⟩), .slice A1 l1.length c1, .int .i64 a2] w fun e w' => e = .returned (.int .i64 r1) ∧ IsS92 w0 w' g r2 r3 s0_2 r4 s0_4 s0_5 ∧ Below w0.heap.size w0 w' ∧ KeepBut w w' g none := by
 have HR1 := Aside0.mk hr1
 have HC1 := Aside0.mk hc1
 clear hr1 hc1
 have HI0 := Aside0.mk hI
 have HK := Aside0.mk (KeepBut.refl w g none)
 have HL := Aside0.mk hB.size
 clear hI
 have HW0 := Aside0.mk hB.size
 have HB := Aside0.mk hB
 clear hB
 have H := h
 clear h
 unfold poly_Eval.f at H
 have H' := Aside0.mk H
 clear H
 go_enter Try.func82, Try.ntmps82
 go_wp2
 go_loopg [7, 8] k (fun kq v7 v8 w' => ∃ (x7_1 : Int) (x8_1 : Int) (x1000_1 : Int) (x1001_1 : Int) (x1003_1 : Int), v7 = .int .i64 x7_1 ∧ v8 = .int .i64 x8_1 ∧ Aside0 (poly_Eval.l0 kq l1 a2 x7_1 x8_1 x1000_1 x1001_1 s0_2 x1003_1 s0_4 s0_5 = some (r1, r2, r3, r4)) ∧ Aside0 (kq ≤ k) ∧ Aside0 (IsS92 w0 w' g x1000_1 x1001_1 s0_2 x1003_1 s0_4 s0_5) ∧ Aside0 (KeepBut w w' g none) ∧ Aside0 (Below w0.heap.size w0 w'))
 case atStart => exact ⟨(0), (wrap64 ((l1.length : Int) - 1)), (s0_0), (s0_1), (s0_3), rX, rX, H', ⟨Nat.le_refl _⟩, ⟨bI⟩, ⟨bK⟩, ⟨bH⟩⟩
 case round =>
  clear H'
  obtain ⟨x7_1, x8_1, x1000_1, x1001_1, x1003_1, rfl, rfl, HA, HK1, HI0, HK, HB⟩ := hrel
  cases gk with
  | zero => exact absurd HA.out (by simp [poly_Eval.l0])
  | succ k1 =>
   have H := HA.out
   clear HA
   simp only [poly_Eval.l0] at H
   by_cases c4 : x8_1 ≥ 0
   ·rw [if_pos c4] at H
    have c4b0 : decide (0 ≤ x8_1) = true := decide_eq_true c4
    clear c4
    obtain ⟨⟨t404, t405, t406, t407⟩, A5, H⟩ := bE H
    (try dsimp only at H)
    obtain ⟨c6, H⟩ := iE H
    have c6b0 := decide_eq_true c6
    clear c6
    obtain ⟨c7, H⟩ := iE H
    have c7b0 := decide_eq_true c7
    clear c7
    obtain ⟨⟨t409, t410, t411, t412⟩, A8, H⟩ := bE H
    (try dsimp only at H)
    have H' := Aside0.mk H
    clear H
    try go_wp2
    replace HI0 := Aside0.mk (IsS92.drew HI0.out)
    replace HK := Aside0.mk (keep_drew HK.out)
    replace HB := Aside0.mk (below_drew1 HB.out)
    have p408 : 0 ≤ (x8_1 : Int) := dT
    have q408 : x8_1 < (l1.length : Int) := dT
    obtain ⟨ad408, e408, hx408_0⟩ := Kd.at_int HR1.out x8_1 p408 q408
    have hw408_0 := hx408_0
    cases e408
    have hne408_0 := (show ((ad408.add (x8_1).toNat) : Addr).block ≠ g from by first | (rw [add_block]; exact hf1 ad408 rfl (by omega)) | (show (Addr.add _ _).block ≠ _; rw [add_block]; exact hf1 ad408 rfl (by omega)) | exact hf1 ad408 rfl (by omega))
    replace hx408_0 := keep_cell HK.out hx408_0 (by first | (rw [add_block]; exact hf1 _ rfl (by omega)) | exact hf1 _ rfl (by omega) | exact hf1 ad408 rfl (by omega))
    replace p408 := eq_true p408
    replace q408 := eq_true q408
    refine start_ (n := 11) (S := fun w' => w'.cell? (ad408.add (x8_1).toNat) = some (.int .i64 (rd l1 x8_1))) (ds := []) (bb 11 0) (by kernel_rfl) rfl rfl ((keep_cell HK.out hw408_0 hne408_0)) (fun hHeld => ?_); refine with_tabW poly_Eval.tab5 poly_Eval.bits5 (fun HT_ HW_ => ?_)
    generalize wr.drew = w9 at HI0 HK HB hx408_0 hHeld ⊢
    refine pq HT_ 0 16 (bb 11 1) ?_
    refine pq HT_ 1 17 (bb 11 3) ?_
    refine pq HT_ 2 18 (bb 11 7) ?_
    refine pq HT_ 3 19 (bb 11 15) ?_
    refine pq HT_ 5 21 (bb 11 47) ?_
    refine pq HT_ 6 22 (bb 11 111) ?_
    refine pq HT_ 7 23 (bb 11 239) ?_
    refine tq HT_ HW_ hHeld 8 24 (bb 11 495) ?_
    refine oq HT_ 4 (some 20) (bb 11 511) (fun K hK => ?_)
    refine gq Try.func116 #[.pointer (some ⟨g, 0, none⟩), .int .i64 x7_1, .int .i64 a2] ?_
    with_reducible refine (field_GF_Mul.calls g x1000_1 x1001_1 s0_2 x1003_1 s0_4 s0_5 x7_1 a2 t404 t405 t406 t407 w0 _ ?side1 ?side2 A5.out).mono ?_
    (case side1 => exact bI)
    (case side2 => exact bH)
    rintro e w10 ⟨rfl, hi, hb, hk⟩
    refine ⟨_, rfl, ?_⟩
    replace HK := Aside0.mk (KeepBut.trans bK hk (.inl rfl))
    replace HB := Aside0.mk hb
    replace HI0 := Aside0.mk hi
    clear hb hk hi
    refine hK.out _ _ ((keep_cell HK.out hw408_0 hne408_0)) (fun hHeld => ?_)
    clear hK K
    refine nq 20 ?_
    refine oq HT_ 9 (some 25) (bb 11 1023) (fun K hK => ?_)
    refine gq Try.func120 #[.pointer (some ⟨g, 0, none⟩), .int .i64 t404, .int .i64 (rd l1 x8_1)] ?_
    with_reducible refine (field_GF_Add.calls k1 g t405 t406 s0_2 t407 s0_4 s0_5 t404 (rd l1 x8_1) t409 t410 t411 t412 w0 _ ?side1 ?side2 A8.out).mono ?_
    (case side1 => exact bI)
    (case side2 => exact bH)
    rintro e w11 ⟨rfl, hi, hb, hk⟩
    refine ⟨_, rfl, ?_⟩
    replace HK := Aside0.mk (KeepBut.trans bK hk (.inl rfl))
    replace HB := Aside0.mk hb
    replace HI0 := Aside0.mk hi
    clear hb hk hi
    refine hK.out _ _ ((keep_cell HK.out hw408_0 hne408_0)) (fun hHeld => ?_)
    clear hK K
    refine nq 25 ?_
    refine pq HT_ 10 7 (bb 11 2047) ?_
    refine dq HT_ ?_
    try go_wp2
    go_roundg k1
    case measure => have := HK1.out; omega
    case rel => exact ⟨(t409), (wrap64 (x8_1 - 1)), (t410), (t411), (t412), rX, rX, H', mK, ⟨bI⟩, ⟨bK⟩, ⟨bH⟩⟩
   ·rw [if_neg c4] at H
    have c4b0 : decide (0 ≤ x8_1) = false := decide_eq_false c4
    clear c4
    simp only [Option.some.injEq, Prod.mk.injEq] at H
    obtain ⟨rfl, rfl, rfl, rfl⟩ := H
    go_wp2
    go_ret
    exact ⟨rW, bI, bH, bK⟩
def poly_trim.l0 : Nat → List Int → Option (List Int)
 | 0, _ => none
 | k + 1, x0 => if (x0.length : Int) > 0 then (if 0 ≤ (wrap64 ((x0.length : Int) - 1)) then (if (wrap64 ((x0.length : Int) - 1)) < (x0.length : Int) then (if (rd x0 (wrap64 ((x0.length : Int) - 1))) = 0 then (if (wrap64 ((x0.length : Int) - 1)) ≤ (x0.length : Int) then (poly_trim.l0 k (x0.take ((wrap64 ((x0.length : Int) - 1)) : Int).toNat)) else (none)) else (some x0)) else (none)) else (none)) else (some x0)
def poly_trim.f (k : Nat) (l0 : List Int) : Option (List Int) := poly_trim.l0 k l0
theorem poly_trim.calls (k : Nat) (P0_ : Nat → Prop) (A0 : Option Addr) (c0 : Nat) (l0 : List Int) (r : List Int) (w : World) (hs0 : Kd.V (Kd.int .i64) 3 w w.heap.size (fun k_ => P0_ k_) (.slice A0 l0.length c0) l0) (h : poly_trim.f k l0 = some r) :
  Calls Try.prog 145 #[.slice A0 l0.length c0] w fun e w' => ∃ v0_ : Value, e = .returned (v0_) ∧ Kd.V (Kd.int .i64) 3 w' w.heap.size (fun k_ => (P0_ k_ ∨ w.heap.size ≤ k_)) v0_ r ∧ Below w.heap.size w w' := by
 have HO0 := Aside0.mk (show Kd.V (Kd.int .i64) 3 w w.heap.size (fun k_ => (P0_ k_ ∨ w.heap.size ≤ k_)) (.slice A0 l0.length c0) l0 from Kd.V_mono hs0 (fun k_ hk => .inl hk))
 have HB := Aside0.mk (Below.refl w.heap.size w)
 have H := h
 clear h
 unfold poly_trim.f at H
 have H' := Aside0.mk H
 clear H
 go_enter Try.func145, Try.ntmps145
 go_wp2
 go_loopg [0] k (fun kq v0 w' => ∃ (x0_1 : List Int), Aside0 (poly_trim.l0 kq x0_1 = some r) ∧ Aside0 (kq ≤ k) ∧ Aside0 (Kd.V (Kd.int .i64) 3 w' w.heap.size (fun k_ => (P0_ k_ ∨ w.heap.size ≤ k_)) v0 x0_1) ∧ Aside0 (Below w.heap.size w w'))
 case atStart => exact ⟨(l0), H', ⟨Nat.le_refl _⟩, ⟨by (with_reducible repeat (first | apply Kd.V_alloc | apply Kd.V_drewN | apply Kd.V_drew)); exact HO0.out⟩, ⟨bw⟩⟩
 case round =>
  clear H'
  obtain ⟨x0_1, HA, HK1, HO_0, HB⟩ := hrel
  cases gk with
  | zero => exact absurd HA.out (by simp [poly_trim.l0])
  | succ k1 =>
   have H := HA.out
   clear HA
   simp only [poly_trim.l0] at H
   by_cases c2 : (x0_1.length : Int) > 0
   ·rw [if_pos c2] at H
    have c2b0 : decide (0 < (x0_1.length : Int)) = true := decide_eq_true c2
    have c2b1 : decide (0 < x0_1.length) = true := decide_eq_true (by omega)
    clear c2
    obtain ⟨ji3, hji3⟩ : ∃ j_ : Int, (wrap64 ((x0_1.length : Int) - 1)) = j_ := ⟨_, rfl⟩
    replace H : (if 0 ≤ (ji3) then (if (ji3) < (x0_1.length : Int) then (if (rd x0_1 (ji3)) = 0 then (if (ji3) ≤ (x0_1.length : Int) then (poly_trim.l0 k1 (x0_1.take ((ji3) : Int).toNat)) else (none)) else (some x0_1)) else (none)) else (none)) = some r := by first | (rw [hji3] at H; exact H) | (simp only [hji3] at H ⊢; exact H)
    have hji3w : (IntKind.i64.wrap ((x0_1.length : Int) - 1)) = ji3 := (i64_w _).trans hji3
    obtain ⟨c4, H⟩ := iE H
    have c4b0 := decide_eq_true c4
    clear c4
    obtain ⟨c5, H⟩ := iE H
    have c5b0 := decide_eq_true c5
    clear c5
    by_cases c6 : (rd x0_1 (ji3)) = 0
    ·rw [if_pos c6] at H
     have c6b0 := beq_iff_eq.mpr c6
     have c6b1 := bne_eq_false_iff_eq.mpr c6
     clear c6
     have c7b0 := eq_true (dT : 0 ≤ (ji3))
     obtain ⟨c8, H⟩ := iE H
     have c8b0 := eq_true c8
     have c8b1 := decide_eq_true c8
     clear c8
     obtain ⟨y414, hy414⟩ : ∃ y_ : List Int, y_ = (x0_1.take ((ji3) : Int).toNat) := ⟨_, rfl⟩
     (try rw [Option.bind_some] at H); (try rw [← hy414] at H)
     have Ny414 := Aside0.mk hy414
     clear hy414
     have H' := Aside0.mk H
     clear H
     obtain ⟨Ao9, co9, eo9⟩ := Kd.V_slice HO_0.out
     subst eo9
     have p413 : 0 ≤ ((ji3) : Int) := dT
     have q413 : (ji3) < (x0_1.length : Int) := dT
     obtain ⟨ad413, e413, hx413_0⟩ := Kd.at_int (Kd.V_reads' HO_0.out).2.2 (ji3) p413 q413
     cases e413
     replace p413 := eq_true p413
     replace q413 := eq_true q413
     have q10 : ((ji3) : Int) ≤ ((x0_1.length : Int) : Int) := dT
     obtain ⟨i010, hi010, _, hsz10, _⟩ := info_parts info3
     have hroom10 : x0_1.length ≤ co9 := (Kd.V_reads' HO_0.out).2.1
     have hC10 : Kd.F (Kd.int .i64) _ _ (some ad413) x0_1.length x0_1 := (Kd.V_at (base := w.heap.size) HO_0.out).2.2
     have hcut10 := cut_to (P := Try.prog) 22 3 .i64 Try.underlying22 hi010 (some ad413) x0_1.length co9 (ji3) (dT) q10 hroom10
     have hr10 := Kd.F_take (m := ((ji3) : Int).toNat) hC10 (by omega)
     have hy10 : y414.length = ((ji3) : Int).toNat := (by rw [Ny414.out, List.length_take]; omega)
     rw [← Ny414.out] at hr10
     rw [← hy10] at hcut10
     have HO418 := Aside0.mk (show Kd.V (Kd.int .i64) 3 _ w.heap.size _ (.slice (some ad413) y414.length co9) y414 from Kd.V_mk (by omega) hr10)
     have HC418 := Aside0.mk (show y414.length ≤ co9 from by omega)
     clear hr10 hC10 hroom10 hi010 hsz10
     have KY10 := Aside0.mk hy10
     clear hy10
     replace q10 := eq_true q10
     go_wp2
     go_roundg k1
     case measure => have := HK1.out; omega
     case rel => exact ⟨(y414), H', mK, ⟨by (with_reducible repeat (first | apply Kd.V_alloc | apply Kd.V_drewN | apply Kd.V_drew)); exact HO418.out⟩, ⟨bw⟩⟩
    ·rw [if_neg c6] at H
     have c6b0 := beq_eq_false_iff_ne.mpr c6
     have c6b1 := bne_iff_ne.mpr c6
     obtain rfl := Option.some.inj H
     obtain ⟨Ao11, co11, eo11⟩ := Kd.V_slice HO_0.out
     subst eo11
     have p413 : 0 ≤ ((ji3) : Int) := dT
     have q413 : (ji3) < (x0_1.length : Int) := dT
     obtain ⟨ad413, e413, hx413_0⟩ := Kd.at_int (Kd.V_reads' HO_0.out).2.2 (ji3) p413 q413
     cases e413
     replace p413 := eq_true p413
     replace q413 := eq_true q413
     go_wp2
     go_ret
     exact ⟨_, by first | rfl | (simp [errW_none, errW_some] <;> rfl) | (simp only [← hji3]; first | rfl | (simp [errW_none, errW_some] <;> rfl)) | (simp [*, errW_none, errW_some] <;> rfl), by (with_reducible repeat (first | apply Kd.V_alloc | apply Kd.V_drewN | apply Kd.V_drew)); exact HO_0.out, bw⟩
   ·rw [if_neg c2] at H
    have c2b0 : decide (0 < (x0_1.length : Int)) = false := decide_eq_false c2
    have c2b1 : decide (0 < x0_1.length) = false := decide_eq_false (by omega)
    clear c2
    obtain rfl := Option.some.inj H
    obtain ⟨Ao12, co12, eo12⟩ := Kd.V_slice HO_0.out
    subst eo12
    go_wp2
    go_ret
    exact ⟨_, rW, by (with_reducible repeat (first | apply Kd.V_alloc | apply Kd.V_drewN | apply Kd.V_drew)); exact HO_0.out, bw⟩
def poly_Canon.l0 : Nat → List Int → List Int → Int → Int → Int → Int → List Int → Int → List Int → List Int → Option (List Int × Int × Int × Int)
 | 0, _, _, _, _, _, _, _, _, _, _ => none
 | k + 1, x5, x11, x12, x13, x1000, x1001, x1002, x1003, x1004, x1005 => if x13 < x12 then (if 0 ≤ x13 then (if x13 < (x11.length : Int) then ((field_GF_Is.f x1000 x1001 x1002 x1003 x1004 x1005 (rd x11 x13)).bind fun bt423 => (if bt423.1 = true then (if x13 < (x5.length : Int) then (poly_Canon.l0 k (x5.set (x13 : Int).toNat (rd x11 x13)) x11 x12 (wrap64 (x13 + 1)) bt423.2.1 bt423.2.2.1 x1002 bt423.2.2.2 x1004 x1005) else (none)) else (poly_Canon.l0 k x5 x11 x12 (wrap64 (x13 + 1)) bt423.2.1 bt423.2.2.1 x1002 bt423.2.2.2 x1004 x1005))) else (none)) else (none)) else ((poly_trim.f k x5).bind fun t428 => (some (t428, x1000, x1001, x1003)))
def poly_Canon.f (k : Nat) (s0_0 : Int) (s0_1 : Int) (s0_2 : List Int) (s0_3 : Int) (s0_4 : List Int) (s0_5 : List Int) (l1 : List Int) : Option (List Int × Int × Int × Int) := if 0 ≤ (l1.length : Int) then (if ((l1.length : Int) : Int).toNat ≤ 35184372088832 then (poly_Canon.l0 k (List.replicate ((l1.length : Int) : Int).toNat 0) l1 (l1.length : Int) 0 s0_0 s0_1 s0_2 s0_3 s0_4 s0_5) else (none)) else (none)
theorem poly_Canon.calls (k : Nat) (g : Nat) (s0_0 : Int) (s0_1 : Int) (s0_2 : List Int) (s0_3 : Int) (s0_4 : List Int) (s0_5 : List Int) (A1 : Option Addr) (c1 : Nat) (l1 : List Int) (r1 : List Int) (r2 : Int) (r3 : Int) (r4 : Int) (w0 w : World) (hI : IsS92 w0 w g s0_0 s0_1 s0_2 s0_3 s0_4 s0_5) (hB : Below w0.heap.size w0 w) (hr1 : Kd.C (Kd.int .i64) w A1 l1.length l1) (hc1 : l1.length ≤ c1) (hf1 : ∀ ad, A1 = some ad → 0 < l1.length → ad.block ≠ g) (h : poly_Canon.f k s0_0 s0_1 s0_2 s0_3 s0_4 s0_5 l1 = some (r1, r2, r3, r4)) :
  Calls Try.prog 136 #[.pointer (some ⟨g, 0, none⟩), .slice A1 l1.length c1] w fun e w' => ∃ v0_ : Value, e = .returned (v0_) ∧ Kd.V (Kd.int .i64) 3 w' w.heap.size (fun k_ => (w.heap.size ≤ k_)) v0_ r1 ∧ IsS92 w0 w' g r2 r3 s0_2 r4 s0_4 s0_5 ∧ Below w0.heap.size w0 w' ∧ KeepBut w w' g none := by
 have HR1 := Aside0.mk hr1
 have HC1 := Aside0.mk hc1
 clear hr1 hc1
 have HI0 := Aside0.mk hI
 have HK := Aside0.mk (KeepBut.refl w g none)
 have HL := Aside0.mk hB.size
 clear hI
 have HW0 := Aside0.mk hB.size
 have HB := Aside0.mk hB
 clear hB
 have H := h
 clear h
 unfold poly_Canon.f at H
 obtain ⟨c3, H⟩ := iE H
 have c3b0 := eq_true c3
 have c3b1 := decide_eq_true c3
 clear c3
 obtain ⟨c4, H⟩ := iE H
 have c4b0 := eq_true c4
 have c4b1 := decide_eq_true c4
 clear c4
 obtain ⟨y419, hy419⟩ : ∃ y_ : List Int, y_ = (List.replicate ((l1.length : Int) : Int).toNat 0) := ⟨_, rfl⟩
 (try rw [Option.bind_some] at H); (try rw [← hy419] at H)
 have Ny419 := Aside0.mk hy419
 clear hy419
 have H' := Aside0.mk H
 clear H
 go_enter Try.func136, Try.ntmps136
 go_wp2_with ((with_reducible refine gate_dst (N := 10) rfl ?_); refine Kd.R_make (Kd.int .i64) _ 3 rfl (N := 10) rfl 22 _ _ rfl (l1.length : Int) rfl rfl Try.underlying22 (.int .i64 0) 8 info3 rfl (by decide) (by omega) 0 (ok := fun _ => True) (okp := fun _ => True) rfl (fun _ hk => hk) trivial (dT) (Nat.le_trans (Nat.mul_le_mul_right _ (dT : (l1.length : Int).toNat ≤ 35184372088832)) (by omega)) (Below.refl _ _) (Nat.le_refl _) ?_; intro v420 w5 ho6 hb hg_ hnew_; clear hg_ hnew_; (first | rw [← Ny419.out] at ho6 | (simp only [Int.reduceToNat] at ho6; rw [← Ny419.out] at ho6)); have HO421 := Aside0.mk (Kd.R_lower (Kd.R_newM (M := fun k_ => (w.heap.size ≤ k_)) ho6 (keep_size (w := w) (g := g) (row := none) bK) (fun k_ h_ => h_)) (keep_size (w := w) (g := g) (row := none) bK)); replace HK := Aside0.mk (KeepBut.trans bK (KeepBut.of_below hb g none) (.inl rfl)); replace HB := Aside0.mk (below_step bH hb); replace HI0 := Aside0.mk (IsS92.below bI hb); clear hb ho6)
 go_loopg [13] k (fun kq v13 w' => ∃ (x5_1 : List Int) (x13_1 : Int) (x1000_1 : Int) (x1001_1 : Int) (x1003_1 : Int), v13 = .int .i64 x13_1 ∧ Aside0 (poly_Canon.l0 kq x5_1 l1 (l1.length : Int) x13_1 x1000_1 x1001_1 s0_2 x1003_1 s0_4 s0_5 = some (r1, r2, r3, r4)) ∧ Aside0 (kq ≤ k) ∧ Aside0 (Kd.R (Kd.int .i64) 3 w' w.heap.size (fun k_ => (w.heap.size ≤ k_)) v420 x5_1) ∧ Aside0 (IsS92 w0 w' g x1000_1 x1001_1 s0_2 x1003_1 s0_4 s0_5) ∧ Aside0 (KeepBut w w' g none) ∧ Aside0 (Below w0.heap.size w0 w'))
 case atStart => exact ⟨(y419), (0), (s0_0), (s0_1), (s0_3), rX, H', ⟨Nat.le_refl _⟩, ⟨by (with_reducible repeat (first | apply Kd.R_alloc | apply Kd.R_drewN | apply Kd.R_drew)); exact Kd.R_mono HO421.out (fun _ hk => hk.1)⟩, ⟨bI⟩, ⟨bK⟩, ⟨bH⟩⟩
 case round =>
  clear H' c3b0 c3b1 c4b0 c4b1
  obtain ⟨x5_1, x13_1, x1000_1, x1001_1, x1003_1, rfl, HA, HK1, HO_5, HI0, HK, HB⟩ := hrel
  cases gk with
  | zero => exact absurd HA.out (by simp [poly_Canon.l0])
  | succ k1 =>
   have H := HA.out
   clear HA
   simp only [poly_Canon.l0] at H
   by_cases c7 : x13_1 < (l1.length : Int)
   ·rw [if_pos c7] at H
    have c7b0 := decide_eq_true c7
    clear c7
    obtain ⟨c8, H⟩ := iE H
    have c8b0 := decide_eq_true c8
    clear c8
    obtain ⟨c9, H⟩ := iE H
    have c9b0 := decide_eq_true c9
    clear c9
    obtain ⟨⟨t423, t424, t425, t426⟩, A10, H⟩ := bE H
    (try dsimp only at H)
    by_cases c11 : t423 = true
    ·subst c11
     have H1 : (if x13_1 < (x5_1.length : Int) then (poly_Canon.l0 k1 (x5_1.set (x13_1 : Int).toNat (rd l1 x13_1)) l1 (l1.length : Int) (wrap64 (x13_1 + 1)) t424 t425 s0_2 t426 s0_4 s0_5) else (none)) = some (r1, r2, r3, r4) := by rw [if_pos rfl] at H; exact H
     clear H
     have H := H1
     clear H1
     obtain ⟨c12, H⟩ := iE H
     have c12b0 := decide_eq_true c12
     clear c12
     obtain ⟨y427, hy427⟩ : ∃ y_ : List Int, y_ = (x5_1.set (x13_1 : Int).toNat (rd l1 x13_1)) := ⟨_, rfl⟩
     (try rw [Option.bind_some] at H); (try rw [← hy427] at H)
     have Ny427 := Aside0.mk hy427
     clear hy427
     have H' := Aside0.mk H
     clear H
     have p422 : 0 ≤ (x13_1 : Int) := dT
     have q422 : x13_1 < (l1.length : Int) := dT
     obtain ⟨ad422, e422, hx422_0⟩ := Kd.at_int HR1.out x13_1 p422 q422
     cases e422
     replace hx422_0 := keep_cell HK.out hx422_0 (by first | (rw [add_block]; exact hf1 _ rfl (by omega)) | exact hf1 _ rfl (by omega) | exact hf1 ad422 rfl (by omega))
     replace p422 := eq_true p422
     replace q422 := eq_true q422
     go_wp2_with (first | (refine gL 20 Try.func93 #[.pointer (some ⟨g, 0, none⟩), .int .i64 (rd l1 x13_1)] ?_; (with_reducible refine (field_GF_Is.calls g x1000_1 x1001_1 s0_2 x1003_1 s0_4 s0_5 (rd l1 x13_1) true t424 t425 t426 w0 _ ?side1 ?side2 A10.out).mono ?_); (case side1 => exact bI); (case side2 => exact bH); rintro e w14 ⟨rfl, hi, hb, hk⟩; refine ⟨_, rfl, ?_⟩; replace HO_5 := Aside0.mk (Kd.R_mono (Kd.R_keep (IsS92.apart (show IsS92 w0 _ g x1000_1 x1001_1 s0_2 x1003_1 s0_4 s0_5 from bI) (rR HO_5) (by decide)) hk (fun _ h => h.2)) (fun _ h => h.1)); replace HK := Aside0.mk (KeepBut.trans bK hk (.inl rfl)); replace HB := Aside0.mk hb; replace HI0 := Aside0.mk hi; (try clear hb); (try clear hk); (try clear hi); have p13 : 0 ≤ (x13_1 : Int) := dT; have q13 : (x13_1 : Int) < ((x5_1.length : Int) : Int) := dT; obtain ⟨go13, co13, eo13, gb13, gl13, cl13, HG13⟩ := Kd.R_form HO_5.out (by omega); (first | cases eo13 | (injection eo13 with ea_ en_ ec_; (first | subst ea_ | (injection ea_ with ea_; subst ea_)); subst ec_; clear en_)); have GB13 := Aside0.mk gb13; have GG13 := Aside0.mk HG13; clear gb13 gl13 HG13; obtain ⟨hx13_0, hf13_0⟩ := Kd.R_celln 0 HO_5.out (x13_1 : Int) p13 q13; replace p13 := eq_true p13; replace q13 := eq_true q13; obtain ⟨hy15_, hz15_⟩ := Kd.R_celln 0 HO_5.out (x13_1 : Int) (dT) (dT); have HP15 := Kd.R_putg HO_5.out (x13_1 : Int) (rd l1 x13_1)) | ((with_reducible refine gate_store (t := 3) (p := 24) rfl ?_); refine store_event (t := 3) (p := 24) (v := ?vo_w16) (w1 := (w14.setCell ⟨go13, (x13_1 : Int).toNat, none⟩ (.int .i64 (rd l1 x13_1)))) ?hg ?ho ?hn ?hr ?_; (case ho => rfl); (case hg => rfl); (case hn => rfl); (case hr => first | (go_simp; done) | (go_simp; rfl)); intro w16 hw; have hg : w14.grownBy w16 (some go13) := (by rw [hw]; exact HP15.2); have hp_ : Kd.R (Kd.int .i64) 3 w16 w.heap.size (fun k_ => (w.heap.size ≤ k_)) (.slice (some ⟨go13, 0, none⟩) x5_1.length co13) y427 := (by rw [hw, Ny427.out]; exact HP15.1); clear HP15; replace HI0 := Aside0.mk (IsS92.grown bI hg (IsS92.own_ne HI0.out HO_5.out (by decide))); replace HB := Aside0.mk ((by rw [hw]; exact below_set (HB.out) (Nat.le_trans HL.out GB13.out) : Below w0.heap.size w0 w16)); replace HK := Aside0.mk (KeepBut.trans bK (KeepBut.of_grown hg g) (Kd.R_base2 HO_5.out)); replace HO_5 := Aside0.mk hp_; clear hg hw hp_))
     go_roundg k1
     case measure => have := HK1.out; omega
     case rel => exact ⟨(y427), (wrap64 (x13_1 + 1)), (t424), (t425), (t426), rX, H', mK, ⟨rR HO_5⟩, ⟨bI⟩, ⟨bK⟩, ⟨bH⟩⟩
    ·replace c11 := Bool.eq_false_iff.mpr c11
     subst c11
     have H1 : (poly_Canon.l0 k1 x5_1 l1 (l1.length : Int) (wrap64 (x13_1 + 1)) t424 t425 s0_2 t426 s0_4 s0_5) = some (r1, r2, r3, r4) := by rw [if_neg (show ¬ (false = true) by decide)] at H; exact H
     clear H
     have H := H1
     clear H1
     have H' := Aside0.mk H
     clear H
     have p422 : 0 ≤ (x13_1 : Int) := dT
     have q422 : x13_1 < (l1.length : Int) := dT
     obtain ⟨ad422, e422, hx422_0⟩ := Kd.at_int HR1.out x13_1 p422 q422
     cases e422
     replace hx422_0 := keep_cell HK.out hx422_0 (by first | (rw [add_block]; exact hf1 _ rfl (by omega)) | exact hf1 _ rfl (by omega) | exact hf1 ad422 rfl (by omega))
     replace p422 := eq_true p422
     replace q422 := eq_true q422
     go_wp2_with (refine gL 20 Try.func93 #[.pointer (some ⟨g, 0, none⟩), .int .i64 (rd l1 x13_1)] ?_; (with_reducible refine (field_GF_Is.calls g x1000_1 x1001_1 s0_2 x1003_1 s0_4 s0_5 (rd l1 x13_1) false t424 t425 t426 w0 _ ?side1 ?side2 A10.out).mono ?_); (case side1 => exact bI); (case side2 => exact bH); rintro e w17 ⟨rfl, hi, hb, hk⟩; refine ⟨_, rfl, ?_⟩; replace HO_5 := Aside0.mk (Kd.R_mono (Kd.R_keep (IsS92.apart (show IsS92 w0 _ g x1000_1 x1001_1 s0_2 x1003_1 s0_4 s0_5 from bI) (rR HO_5) (by decide)) hk (fun _ h => h.2)) (fun _ h => h.1)); replace HK := Aside0.mk (KeepBut.trans bK hk (.inl rfl)); replace HB := Aside0.mk hb; replace HI0 := Aside0.mk hi; (try clear hb); (try clear hk); (try clear hi))
     go_roundg k1
     case measure => have := HK1.out; omega
     case rel => exact ⟨(x5_1), (wrap64 (x13_1 + 1)), (t424), (t425), (t426), rX, H', mK, ⟨rR HO_5⟩, ⟨bI⟩, ⟨bK⟩, ⟨bH⟩⟩
   ·rw [if_neg c7] at H
    have c7b0 := decide_eq_false c7
    clear c7
    obtain ⟨t428, A18, H⟩ := bE H
    simp only [Option.some.injEq, Prod.mk.injEq] at H
    obtain ⟨rfl, rfl, rfl, rfl⟩ := H
    obtain ⟨Ao19, co19, eo19⟩ := Kd.R_slice HO_5.out
    subst eo19
    go_wp2_with (refine gL 27 Try.func145 #[.slice Ao19 x5_1.length co19] ?_; (with_reducible refine (poly_trim.calls k1 (fun k_ => some k_ = (.slice Ao19 x5_1.length co19 : Value).ownBlock) _ _ x5_1 t428 _ (Kd.R_V (Kd.R_tight rfl (IsS92.apart HI0.out (HO_5.out) (by decide)))) A18.out).mono ?_); rintro e w20 ⟨v429, rfl, ho0, hb⟩; refine ⟨_, rfl, ?_⟩; have HO430 := Aside0.mk (Kd.V_lower (Kd.V_mono (ok' := fun k_ => (w.heap.size ≤ k_) ∧ k_ ≠ g) ho0 (fun k_ hk_ => ⟨Or.elim hk_ (fun hs_ => ((IsS92.apart HI0.out (HO_5.out) (by decide)).1 k_ hs_.symm).1) (fun hn_ => (Nat.le_trans (keep_size (w := w) (g := g) (row := none) bK) hn_)), Or.elim hk_ (fun hs_ => ((IsS92.apart HI0.out (HO_5.out) (by decide)).1 k_ hs_.symm).2) (fun hn_ => (IsS92.fresh bI k_ hn_))⟩)) (keep_size (w := w) (g := g) (row := none) bK)); replace HO_5 := Aside0.mk (Kd.R_below (rR HO_5) hb); replace HK := Aside0.mk (KeepBut.trans bK (KeepBut.of_below hb g none) (.inl rfl)); replace HB := Aside0.mk (below_step bH hb); replace HI0 := Aside0.mk (IsS92.below bI hb); (try clear hb); (try clear ho0))
    go_ret
    exact ⟨_, rW, by (with_reducible repeat (first | apply Kd.V_alloc | apply Kd.V_drewN | apply Kd.V_drew)); exact Kd.V_mono HO430.out (fun _ hk => hk.1), bI, bH, bK⟩
def field_GF_Order.f (s0_0 : Int) (s0_1 : Int) (s0_2 : List Int) (s0_3 : Int) (s0_4 : List Int) (s0_5 : List Int) : Option (Int × Int × Int × Int) := some (s0_3, s0_0, s0_1, s0_3)
def field_GF_Dot.l0 : Nat → List Int → List Int → Int → Int → Int → Int → Int → List Int → Int → List Int → List Int → Option (Int × Int × Int × Int)
 | 0, _, _, _, _, _, _, _, _, _, _, _ => none
 | k + 1, x1, x2, x7, x13, x14, x1000, x1001, x1002, x1003, x1004, x1005 => if x14 < x13 then (if 0 ≤ x14 then (if x14 < (x1.length : Int) then (if x14 < (x2.length : Int) then ((field_GF_Mul.f x1000 x1001 x1002 x1003 x1004 x1005 (rd x1 x14) (rd x2 x14)).bind fun bt433 => ((field_GF_Add.f k bt433.2.1 bt433.2.2.1 x1002 bt433.2.2.2 x1004 x1005 x7 bt433.1).bind fun bt437 => (field_GF_Dot.l0 k x1 x2 bt437.1 x13 (wrap64 (x14 + 1)) bt437.2.1 bt437.2.2.1 x1002 bt437.2.2.2 x1004 x1005))) else (none)) else (none)) else (none)) else (some (x7, x1000, x1001, x1003))
def field_GF_Dot.f (k : Nat) (s0_0 : Int) (s0_1 : Int) (s0_2 : List Int) (s0_3 : Int) (s0_4 : List Int) (s0_5 : List Int) (l1 : List Int) (l2 : List Int) : Option (Int × Int × Int × Int) := field_GF_Dot.l0 k l1 l2 0 (mn (l1.length : Int) (l2.length : Int)) 0 s0_0 s0_1 s0_2 s0_3 s0_4 s0_5
def field_GF_Dot.T5 : Bool × List (List Nat × List Nat) := (true, [([], []), ([], []), ([], []), ([], []), ([], []), ([3, 4], [3, 4]), ([5], [5]), ([], []), ([], []), ([7, 8], [7, 8]), ([9], [9]), ([2, 6, 10], [2, 6, 10]), ([0, 1, 11, 11], [0, 1, 11]), ([12, 12, 0, 1, 2, 3, 4, 5, 6, 7, 8, 9, 10, 11, 12], [1, 12])])
def field_GF_Dot.B5 : List Nat := [0, 0, 0, 0, 0, 24, 56, 0, 0, 384, 896, 2044, 4095, 8191]
theorem field_GF_Dot.tab5 : rtab .any (opsOf Try.f118 5) = field_GF_Dot.T5 := by kernel_rfl
theorem field_GF_Dot.bits5 : waitsOk field_GF_Dot.T5.2 field_GF_Dot.B5 = true := by kernel_rfl
theorem field_GF_Dot.calls (k : Nat) (g : Nat) (s0_0 : Int) (s0_1 : Int) (s0_2 : List Int) (s0_3 : Int) (s0_4 : List Int) (s0_5 : List Int) (A1 : Option Addr) (c1 : Nat) (l1 : List Int) (A2 : Option Addr) (c2 : Nat) (l2 : List Int) (r1 : Int) (r2 : Int) (r3 : Int) (r4 : Int) (w0 w : World) (hI : IsS92 w0 w g s0_0 s0_1 s0_2 s0_3 s0_4 s0_5) (hB : Below w0.heap.size w0 w) (hr1 : Kd.C (Kd.int .i64) w A1 l1.length l1) (hc1 : l1.length ≤ c1) (hf1 : ∀ ad, A1 = some ad → 0 < l1.length → ad.block ≠ g) (hr2 : Kd.C (Kd.int .i64) w A2 l2.length l2) (hc2 : l2.length ≤ c2) (hf2 : ∀ ad, A2 = some ad → 0 < l2.length → ad.block ≠ g) (h : field_GF_Dot.f k s0_0 s0_1 s0_2 s0_3 s0_4 s0_5 l1 l2 = some (r1, r2, r3, r4)) :
  Calls Try.prog 118 #[.pointer (some ⟨g, 0, none⟩), .slice A1 l1.length c1, .slice A2 l2.length c2] w fun e w' => e = .returned (.int .i64 r1) ∧ IsS92 w0 w' g r2 r3 s0_2 r4 s0_4 s0_5 ∧ Below w0.heap.size w0 w' ∧ KeepBut w w' g none := by
 have HR1 := Aside0.mk hr1
 have HC1 := Aside0.mk hc1
 clear hr1 hc1
 have HR2 := Aside0.mk hr2
 have HC2 := Aside0.mk hc2
 clear hr2 hc2
 have HI0 := Aside0.mk hI
 have HK := Aside0.mk (KeepBut.refl w g none)
 have HL := Aside0.mk hB.size
 clear hI
 have HW0 := Aside0.mk hB.size
 have HB := Aside0.mk hB
 clear hB
 have H := h
 clear h
 unfold field_GF_Dot.f at H
 obtain ⟨ji4, hji4⟩ : ∃ j_ : Int, (mn (l1.length : Int) (l2.length : Int)) = j_ := ⟨_, rfl⟩
 replace H : (field_GF_Dot.l0 k l1 l2 0 ji4 0 s0_0 s0_1 s0_2 s0_3 s0_4 s0_5) = some (r1, r2, r3, r4) := by first | (rw [hji4] at H; exact H) | (simp only [hji4] at H ⊢; exact H)
 (try (have hji4l : 0 ≤ ji4 := by (rw [← hji4]; unfold mn; (repeat' split) <;> omega)))
 (try (have hji4m : 0 ≤ ji4 := by omega))
 have hji4_ : (if (l2.length : Int) < (l1.length : Int) then (l2.length : Int) else (l1.length : Int)) = ji4 := hji4
 have H' := Aside0.mk H
 clear H
 rcases (show (l2.length < l1.length) = True ∨ (l2.length < l1.length) = False by by_cases h : l2.length < l1.length; exact .inl (eq_true h); exact .inr (eq_false h)) with hmm | hmm
 · have hmi : ((l2.length : Int) < (l1.length : Int)) = _ := (propext Int.ofNat_lt).trans hmm
   simp only [hmi, if_true, if_false] at hji4_
   subst hji4_
   go_enter Try.func118, Try.ntmps118
   go_wp2
   go_loopg [7, 14] k (fun kq v7 v14 w' => ∃ (x7_1 : Int) (x14_1 : Int) (x1000_1 : Int) (x1001_1 : Int) (x1003_1 : Int), v7 = .int .i64 x7_1 ∧ v14 = .int .i64 x14_1 ∧ Aside0 (field_GF_Dot.l0 kq l1 l2 x7_1 (l2.length : Int) x14_1 x1000_1 x1001_1 s0_2 x1003_1 s0_4 s0_5 = some (r1, r2, r3, r4)) ∧ Aside0 (kq ≤ k) ∧ Aside0 (IsS92 w0 w' g x1000_1 x1001_1 s0_2 x1003_1 s0_4 s0_5) ∧ Aside0 (KeepBut w w' g none) ∧ Aside0 (Below w0.heap.size w0 w'))
   case atStart => exact ⟨(0), (0), (s0_0), (s0_1), (s0_3), rX, rX, H', ⟨Nat.le_refl _⟩, ⟨bI⟩, ⟨bK⟩, ⟨bH⟩⟩
   case round =>
    clear H'
    obtain ⟨x7_1, x14_1, x1000_1, x1001_1, x1003_1, rfl, rfl, HA, HK1, HI0, HK, HB⟩ := hrel
    cases gk with
    | zero => exact absurd HA.out (by simp [field_GF_Dot.l0])
    | succ k1 =>
     have H := HA.out
     clear HA
     simp only [field_GF_Dot.l0] at H
     by_cases c5 : x14_1 < (l2.length : Int)
     ·rw [if_pos c5] at H
      have c5b0 := decide_eq_true c5
      clear c5
      obtain ⟨c6, H⟩ := iE H
      have c6b0 := decide_eq_true c6
      clear c6
      obtain ⟨c7, H⟩ := iE H
      have c7b0 := decide_eq_true c7
      clear c7
      obtain ⟨c8, H⟩ := iE H
      have c8b0 := decide_eq_true c8
      clear c8
      obtain ⟨⟨t433, t434, t435, t436⟩, A9, H⟩ := bE H
      (try dsimp only at H)
      obtain ⟨⟨t437, t438, t439, t440⟩, A10, H⟩ := bE H
      (try dsimp only at H)
      have H' := Aside0.mk H
      clear H
      try go_wp2
      replace HI0 := Aside0.mk (IsS92.drew HI0.out)
      replace HK := Aside0.mk (keep_drew HK.out)
      replace HB := Aside0.mk (below_drew1 HB.out)
      have p431 : 0 ≤ (x14_1 : Int) := dT
      have q431 : x14_1 < (l1.length : Int) := dT
      obtain ⟨ad431, e431, hx431_0⟩ := Kd.at_int HR1.out x14_1 p431 q431
      have hw431_0 := hx431_0
      cases e431
      have hne431_0 := (show ((ad431.add (x14_1).toNat) : Addr).block ≠ g from by first | (rw [add_block]; exact hf1 ad431 rfl (by omega)) | (show (Addr.add _ _).block ≠ _; rw [add_block]; exact hf1 ad431 rfl (by omega)) | exact hf1 ad431 rfl (by omega))
      replace hx431_0 := keep_cell HK.out hx431_0 (by first | (rw [add_block]; exact hf1 _ rfl (by omega)) | exact hf1 _ rfl (by omega) | exact hf1 ad431 rfl (by omega))
      replace p431 := eq_true p431
      replace q431 := eq_true q431
      have p432 : 0 ≤ (x14_1 : Int) := dT
      have q432 : x14_1 < (l2.length : Int) := dT
      obtain ⟨ad432, e432, hx432_0⟩ := Kd.at_int HR2.out x14_1 p432 q432
      have hw432_0 := hx432_0
      cases e432
      have hne432_0 := (show ((ad432.add (x14_1).toNat) : Addr).block ≠ g from by first | (rw [add_block]; exact hf2 ad432 rfl (by omega)) | (show (Addr.add _ _).block ≠ _; rw [add_block]; exact hf2 ad432 rfl (by omega)) | exact hf2 ad432 rfl (by omega))
      replace hx432_0 := keep_cell HK.out hx432_0 (by first | (rw [add_block]; exact hf2 _ rfl (by omega)) | exact hf2 _ rfl (by omega) | exact hf2 ad432 rfl (by omega))
      replace p432 := eq_true p432
      replace q432 := eq_true q432
      refine start_ (n := 14) (S := fun w' => w'.cell? (ad431.add (x14_1).toNat) = some (.int .i64 (rd l1 x14_1)) ∧ w'.cell? (ad432.add (x14_1).toNat) = some (.int .i64 (rd l2 x14_1))) (ds := []) (bb 14 0) (by kernel_rfl) rfl rfl ⟨(keep_cell HK.out hw431_0 hne431_0), (keep_cell HK.out hw432_0 hne432_0)⟩ (fun hHeld => ?_); refine with_tabW field_GF_Dot.tab5 field_GF_Dot.bits5 (fun HT_ HW_ => ?_)
      generalize wr.drew = w11 at HI0 HK HB hx431_0 hx432_0 hHeld ⊢
      refine pq HT_ 0 17 (bb 14 1) ?_
      refine pq HT_ 1 18 (bb 14 3) ?_
      refine pq HT_ 2 19 (bb 14 7) ?_
      refine pq HT_ 3 20 (bb 14 15) ?_
      refine pq HT_ 4 21 (bb 14 31) ?_
      refine pq HT_ 5 22 (bb 14 63) ?_
      refine pq HT_ 7 24 (bb 14 191) ?_
      refine pq HT_ 8 25 (bb 14 447) ?_
      refine pq HT_ 9 26 (bb 14 959) ?_
      refine tq HT_ HW_ hHeld 6 23 (bb 14 1023) ?_
      refine tq HT_ HW_ hHeld 10 27 (bb 14 2047) ?_
      refine oq HT_ 11 (some 28) (bb 14 4095) (fun K hK => ?_)
      refine gq Try.func116 #[.pointer (some ⟨g, 0, none⟩), .int .i64 (rd l1 x14_1), .int .i64 (rd l2 x14_1)] ?_
      with_reducible refine (field_GF_Mul.calls g x1000_1 x1001_1 s0_2 x1003_1 s0_4 s0_5 (rd l1 x14_1) (rd l2 x14_1) t433 t434 t435 t436 w0 _ ?side1 ?side2 A9.out).mono ?_
      (case side1 => exact bI)
      (case side2 => exact bH)
      rintro e w12 ⟨rfl, hi, hb, hk⟩
      refine ⟨_, rfl, ?_⟩
      replace HK := Aside0.mk (KeepBut.trans bK hk (.inl rfl))
      replace HB := Aside0.mk hb
      replace HI0 := Aside0.mk hi
      clear hb hk hi
      refine hK.out _ _ ⟨(keep_cell HK.out hw431_0 hne431_0), (keep_cell HK.out hw432_0 hne432_0)⟩ (fun hHeld => ?_)
      clear hK K
      refine nq 28 ?_
      refine oq HT_ 12 (some 29) (bb 14 8191) (fun K hK => ?_)
      refine gq Try.func120 #[.pointer (some ⟨g, 0, none⟩), .int .i64 x7_1, .int .i64 t433] ?_
      with_reducible refine (field_GF_Add.calls k1 g t434 t435 s0_2 t436 s0_4 s0_5 x7_1 t433 t437 t438 t439 t440 w0 _ ?side1 ?side2 A10.out).mono ?_
      (case side1 => exact bI)
      (case side2 => exact bH)
      rintro e w13 ⟨rfl, hi, hb, hk⟩
      refine ⟨_, rfl, ?_⟩
      replace HK := Aside0.mk (KeepBut.trans bK hk (.inl rfl))
      replace HB := Aside0.mk hb
      replace HI0 := Aside0.mk hi
      clear hb hk hi
      refine hK.out _ _ ⟨(keep_cell HK.out hw431_0 hne431_0), (keep_cell HK.out hw432_0 hne432_0)⟩ (fun hHeld => ?_)
      clear hK K
      refine nq 29 ?_
      refine pq HT_ 13 7 (bb 14 16383) ?_
      refine dq HT_ ?_
      try go_wp2
      go_roundg k1
      case measure => have := HK1.out; omega
      case rel => exact ⟨(t437), (wrap64 (x14_1 + 1)), (t438), (t439), (t440), rX, rX, H', mK, ⟨bI⟩, ⟨bK⟩, ⟨bH⟩⟩
     ·rw [if_neg c5] at H
      have c5b0 := decide_eq_false c5
      clear c5
      simp only [Option.some.injEq, Prod.mk.injEq] at H
      obtain ⟨rfl, rfl, rfl, rfl⟩ := H
      go_wp2
      go_ret
      exact ⟨by first | rfl | (simp [errW_none, errW_some] <;> rfl) | (simp only [← hji4]; first | rfl | (simp [errW_none, errW_some] <;> rfl)) | (simp [*, errW_none, errW_some] <;> rfl), bI, bH, bK⟩
 · have hmi : ((l2.length : Int) < (l1.length : Int)) = _ := (propext Int.ofNat_lt).trans hmm
   simp only [hmi, if_true, if_false] at hji4_
   subst hji4_
   go_enter Try.func118, Try.ntmps118
   go_wp2
   go_loopg [7, 14] k (fun kq v7 v14 w' => ∃ (x7_1 : Int) (x14_1 : Int) (x1000_1 : Int) (x1001_1 : Int) (x1003_1 : Int), v7 = .int .i64 x7_1 ∧ v14 = .int .i64 x14_1 ∧ Aside0 (field_GF_Dot.l0 kq l1 l2 x7_1 (l1.length : Int) x14_1 x1000_1 x1001_1 s0_2 x1003_1 s0_4 s0_5 = some (r1, r2, r3, r4)) ∧ Aside0 (kq ≤ k) ∧ Aside0 (IsS92 w0 w' g x1000_1 x1001_1 s0_2 x1003_1 s0_4 s0_5) ∧ Aside0 (KeepBut w w' g none) ∧ Aside0 (Below w0.heap.size w0 w'))
   case atStart => exact ⟨(0), (0), (s0_0), (s0_1), (s0_3), rX, rX, H', ⟨Nat.le_refl _⟩, ⟨bI⟩, ⟨bK⟩, ⟨bH⟩⟩
   case round =>
    clear H'
    obtain ⟨x7_1, x14_1, x1000_1, x1001_1, x1003_1, rfl, rfl, HA, HK1, HI0, HK, HB⟩ := hrel
    cases gk with
    | zero => exact absurd HA.out (by simp [field_GF_Dot.l0])
    | succ k1 =>
     have H := HA.out
     clear HA
     simp only [field_GF_Dot.l0] at H
     by_cases c5 : x14_1 < (l1.length : Int)
     ·rw [if_pos c5] at H
      have c5b0 := decide_eq_true c5
      clear c5
      obtain ⟨c6, H⟩ := iE H
      have c6b0 := decide_eq_true c6
      clear c6
      obtain ⟨c7, H⟩ := iE H
      have c7b0 := decide_eq_true c7
      clear c7
      obtain ⟨c8, H⟩ := iE H
      have c8b0 := decide_eq_true c8
      clear c8
      obtain ⟨⟨t433, t434, t435, t436⟩, A9, H⟩ := bE H
      (try dsimp only at H)
      obtain ⟨⟨t437, t438, t439, t440⟩, A10, H⟩ := bE H
      (try dsimp only at H)
      have H' := Aside0.mk H
      clear H
      try go_wp2
      replace HI0 := Aside0.mk (IsS92.drew HI0.out)
      replace HK := Aside0.mk (keep_drew HK.out)
      replace HB := Aside0.mk (below_drew1 HB.out)
      have p431 : 0 ≤ (x14_1 : Int) := dT
      have q431 : x14_1 < (l1.length : Int) := dT
      obtain ⟨ad431, e431, hx431_0⟩ := Kd.at_int HR1.out x14_1 p431 q431
      have hw431_0 := hx431_0
      cases e431
      have hne431_0 := (show ((ad431.add (x14_1).toNat) : Addr).block ≠ g from by first | (rw [add_block]; exact hf1 ad431 rfl (by omega)) | (show (Addr.add _ _).block ≠ _; rw [add_block]; exact hf1 ad431 rfl (by omega)) | exact hf1 ad431 rfl (by omega))
      replace hx431_0 := keep_cell HK.out hx431_0 (by first | (rw [add_block]; exact hf1 _ rfl (by omega)) | exact hf1 _ rfl (by omega) | exact hf1 ad431 rfl (by omega))
      replace p431 := eq_true p431
      replace q431 := eq_true q431
      have p432 : 0 ≤ (x14_1 : Int) := dT
      have q432 : x14_1 < (l2.length : Int) := dT
      obtain ⟨ad432, e432, hx432_0⟩ := Kd.at_int HR2.out x14_1 p432 q432
      have hw432_0 := hx432_0
      cases e432
      have hne432_0 := (show ((ad432.add (x14_1).toNat) : Addr).block ≠ g from by first | (rw [add_block]; exact hf2 ad432 rfl (by omega)) | (show (Addr.add _ _).block ≠ _; rw [add_block]; exact hf2 ad432 rfl (by omega)) | exact hf2 ad432 rfl (by omega))
      replace hx432_0 := keep_cell HK.out hx432_0 (by first | (rw [add_block]; exact hf2 _ rfl (by omega)) | exact hf2 _ rfl (by omega) | exact hf2 ad432 rfl (by omega))
      replace p432 := eq_true p432
      replace q432 := eq_true q432
      refine start_ (n := 14) (S := fun w' => w'.cell? (ad431.add (x14_1).toNat) = some (.int .i64 (rd l1 x14_1)) ∧ w'.cell? (ad432.add (x14_1).toNat) = some (.int .i64 (rd l2 x14_1))) (ds := []) (bb 14 0) (by kernel_rfl) rfl rfl ⟨(keep_cell HK.out hw431_0 hne431_0), (keep_cell HK.out hw432_0 hne432_0)⟩ (fun hHeld => ?_); refine with_tabW field_GF_Dot.tab5 field_GF_Dot.bits5 (fun HT_ HW_ => ?_)
      generalize wr.drew = w11 at HI0 HK HB hx431_0 hx432_0 hHeld ⊢
      refine pq HT_ 0 17 (bb 14 1) ?_
      refine pq HT_ 1 18 (bb 14 3) ?_
      refine pq HT_ 2 19 (bb 14 7) ?_
      refine pq HT_ 3 20 (bb 14 15) ?_
      refine pq HT_ 4 21 (bb 14 31) ?_
      refine pq HT_ 5 22 (bb 14 63) ?_
      refine pq HT_ 7 24 (bb 14 191) ?_
      refine pq HT_ 8 25 (bb 14 447) ?_
      refine pq HT_ 9 26 (bb 14 959) ?_
      refine tq HT_ HW_ hHeld 6 23 (bb 14 1023) ?_
      refine tq HT_ HW_ hHeld 10 27 (bb 14 2047) ?_
      refine oq HT_ 11 (some 28) (bb 14 4095) (fun K hK => ?_)
      refine gq Try.func116 #[.pointer (some ⟨g, 0, none⟩), .int .i64 (rd l1 x14_1), .int .i64 (rd l2 x14_1)] ?_
      with_reducible refine (field_GF_Mul.calls g x1000_1 x1001_1 s0_2 x1003_1 s0_4 s0_5 (rd l1 x14_1) (rd l2 x14_1) t433 t434 t435 t436 w0 _ ?side1 ?side2 A9.out).mono ?_
      (case side1 => exact bI)
      (case side2 => exact bH)
      rintro e w12 ⟨rfl, hi, hb, hk⟩
      refine ⟨_, rfl, ?_⟩
      replace HK := Aside0.mk (KeepBut.trans bK hk (.inl rfl))
      replace HB := Aside0.mk hb
      replace HI0 := Aside0.mk hi
      clear hb hk hi
      refine hK.out _ _ ⟨(keep_cell HK.out hw431_0 hne431_0), (keep_cell HK.out hw432_0 hne432_0)⟩ (fun hHeld => ?_)
      clear hK K
      refine nq 28 ?_
      refine oq HT_ 12 (some 29) (bb 14 8191) (fun K hK => ?_)
      refine gq Try.func120 #[.pointer (some ⟨g, 0, none⟩), .int .i64 x7_1, .int .i64 t433] ?_
      with_reducible refine (field_GF_Add.calls k1 g t434 t435 s0_2 t436 s0_4 s0_5 x7_1 t433 t437 t438 t439 t440 w0 _ ?side1 ?side2 A10.out).mono ?_
      (case side1 => exact bI)
      (case side2 => exact bH)
      rintro e w13 ⟨rfl, hi, hb, hk⟩
      refine ⟨_, rfl, ?_⟩
      replace HK := Aside0.mk (KeepBut.trans bK hk (.inl rfl))
      replace HB := Aside0.mk hb
      replace HI0 := Aside0.mk hi
      clear hb hk hi
      refine hK.out _ _ ⟨(keep_cell HK.out hw431_0 hne431_0), (keep_cell HK.out hw432_0 hne432_0)⟩ (fun hHeld => ?_)
      clear hK K
      refine nq 29 ?_
      refine pq HT_ 13 7 (bb 14 16383) ?_
      refine dq HT_ ?_
      try go_wp2
      go_roundg k1
      case measure => have := HK1.out; omega
      case rel => exact ⟨(t437), (wrap64 (x14_1 + 1)), (t438), (t439), (t440), rX, rX, H', mK, ⟨bI⟩, ⟨bK⟩, ⟨bH⟩⟩
     ·rw [if_neg c5] at H
      have c5b0 := decide_eq_false c5
      clear c5
      simp only [Option.some.injEq, Prod.mk.injEq] at H
      obtain ⟨rfl, rfl, rfl, rfl⟩ := H
      go_wp2
      go_ret
      exact ⟨by first | rfl | (simp [errW_none, errW_some] <;> rfl) | (simp only [← hji4]; first | rfl | (simp [errW_none, errW_some] <;> rfl)) | (simp [*, errW_none, errW_some] <;> rfl), bI, bH, bK⟩
def field_GF_Pow.j0 : Nat → Int → Int → Bool → Int → Int → List Int → Int → List Int → List Int → Option (Int × Int × Int × Int × Int)
 | 0, _, _, _, _, _, _, _, _, _ => none
 | k + 1, x1, x2, x15, x1000, x1001, x1002, x1003, x1004, x1005 => if x15 = true then (some (0, 7, x1000, x1001, x1003)) else (if x1 = 0 then (some (0, 0, x1000, x1001, x1003)) else (if (wrap64 (x1003 - 1)) = 0 then (none) else (if 0 ≤ x1 then (if x1 < (x1005.length : Int) then (if 0 ≤ (Int.tmod (wrap64 ((rd x1005 x1) * (Int.tmod (wrap64 ((Int.tmod x2 (wrap64 (x1003 - 1))) + (wrap64 (x1003 - 1)))) (wrap64 (x1003 - 1))))) (wrap64 (x1003 - 1))) then (if (Int.tmod (wrap64 ((rd x1005 x1) * (Int.tmod (wrap64 ((Int.tmod x2 (wrap64 (x1003 - 1))) + (wrap64 (x1003 - 1)))) (wrap64 (x1003 - 1))))) (wrap64 (x1003 - 1))) < (x1004.length : Int) then (some (rd x1004 (Int.tmod (wrap64 ((rd x1005 x1) * (Int.tmod (wrap64 ((Int.tmod x2 (wrap64 (x1003 - 1))) + (wrap64 (x1003 - 1)))) (wrap64 (x1003 - 1))))) (wrap64 (x1003 - 1))), 0, x1000, x1001, x1003)) else (none)) else (none)) else (none)) else (none))))
def field_GF_Pow.f (k : Nat) (s0_0 : Int) (s0_1 : Int) (s0_2 : List Int) (s0_3 : Int) (s0_4 : List Int) (s0_5 : List Int) (a1 : Int) (a2 : Int) : Option (Int × Int × Int × Int × Int) := (field_GF_in.f s0_0 s0_1 s0_2 s0_3 s0_4 s0_5 a1).bind fun bt449 => (if a2 = 0 then (some (1, 0, bt449.2.1, bt449.2.2.1, bt449.2.2.2)) else (if bt449.1 = 0 then (field_GF_Pow.j0 k bt449.1 a2 (decide (a2 < 0)) bt449.2.1 bt449.2.2.1 s0_2 bt449.2.2.2 s0_4 s0_5) else (field_GF_Pow.j0 k bt449.1 a2 false bt449.2.1 bt449.2.2.1 s0_2 bt449.2.2.2 s0_4 s0_5)))
theorem field_GF_Pow.calls (k : Nat) (g : Nat) (s0_0 : Int) (s0_1 : Int) (s0_2 : List Int) (s0_3 : Int) (s0_4 : List Int) (s0_5 : List Int) (a1 : Int) (a2 : Int) (r1 : Int) (r2 : Int) (r3 : Int) (r4 : Int) (r5 : Int) (w0 w : World) (hI : IsS92 w0 w g s0_0 s0_1 s0_2 s0_3 s0_4 s0_5) (hB : Below w0.heap.size w0 w) (h : field_GF_Pow.f k s0_0 s0_1 s0_2 s0_3 s0_4 s0_5 a1 a2 = some (r1, r2, r3, r4, r5)) :
  Calls Try.prog 53 #[.pointer (some ⟨g, 0, none⟩), .int .i64 a1, .int .i64 a2] w fun e w' => e = .returned (.tuple #[.int .i64 r1, .int .i64 r2]) ∧ IsS92 w0 w' g r3 r4 s0_2 r5 s0_4 s0_5 ∧ Below w0.heap.size w0 w' ∧ KeepBut w w' g none := by
 have HI0 := Aside0.mk hI
 have HK := Aside0.mk (KeepBut.refl w g none)
 have HL := Aside0.mk hB.size
 clear hI
 have HW0 := Aside0.mk hB.size
 have HB := Aside0.mk hB
 clear hB
 have H := h
 clear h
 unfold field_GF_Pow.f at H
 obtain ⟨⟨t449, t450, t451, t452⟩, A4, H⟩ := bE H
 (try dsimp only at H)
 by_cases c5 : a2 = 0
 ·rw [if_pos c5] at H
  have c5b0 := beq_iff_eq.mpr c5
  have c5b1 := bne_eq_false_iff_eq.mpr c5
  clear c5
  simp only [Option.some.injEq, Prod.mk.injEq] at H
  obtain ⟨rfl, rfl, rfl, rfl, rfl⟩ := H
  go_enter Try.func53, Try.ntmps53
  go_wp2_with (go_at_call 66; (with_reducible refine (field_GF_in.calls g s0_0 s0_1 s0_2 s0_3 s0_4 s0_5 a1 t449 t450 t451 t452 w0 _ ?side1 ?side2 A4.out).mono ?_); (case side1 => exact bI); (case side2 => exact bH); rintro e w6 ⟨rfl, hi, hb, hk⟩; replace HK := Aside0.mk (KeepBut.trans bK hk (.inl rfl)); replace HB := Aside0.mk hb; replace HI0 := Aside0.mk hi; (try clear hb); (try clear hk); (try clear hi))
  repeat (go_quiet (fail); try go_wp2_with (fail))
  go_ret2
  exact ⟨rW, bI, bH, bK⟩
 ·rw [if_neg c5] at H
  have c5b0 := beq_eq_false_iff_ne.mpr c5
  have c5b1 := bne_iff_ne.mpr c5
  have HC7 := Aside0.mk H
  clear H
  go_enter Try.func53, Try.ntmps53
  go_upto_region 4 with (first | (go_at_call 66; (with_reducible refine (field_GF_in.calls g s0_0 s0_1 s0_2 s0_3 s0_4 s0_5 a1 t449 t450 t451 t452 w0 _ ?side1 ?side2 A4.out).mono ?_); (case side1 => exact bI); (case side2 => exact bH); rintro e w8 ⟨rfl, hi, hb, hk⟩; replace HK := Aside0.mk (KeepBut.trans bK hk (.inl rfl)); replace HB := Aside0.mk hb; replace HI0 := Aside0.mk hi; (try clear hb); (try clear hk); (try clear hi)))
  repeat (go_quiet (fail); go_upto_region 4 with (first | (go_at_call 66; (with_reducible refine (field_GF_in.calls g s0_0 s0_1 s0_2 s0_3 s0_4 s0_5 a1 t449 t450 t451 t452 w0 _ ?side1 ?side2 A4.out).mono ?_); (case side1 => exact bI); (case side2 => exact bH); rintro e w8 ⟨rfl, hi, hb, hk⟩; replace HK := Aside0.mk (KeepBut.trans bK hk (.inl rfl)); replace HB := Aside0.mk hb; replace HI0 := Aside0.mk hi)))
  (try simp only [Act.put, List.setIfInBounds_toArray, List.set_cons_zero, List.set_cons_succ])
  go_cut [15] (fun v15 wc => ∃ (kq : Nat) (x15_6 : Bool), v15 = .bool x15_6 ∧ Aside0 (field_GF_Pow.j0 kq t449 a2 x15_6 t450 t451 s0_2 t452 s0_4 s0_5 = some (r1, r2, r3, r4, r5)) ∧ Aside0 (kq ≤ k) ∧ Aside0 (IsS92 w0 wc g t450 t451 s0_2 t452 s0_4 s0_5) ∧ Aside0 (KeepBut w wc g none) ∧ Aside0 (Below w0.heap.size w0 wc))
  case first =>
   have H := HC7.out
   clear HC7
   by_cases c9 : t449 = 0
   ·rw [if_pos c9] at H
    have c9b0 := beq_iff_eq.mpr c9
    have c9b1 := bne_eq_false_iff_eq.mpr c9
    clear c9
    (first | rw [c9b0] | (simp only [i64_w, i32_w]; rw [c9b0]) | skip)
    have H' := Aside0.mk H
    clear H
    go_wp2
    repeat (go_quiet (fail); try go_wp2)
    go_meet
    case rel => exact ⟨_, (decide (a2 < 0)), rX, H', ⟨by first | omega | exact Nat.le_refl _⟩, ⟨bI⟩, ⟨bK⟩, ⟨bH⟩⟩
   ·rw [if_neg c9] at H
    have c9b0 := beq_eq_false_iff_ne.mpr c9
    have c9b1 := bne_iff_ne.mpr c9
    (first | rw [c9b0] | (simp only [i64_w, i32_w]; rw [c9b0]) | skip)
    have H' := Aside0.mk H
    clear H
    go_wp2
    repeat (go_quiet (fail); try go_wp2)
    go_meet
    case rel => exact ⟨_, (false), rX, H', ⟨by first | omega | exact Nat.le_refl _⟩, ⟨bI⟩, ⟨bK⟩, ⟨bH⟩⟩
  case rest =>
   clear HC7 c5 c5b0 c5b1
   obtain ⟨kq, x15_6, rfl, HA, HJ6, HI0, HK, HB⟩ := hcut
   cases kq with
   | zero => exact absurd HA.out (by simp [field_GF_Pow.j0])
   | succ kj6 =>
    have H := HA.out
    clear HA
    simp only [field_GF_Pow.j0] at H
    by_cases c10 : x15_6 = true
    ·subst c10
     have H1 : (some (0, 7, t450, t451, t452)) = some (r1, r2, r3, r4, r5) := by rw [if_pos rfl] at H; exact H
     clear H
     have H := H1
     clear H1
     simp only [Option.some.injEq, Prod.mk.injEq] at H
     obtain ⟨rfl, rfl, rfl, rfl, rfl⟩ := H
     go_wp2
     repeat (go_quiet (fail); try go_wp2)
     go_ret2
     exact ⟨rW, bI, bH, bK⟩
    ·replace c10 := Bool.eq_false_iff.mpr c10
     subst c10
     have H1 : (if t449 = 0 then (some (0, 0, t450, t451, t452)) else (if (wrap64 (t452 - 1)) = 0 then (none) else (if 0 ≤ t449 then (if t449 < (s0_5.length : Int) then (if 0 ≤ (Int.tmod (wrap64 ((rd s0_5 t449) * (Int.tmod (wrap64 ((Int.tmod a2 (wrap64 (t452 - 1))) + (wrap64 (t452 - 1)))) (wrap64 (t452 - 1))))) (wrap64 (t452 - 1))) then (if (Int.tmod (wrap64 ((rd s0_5 t449) * (Int.tmod (wrap64 ((Int.tmod a2 (wrap64 (t452 - 1))) + (wrap64 (t452 - 1)))) (wrap64 (t452 - 1))))) (wrap64 (t452 - 1))) < (s0_4.length : Int) then (some (rd s0_4 (Int.tmod (wrap64 ((rd s0_5 t449) * (Int.tmod (wrap64 ((Int.tmod a2 (wrap64 (t452 - 1))) + (wrap64 (t452 - 1)))) (wrap64 (t452 - 1))))) (wrap64 (t452 - 1))), 0, t450, t451, t452)) else (none)) else (none)) else (none)) else (none)))) = some (r1, r2, r3, r4, r5) := by rw [if_neg (show ¬ (false = true) by decide)] at H; exact H
     clear H
     have H := H1
     clear H1
     by_cases c11 : t449 = 0
     ·rw [if_pos c11] at H
      have c11b0 := beq_iff_eq.mpr c11
      have c11b1 := bne_eq_false_iff_eq.mpr c11
      clear c11
      simp only [Option.some.injEq, Prod.mk.injEq] at H
      obtain ⟨rfl, rfl, rfl, rfl, rfl⟩ := H
      go_wp2
      repeat (go_quiet (fail); try go_wp2)
      go_ret2
      exact ⟨rW, bI, bH, bK⟩
     ·rw [if_neg c11] at H
      have c11b0 := beq_eq_false_iff_ne.mpr c11
      have c11b1 := bne_iff_ne.mpr c11
      by_cases c12 : (wrap64 (t452 - 1)) = 0
      ·rw [if_pos c12] at H
       exact absurd H (by simp)
      ·rw [if_neg c12] at H
       have c12b0 := beq_eq_false_iff_ne.mpr c12
       have c12b1 := bne_iff_ne.mpr c12
       obtain ⟨c13, H⟩ := iE H
       have c13b0 := decide_eq_true c13
       clear c13
       obtain ⟨c14, H⟩ := iE H
       have c14b0 := decide_eq_true c14
       clear c14
       obtain ⟨ji15, hji15⟩ : ∃ j_ : Int, (Int.tmod (wrap64 ((rd s0_5 t449) * (Int.tmod (wrap64 ((Int.tmod a2 (wrap64 (t452 - 1))) + (wrap64 (t452 - 1)))) (wrap64 (t452 - 1))))) (wrap64 (t452 - 1))) = j_ := ⟨_, rfl⟩
       replace H : (if 0 ≤ (ji15) then (if (ji15) < (s0_4.length : Int) then (some (rd s0_4 (ji15), 0, t450, t451, t452)) else (none)) else (none)) = some (r1, r2, r3, r4, r5) := by first | (rw [hji15] at H; exact H) | (simp only [hji15] at H ⊢; exact H)
       obtain ⟨c16, H⟩ := iE H
       have c16b0 := decide_eq_true c16
       clear c16
       obtain ⟨c17, H⟩ := iE H
       have c17b0 := decide_eq_true c17
       clear c17
       simp only [Option.some.injEq, Prod.mk.injEq] at H
       obtain ⟨rfl, rfl, rfl, rfl, rfl⟩ := H
       obtain ⟨ASz18_2, cSz18_2, ASz18_4, cSz18_4, ASz18_5, cSz18_5, HSz18_2, HSz18_4, HSz18_5, hcz18_0, hcz18_1, hcz18_2, hcz18_3, hcz18_4, hcz18_5, hfz18_0, hfz18_1, hfz18_3⟩ := oI HI0.out
       have p453 : 0 ≤ (t449 : Int) := dT
       have q453 : t449 < (s0_5.length : Int) := dT
       obtain ⟨ad453, e453, hx453_0⟩ := Kd.at_int HSz18_5 t449 p453 q453
       cases e453
       replace hx453_0 := pw_cell_below HB.out hx453_0
       replace p453 := eq_true p453
       replace q453 := eq_true q453
       have p454 : 0 ≤ ((ji15) : Int) := dT
       have q454 : (ji15) < (s0_4.length : Int) := dT
       obtain ⟨ad454, e454, hx454_0⟩ := Kd.at_int HSz18_4 (ji15) p454 q454
       cases e454
       replace hx454_0 := pw_cell_below HB.out hx454_0
       replace p454 := eq_true p454
       replace q454 := eq_true q454
       go_wp2
       repeat (go_quiet (fail); try go_wp2)
       go_ret2
       exact ⟨by first | rfl | (simp [errW_none, errW_some] <;> rfl) | (simp only [← hji15]; first | rfl | (simp [errW_none, errW_some] <;> rfl)) | (simp [*, errW_none, errW_some] <;> rfl), bI, bH, bK⟩
def r5_Eval.l0 : Nat → List Int → Int → Int → Int → Int → Int → Int → List Int → Option (Int)
 | 0, _, _, _, _, _, _, _, _ => none
 | k + 1, x1, x2, x7, x8, x9, x458000, x458001, x458002 => if x9 < (x1.length : Int) then (if 0 ≤ x9 then ((r4_Mul.f k x458000 x458001 x458002 (rd x1 x9) x8).bind fun t459 => ((r4_Add.f k x458000 x458001 x458002 x7 t459).bind fun t460 => ((r4_Mul.f k x458000 x458001 x458002 x8 x2).bind fun t461 => (r5_Eval.l0 k x1 x2 t460 t461 (wrap64 (x9 + 1)) x458000 x458001 x458002)))) else (none)) else (some x7)
def r5_Eval.f (k : Nat) (a0_0 : Int) (a0_1 : Int) (l0_2 : List Int) (l1 : List Int) (a2 : Int) : Option (Int) := r5_Eval.l0 k l1 a2 0 1 0 a0_0 a0_1 l0_2
def r5_Eval.T6 : Bool × List (List Nat × List Nat) := (true, [([], []), ([], []), ([], []), ([], []), ([], []), ([3, 4], [3, 4]), ([5], [5]), ([], []), ([2, 6, 7], [2, 6, 7]), ([0, 1, 8, 8], [0, 1, 8]), ([9, 9, 0, 1, 2, 3, 4, 5, 6, 7, 8, 9], [1, 9])])
def r5_Eval.B6 : List Nat := [0, 0, 0, 0, 0, 24, 56, 0, 252, 511, 1023]
theorem r5_Eval.tab6 : rtab .any (opsOf Try.f83 6) = r5_Eval.T6 := by kernel_rfl
theorem r5_Eval.bits6 : waitsOk r5_Eval.T6.2 r5_Eval.B6 = true := by kernel_rfl
theorem r5_Eval.calls (k : Nat) (a0_0 : Int) (a0_1 : Int) (A0_2 : Option Addr) (c0_2 : Nat) (l0_2 : List Int) (A1 : Option Addr) (c1 : Nat) (l1 : List Int) (a2 : Int) (r : Int) (w : World) (hr0_2 : Kd.C (Kd.int .i64) w A0_2 l0_2.length l0_2) (hc0_2 : l0_2.length ≤ c0_2) (hr1 : Kd.C (Kd.int .i64) w A1 l1.length l1) (hc1 : l1.length ≤ c1) (h : r5_Eval.f k a0_0 a0_1 l0_2 l1 a2 = some r) :
  Calls Try.prog 83 #[.agg #[.int .i64 a0_0, .int .i64 a0_1, .slice A0_2 l0_2.length c0_2], .slice A1 l1.length c1, .int .i64 a2] w fun e w' => e = .returned (.int .i64 r) ∧ Below w.heap.size w w' := by
 have hu36 := Try.underlying36
 have HR0_2 := Aside0.mk hr0_2
 have HC0_2 := Aside0.mk hc0_2
 clear hr0_2 hc0_2
 have HR1 := Aside0.mk hr1
 have HC1 := Aside0.mk hc1
 clear hr1 hc1
 have HB := Aside0.mk (Below.refl w.heap.size w)
 have H := h
 clear h
 unfold r5_Eval.f at H
 have H' := Aside0.mk H
 clear H
 go_enter Try.func83, Try.ntmps83
 go_wp2_with (refine bz 3 #[.int .i64 a0_0, .int .i64 a0_1, .slice A0_2 l0_2.length c0_2] 36 ?_; clear HB; intro gb457 w4 BK457 GW457 GE457 HB)
 go_loopg [7, 8, 9] k (fun kq v7 v8 v9 w' => ∃ (x7_1 : Int) (x8_1 : Int) (x9_1 : Int), v7 = .int .i64 x7_1 ∧ v8 = .int .i64 x8_1 ∧ v9 = .int .i64 x9_1 ∧ Aside0 (r5_Eval.l0 kq l1 a2 x7_1 x8_1 x9_1 a0_0 a0_1 l0_2 = some r) ∧ Aside0 (kq ≤ k) ∧ Aside0 (w'.heap[gb457]? = some (.cells #[.int .i64 a0_0, .int .i64 a0_1, (.slice A0_2 l0_2.length c0_2)] 36 (0, 0))) ∧ Aside0 (Below w.heap.size w w'))
 case atStart => exact ⟨(0), (1), (0), rX, rX, rX, H', ⟨Nat.le_refl _⟩, ⟨kk BK457⟩, ⟨bw⟩⟩
 case round =>
  clear H'
  obtain ⟨x7_1, x8_1, x9_1, rfl, rfl, rfl, HA, HK1, BK457, HB⟩ := hrel
  cases gk with
  | zero => exact absurd HA.out (by simp [r5_Eval.l0])
  | succ k1 =>
   have H := HA.out
   clear HA
   simp only [r5_Eval.l0] at H
   by_cases c5 : x9_1 < (l1.length : Int)
   ·rw [if_pos c5] at H
    have c5b0 := decide_eq_true c5
    clear c5
    obtain ⟨c6, H⟩ := iE H
    have c6b0 := decide_eq_true c6
    clear c6
    obtain ⟨t459, A7, H⟩ := bE H
    obtain ⟨t460, A8, H⟩ := bE H
    obtain ⟨t461, A9, H⟩ := bE H
    have H' := Aside0.mk H
    clear H
    try go_wp2
    replace BK457 := Aside0.mk (blk_drew BK457.out)
    replace HB := Aside0.mk (below_drew1 HB.out)
    have p458 : 0 ≤ (x9_1 : Int) := dT
    have q458 : x9_1 < (l1.length : Int) := dT
    obtain ⟨ad458, e458, hx458_0⟩ := Kd.at_int HR1.out x9_1 p458 q458
    have hw458_0 := hx458_0
    cases e458
    replace hx458_0 := cw HB hx458_0
    replace p458 := eq_true p458
    replace q458 := eq_true q458
    refine start_ (n := 11) (S := fun w' => w'.cell? ⟨gb457, 0, none⟩ = some (.int .i64 a0_0) ∧ w'.cell? ⟨gb457, 1, none⟩ = some (.int .i64 a0_1) ∧ w'.cell? ⟨gb457, 2, none⟩ = some (.slice A0_2 l0_2.length c0_2) ∧ w'.cell? (ad458.add (x9_1).toNat) = some (.int .i64 (rd l1 x9_1))) (ds := []) (bb 11 0) (by kernel_rfl) rfl rfl ⟨bc0 BK457.out, bc1 BK457.out, bc2 BK457.out, (cw HB hw458_0)⟩ (fun hHeld => ?_); refine with_tabW r5_Eval.tab6 r5_Eval.bits6 (fun HT_ HW_ => ?_)
    generalize wr.drew = w10 at BK457 HB hx458_0 hHeld ⊢
    refine pq HT_ 1 17 (bb 11 2) ?_
    refine pq HT_ 3 19 (bb 11 10) ?_
    refine pq HT_ 4 20 (bb 11 26) ?_
    refine pq HT_ 5 21 (bb 11 58) ?_
    refine pq HT_ 7 23 (bb 11 186) ?_
    refine tq HT_ HW_ hHeld 0 16 (bb 11 187) ?_
    refine tq HT_ HW_ hHeld 2 18 (bb 11 191) ?_
    refine tq HT_ HW_ hHeld 6 22 (bb 11 255) ?_
    refine oq HT_ 8 (some 24) (bb 11 511) (fun K hK => ?_)
    refine gq Try.func70 #[.agg #[.int .i64 a0_0, .int .i64 a0_1, .slice A0_2 l0_2.length c0_2], .int .i64 (rd l1 x9_1), .int .i64 x8_1] ?_
    with_reducible refine (r4_Mul.calls k1 a0_0 a0_1 _ _ l0_2 (rd l1 x9_1) x8_1 t459 _ (Kd.C_below HR0_2.out bw) HC0_2.out A7.out).mono ?_
    rintro e w11 ⟨rfl, hb⟩
    refine ⟨_, rfl, ?_⟩
    replace BK457 := Aside0.mk (bkb BK457 hb)
    replace HB := Aside0.mk (below_step bw hb)
    clear hb
    refine hK.out _ _ ⟨bc0 BK457.out, bc1 BK457.out, bc2 BK457.out, (cw HB hw458_0)⟩ (fun hHeld => ?_)
    clear hK K
    refine nq 24 ?_
    refine oq HT_ 9 (some 25) (bb 11 1023) (fun K hK => ?_)
    refine gq Try.func86 #[.agg #[.int .i64 a0_0, .int .i64 a0_1, .slice A0_2 l0_2.length c0_2], .int .i64 x7_1, .int .i64 t459] ?_
    with_reducible refine (r4_Add.calls k1 a0_0 a0_1 _ _ l0_2 x7_1 t459 t460 _ (Kd.C_below HR0_2.out bw) HC0_2.out A8.out).mono ?_
    rintro e w12 ⟨rfl, hb⟩
    refine ⟨_, rfl, ?_⟩
    replace BK457 := Aside0.mk (bkb BK457 hb)
    replace HB := Aside0.mk (below_step bw hb)
    clear hb
    refine hK.out _ _ ⟨bc0 BK457.out, bc1 BK457.out, bc2 BK457.out, (cw HB hw458_0)⟩ (fun hHeld => ?_)
    clear hK K
    refine nq 25 ?_
    refine pq HT_ 10 7 (bb 11 2047) ?_
    refine dq HT_ ?_
    obtain ⟨hcz13_0, hcz13_1, hcz13_2, hfz13_0, hfz13_1, hfz13_2⟩ := bq3 BK457.out
    try go_wp2_with (refine gL 29 Try.func70 #[.agg #[.int .i64 a0_0, .int .i64 a0_1, .slice A0_2 l0_2.length c0_2], .int .i64 x8_1, .int .i64 a2] ?_; (with_reducible refine (r4_Mul.calls k1 a0_0 a0_1 _ _ l0_2 x8_1 a2 t461 _ (Kd.C_below HR0_2.out bw) HC0_2.out A9.out).mono ?_); rintro e w14 ⟨rfl, hb⟩; refine ⟨_, rfl, ?_⟩; replace BK457 := Aside0.mk (bkb BK457 hb); replace HB := Aside0.mk (below_step bw hb); (try clear hb))
    go_roundg k1
    case measure => have := HK1.out; omega
    case rel => exact ⟨(t460), (t461), (wrap64 (x9_1 + 1)), rX, rX, rX, H', mK, ⟨kk BK457⟩, ⟨bw⟩⟩
   ·rw [if_neg c5] at H
    have c5b0 := decide_eq_false c5
    clear c5
    obtain rfl := Option.some.inj H
    go_wp2
    go_ret
    exact ⟨rW, bw⟩
mutual
def r7_Embed.j1 : Nat → Int → List Int → Int → Int → Int → List Int → Int → Int → List Int → Option (List Int)
 | 0, _, _, _, _, _, _, _, _, _ => none
 | k + 1, x5, x6, x8, x463000, x463001, x463002, x464000, x464001, x464002 => r7_Embed.l1 k x5 x6 x8 0 x463000 x463001 x463002 x464000 x464001 x464002
def r7_Embed.l1 : Nat → Int → List Int → Int → Int → Int → Int → List Int → Int → Int → List Int → Option (List Int)
 | 0, _, _, _, _, _, _, _, _, _, _ => none
 | k + 1, x5, x6, x8, x9, x463000, x463001, x463002, x464000, x464001, x464002 => if x9 < x5 then ((r4_Digits.f k x463000 x463001 x463002 x9).bind fun t478 => ((r5_Eval.f k x464000 x464001 x464002 t478 x8).bind fun t481 => (if 0 ≤ x9 then (if x9 < (x6.length : Int) then (r7_Embed.l1 k x5 (x6.set (x9 : Int).toNat t481) x8 (wrap64 (x9 + 1)) x463000 x463001 x463002 x464000 x464001 x464002) else (none)) else (none)))) else (some x6)
def r7_Embed.l0 : Nat → Int → List Int → List Int → Int → Int → Int → List Int → Int → Int → List Int → Option (List Int)
 | 0, _, _, _, _, _, _, _, _, _, _ => none
 | k + 1, x5, x6, x7, x8, x463000, x463001, x463002, x464000, x464001, x464002 => if x463001 > 1 then ((r5_Eval.f k x464000 x464001 x464002 x7 x8).bind fun t477 => (if t477 = 0 then (r7_Embed.j1 k x5 x6 x8 x463000 x463001 x463002 x464000 x464001 x464002) else (r7_Embed.l0 k x5 x6 x7 (wrap64 (x8 + 1)) x463000 x463001 x463002 x464000 x464001 x464002))) else (r7_Embed.j1 k x5 x6 x8 x463000 x463001 x463002 x464000 x464001 x464002)
end
def r7_Embed.f (k : Nat) (a0_0 : Int) (a0_1 : Int) (l0_2 : List Int) (a1_0 : Int) (a1_1 : Int) (l1_2 : List Int) : Option (List Int) := (r4_Order.f k a0_0 a0_1 l0_2).bind fun t464 => (if 0 ≤ t464 then (if (t464 : Int).toNat ≤ 35184372088832 then ((some (([] : List Int) : List Int)).bind fun y468 => (if y468.length + l0_2.length < 17592186044416 then ((some (y468 ++ l0_2 : List Int)).bind fun y471 => (if y471.length < 17592186044416 then (r7_Embed.l0 k t464 (List.replicate (t464 : Int).toNat 0) (y471 ++ [1]) 0 a0_0 a0_1 l0_2 a1_0 a1_1 l1_2) else (none))) else (none))) else (none)) else (none))
def r7_Embed.T10 : Bool × List (List Nat × List Nat) := (true, [([], []), ([], []), ([], []), ([], []), ([], []), ([3, 4], [3, 4]), ([], []), ([2, 5, 6, 5], [2, 5, 6]), ([0, 1, 0, 1, 2, 3, 4, 5, 6, 7], [0, 1]), ([8, 7, 7, 0, 1, 2, 3, 4, 5, 6, 7], [7, 8])])
def r7_Embed.B10 : List Nat := [0, 0, 0, 0, 0, 24, 0, 124, 255, 511]
theorem r7_Embed.tab10 : rtab .any (opsOf Try.f57 10) = r7_Embed.T10 := by kernel_rfl
theorem r7_Embed.bits10 : waitsOk r7_Embed.T10.2 r7_Embed.B10 = true := by kernel_rfl
theorem r7_Embed.calls (k : Nat) (a0_0 : Int) (a0_1 : Int) (A0_2 : Option Addr) (c0_2 : Nat) (l0_2 : List Int) (a1_0 : Int) (a1_1 : Int) (A1_2 : Option Addr) (c1_2 : Nat) (l1_2 : List Int) (r : List Int) (w : World) (hr0_2 : Kd.C (Kd.int .i64) w A0_2 l0_2.length l0_2) (hc0_2 : l0_2.length ≤ c0_2) (hr1_2 : Kd.C (Kd.int .i64) w A1_2 l1_2.length l1_2) (hc1_2 : l1_2.length ≤ c1_2) (h : r7_Embed.f k a0_0 a0_1 l0_2 a1_0 a1_1 l1_2 = some r) :
  Calls Try.prog 57 #[.agg #[.int .i64 a0_0, .int .i64 a0_1, .slice A0_2 l0_2.length c0_2], .agg #[.int .i64 a1_0, .int .i64 a1_1, .slice A1_2 l1_2.length c1_2]] w fun e w' => ∃ v0_ : Value, e = .returned (v0_) ∧ Kd.R (Kd.int .i64) 3 w' w.heap.size (fun _ => True) v0_ r ∧ Below w.heap.size w w' := by
 have hu36 := Try.underlying36
 have HR0_2 := Aside0.mk hr0_2
 have HC0_2 := Aside0.mk hc0_2
 clear hr0_2 hc0_2
 have HR1_2 := Aside0.mk hr1_2
 have HC1_2 := Aside0.mk hc1_2
 clear hr1_2 hc1_2
 have HB := Aside0.mk (Below.refl w.heap.size w)
 have H := h
 clear h
 unfold r7_Embed.f at H
 obtain ⟨t464, A3, H⟩ := bE H
 obtain ⟨c4, H⟩ := iE H
 have c4b0 := eq_true c4
 have c4b1 := decide_eq_true c4
 clear c4
 obtain ⟨c5, H⟩ := iE H
 have c5b0 := eq_true c5
 have c5b1 := decide_eq_true c5
 clear c5
 obtain ⟨y465, hy465⟩ : ∃ y_ : List Int, y_ = (List.replicate (t464 : Int).toNat 0) := ⟨_, rfl⟩
 (try rw [Option.bind_some] at H); (try rw [← hy465] at H)
 have Ny465 := Aside0.mk hy465
 clear hy465
 obtain ⟨y468, hy468⟩ : ∃ y_ : List Int, y_ = (([] : List Int)) := ⟨_, rfl⟩
 replace H : (if y468.length + l0_2.length < 17592186044416 then ((some (y468 ++ l0_2 : List Int)).bind fun y471 => (if y471.length < 17592186044416 then (r7_Embed.l0 k t464 y465 (y471 ++ [1]) 0 a0_0 a0_1 l0_2 a1_0 a1_1 l1_2) else (none))) else (none)) = some r := by first | (rw [hy468]; with_reducible exact H) | (have H2_ := (Option.bind_some _ _).symm.trans H; rw [hy468]; with_reducible exact H2_) | (have H2_ := (Option.bind_some _ _).symm.trans H; with_reducible exact H2_) | with_reducible exact H | (rw [hy468]; exact H) | exact H
 have Ny468 := Aside0.mk hy468
 clear hy468
 obtain ⟨c6, H⟩ := iE H
 have LMc6 := Aside0.mk c6
 clear c6
 obtain ⟨y471, hy471⟩ : ∃ y_ : List Int, y_ = (y468 ++ l0_2) := ⟨_, rfl⟩
 replace H : (if y471.length < 17592186044416 then (r7_Embed.l0 k t464 y465 (y471 ++ [1]) 0 a0_0 a0_1 l0_2 a1_0 a1_1 l1_2) else (none)) = some r := by first | (rw [hy471]; with_reducible exact H) | (have H2_ := (Option.bind_some _ _).symm.trans H; rw [hy471]; with_reducible exact H2_) | (have H2_ := (Option.bind_some _ _).symm.trans H; with_reducible exact H2_) | with_reducible exact H | (rw [hy471]; exact H) | exact H
 have Ny471 := Aside0.mk hy471
 clear hy471
 obtain ⟨c7, H⟩ := iE H
 have LMc7 := Aside0.mk c7
 clear c7
 obtain ⟨y474, hy474⟩ : ∃ y_ : List Int, y_ = (y471 ++ [1]) := ⟨_, rfl⟩
 replace H : (r7_Embed.l0 k t464 y465 y474 0 a0_0 a0_1 l0_2 a1_0 a1_1 l1_2) = some r := by first | (rw [hy474]; with_reducible exact H) | (have H2_ := (Option.bind_some _ _).symm.trans H; rw [hy474]; with_reducible exact H2_) | (have H2_ := (Option.bind_some _ _).symm.trans H; with_reducible exact H2_) | with_reducible exact H | (rw [hy474]; exact H) | exact H
 have Ny474 := Aside0.mk hy474
 clear hy474
 have HC8 := Aside0.mk H
 clear H
 go_enter Try.func57, Try.ntmps57
 go_upto_block 0 with (first | (refine bz 2 #[.int .i64 a0_0, .int .i64 a0_1, .slice A0_2 l0_2.length c0_2] 36 ?_; clear HB; intro gb462 w9 BK462 GW462 GE462 HB) | (refine bx 3 #[.int .i64 a1_0, .int .i64 a1_1, .slice A1_2 l1_2.length c1_2] 36 ?_; intro gb463 hg w10 hbox hb; have BK463 := Aside0.mk (hbox); have GW463 := Aside0.mk ((by rw [hg]; exact (below_size bw) : w.heap.size ≤ gb463)); have GE463 := Aside0.mk ((by rw [hg]; exact (below_size bw) : w.heap.size ≤ gb463)); replace HB := Aside0.mk (below_step bw hb); have NB462_463 := Aside0.mk ((by rw [hg]; exact Nat.ne_of_lt (blk_lt (g := gb462) (o := .cells #[.int .i64 a0_0, .int .i64 a0_1, .slice A0_2 l0_2.length c0_2] 36 (0, 0)) (kk BK462)) : gb462 ≠ gb463)); have NB463_462 := Aside0.mk ((by rw [hg]; exact Nat.ne_of_gt (blk_lt (g := gb462) (o := .cells #[.int .i64 a0_0, .int .i64 a0_1, .slice A0_2 l0_2.length c0_2] 36 (0, 0)) (kk BK462)) : gb463 ≠ gb462)); replace BK462 := Aside0.mk (bkb BK462 hb); clear hb hbox hg; have hnb11 := NB462_463.out; have hnc11 := NB463_462.out; obtain ⟨hcz12_0, hcz12_1, hcz12_2, hfz12_0, hfz12_1, hfz12_2⟩ := bq3 BK462.out) | (refine gL 11 Try.func41 #[.agg #[.int .i64 a0_0, .int .i64 a0_1, .slice A0_2 l0_2.length c0_2]] ?_; (with_reducible refine (r4_Order.calls k a0_0 a0_1 _ _ l0_2 t464 _ (Kd.C_below HR0_2.out bw) HC0_2.out A3.out).mono ?_); rintro e w13 ⟨rfl, hb⟩; refine ⟨_, rfl, ?_⟩; replace BK462 := Aside0.mk (bkb BK462 hb); replace BK463 := Aside0.mk (bkb BK463 hb); replace HB := Aside0.mk (below_step bw hb); (try clear hb)) | ((with_reducible refine gate_dst (N := 13) rfl ?_); refine Kd.R_make (Kd.int .i64) _ 3 rfl (N := 13) rfl 22 _ _ rfl t464 rfl rfl Try.underlying22 (.int .i64 0) 8 info3 rfl (by decide) (by omega) 0 (ok := fun _ => True) (okp := fun _ => True) rfl (fun _ hk => hk) trivial (dT) (Nat.le_trans (Nat.mul_le_mul_right _ (dT : t464.toNat ≤ 35184372088832)) (by omega)) (Below.refl _ _) (Nat.le_refl _) ?_; intro v466 w14 ho15 hb hg_ hnew_; clear hg_ hnew_; (first | rw [← Ny465.out] at ho15 | (simp only [Int.reduceToNat] at ho15; rw [← Ny465.out] at ho15)); have HO467 := Aside0.mk (Kd.R_lower ho15 (below_size bw)); replace BK462 := Aside0.mk (bkb BK462 hb); replace BK463 := Aside0.mk (bkb BK463 hb); replace HB := Aside0.mk (below_step bw hb); clear hb ho15) | ((with_reducible refine gate_dst (N := 14) rfl ?_); refine Kd.R_lit (Kd.int .i64) _ 3 ?hg (N := 14) ?hd (xs := ([] : List Int)) (inner := []) (ok := fun _ => True) (okp := fun _ => True) ?hr ?hp (fun _ hk => hk) trivial (Below.refl _ _) (Nat.le_refl _) (by simp) ?_; (case hd => rfl); (case hg => rfl); (case hr => first | (go_simp; done) | (go_simp; rfl)); (case hp => exact (Reps.none _ _)); intro v469 w16 ho17 hb hg_ hnew_; clear hg_ hnew_; (first | rw [← Ny468.out] at ho17 | (simp only [Int.reduceToNat] at ho17; rw [← Ny468.out] at ho17)); have HO470 := Aside0.mk (Kd.R_lower (Kd.R_new' ho17 (Kd.R_lt (rR HO467))) (below_size bw)); replace HO467 := Aside0.mk (Kd.R_elder' (rR HO467) (Kd.R_base ho17) hb); replace BK462 := Aside0.mk (bkb BK462 hb); replace BK463 := Aside0.mk (bkb BK463 hb); replace HB := Aside0.mk (below_step bw hb); clear hb ho17; obtain ⟨hcz18_0, hcz18_1, hcz18_2, hfz18_0, hfz18_1, hfz18_2⟩ := bq3 BK462.out) | ((with_reducible refine gate_builtin (b := .append) (xs := #[.tmp 14, .tmp 16]) rfl ?_); at_builtin; refine Kd.R_append_rows (Kd.int .i64) (w0 := w) w.heap.size rfl (.tmp 14) (.tmp 16) 22 3 (.int .i64 0) 8 rfl Try.underlying22 info3 rfl (by decide) (by omega) v469 y468 l0_2 _ _ _ (fun k_ => some k_ ≠ (v466 : Value).ownBlock) (fun _ => False) rfl rfl ?aO ?aR (fun _ _ h => h) (fun _ h => h.elim) ?aF ?aB ?aS ?aL ?_; (case aR => repeat (first | exact (Kd.C_below HR0_2.out HB.out) | (with_reducible refine Kd.C_alloc ?_ _) | (with_reducible refine Kd.C_drewN ?_ _) | (with_reducible refine Kd.C_drew ?_))); (case aB => exact bw); (case aF => exact (fun k_ hk => Kd.fresh' (Kd.R_lt (rR HO467)) k_ hk)); (case aO => exact (by (with_reducible repeat (first | apply Kd.R_alloc | apply Kd.R_drewN | apply Kd.R_drew)); exact Kd.R_mono HO470.out (fun _ hk => hk.2))); (case aS => exact (below_size bw)); (case aL => have := LMc6.out; omega); intro v472 w19 ho hb hg hat; rw [← Ny471.out] at ho; replace BK462 := Aside0.mk (blk_grown (g := gb462) (o := .cells #[.int .i64 a0_0, .int .i64 a0_1, .slice A0_2 l0_2.length c0_2] 36 (0, 0)) (kk BK462) hg (Kd.R_ne HO470.out BK462.out (by decide))); replace BK463 := Aside0.mk (blk_grown (g := gb463) (o := .cells #[.int .i64 a1_0, .int .i64 a1_1, .slice A1_2 l1_2.length c1_2] 36 (0, 0)) (kk BK463) hg (Kd.R_ne HO470.out BK463.out (by decide))); replace HO467 := Aside0.mk (Kd.R_after (ok := (fun _ => True)) (rR HO467) hg hat); replace HB := Aside0.mk hb; have HO473 := Aside0.mk (ho); clear HO470; clear ho hb hg hat) | ((with_reducible refine gate_builtin (b := .append) (xs := #[.tmp 17, .tmp 18]) rfl ?_); at_builtin; refine Kd.R_append (Kd.int .i64) (w0 := w) w.heap.size rfl (.tmp 17) (.tmp 18) 22 3 (.int .i64 0) 8 rfl Try.underlying22 info3 rfl (by decide) (by omega) v472 y471 1 [.int .i64 1] (fun k_ => some k_ ≠ (v466 : Value).ownBlock) (fun _ => False) rfl rfl ?aP (fun _ hk => hk.elim) ?aF ?aO ?aB ?aS ?aL ?_; (case aP => exact rfl); (case aB => exact bw); (case aF => exact (fun k_ hk => Kd.fresh' (Kd.R_lt (rR HO467)) k_ hk)); (case aO => exact (rR HO473)); (case aS => exact (below_size bw)); (case aL => have := LMc7.out; omega); intro v475 w20 ho hb hg hat; rw [← Ny474.out] at ho; replace BK462 := Aside0.mk (blk_grown (g := gb462) (o := .cells #[.int .i64 a0_0, .int .i64 a0_1, .slice A0_2 l0_2.length c0_2] 36 (0, 0)) (kk BK462) hg (Kd.R_ne HO473.out BK462.out (by decide))); replace BK463 := Aside0.mk (blk_grown (g := gb463) (o := .cells #[.int .i64 a1_0, .int .i64 a1_1, .slice A1_2 l1_2.length c1_2] 36 (0, 0)) (kk BK463) hg (Kd.R_ne HO473.out BK463.out (by decide))); replace HO467 := Aside0.mk (Kd.R_after (ok := (fun _ => True)) (rR HO467) hg hat); replace HB := Aside0.mk hb; have HO476 := Aside0.mk (ho); clear HO473; clear ho hb hg hat))
 (try simp only [Act.put, List.setIfInBounds_toArray, List.set_cons_zero, List.set_cons_succ])
 go_cut [8] (fun v8 wc => ∃ (kq : Nat) (x8_7 : Int), v8 = .int .i64 x8_7 ∧ Aside0 (r7_Embed.j1 kq t464 y465 x8_7 a0_0 a0_1 l0_2 a1_0 a1_1 l1_2 = some r) ∧ Aside0 (kq ≤ k) ∧ Aside0 (Kd.R (Kd.int .i64) 3 wc w.heap.size (fun _ => True) v466 y465) ∧ Aside0 (wc.heap[gb462]? = some (.cells #[.int .i64 a0_0, .int .i64 a0_1, (.slice A0_2 l0_2.length c0_2)] 36 (0, 0))) ∧ Aside0 (wc.heap[gb463]? = some (.cells #[.int .i64 a1_0, .int .i64 a1_1, (.slice A1_2 l1_2.length c1_2)] 36 (0, 0))) ∧ Aside0 (Below w.heap.size w wc))
 case first =>
  have H := HC8.out
  clear HC8
  have H' := Aside0.mk H
  clear H
  go_wp2
  go_loopg [8] k (fun kq v8 w' => ∃ (x8_1 : Int), v8 = .int .i64 x8_1 ∧ Aside0 (r7_Embed.l0 kq t464 y465 y474 x8_1 a0_0 a0_1 l0_2 a1_0 a1_1 l1_2 = some r) ∧ Aside0 (kq ≤ k) ∧ Aside0 (Kd.R (Kd.int .i64) 3 w' w.heap.size (fun k_ => some k_ ≠ (v475 : Value).ownBlock) v466 y465) ∧ Aside0 (Kd.R (Kd.int .i64) 3 w' w.heap.size (fun k_ => some k_ ≠ (v466 : Value).ownBlock) v475 y474) ∧ Aside0 (w'.heap[gb462]? = some (.cells #[.int .i64 a0_0, .int .i64 a0_1, (.slice A0_2 l0_2.length c0_2)] 36 (0, 0))) ∧ Aside0 (w'.heap[gb463]? = some (.cells #[.int .i64 a1_0, .int .i64 a1_1, (.slice A1_2 l1_2.length c1_2)] 36 (0, 0))) ∧ Aside0 (Below w.heap.size w w'))
  case atStart => exact ⟨(0), rX, H', ⟨Nat.le_refl _⟩, ⟨by (with_reducible repeat (first | apply Kd.R_alloc | apply Kd.R_drewN | apply Kd.R_drew)); exact Kd.R_mono HO467.out (fun _ hk => hk.2)⟩, ⟨rR HO476⟩, ⟨kk BK462⟩, ⟨kk BK463⟩, ⟨bw⟩⟩
  case round =>
   clear H' c4b0 c4b1 c5b0 c5b1 hcz12_0 hcz12_1 hcz12_2 hcz18_0 hcz18_1 hcz18_2 hfz12_0 hfz12_1 hfz12_2 hfz18_0 hfz18_1 hfz18_2
   obtain ⟨x8_1, rfl, HA, HK1, HO_6, HO_7, BK462, BK463, HB⟩ := hrel
   cases gk with
   | zero => exact absurd HA.out (by simp [r7_Embed.l0])
   | succ k1 =>
    have H := HA.out
    clear HA
    simp only [r7_Embed.l0] at H
    by_cases c21 : a0_1 > 1
    ·rw [if_pos c21] at H
     have c21b0 : decide (1 < a0_1) = true := decide_eq_true c21
     clear c21
     (first | rw [c21b0] | (simp only [i64_w, i32_w]; rw [c21b0]) | skip)
     obtain ⟨t477, A22, H⟩ := bE H
     by_cases c23 : t477 = 0
     ·rw [if_pos c23] at H
      have c23b0 := beq_iff_eq.mpr c23
      have c23b1 := bne_eq_false_iff_eq.mpr c23
      clear c23
      have H' := Aside0.mk H
      clear H
      have hnb24 := NB462_463.out
      have hnc24 := NB463_462.out
      obtain ⟨hcz25_0, hcz25_1, hcz25_2, hfz25_0, hfz25_1, hfz25_2⟩ := bq3 BK462.out
      obtain ⟨hcz26_0, hcz26_1, hcz26_2, hfz26_0, hfz26_1, hfz26_2⟩ := bq3 BK463.out
      obtain ⟨Ao27, co27, eo27⟩ := Kd.R_slice HO_7.out
      subst eo27
      go_wp2_with (go_at_call 83; (with_reducible refine (r5_Eval.calls k1 a1_0 a1_1 _ _ l1_2 _ _ y474 x8_1 t477 _ (Kd.C_below HR1_2.out bw) HC1_2.out ?side3 ((Kd.R_reads' HO_7.out).2.1) A22.out).mono ?_); (case side3 => repeat (first | exact (Kd.R_reads' HO_7.out).2.2 | (with_reducible refine Kd.C_alloc ?_ _) | (with_reducible refine Kd.C_drewN ?_ _) | (with_reducible refine Kd.C_drew ?_))); rintro e w28 ⟨rfl, hb⟩; replace HO_6 := Aside0.mk (Kd.R_below (rR HO_6) hb); replace HO_7 := Aside0.mk (Kd.R_below (rR HO_7) hb); replace BK462 := Aside0.mk (bkb BK462 hb); replace BK463 := Aside0.mk (bkb BK463 hb); replace HB := Aside0.mk (below_step bw hb); (try clear hb))
      go_meet
      case rel => exact ⟨_, (x8_1), rX, H', ⟨by have := HK1.out; first | omega | exact Nat.le_refl _⟩, ⟨by (with_reducible repeat (first | apply Kd.R_alloc | apply Kd.R_drewN | apply Kd.R_drew)); exact Kd.R_mono HO_6.out (fun _ hk => trivial)⟩, ⟨kk BK462⟩, ⟨kk BK463⟩, ⟨bw⟩⟩
     ·rw [if_neg c23] at H
      have c23b0 := beq_eq_false_iff_ne.mpr c23
      have c23b1 := bne_iff_ne.mpr c23
      have H' := Aside0.mk H
      clear H
      have hnb29 := NB462_463.out
      have hnc29 := NB463_462.out
      obtain ⟨hcz30_0, hcz30_1, hcz30_2, hfz30_0, hfz30_1, hfz30_2⟩ := bq3 BK462.out
      obtain ⟨hcz31_0, hcz31_1, hcz31_2, hfz31_0, hfz31_1, hfz31_2⟩ := bq3 BK463.out
      obtain ⟨Ao32, co32, eo32⟩ := Kd.R_slice HO_7.out
      subst eo32
      go_wp2_with (go_at_call 83; (with_reducible refine (r5_Eval.calls k1 a1_0 a1_1 _ _ l1_2 _ _ y474 x8_1 t477 _ (Kd.C_below HR1_2.out bw) HC1_2.out ?side3 ((Kd.R_reads' HO_7.out).2.1) A22.out).mono ?_); (case side3 => repeat (first | exact (Kd.R_reads' HO_7.out).2.2 | (with_reducible refine Kd.C_alloc ?_ _) | (with_reducible refine Kd.C_drewN ?_ _) | (with_reducible refine Kd.C_drew ?_))); rintro e w33 ⟨rfl, hb⟩; replace HO_6 := Aside0.mk (Kd.R_below (rR HO_6) hb); replace HO_7 := Aside0.mk (Kd.R_below (rR HO_7) hb); replace BK462 := Aside0.mk (bkb BK462 hb); replace BK463 := Aside0.mk (bkb BK463 hb); replace HB := Aside0.mk (below_step bw hb); (try clear hb))
      go_roundg k1
      case measure => have := HK1.out; omega
      case rel => exact ⟨(wrap64 (x8_1 + 1)), rX, H', mK, ⟨rR HO_6⟩, ⟨rR HO_7⟩, ⟨kk BK462⟩, ⟨kk BK463⟩, ⟨bw⟩⟩
    ·rw [if_neg c21] at H
     have c21b0 : decide (1 < a0_1) = false := decide_eq_false c21
     clear c21
     (first | rw [c21b0] | (simp only [i64_w, i32_w]; rw [c21b0]) | skip)
     have H' := Aside0.mk H
     clear H
     have hnb34 := NB462_463.out
     have hnc34 := NB463_462.out
     obtain ⟨hcz35_0, hcz35_1, hcz35_2, hfz35_0, hfz35_1, hfz35_2⟩ := bq3 BK462.out
     go_wp2
     go_meet
     case rel => exact ⟨_, (x8_1), rX, H', ⟨by have := HK1.out; first | omega | exact Nat.le_refl _⟩, ⟨by (with_reducible repeat (first | apply Kd.R_alloc | apply Kd.R_drewN | apply Kd.R_drew)); exact Kd.R_mono HO_6.out (fun _ hk => trivial)⟩, ⟨kk BK462⟩, ⟨kk BK463⟩, ⟨bw⟩⟩
 case rest =>
  clear HC8 c4b0 c4b1 c5b0 c5b1 hcz12_0 hcz12_1 hcz12_2 hcz18_0 hcz18_1 hcz18_2 hfz12_0 hfz12_1 hfz12_2 hfz18_0 hfz18_1 hfz18_2
  obtain ⟨kq, x8_7, rfl, HA, HJ7, HO_6, BK462, BK463, HB⟩ := hcut
  cases kq with
  | zero => exact absurd HA.out (by simp [r7_Embed.j1])
  | succ kj7 =>
   have H := HA.out
   clear HA
   simp only [r7_Embed.j1] at H
   have H' := Aside0.mk H
   clear H
   go_wp2
   go_loopg [9] kj7 (fun kq v9 w' => ∃ (x6_2 : List Int) (x9_2 : Int), v9 = .int .i64 x9_2 ∧ Aside0 (r7_Embed.l1 kq t464 x6_2 x8_7 x9_2 a0_0 a0_1 l0_2 a1_0 a1_1 l1_2 = some r) ∧ Aside0 (kq ≤ kj7) ∧ Aside0 (Kd.R (Kd.int .i64) 3 w' w.heap.size (fun _ => True) v466 x6_2) ∧ Aside0 (w'.heap[gb462]? = some (.cells #[.int .i64 a0_0, .int .i64 a0_1, (.slice A0_2 l0_2.length c0_2)] 36 (0, 0))) ∧ Aside0 (w'.heap[gb463]? = some (.cells #[.int .i64 a1_0, .int .i64 a1_1, (.slice A1_2 l1_2.length c1_2)] 36 (0, 0))) ∧ Aside0 (Below w.heap.size w w'))
   case atStart => exact ⟨(y465), (0), rX, H', ⟨Nat.le_refl _⟩, ⟨rR HO_6⟩, ⟨kk BK462⟩, ⟨kk BK463⟩, ⟨bw⟩⟩
   case round =>
    clear H'
    obtain ⟨x6_2, x9_2, rfl, HA, HK2, HO_6, BK462, BK463, HB⟩ := hrel
    cases gk with
    | zero => exact absurd HA.out (by simp [r7_Embed.l1])
    | succ k2 =>
     have H := HA.out
     clear HA
     simp only [r7_Embed.l1] at H
     by_cases c36 : x9_2 < t464
     ·rw [if_pos c36] at H
      have c36b0 := decide_eq_true c36
      clear c36
      obtain ⟨t478, A37, H⟩ := bE H
      obtain ⟨t481, A38, H⟩ := bE H
      obtain ⟨c39, H⟩ := iE H
      have c39b0 := decide_eq_true c39
      clear c39
      obtain ⟨c40, H⟩ := iE H
      have c40b0 := decide_eq_true c40
      clear c40
      obtain ⟨y482, hy482⟩ : ∃ y_ : List Int, y_ = (x6_2.set (x9_2 : Int).toNat t481) := ⟨_, rfl⟩
      (try rw [Option.bind_some] at H); (try rw [← hy482] at H)
      have Ny482 := Aside0.mk hy482
      clear hy482
      have H' := Aside0.mk H
      clear H
      try go_wp2
      replace HO_6 := Aside0.mk (Kd.R_drew HO_6.out)
      replace BK462 := Aside0.mk (blk_drew BK462.out)
      replace BK463 := Aside0.mk (blk_drew BK463.out)
      replace HB := Aside0.mk (below_drew1 HB.out)
      refine start_ (n := 10) (S := fun w' => w'.cell? ⟨gb463, 0, none⟩ = some (.int .i64 a1_0) ∧ w'.cell? ⟨gb463, 1, none⟩ = some (.int .i64 a1_1) ∧ w'.cell? ⟨gb463, 2, none⟩ = some (.slice A1_2 l1_2.length c1_2) ∧ w'.cell? ⟨gb462, 0, none⟩ = some (.int .i64 a0_0) ∧ w'.cell? ⟨gb462, 1, none⟩ = some (.int .i64 a0_1) ∧ w'.cell? ⟨gb462, 2, none⟩ = some (.slice A0_2 l0_2.length c0_2)) (ds := [9]) (bb 10 0) (by kernel_rfl) rfl rfl ⟨bc0 BK463.out, bc1 BK463.out, bc2 BK463.out, bc0 BK462.out, bc1 BK462.out, bc2 BK462.out⟩ (fun hHeld => ?_); refine with_tabW r7_Embed.tab10 r7_Embed.bits10 (fun HT_ HW_ => ?_)
      generalize wr.drew = w42 at HO_6 BK462 BK463 HB hHeld ⊢
      refine pq HT_ 0 37 (bb 10 1) ?_
      refine pq HT_ 1 38 (bb 10 3) ?_
      refine pq HT_ 4 41 (bb 10 19) ?_
      refine pq HT_ 6 43 (bb 10 83) ?_
      refine tq HT_ HW_ hHeld 2 39 (bb 10 87) ?_
      refine tq HT_ HW_ hHeld 3 40 (bb 10 95) ?_
      refine oq HT_ 5 (some 42) (bb 10 127) (fun K hK => ?_)
      refine gq Try.func84 #[.agg #[.int .i64 a0_0, .int .i64 a0_1, .slice A0_2 l0_2.length c0_2], .int .i64 x9_2] ?_
      with_reducible refine (r4_Digits.calls k2 a0_0 a0_1 _ _ l0_2 x9_2 t478 _ (Kd.C_below HR0_2.out bw) HC0_2.out A37.out).mono ?_
      rintro e w43 ⟨v479, rfl, ho0, hb⟩
      refine ⟨_, rfl, ?_⟩
      have HO480 := Aside0.mk (Kd.R_lower (Kd.R_new' ho0 (Kd.R_lt (rR HO_6))) (below_size bw))
      replace HO_6 := Aside0.mk (Kd.R_elder' (rR HO_6) (Kd.R_base ho0) hb)
      replace BK462 := Aside0.mk (bkb BK462 hb)
      replace BK463 := Aside0.mk (bkb BK463 hb)
      replace HB := Aside0.mk (below_step bw hb)
      clear hb ho0
      obtain ⟨Ao44, co44, eo44⟩ := Kd.R_slice HO480.out
      (first | subst eo44 | (injection eo44 with f1_ f2_ f3_; have f4_ := f1_.symm; have f5_ := f3_.symm; clear f1_ f2_ f3_; subst f4_; subst f5_))
      refine hK.out _ _ ⟨bc0 BK463.out, bc1 BK463.out, bc2 BK463.out, bc0 BK462.out, bc1 BK462.out, bc2 BK462.out⟩ (fun hHeld => ?_)
      clear hK K
      refine nq 42 ?_
      refine oq HT_ 7 (some 44) (bb 10 255) (fun K hK => ?_)
      refine gq Try.func83 #[.agg #[.int .i64 a1_0, .int .i64 a1_1, .slice A1_2 l1_2.length c1_2], .slice Ao44 t478.length co44, .int .i64 x8_7] ?_
      with_reducible refine (r5_Eval.calls k2 a1_0 a1_1 _ _ l1_2 _ _ t478 x8_7 t481 _ (Kd.C_below HR1_2.out bw) HC1_2.out ?side3 ((Kd.R_reads' HO480.out).2.1) A38.out).mono ?_
      (case side3 => repeat (first | exact (Kd.R_reads' HO480.out).2.2 | (with_reducible refine Kd.C_alloc ?_ _) | (with_reducible refine Kd.C_drewN ?_ _) | (with_reducible refine Kd.C_drew ?_)))
      rintro e w45 ⟨rfl, hb⟩
      refine ⟨_, rfl, ?_⟩
      replace HO_6 := Aside0.mk (Kd.R_below (rR HO_6) hb)
      replace HO480 := Aside0.mk (Kd.R_below (rR HO480) hb)
      replace BK462 := Aside0.mk (bkb BK462 hb)
      replace BK463 := Aside0.mk (bkb BK463 hb)
      replace HB := Aside0.mk (below_step bw hb)
      clear hb
      have p41 : 0 ≤ (x9_2 : Int) := dT
      have q41 : (x9_2 : Int) < ((x6_2.length : Int) : Int) := dT
      obtain ⟨go41, co41, eo41, gb41, gl41, cl41, HG41⟩ := Kd.R_form HO_6.out (by omega)
      (first | cases eo41 | (injection eo41 with ea_ en_ ec_; (first | subst ea_ | (injection ea_ with ea_; subst ea_)); subst ec_; clear en_))
      have GB41 := Aside0.mk gb41
      have GG41 := Aside0.mk HG41
      clear gb41 gl41 HG41
      obtain ⟨hx41_0, hf41_0⟩ := Kd.R_celln 0 HO_6.out (x9_2 : Int) p41 q41
      replace p41 := eq_true p41
      replace q41 := eq_true q41
      have HP46 := Kd.R_putn HO_6.out (x9_2 : Int) t481
      rw [← Ny482.out] at HP46
      have HQ46 := Aside0.mk HP46
      clear HP46
      refine hK.out _ _ ⟨bc0 BK463.out, bc1 BK463.out, bc2 BK463.out, bc0 BK462.out, bc1 BK462.out, bc2 BK462.out⟩ (fun hHeld => ?_)
      clear hK K
      refine nq 44 ?_
      refine pq HT_ 8 45 (bb 10 511) ?_
      refine lq HT_ 9 none (bb 10 1023) (fun K hK => ?_)
      refine skip_ (w1 := ?_) (by rfl) rfl ?_ ?_
      rotate_left
      ·go_simp
       rfl
      refine hK.out _ _ ?_
      clear hK K
      refine dq HT_ ?_
      try go_wp2
      go_roundg k2
      case measure => have := HJ7.out; have := HK2.out; omega
      case rel => exact ⟨(y482), (wrap64 (x9_2 + 1)), rX, H', ⟨by have := HJ7.out; have := HK2.out; omega⟩, ⟨by (with_reducible repeat (first | apply Kd.R_alloc | apply Kd.R_drewN | apply Kd.R_drew)); exact Kd.R_mono HQ46.out (fun _ hk => trivial)⟩, ⟨by (with_reducible repeat (first | refine blk_drewN ?_ _ | refine blk_drew ?_ | refine blk_alloc ?_ _)); refine blk_far ?_ (by have h_ := Kd.R_ne HO_6.out BK462.out (by decide); intro e_; exact h_ (by rw [e_]; rfl)) _; (with_reducible repeat (first | refine blk_drewN ?_ _ | refine blk_drew ?_ | refine blk_alloc ?_ _)); exact BK462.out⟩, ⟨by (with_reducible repeat (first | refine blk_drewN ?_ _ | refine blk_drew ?_ | refine blk_alloc ?_ _)); refine blk_far ?_ (by have h_ := Kd.R_ne HO_6.out BK463.out (by decide); intro e_; exact h_ (by rw [e_]; rfl)) _; (with_reducible repeat (first | refine blk_drewN ?_ _ | refine blk_drew ?_ | refine blk_alloc ?_ _)); exact BK463.out⟩, ⟨bw⟩⟩
     ·rw [if_neg c36] at H
      have c36b0 := decide_eq_false c36
      clear c36
      obtain rfl := Option.some.inj H
      go_wp2
      go_ret
      exact ⟨_, rW, rR HO_6, bw⟩
def r17_Mod.f (a0 : Int) (a1 : Int) : Option (Int) := if a1 = 0 then (none) else (some (Int.tmod (wrap64 ((Int.tmod a0 a1) + a1)) a1))
theorem r17_Mod.calls (a0 : Int) (a1 : Int) (r : Int) (w : World) (h : r17_Mod.f a0 a1 = some r) :
  Calls Try.prog 15 #[.int .i64 a0, .int .i64 a1] w fun e w' => e = .returned (.int .i64 r) ∧ Drawn0 w w' := by
 have H := h
 clear h
 unfold r17_Mod.f at H
 by_cases c3 : a1 = 0
 ·rw [if_pos c3] at H
  exact absurd H (by simp)
 ·rw [if_neg c3] at H
  have c3b0 := beq_eq_false_iff_ne.mpr c3
  have c3b1 := bne_iff_ne.mpr c3
  obtain rfl := Option.some.inj H
  go_enter Try.func15, Try.ntmps15
  go_wp2
  go_ret
  exact ⟨by first | rfl | (simp; done) | (simp [*]; done), by repeat (first | exact Drawn0.refl _ | apply Drawn0.step)⟩
mutual
def r4_Pow.j0 : Nat → Int → Int → Bool → Int → Int → List Int → Option (Int × Int)
 | 0, _, _, _, _, _, _ => none
 | k + 1, x1, x2, x21, x484000, x484001, x484002 => if x21 = true then (some (0, 7)) else (if x1 = 0 then (some (0, 0)) else ((r4_Order.f k x484000 x484001 x484002).bind fun t485 => (if (wrap64 (t485 - 1)) = 0 then (none) else (r4_Pow.l0 k x1 (Int.tmod (wrap64 ((Int.tmod x2 (wrap64 (t485 - 1))) + (wrap64 (t485 - 1)))) (wrap64 (t485 - 1))) 1 0 x484000 x484001 x484002))))
def r4_Pow.l0 : Nat → Int → Int → Int → Int → Int → Int → List Int → Option (Int × Int)
 | 0, _, _, _, _, _, _, _ => none
 | k + 1, x1, x2, x9, x10, x484000, x484001, x484002 => if x10 < x2 then ((r4_Mul.f k x484000 x484001 x484002 x9 x1).bind fun t486 => (r4_Pow.l0 k x1 x2 t486 (wrap64 (x10 + 1)) x484000 x484001 x484002)) else (some (x9, 0))
end
def r4_Pow.f (k : Nat) (a0_0 : Int) (a0_1 : Int) (l0_2 : List Int) (a1 : Int) (a2 : Int) : Option (Int × Int) := (r4_In.f k a0_0 a0_1 l0_2 a1).bind fun t484 => (if a2 = 0 then (some (1, 0)) else (if t484 = 0 then (r4_Pow.j0 k t484 a2 (decide (a2 < 0)) a0_0 a0_1 l0_2) else (r4_Pow.j0 k t484 a2 false a0_0 a0_1 l0_2)))
theorem r4_Pow.calls (k : Nat) (a0_0 : Int) (a0_1 : Int) (A0_2 : Option Addr) (c0_2 : Nat) (l0_2 : List Int) (a1 : Int) (a2 : Int) (r1 : Int) (r2 : Int) (w : World) (hr0_2 : Kd.C (Kd.int .i64) w A0_2 l0_2.length l0_2) (hc0_2 : l0_2.length ≤ c0_2) (h : r4_Pow.f k a0_0 a0_1 l0_2 a1 a2 = some (r1, r2)) :
  Calls Try.prog 85 #[.agg #[.int .i64 a0_0, .int .i64 a0_1, .slice A0_2 l0_2.length c0_2], .int .i64 a1, .int .i64 a2] w fun e w' => e = .returned (.tuple #[.int .i64 r1, .int .i64 r2]) ∧ Below w.heap.size w w' := by
 have hu36 := Try.underlying36
 have HR0_2 := Aside0.mk hr0_2
 have HC0_2 := Aside0.mk hc0_2
 clear hr0_2 hc0_2
 have HB := Aside0.mk (Below.refl w.heap.size w)
 have H := h
 clear h
 unfold r4_Pow.f at H
 obtain ⟨t484, A4, H⟩ := bE H
 by_cases c5 : a2 = 0
 ·rw [if_pos c5] at H
  have c5b0 := beq_iff_eq.mpr c5
  have c5b1 := bne_eq_false_iff_eq.mpr c5
  clear c5
  simp only [Option.some.injEq, Prod.mk.injEq] at H
  obtain ⟨rfl, rfl⟩ := H
  go_enter Try.func85, Try.ntmps85
  go_wp2_with (first | (refine bz 3 #[.int .i64 a0_0, .int .i64 a0_1, .slice A0_2 l0_2.length c0_2] 36 ?_; clear HB; intro gb483 w6 BK483 GW483 GE483 HB; obtain ⟨hcz7_0, hcz7_1, hcz7_2, hfz7_0, hfz7_1, hfz7_2⟩ := bq3 BK483.out) | (refine gL 13 Try.func69 #[.agg #[.int .i64 a0_0, .int .i64 a0_1, .slice A0_2 l0_2.length c0_2], .int .i64 a1] ?_; (with_reducible refine (r4_In.calls k a0_0 a0_1 _ _ l0_2 a1 t484 _ (Kd.C_below HR0_2.out bw) HC0_2.out A4.out).mono ?_); rintro e w8 ⟨rfl, hb⟩; refine ⟨_, rfl, ?_⟩; replace BK483 := Aside0.mk (bkb BK483 hb); replace HB := Aside0.mk (below_step bw hb); (try clear hb)))
  go_ret2
  exact ⟨rW, bw⟩
 ·rw [if_neg c5] at H
  have c5b0 := beq_eq_false_iff_ne.mpr c5
  have c5b1 := bne_iff_ne.mpr c5
  have HC9 := Aside0.mk H
  clear H
  go_enter Try.func85, Try.ntmps85
  go_upto_region 4 with (first | (refine bz 3 #[.int .i64 a0_0, .int .i64 a0_1, .slice A0_2 l0_2.length c0_2] 36 ?_; clear HB; intro gb483 w10 BK483 GW483 GE483 HB; obtain ⟨hcz11_0, hcz11_1, hcz11_2, hfz11_0, hfz11_1, hfz11_2⟩ := bq3 BK483.out) | (refine gL 13 Try.func69 #[.agg #[.int .i64 a0_0, .int .i64 a0_1, .slice A0_2 l0_2.length c0_2], .int .i64 a1] ?_; (with_reducible refine (r4_In.calls k a0_0 a0_1 _ _ l0_2 a1 t484 _ (Kd.C_below HR0_2.out bw) HC0_2.out A4.out).mono ?_); rintro e w12 ⟨rfl, hb⟩; refine ⟨_, rfl, ?_⟩; replace BK483 := Aside0.mk (bkb BK483 hb); replace HB := Aside0.mk (below_step bw hb); (try clear hb)))
  (try simp only [Act.put, List.setIfInBounds_toArray, List.set_cons_zero, List.set_cons_succ])
  go_cut [21] (fun v21 wc => ∃ (kq : Nat) (x21_8 : Bool), v21 = .bool x21_8 ∧ Aside0 (r4_Pow.j0 kq t484 a2 x21_8 a0_0 a0_1 l0_2 = some (r1, r2)) ∧ Aside0 (kq ≤ k) ∧ Aside0 (wc.heap[gb483]? = some (.cells #[.int .i64 a0_0, .int .i64 a0_1, (.slice A0_2 l0_2.length c0_2)] 36 (0, 0))) ∧ Aside0 (Below w.heap.size w wc))
  case first =>
   have H := HC9.out
   clear HC9
   by_cases c13 : t484 = 0
   ·rw [if_pos c13] at H
    have c13b0 := beq_iff_eq.mpr c13
    have c13b1 := bne_eq_false_iff_eq.mpr c13
    clear c13
    (first | rw [c13b0] | (simp only [i64_w, i32_w]; rw [c13b0]) | skip)
    have H' := Aside0.mk H
    clear H
    go_wp2
    go_meet
    case rel => exact ⟨_, (decide (a2 < 0)), rX, H', ⟨by first | omega | exact Nat.le_refl _⟩, ⟨kk BK483⟩, ⟨bw⟩⟩
   ·rw [if_neg c13] at H
    have c13b0 := beq_eq_false_iff_ne.mpr c13
    have c13b1 := bne_iff_ne.mpr c13
    (first | rw [c13b0] | (simp only [i64_w, i32_w]; rw [c13b0]) | skip)
    have H' := Aside0.mk H
    clear H
    go_wp2
    go_meet
    case rel => exact ⟨_, (false), rX, H', ⟨by first | omega | exact Nat.le_refl _⟩, ⟨kk BK483⟩, ⟨bw⟩⟩
  case rest =>
   clear HC9 c5 c5b0 c5b1 hcz11_0 hcz11_1 hcz11_2 hfz11_0 hfz11_1 hfz11_2
   obtain ⟨kq, x21_8, rfl, HA, HJ8, BK483, HB⟩ := hcut
   cases kq with
   | zero => exact absurd HA.out (by simp [r4_Pow.j0])
   | succ kj8 =>
    have H := HA.out
    clear HA
    simp only [r4_Pow.j0] at H
    by_cases c14 : x21_8 = true
    ·subst c14
     have H1 : (some (0, 7)) = some (r1, r2) := by rw [if_pos rfl] at H; exact H
     clear H
     have H := H1
     clear H1
     simp only [Option.some.injEq, Prod.mk.injEq] at H
     obtain ⟨rfl, rfl⟩ := H
     go_wp2
     go_ret2
     exact ⟨rW, bw⟩
    ·replace c14 := Bool.eq_false_iff.mpr c14
     subst c14
     have H1 : (if t484 = 0 then (some (0, 0)) else ((r4_Order.f kj8 a0_0 a0_1 l0_2).bind fun t485 => (if (wrap64 (t485 - 1)) = 0 then (none) else (r4_Pow.l0 kj8 t484 (Int.tmod (wrap64 ((Int.tmod a2 (wrap64 (t485 - 1))) + (wrap64 (t485 - 1)))) (wrap64 (t485 - 1))) 1 0 a0_0 a0_1 l0_2)))) = some (r1, r2) := by rw [if_neg (show ¬ (false = true) by decide)] at H; exact H
     clear H
     have H := H1
     clear H1
     by_cases c15 : t484 = 0
     ·rw [if_pos c15] at H
      have c15b0 := beq_iff_eq.mpr c15
      have c15b1 := bne_eq_false_iff_eq.mpr c15
      clear c15
      simp only [Option.some.injEq, Prod.mk.injEq] at H
      obtain ⟨rfl, rfl⟩ := H
      go_wp2
      go_ret2
      exact ⟨rW, bw⟩
     ·rw [if_neg c15] at H
      have c15b0 := beq_eq_false_iff_ne.mpr c15
      have c15b1 := bne_iff_ne.mpr c15
      obtain ⟨t485, A16, H⟩ := bE H
      by_cases c17 : (wrap64 (t485 - 1)) = 0
      ·rw [if_pos c17] at H
       exact absurd H (by simp)
      ·rw [if_neg c17] at H
       have c17b0 := beq_eq_false_iff_ne.mpr c17
       have c17b1 := bne_iff_ne.mpr c17
       have H' := Aside0.mk H
       clear H
       obtain ⟨hcz18_0, hcz18_1, hcz18_2, hfz18_0, hfz18_1, hfz18_2⟩ := bq3 BK483.out
       go_wp2_with (refine gL 25 Try.func41 #[.agg #[.int .i64 a0_0, .int .i64 a0_1, .slice A0_2 l0_2.length c0_2]] ?_; (with_reducible refine (r4_Order.calls kj8 a0_0 a0_1 _ _ l0_2 t485 _ (Kd.C_below HR0_2.out bw) HC0_2.out A16.out).mono ?_); rintro e w19 ⟨rfl, hb⟩; refine ⟨_, rfl, ?_⟩; replace BK483 := Aside0.mk (bkb BK483 hb); replace HB := Aside0.mk (below_step bw hb); (try clear hb))
       go_loopg [9, 10] kj8 (fun kq v9 v10 w' => ∃ (x9_2 : Int) (x10_2 : Int), v9 = .int .i64 x9_2 ∧ v10 = .int .i64 x10_2 ∧ Aside0 (r4_Pow.l0 kq t484 (Int.tmod (wrap64 ((Int.tmod a2 (wrap64 (t485 - 1))) + (wrap64 (t485 - 1)))) (wrap64 (t485 - 1))) x9_2 x10_2 a0_0 a0_1 l0_2 = some (r1, r2)) ∧ Aside0 (kq ≤ kj8) ∧ Aside0 (w'.heap[gb483]? = some (.cells #[.int .i64 a0_0, .int .i64 a0_1, (.slice A0_2 l0_2.length c0_2)] 36 (0, 0))) ∧ Aside0 (Below w.heap.size w w'))
       case atStart => exact ⟨(1), (0), rX, rX, H', ⟨Nat.le_refl _⟩, ⟨kk BK483⟩, ⟨bw⟩⟩
       case round =>
        clear H' c15 c15b0 c15b1 c17 c17b0 c17b1 hcz18_0 hcz18_1 hcz18_2 hfz18_0 hfz18_1 hfz18_2
        obtain ⟨x9_2, x10_2, rfl, rfl, HA, HK2, BK483, HB⟩ := hrel
        cases gk with
        | zero => exact absurd HA.out (by simp [r4_Pow.l0])
        | succ k2 =>
         have H := HA.out
         clear HA
         simp only [r4_Pow.l0] at H
         by_cases c20 : x10_2 < (Int.tmod (wrap64 ((Int.tmod a2 (wrap64 (t485 - 1))) + (wrap64 (t485 - 1)))) (wrap64 (t485 - 1)))
         ·rw [if_pos c20] at H
          have c20b0 := decide_eq_true c20
          clear c20
          obtain ⟨t486, A21, H⟩ := bE H
          have H' := Aside0.mk H
          clear H
          obtain ⟨hcz22_0, hcz22_1, hcz22_2, hfz22_0, hfz22_1, hfz22_2⟩ := bq3 BK483.out
          go_wp2_with (refine gL 42 Try.func70 #[.agg #[.int .i64 a0_0, .int .i64 a0_1, .slice A0_2 l0_2.length c0_2], .int .i64 x9_2, .int .i64 t484] ?_; (with_reducible refine (r4_Mul.calls k2 a0_0 a0_1 _ _ l0_2 x9_2 t484 t486 _ (Kd.C_below HR0_2.out bw) HC0_2.out A21.out).mono ?_); rintro e w23 ⟨rfl, hb⟩; refine ⟨_, rfl, ?_⟩; replace BK483 := Aside0.mk (bkb BK483 hb); replace HB := Aside0.mk (below_step bw hb); (try clear hb))
          go_roundg k2
          case measure => have := HJ8.out; have := HK2.out; omega
          case rel => exact ⟨(t486), (wrap64 (x10_2 + 1)), rX, rX, H', ⟨by have := HJ8.out; have := HK2.out; omega⟩, ⟨kk BK483⟩, ⟨bw⟩⟩
         ·rw [if_neg c20] at H
          have c20b0 := decide_eq_false c20
          clear c20
          simp only [Option.some.injEq, Prod.mk.injEq] at H
          obtain ⟨rfl, rfl⟩ := H
          go_wp2
          go_ret2
          exact ⟨rW, bw⟩
def r17_value.l0 : Nat → List Int → Int → List Int → Int → Int → Int → Int → Int → Int → List Int → Option (Int)
 | 0, _, _, _, _, _, _, _, _, _, _ => none
 | k + 1, x1, x3, x4, x13, x15, x16, x17, x488000, x488001, x488002 => if x17 < x3 then (if 0 ≤ x17 then (if x17 < (x4.length : Int) then (if 0 ≤ (rd x4 x17) then (if (rd x4 x17) < (x1.length : Int) then ((r4_Mul.f k x488000 x488001 x488002 (rd x1 (rd x4 x17)) x15).bind fun t493 => ((r4_Add.f k x488000 x488001 x488002 x16 t493).bind fun t494 => ((r4_Mul.f k x488000 x488001 x488002 x15 x13).bind fun t495 => (r17_value.l0 k x1 x3 x4 x13 t495 t494 (wrap64 (x17 + 1)) x488000 x488001 x488002)))) else (none)) else (none)) else (none)) else (none)) else (some x16)
def r17_value.f (k : Nat) (a0_0 : Int) (a0_1 : Int) (l0_2 : List Int) (l1 : List Int) (a2 : Int) (a3 : Int) (l4 : List Int) (a5 : Int) : Option (Int) := (r17_Mod.f a5 a3).bind fun t488 => ((r4_Pow.f k a0_0 a0_1 l0_2 a2 t488).bind fun bt489 => (r17_value.l0 k l1 a3 l4 bt489.1 1 0 0 a0_0 a0_1 l0_2))
def r17_value.T1 : Bool × List (List Nat × List Nat) := (true, [([], []), ([], []), ([], []), ([], []), ([2, 3], [2, 3]), ([0, 1, 4, 4], [0, 1, 4]), ([5], [5]), ([6], [6]), ([6], [6]), ([7, 5, 0, 1, 2, 3, 4, 5, 6, 7], [7]), ([8, 9, 0, 1, 2, 3, 4, 5, 6, 7, 8, 9], [8])])
def r17_value.B1 : List Nat := [0, 0, 0, 0, 12, 31, 63, 127, 127, 255, 1023]
theorem r17_value.tab1 : rtab .any (opsOf Try.f58 1) = r17_value.T1 := by kernel_rfl
theorem r17_value.bits1 : waitsOk r17_value.T1.2 r17_value.B1 = true := by kernel_rfl
def r17_value.T7 : Bool × List (List Nat × List Nat) := (true, [([], []), ([], []), ([], []), ([], []), ([], []), ([], []), ([4, 5], [4, 5]), ([6], [6]), ([3, 7], [3, 7]), ([8], [8]), ([], []), ([2, 9, 10], [2, 9, 10]), ([0, 1, 11, 11], [0, 1, 11]), ([12, 12, 0, 1, 2, 3, 4, 5, 6, 7, 8, 9, 10, 11, 12], [1, 12])])
def r17_value.B7 : List Nat := [0, 0, 0, 0, 0, 0, 48, 112, 248, 504, 0, 2044, 4095, 8191]
theorem r17_value.tab7 : rtab .any (opsOf Try.f58 7) = r17_value.T7 := by kernel_rfl
theorem r17_value.bits7 : waitsOk r17_value.T7.2 r17_value.B7 = true := by kernel_rfl
theorem r17_value.calls (k : Nat) (a0_0 : Int) (a0_1 : Int) (A0_2 : Option Addr) (c0_2 : Nat) (l0_2 : List Int) (A1 : Option Addr) (c1 : Nat) (l1 : List Int) (a2 : Int) (a3 : Int) (A4 : Option Addr) (c4 : Nat) (l4 : List Int) (a5 : Int) (r : Int) (w : World) (hr0_2 : Kd.C (Kd.int .i64) w A0_2 l0_2.length l0_2) (hc0_2 : l0_2.length ≤ c0_2) (hr1 : Kd.C (Kd.int .i64) w A1 l1.length l1) (hc1 : l1.length ≤ c1) (hr4 : Kd.C (Kd.int .i64) w A4 l4.length l4) (hc4 : l4.length ≤ c4) (h : r17_value.f k a0_0 a0_1 l0_2 l1 a2 a3 l4 a5 = some r) :
  Calls Try.prog 58 #[.agg #[.int .i64 a0_0, .int .i64 a0_1, .slice A0_2 l0_2.length c0_2], .slice A1 l1.length c1, .int .i64 a2, .int .i64 a3, .slice A4 l4.length c4, .int .i64 a5] w fun e w' => e = .returned (.int .i64 r) ∧ Below w.heap.size w w' := by
 have hu36 := Try.underlying36
 have HR0_2 := Aside0.mk hr0_2
 have HC0_2 := Aside0.mk hc0_2
 clear hr0_2 hc0_2
 have HR1 := Aside0.mk hr1
 have HC1 := Aside0.mk hc1
 clear hr1 hc1
 have HR4 := Aside0.mk hr4
 have HC4 := Aside0.mk hc4
 clear hr4 hc4
 have HB := Aside0.mk (Below.refl w.heap.size w)
 have H := h
 clear h
 unfold r17_value.f at H
 obtain ⟨t488, A7, H⟩ := bE H
 obtain ⟨⟨t489, t490⟩, A8, H⟩ := bE H
 (try dsimp only at H)
 have H' := Aside0.mk H
 clear H
 go_enter Try.func58, Try.ntmps58
 try go_wp2_with (refine bz 6 #[.int .i64 a0_0, .int .i64 a0_1, .slice A0_2 l0_2.length c0_2] 36 ?_; clear HB; intro gb487 w9 BK487 GW487 GE487 HB)
 replace BK487 := Aside0.mk (blk_drew BK487.out)
 replace HB := Aside0.mk (below_drew1 HB.out)
 refine start_ (n := 11) (S := fun w' => w'.cell? ⟨gb487, 0, none⟩ = some (.int .i64 a0_0) ∧ w'.cell? ⟨gb487, 1, none⟩ = some (.int .i64 a0_1) ∧ w'.cell? ⟨gb487, 2, none⟩ = some (.slice A0_2 l0_2.length c0_2)) (ds := []) (bb 11 0) (by kernel_rfl) rfl rfl ⟨bc0 BK487.out, bc1 BK487.out, bc2 BK487.out⟩ (fun hHeld => ?_); refine with_tabW r17_value.tab1 r17_value.bits1 (fun HT_ HW_ => ?_)
 generalize w9.drew = w10 at BK487 HB hHeld ⊢
 refine pq HT_ 1 20 (bb 11 2) ?_
 refine pq HT_ 2 21 (bb 11 6) ?_
 refine pq HT_ 3 22 (bb 11 14) ?_
 refine tq HT_ HW_ hHeld 0 19 (bb 11 15) ?_
 refine oq HT_ 4 (some 23) (bb 11 31) (fun K hK => ?_)
 refine gq Try.func15 #[.int .i64 a5, .int .i64 a3] ?_
 with_reducible refine (r17_Mod.calls a5 a3 t488 _ A7.out).mono ?_
 rintro e w' ⟨rfl, ⟨nd, rfl⟩⟩
 refine ⟨_, rfl, ?_⟩
 refine hK.out _ _ ⟨bc0 BK487.out, bc1 BK487.out, bc2 BK487.out⟩ (fun hHeld => ?_)
 clear hK K
 refine nq 23 ?_
 refine oq HT_ 5 (some 24) (bb 11 63) (fun K hK => ?_)
 refine gq Try.func85 #[.agg #[.int .i64 a0_0, .int .i64 a0_1, .slice A0_2 l0_2.length c0_2], .int .i64 a2, .int .i64 t488] ?_
 with_reducible refine (r4_Pow.calls k a0_0 a0_1 _ _ l0_2 a2 t488 t489 t490 _ (Kd.C_below HR0_2.out bw) HC0_2.out A8.out).mono ?_
 rintro e w11 ⟨rfl, hb⟩
 refine ⟨_, rfl, ?_⟩
 replace BK487 := Aside0.mk (bkb BK487 hb)
 replace HB := Aside0.mk (below_step bw hb)
 clear hb
 refine hK.out _ _ ⟨bc0 BK487.out, bc1 BK487.out, bc2 BK487.out⟩ (fun hHeld => ?_)
 clear hK K
 refine nq 24 ?_
 refine pq HT_ 6 18 (bb 11 127) ?_
 refine pq HT_ 7 25 (bb 11 255) ?_
 refine pq HT_ 8 26 (bb 11 511) ?_
 refine pq HT_ 9 13 (bb 11 1023) ?_
 refine pq HT_ 10 14 (bb 11 2047) ?_
 refine dq HT_ ?_
 try go_wp2
 go_loopg [15, 16, 17] k (fun kq v15 v16 v17 w' => ∃ (x15_1 : Int) (x16_1 : Int) (x17_1 : Int), v15 = .int .i64 x15_1 ∧ v16 = .int .i64 x16_1 ∧ v17 = .int .i64 x17_1 ∧ Aside0 (r17_value.l0 kq l1 a3 l4 t489 x15_1 x16_1 x17_1 a0_0 a0_1 l0_2 = some r) ∧ Aside0 (kq ≤ k) ∧ Aside0 (w'.heap[gb487]? = some (.cells #[.int .i64 a0_0, .int .i64 a0_1, (.slice A0_2 l0_2.length c0_2)] 36 (0, 0))) ∧ Aside0 (Below w.heap.size w w'))
 case atStart => exact ⟨(1), (0), (0), rX, rX, rX, H', ⟨Nat.le_refl _⟩, ⟨kk BK487⟩, ⟨bw⟩⟩
 case round =>
  clear H'
  obtain ⟨x15_1, x16_1, x17_1, rfl, rfl, rfl, HA, HK1, BK487, HB⟩ := hrel
  cases gk with
  | zero => exact absurd HA.out (by simp [r17_value.l0])
  | succ k1 =>
   have H := HA.out
   clear HA
   simp only [r17_value.l0] at H
   by_cases c12 : x17_1 < a3
   ·rw [if_pos c12] at H
    have c12b0 := decide_eq_true c12
    clear c12
    obtain ⟨c13, H⟩ := iE H
    have c13b0 := decide_eq_true c13
    clear c13
    obtain ⟨c14, H⟩ := iE H
    have c14b0 := decide_eq_true c14
    clear c14
    obtain ⟨c15, H⟩ := iE H
    have c15b0 := decide_eq_true c15
    clear c15
    obtain ⟨c16, H⟩ := iE H
    have c16b0 := decide_eq_true c16
    clear c16
    obtain ⟨t493, A17, H⟩ := bE H
    obtain ⟨t494, A18, H⟩ := bE H
    obtain ⟨t495, A19, H⟩ := bE H
    have H' := Aside0.mk H
    clear H
    try go_wp2
    replace BK487 := Aside0.mk (blk_drew BK487.out)
    replace HB := Aside0.mk (below_drew1 HB.out)
    have p491 : 0 ≤ (x17_1 : Int) := dT
    have q491 : x17_1 < (l4.length : Int) := dT
    obtain ⟨ad491, e491, hx491_0⟩ := Kd.at_int HR4.out x17_1 p491 q491
    have hw491_0 := hx491_0
    cases e491
    replace hx491_0 := cw HB hx491_0
    replace p491 := eq_true p491
    replace q491 := eq_true q491
    have p492 : 0 ≤ ((rd l4 x17_1) : Int) := dT
    have q492 : (rd l4 x17_1) < (l1.length : Int) := dT
    obtain ⟨ad492, e492, hx492_0⟩ := Kd.at_int HR1.out (rd l4 x17_1) p492 q492
    have hw492_0 := hx492_0
    cases e492
    replace hx492_0 := cw HB hx492_0
    replace p492 := eq_true p492
    replace q492 := eq_true q492
    refine start_ (n := 14) (S := fun w' => w'.cell? ⟨gb487, 0, none⟩ = some (.int .i64 a0_0) ∧ w'.cell? ⟨gb487, 1, none⟩ = some (.int .i64 a0_1) ∧ w'.cell? ⟨gb487, 2, none⟩ = some (.slice A0_2 l0_2.length c0_2) ∧ w'.cell? (ad491.add (x17_1).toNat) = some (.int .i64 (rd l4 x17_1)) ∧ w'.cell? (ad492.add ((rd l4 x17_1)).toNat) = some (.int .i64 (rd l1 (rd l4 x17_1)))) (ds := []) (bb 14 0) (by kernel_rfl) rfl rfl ⟨bc0 BK487.out, bc1 BK487.out, bc2 BK487.out, (cw HB hw491_0), (cw HB hw492_0)⟩ (fun hHeld => ?_); refine with_tabW r17_value.tab7 r17_value.bits7 (fun HT_ HW_ => ?_)
    generalize wr.drew = w20 at BK487 HB hx491_0 hx492_0 hHeld ⊢
    refine pq HT_ 1 33 (bb 14 2) ?_
    refine pq HT_ 3 35 (bb 14 10) ?_
    refine pq HT_ 4 36 (bb 14 26) ?_
    refine pq HT_ 5 37 (bb 14 58) ?_
    refine pq HT_ 6 38 (bb 14 122) ?_
    refine pq HT_ 10 42 (bb 14 1146) ?_
    refine tq HT_ HW_ hHeld 0 32 (bb 14 1147) ?_
    refine tq HT_ HW_ hHeld 2 34 (bb 14 1151) ?_
    refine tq HT_ HW_ hHeld 7 39 (bb 14 1279) ?_
    refine pq HT_ 8 40 (bb 14 1535) ?_
    refine tq HT_ HW_ hHeld 9 41 (bb 14 2047) ?_
    refine oq HT_ 11 (some 43) (bb 14 4095) (fun K hK => ?_)
    refine gq Try.func70 #[.agg #[.int .i64 a0_0, .int .i64 a0_1, .slice A0_2 l0_2.length c0_2], .int .i64 (rd l1 (rd l4 x17_1)), .int .i64 x15_1] ?_
    with_reducible refine (r4_Mul.calls k1 a0_0 a0_1 _ _ l0_2 (rd l1 (rd l4 x17_1)) x15_1 t493 _ (Kd.C_below HR0_2.out bw) HC0_2.out A17.out).mono ?_
    rintro e w21 ⟨rfl, hb⟩
    refine ⟨_, rfl, ?_⟩
    replace BK487 := Aside0.mk (bkb BK487 hb)
    replace HB := Aside0.mk (below_step bw hb)
    clear hb
    refine hK.out _ _ ⟨bc0 BK487.out, bc1 BK487.out, bc2 BK487.out, (cw HB hw491_0), (cw HB hw492_0)⟩ (fun hHeld => ?_)
    clear hK K
    refine nq 43 ?_
    refine oq HT_ 12 (some 44) (bb 14 8191) (fun K hK => ?_)
    refine gq Try.func86 #[.agg #[.int .i64 a0_0, .int .i64 a0_1, .slice A0_2 l0_2.length c0_2], .int .i64 x16_1, .int .i64 t493] ?_
    with_reducible refine (r4_Add.calls k1 a0_0 a0_1 _ _ l0_2 x16_1 t493 t494 _ (Kd.C_below HR0_2.out bw) HC0_2.out A18.out).mono ?_
    rintro e w22 ⟨rfl, hb⟩
    refine ⟨_, rfl, ?_⟩
    replace BK487 := Aside0.mk (bkb BK487 hb)
    replace HB := Aside0.mk (below_step bw hb)
    clear hb
    refine hK.out _ _ ⟨bc0 BK487.out, bc1 BK487.out, bc2 BK487.out, (cw HB hw491_0), (cw HB hw492_0)⟩ (fun hHeld => ?_)
    clear hK K
    refine nq 44 ?_
    refine pq HT_ 13 16 (bb 14 16383) ?_
    refine dq HT_ ?_
    obtain ⟨hcz23_0, hcz23_1, hcz23_2, hfz23_0, hfz23_1, hfz23_2⟩ := bq3 BK487.out
    try go_wp2_with (refine gL 48 Try.func70 #[.agg #[.int .i64 a0_0, .int .i64 a0_1, .slice A0_2 l0_2.length c0_2], .int .i64 x15_1, .int .i64 t489] ?_; (with_reducible refine (r4_Mul.calls k1 a0_0 a0_1 _ _ l0_2 x15_1 t489 t495 _ (Kd.C_below HR0_2.out bw) HC0_2.out A19.out).mono ?_); rintro e w24 ⟨rfl, hb⟩; refine ⟨_, rfl, ?_⟩; replace BK487 := Aside0.mk (bkb BK487 hb); replace HB := Aside0.mk (below_step bw hb); (try clear hb))
    go_roundg k1
    case measure => have := HK1.out; omega
    case rel => exact ⟨(t495), (t494), (wrap64 (x17_1 + 1)), rX, rX, rX, H', mK, ⟨kk BK487⟩, ⟨bw⟩⟩
   ·rw [if_neg c12] at H
    have c12b0 := decide_eq_false c12
    clear c12
    obtain rfl := Option.some.inj H
    go_wp2
    go_ret
    exact ⟨rW, bw⟩
mutual
def r17_Zeros.l0 : Nat → List Int → Int → List Int → Int → Int → Int → List Int → Int → List (List Int) → Int → Int → List Int → Option (List Int)
 | 0, _, _, _, _, _, _, _, _, _, _, _, _ => none
 | k + 1, x5, x6, x7, x8, x497000, x497001, x497002, x497003, x497004, x498000, x498001, x498002 => if x8 < x497003 then (r17_Zeros.l1 k x5 x6 x7 x8 true 0 x497000 x497001 x497002 x497003 x497004 x498000 x498001 x498002) else (some x7)
def r17_Zeros.l1 : Nat → List Int → Int → List Int → Int → Bool → Int → Int → Int → List Int → Int → List (List Int) → Int → Int → List Int → Option (List Int)
 | 0, _, _, _, _, _, _, _, _, _, _, _, _, _, _ => none
 | k + 1, x5, x6, x7, x8, x9, x10, x497000, x497001, x497002, x497003, x497004, x498000, x498001, x498002 => if x10 < (x497004.length : Int) then (if x9 = true then (if 0 ≤ x10 then ((r17_value.f k x498000 x498001 x498002 x5 x6 x497003 (rd_L1 x497004 x10) x8).bind fun t503 => (r17_Zeros.l1 k x5 x6 x7 x8 (t503 == 0) (wrap64 (x10 + 1)) x497000 x497001 x497002 x497003 x497004 x498000 x498001 x498002)) else (none)) else (r17_Zeros.l1 k x5 x6 x7 x8 false (wrap64 (x10 + 1)) x497000 x497001 x497002 x497003 x497004 x498000 x498001 x498002)) else (if x9 = true then (if x7.length < 17592186044416 then (r17_Zeros.l0 k x5 x6 (x7 ++ [x8]) (wrap64 (x8 + 1)) x497000 x497001 x497002 x497003 x497004 x498000 x498001 x498002) else (none)) else (r17_Zeros.l0 k x5 x6 x7 (wrap64 (x8 + 1)) x497000 x497001 x497002 x497003 x497004 x498000 x498001 x498002))
end
def r17_Zeros.f (k : Nat) (a0_0 : Int) (a0_1 : Int) (l0_2 : List Int) (a0_3 : Int) (l0_4 : List (List Int)) (a1_0 : Int) (a1_1 : Int) (l1_2 : List Int) : Option (List Int) := (r7_Embed.f k a0_0 a0_1 l0_2 a1_0 a1_1 l1_2).bind fun t498 => ((r17_Root.f k a1_0 a1_1 l1_2 a0_3).bind fun t501 => (r17_Zeros.l0 k t498 t501 ([] : List Int) 0 a0_0 a0_1 l0_2 a0_3 l0_4 a1_0 a1_1 l1_2))
def r17_Zeros.T11 : Bool × List (List Nat × List Nat) := (true, [([], []), ([0], [0]), ([1], [1]), ([1], [1]), ([1], [1]), ([1], [1]), ([5, 1], [1, 5]), ([1], [1]), ([7, 1], [1, 7]), ([1], [1]), ([8, 9, 1], [1, 8, 9]), ([10, 1], [1, 10]), ([1], [1]), ([2, 3, 4, 6, 11, 12, 1, 1], [1, 2, 3, 4, 6, 11, 12]), ([13, 1], [1, 13]), ([1, 14], [1, 14]), ([15, 13, 0, 1, 2, 3, 4, 5, 6, 7, 8, 9, 10, 11, 12, 13, 14, 15], [0, 15])])
def r17_Zeros.B11 : List Nat := [0, 1, 3, 3, 3, 3, 35, 3, 131, 3, 899, 1923, 3, 8191, 16383, 32767, 65535]
theorem r17_Zeros.tab11 : rtab .any (opsOf Try.f26 11) = r17_Zeros.T11 := by kernel_rfl
theorem r17_Zeros.bits11 : waitsOk r17_Zeros.T11.2 r17_Zeros.B11 = true := by kernel_rfl
theorem r17_Zeros.calls (k : Nat) (a0_0 : Int) (a0_1 : Int) (A0_2 : Option Addr) (c0_2 : Nat) (l0_2 : List Int) (a0_3 : Int) (A0_4 : Option Addr) (c0_4 : Nat) (l0_4 : List (List Int)) (a1_0 : Int) (a1_1 : Int) (A1_2 : Option Addr) (c1_2 : Nat) (l1_2 : List Int) (r : List Int) (w : World) (hr0_2 : Kd.C (Kd.int .i64) w A0_2 l0_2.length l0_2) (hc0_2 : l0_2.length ≤ c0_2) (hr0_4 : Kd.C (Kd.slice 3 (Kd.int .i64)) w A0_4 l0_4.length l0_4) (hc0_4 : l0_4.length ≤ c0_4) (hr1_2 : Kd.C (Kd.int .i64) w A1_2 l1_2.length l1_2) (hc1_2 : l1_2.length ≤ c1_2) (h : r17_Zeros.f k a0_0 a0_1 l0_2 a0_3 l0_4 a1_0 a1_1 l1_2 = some r) :
  Calls Try.prog 26 #[.agg #[.int .i64 a0_0, .int .i64 a0_1, .slice A0_2 l0_2.length c0_2, .int .i64 a0_3, .slice A0_4 l0_4.length c0_4], .agg #[.int .i64 a1_0, .int .i64 a1_1, .slice A1_2 l1_2.length c1_2]] w fun e w' => ∃ v0_ : Value, e = .returned (v0_) ∧ Kd.R (Kd.int .i64) 3 w' w.heap.size (fun _ => True) v0_ r ∧ Below w.heap.size w w' := by
 have hu49 := Try.underlying49
 have hu36 := Try.underlying36
 have HR0_2 := Aside0.mk hr0_2
 have HC0_2 := Aside0.mk hc0_2
 clear hr0_2 hc0_2
 have HR0_4 := Aside0.mk hr0_4
 have HC0_4 := Aside0.mk hc0_4
 clear hr0_4 hc0_4
 have HR1_2 := Aside0.mk hr1_2
 have HC1_2 := Aside0.mk hc1_2
 clear hr1_2 hc1_2
 have HB := Aside0.mk (Below.refl w.heap.size w)
 have H := h
 clear h
 unfold r17_Zeros.f at H
 obtain ⟨t498, A3, H⟩ := bE H
 obtain ⟨t501, A4, H⟩ := bE H
 have H' := Aside0.mk H
 clear H
 go_enter Try.func26, Try.ntmps26
 go_wp2_with (first | (refine bz 2 #[.int .i64 a0_0, .int .i64 a0_1, .slice A0_2 l0_2.length c0_2, .int .i64 a0_3, .slice A0_4 l0_4.length c0_4] 49 ?_; clear HB; intro gb496 w5 BK496 GW496 GE496 HB) | (refine bx 3 #[.int .i64 a1_0, .int .i64 a1_1, .slice A1_2 l1_2.length c1_2] 36 ?_; intro gb497 hg w6 hbox hb; have BK497 := Aside0.mk (hbox); have GW497 := Aside0.mk ((by rw [hg]; exact (below_size bw) : w.heap.size ≤ gb497)); have GE497 := Aside0.mk ((by rw [hg]; exact (below_size bw) : w.heap.size ≤ gb497)); replace HB := Aside0.mk (below_step bw hb); have NB496_497 := Aside0.mk ((by rw [hg]; exact Nat.ne_of_lt (blk_lt (g := gb496) (o := .cells #[.int .i64 a0_0, .int .i64 a0_1, .slice A0_2 l0_2.length c0_2, .int .i64 a0_3, .slice A0_4 l0_4.length c0_4] 49 (0, 0)) (kk BK496)) : gb496 ≠ gb497)); have NB497_496 := Aside0.mk ((by rw [hg]; exact Nat.ne_of_gt (blk_lt (g := gb496) (o := .cells #[.int .i64 a0_0, .int .i64 a0_1, .slice A0_2 l0_2.length c0_2, .int .i64 a0_3, .slice A0_4 l0_4.length c0_4] 49 (0, 0)) (kk BK496)) : gb497 ≠ gb496)); replace BK496 := Aside0.mk (bkb BK496 hb); clear hb hbox hg; have hnb7 := NB496_497.out; have hnc7 := NB497_496.out; obtain ⟨hcz8_0, hcz8_1, hcz8_2, hcz8_3, hcz8_4, hfz8_0, hfz8_1, hfz8_2, hfz8_3, hfz8_4⟩ := bq5 BK496.out; obtain ⟨hcz9_0, hcz9_1, hcz9_2, hfz9_0, hfz9_1, hfz9_2⟩ := bq3 BK497.out) | (refine gL 14 Try.func57 #[.agg #[.int .i64 a0_0, .int .i64 a0_1, .slice A0_2 l0_2.length c0_2], .agg #[.int .i64 a1_0, .int .i64 a1_1, .slice A1_2 l1_2.length c1_2]] ?_; (with_reducible refine (r7_Embed.calls k a0_0 a0_1 _ _ l0_2 a1_0 a1_1 _ _ l1_2 t498 _ (Kd.C_below HR0_2.out bw) HC0_2.out (Kd.C_below HR1_2.out bw) HC1_2.out A3.out).mono ?_); rintro e w10 ⟨v499, rfl, ho0, hb⟩; refine ⟨_, rfl, ?_⟩; have HO500 := Aside0.mk (Kd.R_lower ho0 (below_size bw)); replace BK496 := Aside0.mk (bkb BK496 hb); replace BK497 := Aside0.mk (bkb BK497 hb); replace HB := Aside0.mk (below_step bw hb); (try clear hb); (try clear ho0); obtain ⟨hcz11_0, hcz11_1, hcz11_2, hfz11_0, hfz11_1, hfz11_2⟩ := bq3 BK497.out; obtain ⟨hcz12_0, hcz12_1, hcz12_2, hcz12_3, hcz12_4, hfz12_0, hfz12_1, hfz12_2, hfz12_3, hfz12_4⟩ := bq5 BK496.out) | (refine gL 18 Try.func18 #[.agg #[.int .i64 a1_0, .int .i64 a1_1, .slice A1_2 l1_2.length c1_2], .int .i64 a0_3] ?_; (with_reducible refine (r17_Root.calls k a1_0 a1_1 _ _ l1_2 a0_3 t501 _ (Kd.C_below HR1_2.out bw) HC1_2.out A4.out).mono ?_); rintro e w13 ⟨rfl, hb⟩; refine ⟨_, rfl, ?_⟩; replace HO500 := Aside0.mk (Kd.R_below (rR HO500) hb); replace BK496 := Aside0.mk (bkb BK496 hb); replace BK497 := Aside0.mk (bkb BK497 hb); replace HB := Aside0.mk (below_step bw hb); (try clear hb)))
 go_loopg [7, 8] k (fun kq v7 v8 w' => ∃ (x7_1 : List Int) (x8_1 : Int), v8 = .int .i64 x8_1 ∧ Aside0 (r17_Zeros.l0 kq t498 t501 x7_1 x8_1 a0_0 a0_1 l0_2 a0_3 l0_4 a1_0 a1_1 l1_2 = some r) ∧ Aside0 (kq ≤ k) ∧ Aside0 (Kd.R (Kd.int .i64) 3 w' w.heap.size (fun k_ => some k_ ≠ (v7 : Value).ownBlock) v499 t498) ∧ Aside0 (Kd.R (Kd.int .i64) 3 w' w.heap.size (fun k_ => some k_ ≠ (v499 : Value).ownBlock) v7 x7_1) ∧ Aside0 (w'.heap[gb496]? = some (.cells #[.int .i64 a0_0, .int .i64 a0_1, (.slice A0_2 l0_2.length c0_2), .int .i64 a0_3, (.slice A0_4 l0_4.length c0_4)] 49 (0, 0))) ∧ Aside0 (w'.heap[gb497]? = some (.cells #[.int .i64 a1_0, .int .i64 a1_1, (.slice A1_2 l1_2.length c1_2)] 36 (0, 0))) ∧ Aside0 (Below w.heap.size w w'))
 case atStart => exact ⟨(([] : List Int)), (0), rX, H', ⟨Nat.le_refl _⟩, ⟨by (with_reducible repeat (first | apply Kd.R_alloc | apply Kd.R_drewN | apply Kd.R_drew)); exact Kd.R_mono HO500.out (fun _ hk => (by simp [Value.ownBlock]))⟩, ⟨by first | exact Kd.R_nil _ _ _ _ _ | exact Kd.N_nil _ _ _ _ _ | exact Kd.V_nil _ _ _ _ _ | exact Kd.Q_nil _ _ _ _ _ | exact Kd.S_nil _ _ _ _ _⟩, ⟨kk BK496⟩, ⟨kk BK497⟩, ⟨bw⟩⟩
 case round =>
  clear H' hcz11_0 hcz11_1 hcz11_2 hcz12_0 hcz12_1 hcz12_2 hcz12_3 hcz12_4 hcz8_0 hcz8_1 hcz8_2 hcz8_3 hcz8_4 hcz9_0 hcz9_1 hcz9_2 hfz11_0 hfz11_1 hfz11_2 hfz12_0 hfz12_1 hfz12_2 hfz12_3 hfz12_4 hfz8_0 hfz8_1 hfz8_2 hfz8_3 hfz8_4 hfz9_0 hfz9_1 hfz9_2
  obtain ⟨x7_1, x8_1, rfl, HA, HK1, HO_5, HO_7, BK496, BK497, HB⟩ := hrel
  cases gk with
  | zero => exact absurd HA.out (by simp [r17_Zeros.l0])
  | succ k1 =>
   have H := HA.out
   clear HA
   simp only [r17_Zeros.l0] at H
   by_cases c14 : x8_1 < a0_3
   ·rw [if_pos c14] at H
    have c14b0 := decide_eq_true c14
    clear c14
    have H' := Aside0.mk H
    clear H
    have hnb15 := NB496_497.out
    have hnc15 := NB497_496.out
    obtain ⟨hcz16_0, hcz16_1, hcz16_2, hcz16_3, hcz16_4, hfz16_0, hfz16_1, hfz16_2, hfz16_3, hfz16_4⟩ := bq5 BK496.out
    go_wp2
    go_loopg [9, 10] k1 (fun kq v9 v10 w' => ∃ (x9_2 : Bool) (x10_2 : Int), v9 = .bool x9_2 ∧ v10 = .int .i64 x10_2 ∧ Aside0 (r17_Zeros.l1 kq t498 t501 x7_1 x8_1 x9_2 x10_2 a0_0 a0_1 l0_2 a0_3 l0_4 a1_0 a1_1 l1_2 = some r) ∧ Aside0 (kq ≤ k1) ∧ Aside0 (Kd.R (Kd.int .i64) 3 w' w.heap.size (fun k_ => some k_ ≠ (u7 : Value).ownBlock) v499 t498) ∧ Aside0 (Kd.R (Kd.int .i64) 3 w' w.heap.size (fun k_ => some k_ ≠ (v499 : Value).ownBlock) u7 x7_1) ∧ Aside0 (w'.heap[gb496]? = some (.cells #[.int .i64 a0_0, .int .i64 a0_1, (.slice A0_2 l0_2.length c0_2), .int .i64 a0_3, (.slice A0_4 l0_4.length c0_4)] 49 (0, 0))) ∧ Aside0 (w'.heap[gb497]? = some (.cells #[.int .i64 a1_0, .int .i64 a1_1, (.slice A1_2 l1_2.length c1_2)] 36 (0, 0))) ∧ Aside0 (Below w.heap.size w w'))
    case atStart => exact ⟨(true), (0), rX, rX, H', ⟨Nat.le_refl _⟩, ⟨rR HO_5⟩, ⟨rR HO_7⟩, ⟨kk BK496⟩, ⟨kk BK497⟩, ⟨bw⟩⟩
    case round =>
     clear H' c14b0 hcz16_0 hcz16_1 hcz16_2 hcz16_3 hcz16_4 hfz16_0 hfz16_1 hfz16_2 hfz16_3 hfz16_4
     obtain ⟨x9_2, x10_2, rfl, rfl, HA, HK2, HO_5, HO_7, BK496, BK497, HB⟩ := hrel
     cases gk with
     | zero => exact absurd HA.out (by simp [r17_Zeros.l1])
     | succ k2 =>
      have H := HA.out
      clear HA
      simp only [r17_Zeros.l1] at H
      by_cases c17 : x10_2 < (l0_4.length : Int)
      ·rw [if_pos c17] at H
       have c17b0 := decide_eq_true c17
       clear c17
       by_cases c18 : x9_2 = true
       ·subst c18
        have H1 : (if 0 ≤ x10_2 then ((r17_value.f k2 a1_0 a1_1 l1_2 t498 t501 a0_3 (rd_L1 l0_4 x10_2) x8_1).bind fun t503 => (r17_Zeros.l1 k2 t498 t501 x7_1 x8_1 (t503 == 0) (wrap64 (x10_2 + 1)) a0_0 a0_1 l0_2 a0_3 l0_4 a1_0 a1_1 l1_2)) else (none)) = some r := by rw [if_pos rfl] at H; exact H
        clear H
        have H := H1
        clear H1
        obtain ⟨c19, H⟩ := iE H
        have c19b0 := decide_eq_true c19
        clear c19
        obtain ⟨t503, A20, H⟩ := bE H
        have H' := Aside0.mk H
        clear H
        have hnb21 := NB496_497.out
        have hnc21 := NB497_496.out
        obtain ⟨hcz22_0, hcz22_1, hcz22_2, hcz22_3, hcz22_4, hfz22_0, hfz22_1, hfz22_2, hfz22_3, hfz22_4⟩ := bq5 BK496.out
        try go_wp2
        replace HO_5 := Aside0.mk (Kd.R_drew HO_5.out)
        replace HO_7 := Aside0.mk (Kd.R_drew HO_7.out)
        replace BK496 := Aside0.mk (blk_drew BK496.out)
        replace BK497 := Aside0.mk (blk_drew BK497.out)
        replace HB := Aside0.mk (below_drew1 HB.out)
        have p502 : 0 ≤ (x10_2 : Int) := dT
        have q502 : x10_2 < (l0_4.length : Int) := dT
        obtain ⟨ad502, A502_0, c502_0, e502, hx502_0, hl502_0, hi502_0⟩ := at_L1 HR0_4.out x10_2 p502 q502
        have hw502_0 := hx502_0
        cases e502
        replace hx502_0 := cw HB hx502_0
        have HR502_0 := Aside0.mk hi502_0
        have HC502_0 := Aside0.mk hl502_0
        clear hi502_0 hl502_0
        replace p502 := eq_true p502
        replace q502 := eq_true q502
        obtain ⟨Ao24, co24, eo24⟩ := Kd.R_slice HO_5.out
        (first | subst eo24 | (injection eo24 with f1_ f2_ f3_; have f4_ := f1_.symm; have f5_ := f3_.symm; clear f1_ f2_ f3_; subst f4_; subst f5_))
        refine start_ (n := 17) (S := fun w' => w'.cell? ⟨gb497, 0, none⟩ = some (.int .i64 a1_0) ∧ w'.cell? ⟨gb497, 1, none⟩ = some (.int .i64 a1_1) ∧ w'.cell? ⟨gb497, 2, none⟩ = some (.slice A1_2 l1_2.length c1_2) ∧ w'.cell? ⟨gb496, 0, none⟩ = some (.int .i64 a0_0) ∧ w'.cell? ⟨gb496, 1, none⟩ = some (.int .i64 a0_1) ∧ w'.cell? ⟨gb496, 2, none⟩ = some (.slice A0_2 l0_2.length c0_2) ∧ w'.cell? ⟨gb496, 3, none⟩ = some (.int .i64 a0_3) ∧ w'.cell? ⟨gb496, 4, none⟩ = some (.slice (some ad502) l0_4.length c0_4) ∧ w'.cell? (ad502.add (x10_2).toNat) = some (.slice A502_0 (rd_L1 l0_4 x10_2).length c502_0)) (ds := []) (bb 17 0) (by kernel_rfl) rfl rfl ⟨bc0 BK497.out, bc1 BK497.out, bc2 BK497.out, bc0 BK496.out, bc1 BK496.out, bc2 BK496.out, bc3 BK496.out, bc4 BK496.out, (cw HB hw502_0)⟩ (fun hHeld => ?_); refine with_tabW r17_Zeros.tab11 r17_Zeros.bits11 (fun HT_ HW_ => ?_)
        generalize wr.drew = w23 at HO_5 HO_7 BK496 BK497 HB HR502_0 hx502_0 hHeld ⊢
        refine pq HT_ 0 32 (bb 17 1) ?_
        refine pq HT_ 1 33 (bb 17 3) ?_
        refine pq HT_ 3 35 (bb 17 11) ?_
        refine pq HT_ 4 36 (bb 17 27) ?_
        refine pq HT_ 5 37 (bb 17 59) ?_
        refine pq HT_ 7 39 (bb 17 187) ?_
        refine pq HT_ 9 41 (bb 17 699) ?_
        refine pq HT_ 12 44 (bb 17 4795) ?_
        refine tq HT_ HW_ hHeld 2 34 (bb 17 4799) ?_
        refine tq HT_ HW_ hHeld 6 38 (bb 17 4863) ?_
        refine tq HT_ HW_ hHeld 8 40 (bb 17 5119) ?_
        refine pq HT_ 10 42 (bb 17 6143) ?_
        refine tq HT_ HW_ hHeld 11 43 (bb 17 8191) ?_
        refine oq HT_ 13 (some 45) (bb 17 16383) (fun K hK => ?_)
        refine gq Try.func58 #[.agg #[.int .i64 a1_0, .int .i64 a1_1, .slice A1_2 l1_2.length c1_2], .slice Ao24 t498.length co24, .int .i64 t501, .int .i64 a0_3, .slice A502_0 (rd_L1 l0_4 x10_2).length c502_0, .int .i64 x8_1] ?_
        with_reducible refine (r17_value.calls k2 a1_0 a1_1 _ _ l1_2 _ _ t498 t501 a0_3 _ _ (rd_L1 l0_4 x10_2) x8_1 t503 _ (Kd.C_below HR1_2.out bw) HC1_2.out ?side3 ((Kd.R_reads' HO_5.out).2.1) (Kd.C_below HR502_0.out bw) HC502_0.out A20.out).mono ?_
        (case side3 => repeat (first | exact (Kd.R_reads' HO_5.out).2.2 | (with_reducible refine Kd.C_alloc ?_ _) | (with_reducible refine Kd.C_drewN ?_ _) | (with_reducible refine Kd.C_drew ?_)))
        rintro e w25 ⟨rfl, hb⟩
        refine ⟨_, rfl, ?_⟩
        replace HO_5 := Aside0.mk (Kd.R_below (rR HO_5) hb)
        replace HO_7 := Aside0.mk (Kd.R_below (rR HO_7) hb)
        replace BK496 := Aside0.mk (bkb BK496 hb)
        replace BK497 := Aside0.mk (bkb BK497 hb)
        replace HB := Aside0.mk (below_step bw hb)
        clear hb
        refine hK.out _ _ ⟨bc0 BK497.out, bc1 BK497.out, bc2 BK497.out, bc0 BK496.out, bc1 BK496.out, bc2 BK496.out, bc3 BK496.out, bc4 BK496.out, (cw HB hw502_0)⟩ (fun hHeld => ?_)
        clear hK K
        refine nq 45 ?_
        refine pq HT_ 14 46 (bb 17 32767) ?_
        refine pq HT_ 15 47 (bb 17 65535) ?_
        refine pq HT_ 16 9 (bb 17 131071) ?_
        refine dq HT_ ?_
        try go_wp2
        go_roundg k2
        case measure => have := HK1.out; have := HK2.out; omega
        case rel => exact ⟨((t503 == 0)), (wrap64 (x10_2 + 1)), rX, rX, H', ⟨by have := HK1.out; have := HK2.out; omega⟩, ⟨rR HO_5⟩, ⟨rR HO_7⟩, ⟨kk BK496⟩, ⟨kk BK497⟩, ⟨bw⟩⟩
       ·replace c18 := Bool.eq_false_iff.mpr c18
        subst c18
        have H1 : (r17_Zeros.l1 k2 t498 t501 x7_1 x8_1 false (wrap64 (x10_2 + 1)) a0_0 a0_1 l0_2 a0_3 l0_4 a1_0 a1_1 l1_2) = some r := by rw [if_neg (show ¬ (false = true) by decide)] at H; exact H
        clear H
        have H := H1
        clear H1
        have H' := Aside0.mk H
        clear H
        have hnb26 := NB496_497.out
        have hnc26 := NB497_496.out
        obtain ⟨hcz27_0, hcz27_1, hcz27_2, hcz27_3, hcz27_4, hfz27_0, hfz27_1, hfz27_2, hfz27_3, hfz27_4⟩ := bq5 BK496.out
        try go_wp2
        replace HO_5 := Aside0.mk (Kd.R_drew HO_5.out)
        replace HO_7 := Aside0.mk (Kd.R_drew HO_7.out)
        replace BK496 := Aside0.mk (blk_drew BK496.out)
        replace BK497 := Aside0.mk (blk_drew BK497.out)
        replace HB := Aside0.mk (below_drew1 HB.out)
        refine start_ (n := 17) (S := fun w' => True) (ds := []) (bb 17 0) (by kernel_rfl) rfl rfl trivial (fun hHeld => ?_); refine with_tabW r17_Zeros.tab11 r17_Zeros.bits11 (fun HT_ HW_ => ?_)
        generalize wr.drew = w28 at HO_5 HO_7 BK496 BK497 HB hHeld ⊢
        refine pq HT_ 0 32 (bb 17 1) ?_
        refine pq HT_ 1 33 (bb 17 3) ?_
        refine pu HT_ 2 34 (bb 17 7) ?_
        refine pu HT_ 3 35 (bb 17 15) ?_
        refine pu HT_ 4 36 (bb 17 31) ?_
        refine pu HT_ 5 37 (bb 17 63) ?_
        refine pu HT_ 6 38 (bb 17 127) ?_
        refine pu HT_ 7 39 (bb 17 255) ?_
        refine pu HT_ 8 40 (bb 17 511) ?_
        refine pu HT_ 9 41 (bb 17 1023) ?_
        refine pu HT_ 10 42 (bb 17 2047) ?_
        refine pu HT_ 11 43 (bb 17 4095) ?_
        refine pu HT_ 12 44 (bb 17 8191) ?_
        refine pu HT_ 13 45 (bb 17 16383) ?_
        refine pu HT_ 14 46 (bb 17 32767) ?_
        refine pq HT_ 15 47 (bb 17 65535) ?_
        refine pq HT_ 16 9 (bb 17 131071) ?_
        refine dq HT_ ?_
        try go_wp2
        go_roundg k2
        case measure => have := HK1.out; have := HK2.out; omega
        case rel => exact ⟨(false), (wrap64 (x10_2 + 1)), rX, rX, H', ⟨by have := HK1.out; have := HK2.out; omega⟩, ⟨rR HO_5⟩, ⟨rR HO_7⟩, ⟨kk BK496⟩, ⟨kk BK497⟩, ⟨bw⟩⟩
      ·rw [if_neg c17] at H
       have c17b0 := decide_eq_false c17
       clear c17
       by_cases c29 : x9_2 = true
       ·subst c29
        have H1 : (if x7_1.length < 17592186044416 then (r17_Zeros.l0 k2 t498 t501 (x7_1 ++ [x8_1]) (wrap64 (x8_1 + 1)) a0_0 a0_1 l0_2 a0_3 l0_4 a1_0 a1_1 l1_2) else (none)) = some r := by rw [if_pos rfl] at H; exact H
        clear H
        have H := H1
        clear H1
        obtain ⟨c30, H⟩ := iE H
        have LMc30 := Aside0.mk c30
        clear c30
        obtain ⟨y504, hy504⟩ : ∃ y_ : List Int, y_ = (x7_1 ++ [x8_1]) := ⟨_, rfl⟩
        replace H : (r17_Zeros.l0 k2 t498 t501 y504 (wrap64 (x8_1 + 1)) a0_0 a0_1 l0_2 a0_3 l0_4 a1_0 a1_1 l1_2) = some r := by first | (rw [hy504]; with_reducible exact H) | (have H2_ := (Option.bind_some _ _).symm.trans H; rw [hy504]; with_reducible exact H2_) | (have H2_ := (Option.bind_some _ _).symm.trans H; with_reducible exact H2_) | with_reducible exact H | (rw [hy504]; exact H) | exact H
        have Ny504 := Aside0.mk hy504
        clear hy504
        have H' := Aside0.mk H
        clear H
        have hnb31 := NB496_497.out
        have hnc31 := NB497_496.out
        obtain ⟨hcz32_0, hcz32_1, hcz32_2, hcz32_3, hcz32_4, hfz32_0, hfz32_1, hfz32_2, hfz32_3, hfz32_4⟩ := bq5 BK496.out
        go_wp2_with ((with_reducible refine gate_builtin (b := .append) (xs := #[.tmp 49, .tmp 51]) rfl ?_); at_builtin; refine Kd.R_append (Kd.int .i64) (w0 := w) w.heap.size rfl (.tmp 49) (.tmp 51) 22 3 (.int .i64 0) 8 rfl Try.underlying22 info3 rfl (by decide) (by omega) u7 x7_1 x8_1 [.int .i64 x8_1] (fun k_ => some k_ ≠ (v499 : Value).ownBlock) (fun _ => False) rfl rfl ?aP (fun _ hk => hk.elim) ?aF ?aO ?aB ?aS ?aL ?_; (case aP => exact rfl); (case aB => exact bw); (case aF => exact (fun k_ hk => Kd.fresh' (Kd.R_lt (rR HO_5)) k_ hk)); (case aO => exact (rR HO_7)); (case aS => exact (below_size bw)); (case aL => have := LMc30.out; omega); intro v505 w33 ho hb hg hat; rw [← Ny504.out] at ho; replace HO_5 := Aside0.mk (Kd.R_after (ok := (fun _ => True)) (by (with_reducible repeat (first | apply Kd.R_alloc | apply Kd.R_drewN | apply Kd.R_drew)); exact Kd.R_mono HO_5.out (fun _ hk => ⟨trivial, hk⟩)) hg hat); replace BK496 := Aside0.mk (blk_grown (g := gb496) (o := .cells #[.int .i64 a0_0, .int .i64 a0_1, .slice A0_2 l0_2.length c0_2, .int .i64 a0_3, .slice A0_4 l0_4.length c0_4] 49 (0, 0)) (kk BK496) hg (Kd.R_ne HO_7.out BK496.out (by decide))); replace BK497 := Aside0.mk (blk_grown (g := gb497) (o := .cells #[.int .i64 a1_0, .int .i64 a1_1, .slice A1_2 l1_2.length c1_2] 36 (0, 0)) (kk BK497) hg (Kd.R_ne HO_7.out BK497.out (by decide))); replace HB := Aside0.mk hb; have HO506 := Aside0.mk (ho); clear HO_7; clear ho hb hg hat)
        go_roundg k2
        case measure => have := HK1.out; have := HK2.out; omega
        case rel => exact ⟨(y504), (wrap64 (x8_1 + 1)), rX, H', ⟨by have := HK1.out; have := HK2.out; omega⟩, ⟨by (with_reducible repeat (first | apply Kd.R_alloc | apply Kd.R_drewN | apply Kd.R_drew)); exact Kd.R_mono HO_5.out (fun _ hk => hk.2)⟩, ⟨rR HO506⟩, ⟨kk BK496⟩, ⟨kk BK497⟩, ⟨bw⟩⟩
       ·replace c29 := Bool.eq_false_iff.mpr c29
        subst c29
        have H1 : (r17_Zeros.l0 k2 t498 t501 x7_1 (wrap64 (x8_1 + 1)) a0_0 a0_1 l0_2 a0_3 l0_4 a1_0 a1_1 l1_2) = some r := by rw [if_neg (show ¬ (false = true) by decide)] at H; exact H
        clear H
        have H := H1
        clear H1
        have H' := Aside0.mk H
        clear H
        have hnb34 := NB496_497.out
        have hnc34 := NB497_496.out
        obtain ⟨hcz35_0, hcz35_1, hcz35_2, hcz35_3, hcz35_4, hfz35_0, hfz35_1, hfz35_2, hfz35_3, hfz35_4⟩ := bq5 BK496.out
        go_wp2
        go_roundg k2
        case measure => have := HK1.out; have := HK2.out; omega
        case rel => exact ⟨(x7_1), (wrap64 (x8_1 + 1)), rX, H', ⟨by have := HK1.out; have := HK2.out; omega⟩, ⟨rR HO_5⟩, ⟨rR HO_7⟩, ⟨kk BK496⟩, ⟨kk BK497⟩, ⟨bw⟩⟩
   ·rw [if_neg c14] at H
    have c14b0 := decide_eq_false c14
    clear c14
    obtain rfl := Option.some.inj H
    have hnb36 := NB496_497.out
    have hnc36 := NB497_496.out
    obtain ⟨hcz37_0, hcz37_1, hcz37_2, hcz37_3, hcz37_4, hfz37_0, hfz37_1, hfz37_2, hfz37_3, hfz37_4⟩ := bq5 BK496.out
    go_wp2
    go_ret
    exact ⟨_, rW, by (with_reducible repeat (first | apply Kd.R_alloc | apply Kd.R_drewN | apply Kd.R_drew)); exact Kd.R_mono HO_7.out (fun _ hk => trivial), bw⟩
end Go.Proofs.Ytibbdjkboglepaa.QBchZeros
namespace Go.Proofs.Ytibbdjkboglepaa.MyQBchZeros
open Go Go.RowKit Go.Proofs.YtibbdjkboglepaaW.PrintWords Go.Proofs.YtibbdjkboglepaaW.PrintMore Go.Proofs.Ytibbdjkboglepaa.My Go.Proofs.Ytibbdjkboglepaa.Alg Go.Proofs.Ytibbdjkboglepaa.MyQBchRoots Go.Proofs.Ytibbdjkboglepaa.QBchRoots Go.Proofs.Ytibbdjkboglepaa.QBchZeros
theorem pval_snoc {Q : Pr} (m : Nat) (r : Pol (Zp Q)) : pval (m + 1) r = pval m r + Q.p ^ m * (r m).1 := by
 induction m generalizing r with
 | zero => rw [pval_succ]; simp [pval]
 | succ m ih =>
  rw [pval_succ, ih, pval_succ, Int.mul_add, ← Int.mul_assoc, show Q.p * Q.p ^ m = Q.p ^ (m + 1) by rw [Int.pow_succ, Int.mul_comm]]
  show _ = _ + _ * (tail r m).1
  omega
theorem pval_stop {Q : Pr} {i : Nat} {r : Pol (Zp Q)} (h : DegLt r i) : ∀ d, pval (i + d) r = pval i r
 | 0 => rfl
 | d + 1 => by
  rw [← Nat.add_assoc, pval_snoc, pval_stop h d, h (i + d) (by omega)]
  have : ((0 : Zp Q)).1 = 0 := by show (0 : Int) % Q.p = 0; simp
  rw [this]; omega
section
variable {D : FD} {P M : Int} {Mod : List Int}
noncomputable def LG (g : GF D) : List Int := logs (expL g) (List.replicate D.q.toNat 0) (expL g).length
theorem LG_length (g : GF D) : (LG g).length = D.q.toNat := by unfold LG; rw [logs_length, List.length_replicate]
theorem LG_at {g : GF D} (hg : IsOrd g (D.q - 1).toNat) {x : GF D} (hx : x ≠ 0) : ∃ i : Nat, i < (D.q - 1).toNat ∧ Alg.pow g i = x ∧ rd (LG g) x.1 = i := by
 have hel := elems_length D
 have hq2 := D.two_q
 obtain ⟨i, hi, hxi⟩ := (elems_full D).powers (g := g) (by rw [show (elems D).length - 1 = (D.q - 1).toNat by omega]; exact hg) hx
 have hi' : i < (D.q - 1).toNat := by omega
 refine ⟨i, hi', hxi, ?_⟩
 rw [← hxi]
 unfold LG
 rw [expL_length]
 exact logs_at hg _ i hi' (Nat.le_refl _)
theorem EX_at {g : GF D} (hg : IsOrd g (D.q - 1).toNat) (j : Nat) : rd (expL g) ((j : Int) % (D.q - 1)) = (Alg.pow g j).1 := by
 have hq2 := D.two_q
 have e : ((j : Int) % (D.q - 1)) = ((j % (D.q - 1).toNat : Nat) : Int) := by
  rw [Int.natCast_emod, show (((D.q - 1).toNat : Nat) : Int) = D.q - 1 by omega]
 rw [e, expL_rd g (Nat.mod_lt _ (by omega)), hg.pow_mod]
theorem gf_is (x : Int) (E L : List Int) : field_GF_Is.f P M Mod D.q E L x = some (decide (0 ≤ x ∧ x < D.q), P, M, D.q) := by
 unfold field_GF_Is.f
 by_cases h : x ≥ 0
 ·rw [if_pos h]
  congr 2
  exact decide_eq_decide.2 ⟨fun e => ⟨h, e⟩, fun e => e.2⟩
 ·rw [if_neg h]
  congr 2
  exact (decide_eq_false (by omega)).symm
theorem gf_in (x : Int) (E L : List Int) : field_GF_in.f P M Mod D.q E L x = some ((inn D x).1, P, M, D.q) := by
 unfold field_GF_in.f
 rw [gf_is]
 simp only [Option.bind_some]
 rw [inn_val]
 by_cases h : 0 ≤ x ∧ x < D.q
 ·rw [if_pos (by simpa using h), if_pos h]
 ·rw [if_neg (by simpa using h), if_neg h]
theorem gf_mul (h : Desc D P M Mod) {g : GF D} (hg : IsOrd g (D.q - 1).toNat) (x y : Int) : field_GF_Mul.f P M Mod D.q (expL g) (LG g) x y = some ((inn D x * inn D y).1, P, M, D.q) := by
 have hq := h.hq
 have hq2 := D.two_q
 have hl := LG_length g
 unfold field_GF_Mul.f
 rw [gf_in]
 simp only [Option.bind_some]
 rw [gf_in]
 simp only [Option.bind_some]
 by_cases e1 : (inn D x).1 = 0
 ·rw [if_pos e1, GF.val_zero.1 e1, Alg.zero_mul]; rfl
 ·rw [if_neg e1]
  by_cases e2 : (inn D y).1 = 0
  ·rw [if_pos e2, GF.val_zero.1 e2, Alg.mul_zero]; rfl
  ·rw [if_neg e2]
   obtain ⟨i, hi, hpi, hri⟩ := LG_at hg (fun e => e1 (GF.val_zero.2 e))
   obtain ⟨j, hj, hpj, hrj⟩ := LG_at hg (fun e => e2 (GF.val_zero.2 e))
   have b1 := (inn D x).2
   have b2 := (inn D y).2
   have hm : Int.tmod ((i : Int) + j) (D.q - 1) = ((i + j : Nat) : Int) % (D.q - 1) := by rw [tmod_nn (by omega), Int.natCast_add]
   have h0 := Int.emod_nonneg ((i + j : Nat) : Int) (show D.q - 1 ≠ 0 by omega)
   have h1 := Int.emod_lt_of_pos ((i + j : Nat) : Int) (show 0 < D.q - 1 by omega)
   rw [if_pos b1.1, if_pos (by omega), if_pos b2.1, if_pos (by omega), w64 (x := D.q - 1) (by omega) (by omega), if_neg (by omega), hri, hrj, w64 (x := (i : Int) + j) (by omega) (by omega), hm, if_pos h0, if_pos (by rw [expL_length]; omega), EX_at hg, Alg.pow_add, hpi, hpj]
theorem gf_inv (h : Desc D P M Mod) {g : GF D} (hg : IsOrd g (D.q - 1).toNat) (x : Int) : field_GF_Inv.f P M Mod D.q (expL g) (LG g) x = some (if inn D x = 0 then 0 else (Alg.inv (inn D x)).1, if inn D x = 0 then 7 else 0, P, M, D.q) := by
 have hq := h.hq
 have hq2 := D.two_q
 have hl := LG_length g
 unfold field_GF_Inv.f
 rw [gf_in]
 simp only [Option.bind_some]
 by_cases e1 : (inn D x).1 = 0
 ·rw [if_pos e1, if_pos (GF.val_zero.1 e1), if_pos (GF.val_zero.1 e1)]
 ·have e2 : inn D x ≠ 0 := fun e => e1 (GF.val_zero.2 e)
  rw [if_neg e1, if_neg e2, if_neg e2]
  obtain ⟨i, hi, hpi, hri⟩ := LG_at hg e2
  have b1 := (inn D x).2
  have hm : Int.tmod (D.q - 1 - i) (D.q - 1) = (((D.q - 1).toNat - i : Nat) : Int) % (D.q - 1) := by rw [tmod_nn (by omega)]; congr 1; omega
  have h0 := Int.emod_nonneg (((D.q - 1).toNat - i : Nat) : Int) (show D.q - 1 ≠ 0 by omega)
  have h1 := Int.emod_lt_of_pos (((D.q - 1).toNat - i : Nat) : Int) (show 0 < D.q - 1 by omega)
  have hpw : Alg.pow g ((D.q - 1).toNat - i) = Alg.inv (inn D x) := by
   refine (Alg.inv_unique e2 ?_).symm
   rw [← hpi, ← Alg.pow_add, show i + ((D.q - 1).toNat - i) = (D.q - 1).toNat by omega]
   exact hg.2.1
  rw [if_pos b1.1, if_pos (by omega), w64 (x := D.q - 1) (by omega) (by omega), if_neg (by omega), hri, w64 (x := D.q - 1 - i) (by omega) (by omega), hm, if_pos h0, if_pos (by rw [expL_length]; omega), EX_at hg, hpw]
theorem gf_pow (h : Desc D P M Mod) {g : GF D} (hg : IsOrd g (D.q - 1).toNat) (x : Int) (n : Nat) (hn : n ≤ 1000000) : Ev (fun k => field_GF_Pow.f k P M Mod D.q (expL g) (LG g) x n) ((Alg.pow (inn D x) n).1, 0, P, M, D.q) := by
 have hq := h.hq
 have hq2 := D.two_q
 have hl := LG_length g
 by_cases e0 : n = 0
 ·subst e0
  refine ev_now fun k => ?_
  unfold field_GF_Pow.f
  rw [gf_in]
  simp only [Option.bind_some]
  rw [if_pos (show ((0 : Nat) : Int) = 0 from rfl)]; rfl
 ·by_cases e1 : (inn D x).1 = 0
  ·refine Ev.congr (f := fun k => field_GF_Pow.j0 k 0 n false P M Mod D.q (expL g) (LG g)) (fun k => ?_) (ev_succ (ev_now fun k => ?_))
   ·unfold field_GF_Pow.f
    rw [gf_in]
    simp only [Option.bind_some]
    rw [if_neg (by omega), if_pos e1, e1, decide_eq_false (by omega)]
   ·rw [field_GF_Pow.j0, if_neg (by simp), if_pos rfl, GF.val_zero.1 e1, Alg.zero_pow (by omega)]; rfl
  ·have e2 : inn D x ≠ 0 := fun e => e1 (GF.val_zero.2 e)
   obtain ⟨i, hi, hpi, hri⟩ := LG_at hg e2
   have b1 := (inn D x).2
   refine Ev.congr (f := fun k => field_GF_Pow.j0 k (inn D x).1 n false P M Mod D.q (expL g) (LG g)) (fun k => ?_) (ev_succ (ev_now fun k => ?_))
   ·unfold field_GF_Pow.f
    rw [gf_in]
    simp only [Option.bind_some]
    rw [if_neg (by omega), if_neg e1]
   ·have hm0 := Int.emod_nonneg (n : Int) (show D.q - 1 ≠ 0 by omega)
    have hm1 := Int.emod_lt_of_pos (n : Int) (show 0 < D.q - 1 by omega)
    have hk : Int.tmod (wrap64 (Int.tmod (n : Int) (D.q - 1) + (D.q - 1))) (D.q - 1) = (n : Int) % (D.q - 1) := mod_go (by omega) (by omega)
    have hb0 : 0 ≤ (i : Int) * ((n : Int) % (D.q - 1)) := Int.mul_nonneg (by omega) hm0
    have hb1 : (i : Int) * ((n : Int) % (D.q - 1)) ≤ 256 * 256 := Int.mul_le_mul (by omega) (by omega) hm0 (by omega)
    have e3 : (i : Int) * ((n : Int) % (D.q - 1)) % (D.q - 1) = ((i * n : Nat) : Int) % (D.q - 1) := by
     rw [Int.natCast_mul, Int.mul_emod, Int.emod_emod_of_dvd _ (Int.dvd_refl _), ← Int.mul_emod]
    have h0 := Int.emod_nonneg ((i * n : Nat) : Int) (show D.q - 1 ≠ 0 by omega)
    have h1 := Int.emod_lt_of_pos ((i * n : Nat) : Int) (show 0 < D.q - 1 by omega)
    rw [field_GF_Pow.j0, if_neg (by simp), if_neg e1, w64 (x := D.q - 1) (by omega) (by omega), if_neg (by omega), if_pos b1.1, if_pos (by omega), hri, hk, w64 (x := (i : Int) * ((n : Int) % (D.q - 1))) (by omega) (by omega), tmod_nn hb0, e3, if_pos h0, if_pos (by rw [expL_length]; omega), EX_at hg, Alg.pow_mul, hpi]
theorem xor_nat {m n : Nat} (hm : m < 256) (hn : n < 256) : Go.bits .xor .i64 m n = ((m ^^^ n : Nat) : Int) := by
 have h1 : m ^^^ n < 2 ^ 8 := Nat.xor_lt_two_pow (n := 8) hm hn
 unfold Go.bits
 simp only [BitVec.ofInt_natCast, BitVec.toNat_xor, BitVec.toNat_ofNat]
 rw [Nat.mod_eq_of_lt (show m < 2 ^ IntKind.bits .i64 by show m < 2 ^ 64; omega), Nat.mod_eq_of_lt (show n < 2 ^ IntKind.bits .i64 by show n < 2 ^ 64; omega)]
 generalize m ^^^ n = z at h1
 unfold IntKind.wrap
 have e : ((z : Int) % 2 ^ IntKind.bits .i64) = z := Int.emod_eq_of_lt (by omega) (by show (z : Int) < 2 ^ 64; omega)
 have e2 : ¬ ((z : Int) ≥ 2 ^ (IntKind.bits .i64 - 1)) := by show ¬ ((z : Int) ≥ 2 ^ 63); omega
 simp only [e, decide_eq_false e2, Bool.and_false]
 rfl
theorem xor_two (a b : Nat) : (a ^^^ b) % 2 = (a % 2 + b % 2) % 2 := by
 have h := Nat.xor_mod_two_pow (a := a) (b := b) (n := 1)
 rw [Nat.pow_one] at h
 rw [h]
 rcases Nat.mod_two_eq_zero_or_one a with ha | ha <;> rcases Nat.mod_two_eq_zero_or_one b with hb | hb <;> rw [ha, hb] <;> rfl
theorem xor_add (h2 : D.p = 2) (a b : GF D) (hq : D.q ≤ 256) : Go.bits .xor .i64 a.1 b.1 = (a + b).1 := by
 have ha := a.2
 have hb := b.2
 obtain ⟨m, hm⟩ : ∃ m : Nat, a.1 = m := ⟨a.1.toNat, by omega⟩
 obtain ⟨n, hn⟩ : ∃ n : Nat, b.1 = n := ⟨b.1.toNat, by omega⟩
 have hqe : D.q = ((2 ^ D.m : Nat) : Int) := by
  show D.p ^ D.m = _
  rw [h2]; simp
 have hlt : m ^^^ n < 2 ^ D.m := Nat.xor_lt_two_pow (by omega) (by omega)
 rw [hm, hn, xor_nat (by omega) (by omega)]
 have hq0 : 0 ≤ ((m ^^^ n : Nat) : Int) := by omega
 have hq1 : ((m ^^^ n : Nat) : Int) < D.p ^ D.m := by show _ < D.q; omega
 refine dig_inj (P := D.toPr) D.m hq0 hq1 (a + b).2.1 (a + b).2.2 ?_
 show _ = (a + b).dg
 rw [dg_add]
 funext i
 show of D.toPr _ = of D.toPr (a.1 / D.p ^ i) + of D.toPr (b.1 / D.p ^ i)
 rw [of_add, hm, hn, of_eq, h2]
 have e : ∀ z : Nat, (z : Int) / 2 ^ i = ((z / 2 ^ i : Nat) : Int) := fun z => by rw [Int.natCast_ediv]; simp
 rw [e, e, e, Nat.xor_div_two_pow]
 have := xor_two (m / 2 ^ i) (n / 2 ^ i)
 omega
theorem pw_le (D : FD) {i : Nat} (h : i ≤ D.m) : D.p ^ i ≤ D.q := pow_le D.toPr h
theorem dg_stop {a : GF D} {i : Nat} (h : a.1 / D.p ^ i = 0) : DegLt a.dg i := by
 intro j hj
 show of D.toPr (a.1 / D.p ^ j) = 0
 have e : a.1 / D.p ^ j = 0 := by
  rw [show j = i + (j - i) by omega, Int.pow_add, ← Int.ediv_ediv_of_nonneg (by have := pow_pos D.toPr i; omega), h]
  simp
 rw [e]; rfl
theorem gadd_l0 (h : Desc D P M Mod) (a b : GF D) (E L : List Int) : ∀ d i : Nat, i + d = D.m → Ev (fun k => field_GF_Add.l0 k (a.1 / P ^ i) (b.1 / P ^ i) (pval i (padd a.dg b.dg)) (P ^ i) P M Mod D.q E L) ((a + b).1, P, M, D.q) := by
 have hp := h.hp
 subst hp
 have hq := h.hq
 have hp2 := h.p2
 have ha := a.2
 have hb := b.2
 have fin : ∀ i : Nat, i ≤ D.m → a.1 / D.p ^ i = 0 → b.1 / D.p ^ i = 0 → Ev (fun k => field_GF_Add.l0 k (a.1 / D.p ^ i) (b.1 / D.p ^ i) (pval i (padd a.dg b.dg)) (D.p ^ i) D.p M Mod D.q E L) ((a + b).1, D.p, M, D.q) := by
  intro i hi h1 h2
  refine ev_succ (ev_now fun k => ?_)
  rw [field_GF_Add.l0, if_neg (by omega), if_neg (by omega)]
  have := pval_stop ((dg_stop h1).add (dg_stop h2)) (D.m - i)
  rw [show i + (D.m - i) = D.m by omega] at this
  rw [← this]; rfl
 intro d
 induction d with
 | zero =>
  intro i hi
  obtain rfl : i = D.m := by omega
  exact fin D.m (by omega) (Int.ediv_eq_zero_of_lt ha.1 ha.2) (Int.ediv_eq_zero_of_lt hb.1 hb.2)
 | succ d ih =>
  intro i hi
  by_cases e : a.1 / D.p ^ i = 0 ∧ b.1 / D.p ^ i = 0
  ·exact fin i (by omega) e.1 e.2
  ·have hpi := pow_pos D.toPr i
   have x0 : 0 ≤ a.1 / D.p ^ i := Int.ediv_nonneg ha.1 (by omega)
   have y0 : 0 ≤ b.1 / D.p ^ i := Int.ediv_nonneg hb.1 (by omega)
   have x1 : a.1 / D.p ^ i ≤ a.1 := Int.ediv_le_self _ ha.1
   have y1 : b.1 / D.p ^ i ≤ b.1 := Int.ediv_le_self _ hb.1
   have hr := pval_range (P := D.toPr) i (padd a.dg b.dg)
   have hw := pw_le D (i := i) (by omega)
   have hw1 := pw_le D (i := i + 1) (by omega)
   have hw2 := pow_pos D.toPr (i + 1)
   have xp0 := Int.emod_nonneg (a.1 / D.p ^ i) (show D.p ≠ 0 by omega)
   have xp1 := Int.emod_lt_of_pos (a.1 / D.p ^ i) (show 0 < D.p by omega)
   have yp0 := Int.emod_nonneg (b.1 / D.p ^ i) (show D.p ≠ 0 by omega)
   have yp1 := Int.emod_lt_of_pos (b.1 / D.p ^ i) (show 0 < D.p by omega)
   have hp256 := h.p256
   have dv : (padd a.dg b.dg i).1 = (a.1 / D.p ^ i % D.p + b.1 / D.p ^ i % D.p) % D.p := by
    show (of D.toPr (a.1 / D.p ^ i) + of D.toPr (b.1 / D.p ^ i)).1 = _
    rw [of_add, of_val, mod_add_mod']
   have d0 := (padd a.dg b.dg i).2
   have m0 : 0 ≤ (padd a.dg b.dg i).1 * D.p ^ i := Int.mul_nonneg d0.1 (by omega)
   have m1 : (padd a.dg b.dg i).1 * D.p ^ i ≤ 256 * 256 := Int.mul_le_mul (by omega) (by omega) (by omega) (by omega)
   have hsum : pval i (padd a.dg b.dg) + (padd a.dg b.dg i).1 * D.p ^ i = pval (i + 1) (padd a.dg b.dg) := by rw [pval_snoc, Int.mul_comm]
   have key : ∀ k, field_GF_Add.l0 k (wrap64 (Int.tdiv (a.1 / D.p ^ i) D.p)) (wrap64 (Int.tdiv (b.1 / D.p ^ i) D.p)) (wrap64 (pval i (padd a.dg b.dg) + wrap64 (Int.tmod (wrap64 (Int.tmod (a.1 / D.p ^ i) D.p + Int.tmod (b.1 / D.p ^ i) D.p)) D.p * D.p ^ i))) (wrap64 (D.p ^ i * D.p)) D.p M Mod D.q E L = field_GF_Add.l0 k (a.1 / D.p ^ (i + 1)) (b.1 / D.p ^ (i + 1)) (pval (i + 1) (padd a.dg b.dg)) (D.p ^ (i + 1)) D.p M Mod D.q E L := by
    intro k
    have z1 : a.1 / D.p ^ i / D.p ≤ a.1 / D.p ^ i := Int.ediv_le_self _ x0
    have z2 : b.1 / D.p ^ i / D.p ≤ b.1 / D.p ^ i := Int.ediv_le_self _ y0
    have z3 : 0 ≤ a.1 / D.p ^ i / D.p := Int.ediv_nonneg x0 (by omega)
    have z4 : 0 ≤ b.1 / D.p ^ i / D.p := Int.ediv_nonneg y0 (by omega)
    rw [tmod_nn x0, tmod_nn y0, w64 (x := a.1 / D.p ^ i % D.p + b.1 / D.p ^ i % D.p) (by omega) (by omega), tmod_nn (by omega), ← dv, w64 (x := (padd a.dg b.dg i).1 * D.p ^ i) (by omega) (by omega), hsum, ← Int.pow_succ, w64 (x := D.p ^ (i + 1)) (by omega) (by omega), Int.tdiv_eq_ediv_of_nonneg x0, Int.tdiv_eq_ediv_of_nonneg y0, w64 (x := a.1 / D.p ^ i / D.p) (by omega) (by omega), w64 (x := b.1 / D.p ^ i / D.p) (by omega) (by omega), Int.ediv_ediv_of_nonneg (by omega), Int.ediv_ediv_of_nonneg (by omega), ← Int.pow_succ, w64 (by omega) (by omega)]
   refine Ev.step (fun k => ?_) (ih (i + 1) (by omega))
   rw [field_GF_Add.l0]
   by_cases e1 : a.1 / D.p ^ i > 0
   ·rw [if_pos e1, if_neg (by omega), key]
   ·rw [if_neg e1, if_pos (by omega), if_neg (by omega), key]
theorem gf_add (h : Desc D P M Mod) (E L : List Int) (x y : Int) : Ev (fun k => field_GF_Add.f k P M Mod D.q E L x y) ((inn D x + inn D y).1, P, M, D.q) := by
 by_cases e : P = 2
 ·refine ev_now fun k => ?_
  unfold field_GF_Add.f
  rw [gf_in]
  simp only [Option.bind_some]
  rw [gf_in]
  simp only [Option.bind_some]
  rw [if_pos e, xor_add (h.hp.trans e) _ _ h.hq]
 ·have := gadd_l0 h (inn D x) (inn D y) E L D.m 0 (by omega)
  refine Ev.congr (fun k => ?_) this
  unfold field_GF_Add.f
  rw [gf_in]
  simp only [Option.bind_some]
  rw [gf_in]
  simp only [Option.bind_some]
  rw [if_neg e]
  simp [pval]
theorem gneg_l0 (h : Desc D P M Mod) (a : GF D) (E L : List Int) : ∀ d i : Nat, i + d = D.m → Ev (fun k => field_GF_Neg.l0 k (a.1 / P ^ i) (pval i (pneg a.dg)) (P ^ i) P M Mod D.q E L) ((-a).1, P, M, D.q) := by
 have hp := h.hp
 subst hp
 have hq := h.hq
 have hp2 := h.p2
 have ha := a.2
 have fin : ∀ i : Nat, i ≤ D.m → a.1 / D.p ^ i = 0 → Ev (fun k => field_GF_Neg.l0 k (a.1 / D.p ^ i) (pval i (pneg a.dg)) (D.p ^ i) D.p M Mod D.q E L) ((-a).1, D.p, M, D.q) := by
  intro i hi h1
  refine ev_succ (ev_now fun k => ?_)
  rw [field_GF_Neg.l0, if_neg (by omega)]
  have := pval_stop ((dg_stop h1).neg) (D.m - i)
  rw [show i + (D.m - i) = D.m by omega] at this
  rw [← this]; rfl
 intro d
 induction d with
 | zero =>
  intro i hi
  obtain rfl : i = D.m := by omega
  exact fin D.m (by omega) (Int.ediv_eq_zero_of_lt ha.1 ha.2)
 | succ d ih =>
  intro i hi
  by_cases e : a.1 / D.p ^ i = 0
  ·exact fin i (by omega) e
  ·have hpi := pow_pos D.toPr i
   have x0 : 0 ≤ a.1 / D.p ^ i := Int.ediv_nonneg ha.1 (by omega)
   have x1 : a.1 / D.p ^ i ≤ a.1 := Int.ediv_le_self _ ha.1
   have hr := pval_range (P := D.toPr) i (pneg a.dg)
   have hw := pw_le D (i := i) (by omega)
   have hw1 := pw_le D (i := i + 1) (by omega)
   have hw2 := pow_pos D.toPr (i + 1)
   have xp0 := Int.emod_nonneg (a.1 / D.p ^ i) (show D.p ≠ 0 by omega)
   have xp1 := Int.emod_lt_of_pos (a.1 / D.p ^ i) (show 0 < D.p by omega)
   have hp256 := h.p256
   have dv : (pneg a.dg i).1 = (D.p - a.1 / D.p ^ i % D.p) % D.p := by
    show (-of D.toPr (a.1 / D.p ^ i)).1 = _
    rw [of_neg, of_val, Int.sub_emod, Int.emod_emod_of_dvd _ (Int.dvd_refl _), ← Int.sub_emod, Int.sub_eq_add_neg, Int.add_emod_left]
   have d0 := (pneg a.dg i).2
   have m0 : 0 ≤ (pneg a.dg i).1 * D.p ^ i := Int.mul_nonneg d0.1 (by omega)
   have m1 : (pneg a.dg i).1 * D.p ^ i ≤ 256 * 256 := Int.mul_le_mul (by omega) (by omega) (by omega) (by omega)
   have hsum : pval i (pneg a.dg) + (pneg a.dg i).1 * D.p ^ i = pval (i + 1) (pneg a.dg) := by rw [pval_snoc, Int.mul_comm]
   have z1 : a.1 / D.p ^ i / D.p ≤ a.1 / D.p ^ i := Int.ediv_le_self _ x0
   have z3 : 0 ≤ a.1 / D.p ^ i / D.p := Int.ediv_nonneg x0 (by omega)
   refine Ev.step (fun k => ?_) (ih (i + 1) (by omega))
   rw [field_GF_Neg.l0, if_pos (by omega), if_neg (by omega), tmod_nn x0, w64 (x := D.p - a.1 / D.p ^ i % D.p) (by omega) (by omega), tmod_nn (by omega), ← dv, w64 (x := (pneg a.dg i).1 * D.p ^ i) (by omega) (by omega), hsum, ← Int.pow_succ, w64 (x := D.p ^ (i + 1)) (by omega) (by omega), Int.tdiv_eq_ediv_of_nonneg x0, w64 (x := a.1 / D.p ^ i / D.p) (by omega) (by omega), Int.ediv_ediv_of_nonneg (by omega), ← Int.pow_succ, w64 (by omega) (by omega)]
theorem gf_neg (h : Desc D P M Mod) (E L : List Int) (x : Int) : Ev (fun k => field_GF_Neg.f k P M Mod D.q E L x) ((-inn D x).1, P, M, D.q) := by
 have := gneg_l0 h (inn D x) E L D.m 0 (by omega)
 refine Ev.congr (fun k => ?_) this
 unfold field_GF_Neg.f
 rw [gf_in]
 simp only [Option.bind_some]
 simp [pval]
end
section
variable {D : FD} {P M : Int} {Mod : List Int}
theorem Value_digL (h : Desc D P M Mod) (a : GF D) : Ev (fun k => r4_Value.f k P M Mod (digL a)) a.1 := by
 have := Value_elem h (digL_length a) (digL_mem a)
 rwa [← lval_elem (digL_length a) (digL_mem a), lval_digL] at this
theorem digL_bd (a : GF D) {i : Int} (h0 : 0 ≤ i) (h1 : i < D.m) : 0 ≤ rd (digL a) i ∧ rd (digL a) i < D.p := digL_mem a _ (rd_mem h0 (by rw [digL_length]; exact h1))
theorem radd_l0 (h : Desc D P M Mod) (a b : GF D) : ∀ (d : Nat) (i : Int) (l : List Int), 0 ≤ i → i + d = D.m → (l.length : Int) = D.m → (∀ t : Int, 0 ≤ t → t < i → rd l t = rd (digL (a + b)) t) → (∀ t : Int, i ≤ t → t < D.m → rd l t = rd (digL a) t) →
  Ev (fun k => r4_Add.l0 k l (digL b) i P M Mod) (a + b).1 := by
 have hp := h.hp
 subst hp
 have hp2 := h.p2
 have hp256 := h.p256
 have hm8 := h.hm8
 have hmm := h.hm
 intro d
 induction d with
 | zero =>
  intro i l h0 hd hl h1 h2
  have e : l = digL (a + b) := list_ext_rd (by rw [digL_length]; omega) fun t ht ht' => h1 t ht (by omega)
  subst e
  exact Ev.step (fun k => by rw [r4_Add.l0, if_neg (by omega)]) (Ev.bind (Value_digL h (a + b)) (ev_now fun k => rfl))
 | succ d ih =>
  intro i l h0 hd hl h1 h2
  have ba := digL_bd a h0 (show i < D.m by omega)
  have bb := digL_bd b h0 (show i < D.m by omega)
  have hlb := digL_length b
  have ea := h2 i (by omega) (by omega)
  have ev : (rd (digL a) i + rd (digL b) i) % D.p = rd (digL (a + b)) i := by
   rw [digL_rd _ h0 (by omega), digL_rd _ h0 (by omega), digL_rd _ h0 (by omega), dg_add]
   rfl
  refine Ev.step (fun k => ?_) (ih (i + 1) (l.set i.toNat ((rd (digL a) i + rd (digL b) i) % D.p)) (by omega) (by omega) (by rw [List.length_set]; exact hl) (fun t ht ht' => ?_) (fun t ht ht' => ?_))
  ·rw [r4_Add.l0, if_pos (by omega), if_pos h0, if_pos (by omega), if_neg (by omega), ea, w64 (x := rd (digL a) i + rd (digL b) i) (by omega) (by omega), tmod_nn (by omega), w64 (x := i + 1) (by omega) (by omega)]
  ·by_cases e : t = i
   ·subst e; rw [rd_set_self h0 (by omega)]; exact ev
   ·rw [rd_set_ne h0 ht (fun e' => e e'.symm)]; exact h1 t ht (by omega)
  ·rw [rd_set_ne h0 (by omega) (by omega)]; exact h2 t (by omega) ht'
theorem Add_eq (h : Desc D P M Mod) (x y : Int) : Ev (fun k => r4_Add.f k P M Mod x y) (inn D x + inn D y).1 := by
 unfold r4_Add.f
 exact Ev.bind (Digits_eq h x) (Ev.bind (Digits_eq h y) (radd_l0 h _ _ D.m 0 (digL (inn D x)) (by omega) (by omega) (by rw [digL_length]) (fun t _ _ => by omega) (fun t _ _ => rfl)))
theorem rneg_l0 (h : Desc D P M Mod) (a : GF D) : ∀ (d : Nat) (i : Int) (l : List Int), 0 ≤ i → i + d = D.m → (l.length : Int) = D.m → (∀ t : Int, 0 ≤ t → t < i → rd l t = rd (digL (-a)) t) → (∀ t : Int, i ≤ t → t < D.m → rd l t = rd (digL a) t) →
  Ev (fun k => r4_Neg.l0 k l i P M Mod) (-a).1 := by
 have hp := h.hp
 subst hp
 have hp2 := h.p2
 have hp256 := h.p256
 have hm8 := h.hm8
 have hmm := h.hm
 intro d
 induction d with
 | zero =>
  intro i l h0 hd hl h1 h2
  have e : l = digL (-a) := list_ext_rd (by rw [digL_length]; omega) fun t ht ht' => h1 t ht (by omega)
  subst e
  exact Ev.step (fun k => by rw [r4_Neg.l0, if_neg (by omega)]) (Ev.bind (Value_digL h (-a)) (ev_now fun k => rfl))
 | succ d ih =>
  intro i l h0 hd hl h1 h2
  have ba := digL_bd a h0 (show i < D.m by omega)
  have ea := h2 i (by omega) (by omega)
  have ev : (D.p - rd (digL a) i) % D.p = rd (digL (-a)) i := by
   rw [digL_rd _ h0 (by omega), digL_rd _ h0 (by omega), dg_neg]
   show _ = (-(a.dg i.toNat).1) % D.p
   rw [Int.sub_eq_add_neg, Int.add_emod_left]
  refine Ev.step (fun k => ?_) (ih (i + 1) (l.set i.toNat ((D.p - rd (digL a) i) % D.p)) (by omega) (by omega) (by rw [List.length_set]; exact hl) (fun t ht ht' => ?_) (fun t ht ht' => ?_))
  ·rw [r4_Neg.l0, if_pos (by omega), if_pos h0, if_neg (by omega), ea, w64 (x := D.p - rd (digL a) i) (by omega) (by omega), tmod_nn (by omega), w64 (x := i + 1) (by omega) (by omega)]
  ·by_cases e : t = i
   ·subst e; rw [rd_set_self h0 (by omega)]; exact ev
   ·rw [rd_set_ne h0 ht (fun e' => e e'.symm)]; exact h1 t ht (by omega)
  ·rw [rd_set_ne h0 (by omega) (by omega)]; exact h2 t (by omega) ht'
theorem Neg_eq (h : Desc D P M Mod) (x : Int) : Ev (fun k => r4_Neg.f k P M Mod x) (-inn D x).1 := by
 unfold r4_Neg.f
 exact Ev.bind (Digits_eq h x) (rneg_l0 h _ D.m 0 (digL (inn D x)) (by omega) (by omega) (by rw [digL_length]) (fun t _ _ => by omega) (fun t _ _ => rfl))
theorem Inv_l0 (h : Desc D P M Mod) (x : GF D) (hx : x ≠ 0) : ∀ (d : Nat) (y : Int), y + d = (Alg.inv x).1 → 1 ≤ y → Ev (fun k => r4_Inv.l0 k x.1 y P M Mod) (Alg.inv x).1 := by
 have hq := h.hq
 have hi := (Alg.inv x).2
 intro d
 induction d with
 | zero =>
  intro y hd h1
  obtain rfl : y = (Alg.inv x).1 := by omega
  have hm := Mul_eq h x.1 (Alg.inv x).1
  rw [inn_self, inn_self, Alg.mul_inv x hx] at hm
  refine Ev.step (fun k => by rw [r4_Inv.l0]) (Ev.bind (Order_eq h) (Ev.congr (fun k => if_pos hi.2) (Ev.bind hm (ev_now fun k => if_pos rfl))))
 | succ d ih =>
  intro y hd h1
  have hm := Mul_eq h x.1 y
  have hne : ¬ (inn D x.1 * inn D y).1 = 1 := by
   intro e
   have e2 := Alg.inv_unique hx (b := inn D y) (by rw [← GF.val_one, ← e, inn_self])
   have e3 : (inn D y).1 = y := inn_of (by omega) (by omega)
   rw [← e2] at e3
   omega
  refine Ev.step (fun k => by rw [r4_Inv.l0]) (Ev.bind (Order_eq h) (Ev.congr (fun k => if_pos (show y < D.q by omega)) (Ev.bind hm (Ev.congr (fun k => if_neg hne) (Ev.congr (fun k => ?_) (ih (y + 1) (by omega) (by omega)))))))
  rw [w64 (by omega) (by omega)]
theorem Inv_eq (h : Desc D P M Mod) {x : Int} (hx : inn D x ≠ 0) : Ev (fun k => r4_Inv.f k P M Mod x) (Alg.inv (inn D x)).1 := by
 have hi := (Alg.inv (inn D x)).2
 have hn0 : (Alg.inv (inn D x)).1 ≠ 0 := fun e => Alg.inv_ne_zero hx (GF.val_zero.1 e)
 have hxv : (inn D x).1 = x := by
  rw [inn_val]
  by_cases e : 0 ≤ x ∧ x < D.q
  ·rw [if_pos e]
  ·exact absurd (GF.val_zero.1 (by rw [inn_val, if_neg e])) hx
 have := Inv_l0 h (inn D x) hx ((Alg.inv (inn D x)).1 - 1).toNat 1 (by omega) (by omega)
 rw [hxv] at this
 exact this
theorem Pow_l0 (h : Desc D P M Mod) (x : GF D) (n : Int) (hn : n ≤ 1000000) : ∀ (d : Nat) (i : Nat), (i : Int) + d = n → Ev (fun k => r4_Pow.l0 k x.1 n (Alg.pow x i).1 i P M Mod) ((Alg.pow x n.toNat).1, 0) := by
 intro d
 induction d with
 | zero =>
  intro i hi
  obtain rfl : n = (i : Int) := by omega
  exact ev_succ (ev_now fun k => by rw [r4_Pow.l0, if_neg (by omega)]; rfl)
 | succ d ih =>
  intro i hi
  have hm := Mul_eq h (Alg.pow x i).1 x.1
  rw [inn_self, inn_self, Alg.mul_comm, ← Alg.pow_succ] at hm
  refine Ev.step (fun k => by rw [r4_Pow.l0, if_pos (by omega)]) (Ev.bind hm (Ev.congr (fun k => ?_) (ih (i + 1) (by omega))))
  rw [w64 (by omega) (by omega)]; rfl
theorem Pow_eq (h : Desc D P M Mod) (x : Int) (n : Nat) : Ev (fun k => r4_Pow.f k P M Mod x n) ((Alg.pow (inn D x) n).1, 0) := by
 have hq := h.hq
 have hq2 := D.two_q
 refine Ev.bind (In_eq h x) ?_
 by_cases e0 : n = 0
 ·subst e0
  exact ev_now fun k => by rw [if_pos (show ((0 : Nat) : Int) = 0 from rfl)]; rfl
 ·refine Ev.congr (fun k => if_neg (by omega)) ?_
  by_cases e1 : (inn D x).1 = 0
  ·refine Ev.congr (f := fun k => r4_Pow.j0 k 0 n false P M Mod) (fun k => ?_) (ev_succ (ev_now fun k => ?_))
   ·rw [if_pos e1, e1, decide_eq_false (by omega)]
   ·rw [r4_Pow.j0, if_neg (by simp), if_pos rfl, GF.val_zero.1 e1, Alg.zero_pow (by omega)]; rfl
  ·have e2 : inn D x ≠ 0 := fun e => e1 (GF.val_zero.2 e)
   have hm0 := Int.emod_nonneg (n : Int) (show D.q - 1 ≠ 0 by omega)
   have hm1 := Int.emod_lt_of_pos (n : Int) (show 0 < D.q - 1 by omega)
   have hk : Int.tmod (wrap64 (Int.tmod (n : Int) (D.q - 1) + (D.q - 1))) (D.q - 1) = (n : Int) % (D.q - 1) := mod_go (by omega) (by omega)
   have hp := Pow_l0 h (inn D x) ((n : Int) % (D.q - 1)) (by omega) ((n : Int) % (D.q - 1)).toNat 0 (by omega)
   have hel := elems_length D
   have hf : Alg.pow (inn D x) (D.q - 1).toNat = 1 := by
    have := (elems_full D).fermat e2
    rwa [show (elems D).length - 1 = (D.q - 1).toNat by omega] at this
   have hpe : Alg.pow (inn D x) ((n : Int) % (D.q - 1)).toNat = Alg.pow (inn D x) n := by
    have e3 : n = (D.q - 1).toNat * (n / (D.q - 1).toNat) + ((n : Int) % (D.q - 1)).toNat := by
     have := Nat.div_add_mod n (D.q - 1).toNat
     have e4 : ((n : Int) % (D.q - 1)).toNat = n % (D.q - 1).toNat := by
      have : ((n : Int) % (D.q - 1)) = ((n % (D.q - 1).toNat : Nat) : Int) := by rw [Int.natCast_emod, show (((D.q - 1).toNat : Nat) : Int) = D.q - 1 by omega]
      omega
     omega
    have e5 := congrArg (Alg.pow (inn D x)) e3
    rw [e5, Alg.pow_add, Alg.pow_mul, hf, Alg.one_pow, Alg.one_mul]
   rw [hpe] at hp
   refine Ev.congr (fun k => if_neg e1) (Ev.step (fun k => by rw [r4_Pow.j0, if_neg (by simp), if_neg e1]) (Ev.bind (Order_eq h) (Ev.congr (fun k => ?_) hp)))
   rw [w64 (x := D.q - 1) (by omega) (by omega), if_neg (by omega), hk]; rfl
end
end Go.Proofs.Ytibbdjkboglepaa.MyQBchZeros
namespace Go.Proofs.Ytibbdjkboglepaa.QMat
open Go.RowKit Go.Proofs.YtibbdjkboglepaaW.PrintWords Go.Proofs.YtibbdjkboglepaaW.PrintLast Go.Proofs.YtibbdjkboglepaaW.PrintMore Go.Proofs.Ytibbdjkboglepaa.QBchRoots Go.Proofs.Ytibbdjkboglepaa.QBchZeros
attribute [local go_sem] max2_int min2_int max_two min_two max_three min_three max_four min_four
def field_GF_Scale.l0 : Nat → Int → List Int → List Int → Int → Int → Int → Int → List Int → Int → List Int → List Int → Option (List Int × Int × Int × Int)
 | 0, _, _, _, _, _, _, _, _, _, _, _ => none
 | k + 1, x1, x7, x13, x14, x15, x1000, x1001, x1002, x1003, x1004, x1005 => if x15 < x14 then (if 0 ≤ x15 then (if x15 < (x13.length : Int) then ((field_GF_Mul.f x1000 x1001 x1002 x1003 x1004 x1005 x1 (rd x13 x15)).bind fun bt120 => (if x15 < (x7.length : Int) then (field_GF_Scale.l0 k x1 (x7.set (x15 : Int).toNat bt120.1) x13 x14 (wrap64 (x15 + 1)) bt120.2.1 bt120.2.2.1 x1002 bt120.2.2.2 x1004 x1005) else (none))) else (none)) else (none)) else (some (x7, x1000, x1001, x1003))
def field_GF_Scale.f (k : Nat) (s0_0 : Int) (s0_1 : Int) (s0_2 : List Int) (s0_3 : Int) (s0_4 : List Int) (s0_5 : List Int) (a1 : Int) (l2 : List Int) : Option (List Int × Int × Int × Int) := if 0 ≤ (l2.length : Int) then (if ((l2.length : Int) : Int).toNat ≤ 35184372088832 then (field_GF_Scale.l0 k a1 (List.replicate ((l2.length : Int) : Int).toNat 0) l2 (l2.length : Int) 0 s0_0 s0_1 s0_2 s0_3 s0_4 s0_5) else (none)) else (none)
theorem field_GF_Scale.calls (k : Nat) (g : Nat) (s0_0 : Int) (s0_1 : Int) (s0_2 : List Int) (s0_3 : Int) (s0_4 : List Int) (s0_5 : List Int) (a1 : Int) (A2 : Option Addr) (c2 : Nat) (l2 : List Int) (r1 : List Int) (r2 : Int) (r3 : Int) (r4 : Int) (w0 w : World) (hI : IsS92 w0 w g s0_0 s0_1 s0_2 s0_3 s0_4 s0_5) (hB : Below w0.heap.size w0 w) (hr2 : Kd.C (Kd.int .i64) w A2 l2.length l2) (hc2 : l2.length ≤ c2) (hf2 : ∀ ad, A2 = some ad → 0 < l2.length → ad.block ≠ g) (h : field_GF_Scale.f k s0_0 s0_1 s0_2 s0_3 s0_4 s0_5 a1 l2 = some (r1, r2, r3, r4)) :
  Calls Try.prog 156 #[.pointer (some ⟨g, 0, none⟩), .int .i64 a1, .slice A2 l2.length c2] w fun e w' => ∃ v0_ : Value, e = .returned (v0_) ∧ Kd.R (Kd.int .i64) 3 w' w.heap.size (fun _ => True) v0_ r1 ∧ IsS92 w0 w' g r2 r3 s0_2 r4 s0_4 s0_5 ∧ Below w0.heap.size w0 w' ∧ KeepBut w w' g none := by
 have HR2 := Aside0.mk hr2
 have HC2 := Aside0.mk hc2
 clear hr2 hc2
 have HI0 := Aside0.mk hI
 have HK := Aside0.mk (KeepBut.refl w g none)
 have HL := Aside0.mk hB.size
 clear hI
 have HW0 := Aside0.mk hB.size
 have HB := Aside0.mk hB
 clear hB
 have H := h
 clear h
 unfold field_GF_Scale.f at H
 obtain ⟨c4, H⟩ := iE H
 have c4b0 := eq_true c4
 have c4b1 := decide_eq_true c4
 clear c4
 obtain ⟨c5, H⟩ := iE H
 have c5b0 := eq_true c5
 have c5b1 := decide_eq_true c5
 clear c5
 obtain ⟨y116, hy116⟩ : ∃ y_ : List Int, y_ = (List.replicate ((l2.length : Int) : Int).toNat 0) := ⟨_, rfl⟩
 (try rw [Option.bind_some] at H); (try rw [← hy116] at H)
 have Ny116 := Aside0.mk hy116
 clear hy116
 have H' := Aside0.mk H
 clear H
 go_enter Try.func156, Try.ntmps156
 go_wp2_with ((with_reducible refine gate_dst (N := 12) rfl ?_); refine Kd.R_make (Kd.int .i64) _ 3 rfl (N := 12) rfl 22 _ _ rfl (l2.length : Int) rfl rfl Try.underlying22 (.int .i64 0) 8 info3 rfl (by decide) (by omega) 0 (ok := fun _ => True) (okp := fun _ => True) rfl (fun _ hk => hk) trivial (dT) (Nat.le_trans (Nat.mul_le_mul_right _ (dT : (l2.length : Int).toNat ≤ 35184372088832)) (by omega)) (Below.refl _ _) (Nat.le_refl _) ?_; intro v117 w6 ho7 hb hg_ hnew_; clear hg_ hnew_; (first | rw [← Ny116.out] at ho7 | (simp only [Int.reduceToNat] at ho7; rw [← Ny116.out] at ho7)); have HO118 := Aside0.mk (Kd.R_lower ho7 (keep_size (w := w) (g := g) (row := none) bK)); replace HK := Aside0.mk (KeepBut.trans bK (KeepBut.of_below hb g none) (.inl rfl)); replace HB := Aside0.mk (below_step bH hb); replace HI0 := Aside0.mk (IsS92.below bI hb); clear hb ho7)
 go_loopg [15] k (fun kq v15 w' => ∃ (x7_1 : List Int) (x15_1 : Int) (x1000_1 : Int) (x1001_1 : Int) (x1003_1 : Int), v15 = .int .i64 x15_1 ∧ Aside0 (field_GF_Scale.l0 kq a1 x7_1 l2 (l2.length : Int) x15_1 x1000_1 x1001_1 s0_2 x1003_1 s0_4 s0_5 = some (r1, r2, r3, r4)) ∧ Aside0 (kq ≤ k) ∧ Aside0 (Kd.R (Kd.int .i64) 3 w' w.heap.size (fun _ => True) v117 x7_1) ∧ Aside0 (IsS92 w0 w' g x1000_1 x1001_1 s0_2 x1003_1 s0_4 s0_5) ∧ Aside0 (KeepBut w w' g none) ∧ Aside0 (Below w0.heap.size w0 w'))
 case atStart => exact ⟨(y116), (0), (s0_0), (s0_1), (s0_3), rX, H', ⟨Nat.le_refl _⟩, ⟨rR HO118⟩, ⟨bI⟩, ⟨bK⟩, ⟨bH⟩⟩
 case round =>
  clear H' c4b0 c4b1 c5b0 c5b1
  obtain ⟨x7_1, x15_1, x1000_1, x1001_1, x1003_1, rfl, HA, HK1, HO_7, HI0, HK, HB⟩ := hrel
  cases gk with
  | zero => exact absurd HA.out (by simp [field_GF_Scale.l0])
  | succ k1 =>
   have H := HA.out
   clear HA
   simp only [field_GF_Scale.l0] at H
   by_cases c8 : x15_1 < (l2.length : Int)
   ·rw [if_pos c8] at H
    have c8b0 := decide_eq_true c8
    clear c8
    obtain ⟨c9, H⟩ := iE H
    have c9b0 := decide_eq_true c9
    clear c9
    obtain ⟨c10, H⟩ := iE H
    have c10b0 := decide_eq_true c10
    clear c10
    obtain ⟨⟨t120, t121, t122, t123⟩, A11, H⟩ := bE H
    (try dsimp only at H)
    obtain ⟨c12, H⟩ := iE H
    have c12b0 := decide_eq_true c12
    clear c12
    obtain ⟨y124, hy124⟩ : ∃ y_ : List Int, y_ = (x7_1.set (x15_1 : Int).toNat t120) := ⟨_, rfl⟩
    (try rw [Option.bind_some] at H); (try rw [← hy124] at H)
    have Ny124 := Aside0.mk hy124
    clear hy124
    have H' := Aside0.mk H
    clear H
    have p119 : 0 ≤ (x15_1 : Int) := dT
    have q119 : x15_1 < (l2.length : Int) := dT
    obtain ⟨ad119, e119, hx119_0⟩ := Kd.at_int HR2.out x15_1 p119 q119
    cases e119
    replace hx119_0 := keep_cell HK.out hx119_0 (by first | (rw [add_block]; exact hf2 _ rfl (by omega)) | exact hf2 _ rfl (by omega) | exact hf2 ad119 rfl (by omega))
    replace p119 := eq_true p119
    replace q119 := eq_true q119
    go_wp2_with (first | (refine gL 25 Try.func116 #[.pointer (some ⟨g, 0, none⟩), .int .i64 a1, .int .i64 (rd l2 x15_1)] ?_; (with_reducible refine (field_GF_Mul.calls g x1000_1 x1001_1 s0_2 x1003_1 s0_4 s0_5 a1 (rd l2 x15_1) t120 t121 t122 t123 w0 _ ?side1 ?side2 A11.out).mono ?_); (case side1 => exact bI); (case side2 => exact bH); rintro e w14 ⟨rfl, hi, hb, hk⟩; refine ⟨_, rfl, ?_⟩; replace HO_7 := Aside0.mk (Kd.R_mono (Kd.R_keep (IsS92.apart (show IsS92 w0 _ g x1000_1 x1001_1 s0_2 x1003_1 s0_4 s0_5 from bI) (rR HO_7) (by decide)) hk (fun _ h => h.2)) (fun _ h => h.1)); replace HK := Aside0.mk (KeepBut.trans bK hk (.inl rfl)); replace HB := Aside0.mk hb; replace HI0 := Aside0.mk hi; (try clear hb); (try clear hk); (try clear hi); have p13 : 0 ≤ (x15_1 : Int) := dT; have q13 : (x15_1 : Int) < ((x7_1.length : Int) : Int) := dT; obtain ⟨go13, co13, eo13, gb13, gl13, cl13, HG13⟩ := Kd.R_form HO_7.out (by omega); (first | cases eo13 | (injection eo13 with ea_ en_ ec_; (first | subst ea_ | (injection ea_ with ea_; subst ea_)); subst ec_; clear en_)); have GB13 := Aside0.mk gb13; have GG13 := Aside0.mk HG13; clear gb13 gl13 HG13; obtain ⟨hx13_0, hf13_0⟩ := Kd.R_celln 0 HO_7.out (x15_1 : Int) p13 q13; replace p13 := eq_true p13; replace q13 := eq_true q13; obtain ⟨hy15_, hz15_⟩ := Kd.R_celln 0 HO_7.out (x15_1 : Int) (dT) (dT); have HP15 := Kd.R_putg HO_7.out (x15_1 : Int) t120) | ((with_reducible refine gate_store (t := 3) (p := 26) rfl ?_); refine store_event (t := 3) (p := 26) (v := ?vo_w16) (w1 := (w14.setCell ⟨go13, (x15_1 : Int).toNat, none⟩ (.int .i64 t120))) ?hg ?ho ?hn ?hr ?_; (case ho => rfl); (case hg => rfl); (case hn => rfl); (case hr => first | (go_simp; done) | (go_simp; rfl)); intro w16 hw; have hg : w14.grownBy w16 (some go13) := (by rw [hw]; exact HP15.2); have hp_ : Kd.R (Kd.int .i64) 3 w16 w.heap.size (fun _ => True) (.slice (some ⟨go13, 0, none⟩) x7_1.length co13) y124 := (by rw [hw, Ny124.out]; exact HP15.1); clear HP15; replace HI0 := Aside0.mk (IsS92.grown bI hg (IsS92.own_ne HI0.out HO_7.out (by decide))); replace HB := Aside0.mk ((by rw [hw]; exact below_set (HB.out) (Nat.le_trans HL.out GB13.out) : Below w0.heap.size w0 w16)); replace HK := Aside0.mk (KeepBut.trans bK (KeepBut.of_grown hg g) (Kd.R_base2 HO_7.out)); replace HO_7 := Aside0.mk hp_; clear hg hw hp_))
    go_roundg k1
    case measure => have := HK1.out; omega
    case rel => exact ⟨(y124), (wrap64 (x15_1 + 1)), (t121), (t122), (t123), rX, H', mK, ⟨rR HO_7⟩, ⟨bI⟩, ⟨bK⟩, ⟨bH⟩⟩
   ·rw [if_neg c8] at H
    have c8b0 := decide_eq_false c8
    clear c8
    simp only [Option.some.injEq, Prod.mk.injEq] at H
    obtain ⟨rfl, rfl, rfl, rfl⟩ := H
    go_wp2
    go_ret
    exact ⟨_, rW, rR HO_7, bI, bH, bK⟩
end Go.Proofs.Ytibbdjkboglepaa.QMat
namespace Go.Proofs.Ytibbdjkboglepaa.MyQBchZeros
open Go Go.RowKit Go.Proofs.YtibbdjkboglepaaW.PrintWords Go.Proofs.YtibbdjkboglepaaW.PrintLast Go.Proofs.YtibbdjkboglepaaW.PrintMore Go.Proofs.Ytibbdjkboglepaa.My Go.Proofs.Ytibbdjkboglepaa.Alg Go.Proofs.Ytibbdjkboglepaa.MyQBchRoots Go.Proofs.Ytibbdjkboglepaa.QBchRoots Go.Proofs.Ytibbdjkboglepaa.QBchZeros Go.Proofs.Ytibbdjkboglepaa.QMat
def rowL (N : Nat) (f : Nat → Int) : List Int := (List.range N).map f
theorem rowL_length (N : Nat) (f : Nat → Int) : (rowL N f).length = N := by simp [rowL]
theorem rowL_rd {N : Nat} {f : Nat → Int} {j : Int} (h0 : 0 ≤ j) (h1 : j < N) : rd (rowL N f) j = f j.toNat := rd_map_range h0 h1
theorem rowL_congr {N : Nat} {f g : Nat → Int} (h : ∀ j, j < N → f j = g j) : rowL N f = rowL N g := List.map_congr_left fun j hj => h j (List.mem_range.1 hj)
structure Mat (w : World) (base R : Nat) (bs : Nat → Nat) (m N : Nat) (E : Nat → Nat → Int) : Prop where
 hd : 0 < m → ∃ cells, w.heap[R]? = some (.cells cells 22 (0, 0)) ∧ ∀ i, i < m → ∃ c, N ≤ c ∧ cells[i]? = some (.slice (some ⟨bs i, 0, none⟩) N c)
 rw_ : ∀ i, i < m → ∃ cells, w.heap[bs i]? = some (.cells cells 3 (0, 0)) ∧ ∀ j, j < N → cells[j]? = some (.int .i64 (E i j))
 inj : ∀ i j, i < m → j < m → bs i = bs j → i = j
 loR : 0 < m → base ≤ R
 lo : ∀ i, i < m → base ≤ bs i
def setF {α : Type} (E : Nat → α) (i : Nat) (x : α) : Nat → α := fun r => if r = i then x else E r
theorem setF_self {α : Type} {E : Nat → α} {i : Nat} {x : α} : setF E i x i = x := if_pos rfl
theorem setF_ne {α : Type} {E : Nat → α} {i r : Nat} {x : α} (h : r ≠ i) : setF E i x r = E r := if_neg h
def swapF {α : Type} (E : Nat → α) (i k : Nat) : Nat → α := fun r => if r = i then E k else if r = k then E i else E r
def sg (i k r : Nat) : Nat := if r = i then k else if r = k then i else r
theorem swapF_sg {α : Type} (E : Nat → α) (i k r : Nat) : swapF E i k r = E (sg i k r) := by
 unfold swapF sg
 split
 ·rfl
 ·split <;> rfl
theorem sg_sg (i k r : Nat) : sg i k (sg i k r) = r := by
 unfold sg
 by_cases e1 : r = i
 ·rw [if_pos e1]
  by_cases e2 : k = i
  ·rw [if_pos e2]; omega
  ·rw [if_neg e2, if_pos rfl]; omega
 ·rw [if_neg e1]
  by_cases e2 : r = k
  ·rw [if_pos e2, if_pos rfl]; omega
  ·rw [if_neg e2, if_neg e1, if_neg e2]
theorem sg_lt {i k r m : Nat} (hi : i < m) (hk : k < m) (hr : r < m) : sg i k r < m := by
 unfold sg
 split
 ·exact hk
 ·split
  ·exact hi
  ·exact hr
section
variable {w w1 : World} {base R m N : Nat} {bs : Nat → Nat} {E : Nat → Nat → Int}
theorem Mat.hcell (h : Mat w base R bs m N E) {i : Nat} (hi : i < m) : ∃ c, N ≤ c ∧ w.cell? ⟨R, i, none⟩ = some (.slice (some ⟨bs i, 0, none⟩) N c) ∧ w.frozen? ⟨R, i, none⟩ = false := by
 obtain ⟨cells, hb, hc⟩ := h.hd (by omega)
 obtain ⟨c, h1, h2⟩ := hc i hi
 exact ⟨c, h1, (blk_cell hb i).trans h2, blk_frozen hb i⟩
theorem Mat.cell (h : Mat w base R bs m N E) {i j : Nat} (hi : i < m) (hj : j < N) : w.cell? ⟨bs i, j, none⟩ = some (.int .i64 (E i j)) ∧ w.frozen? ⟨bs i, j, none⟩ = false := by
 obtain ⟨cells, hb, hc⟩ := h.rw_ i hi
 exact ⟨(blk_cell hb j).trans (hc j hj), blk_frozen hb j⟩
theorem Mat.C (h : Mat w base R bs m N E) (hN : N ≤ 9223372036854775807) {i : Nat} (hi : i < m) : Kd.C (Kd.int .i64) w (some ⟨bs i, 0, none⟩) N (rowL N (E i)) := by
 refine Kd.C_of_reads (d := (0 : Int)) (h1 := fun _ => rfl) ⟨rowL_length _ _, hN, fun _ => ⟨_, rfl, fun j hj => ?_⟩⟩
 have e : (rowL N (E i)).getD j 0 = E i j := by
  have := rowL_rd (f := E i) (j := (j : Int)) (by omega) (by omega : (j : Int) < N)
  exact this
 rw [add_plain, (h.cell hi hj).1, e]
theorem Mat.neR (h : Mat w base R bs m N E) {i : Nat} (hi : i < m) : bs i ≠ R := by
 obtain ⟨cells, hb, _⟩ := h.hd (by omega)
 obtain ⟨cells', hb', _⟩ := h.rw_ i hi
 exact blk_ne hb' hb (by decide)
theorem Mat.lt (h : Mat w base R bs m N E) {i : Nat} (hi : i < m) : bs i < w.heap.size := by
 obtain ⟨cells', hb', _⟩ := h.rw_ i hi
 exact blk_lt hb'
theorem Mat.kept {S : Nat → Prop} (h : Mat w base R bs m N E) (hk : Kept w w1 S) (hR : 0 < m → ¬ S R) (hbs : ∀ i, i < m → ¬ S (bs i)) : Mat w1 base R bs m N E := by
 refine ⟨fun hm => ?_, fun i hi => ?_, h.inj, h.loR, h.lo⟩
 ·obtain ⟨cells, hb, hc⟩ := h.hd hm
  exact ⟨cells, blk_kept hb hk (hR hm), hc⟩
 ·obtain ⟨cells, hb, hc⟩ := h.rw_ i hi
  exact ⟨cells, blk_kept hb hk (hbs i hi), hc⟩
theorem Mat.below (h : Mat w base R bs m N E) (hb : Below w.heap.size w w1) : Mat w1 base R bs m N E := h.kept (Kept.of_below hb (fun _ => False)) (fun _ h => h) (fun _ _ h => h)
theorem Mat.congr {E' : Nat → Nat → Int} (h : Mat w base R bs m N E) (he : ∀ i j, i < m → j < N → E i j = E' i j) : Mat w base R bs m N E' := by
 refine ⟨h.hd, fun i hi => ?_, h.inj, h.loR, h.lo⟩
 obtain ⟨cells, hb, hc⟩ := h.rw_ i hi
 exact ⟨cells, hb, fun j hj => by rw [hc j hj, he i j hi hj]⟩
theorem Mat.replace (h : Mat w base R bs m N E) {i b c : Nat} {f : Nat → Int} (hi : i < m) {cells : Array Value} (hb : w.heap[b]? = some (.cells cells 3 (0, 0))) (hc : ∀ j, j < N → cells[j]? = some (.int .i64 (f j))) (hN : N ≤ c) (hnew : ∀ k, k < m → k ≠ i → bs k ≠ b) (hlo : base ≤ b) :
  Mat (w.setCell ⟨R, i, none⟩ (.slice (some ⟨b, 0, none⟩) N c)) base R (setF bs i b) m N (setF E i f) := by
 have hm : 0 < m := by omega
 obtain ⟨hcells, hR, hh⟩ := h.hd hm
 have hbR : b ≠ R := blk_ne hb hR (by decide)
 refine ⟨fun _ => ⟨_, blk_set hR i _, fun k hk => ?_⟩, fun k hk => ?_, fun k l hk hl e => ?_, h.loR, fun k hk => ?_⟩
 ·by_cases e : k = i
  ·subst e
   obtain ⟨c0, _, h2⟩ := hh k hk
   have hlt : k < hcells.size := by
    rw [Array.getElem?_eq_some_iff] at h2
    exact h2.1
   exact ⟨c, hN, by rw [setF_self]; simp [hlt]⟩
  ·obtain ⟨c0, h1, h2⟩ := hh k hk
   exact ⟨c0, h1, by rw [setF_ne e, ← h2]; simp [Array.getElem?_setIfInBounds, Ne.symm e]⟩
 ·by_cases e : k = i
  ·subst e
   rw [setF_self, setF_self]
   exact ⟨cells, blk_far hb hbR _, hc⟩
  ·rw [setF_ne e, setF_ne e]
   obtain ⟨cells', hb', hc'⟩ := h.rw_ k hk
   exact ⟨cells', blk_far hb' (h.neR hk) _, hc'⟩
 ·by_cases e1 : k = i <;> by_cases e2 : l = i
  ·omega
  ·rw [e1, setF_self, setF_ne e2] at e
   exact absurd e.symm (hnew l hl e2)
  ·rw [e2, setF_self, setF_ne e1] at e
   exact absurd e (hnew k hk e1)
  ·rw [setF_ne e1, setF_ne e2] at e
   exact h.inj k l hk hl e
 ·by_cases e : k = i
  ·subst e; rw [setF_self]; exact hlo
  ·rw [setF_ne e]; exact h.lo k hk
theorem Mat.put (h : Mat w base R bs m N E) {i j : Nat} (hi : i < m) (hj : j < N) (x : Int) :
  Mat (w.setCell ⟨bs i, j, none⟩ (.int .i64 x)) base R bs m N (setF E i (setF (E i) j x)) := by
 obtain ⟨cells, hb, hc⟩ := h.rw_ i hi
 refine ⟨fun hm => ?_, fun k hk => ?_, h.inj, h.loR, h.lo⟩
 ·obtain ⟨hcells, hR, hh⟩ := h.hd hm
  exact ⟨hcells, blk_far hR (h.neR hi).symm _, hh⟩
 ·by_cases e : k = i
  ·subst e
   refine ⟨_, blk_set hb j _, fun l hl => ?_⟩
   rw [setF_self]
   by_cases e2 : l = j
   ·subst e2
    have h2 := hc l hl
    have hlt : l < cells.size := by
     rw [Array.getElem?_eq_some_iff] at h2
     exact h2.1
    rw [setF_self]; simp [hlt]
   ·rw [setF_ne e2, ← hc l hl]; simp [Array.getElem?_setIfInBounds, Ne.symm e2]
  ·rw [setF_ne e]
   obtain ⟨cells', hb', hc'⟩ := h.rw_ k hk
   exact ⟨cells', blk_far hb' (fun e2 => e (h.inj k i hk hi e2)) _, hc'⟩
theorem Mat.swap (h : Mat w base R bs m N E) {i k ci ck : Nat} (hi : i < m) (hk : k < m) (hci : N ≤ ci) (hck : N ≤ ck) :
  Mat ((w.setCell ⟨R, i, none⟩ (.slice (some ⟨bs k, 0, none⟩) N ck)).setCell ⟨R, k, none⟩ (.slice (some ⟨bs i, 0, none⟩) N ci)) base R (swapF bs i k) m N (swapF E i k) := by
 have hm : 0 < m := by omega
 obtain ⟨hcells, hR, hh⟩ := h.hd hm
 have lt : ∀ l, l < m → l < hcells.size := fun l hl => by
  obtain ⟨c0, _, h2⟩ := hh l hl
  rw [Array.getElem?_eq_some_iff] at h2
  exact h2.1
 have hR1 := blk_set hR i (.slice (some ⟨bs k, 0, none⟩) N ck)
 have hR2 := blk_set hR1 k (.slice (some ⟨bs i, 0, none⟩) N ci)
 refine ⟨fun _ => ⟨_, hR2, fun l hl => ?_⟩, fun l hl => ?_, fun l l' hl hl' e => ?_, h.loR, fun l hl => ?_⟩
 ·have hli := lt i hi
  have hlk := lt k hk
  by_cases e1 : l = i
  ·subst e1
   by_cases e2 : l = k
   ·subst e2
    exact ⟨ci, hci, by simp [swapF, hli]⟩
   ·exact ⟨ck, hck, by simp [swapF, Array.getElem?_setIfInBounds, Ne.symm e2, hli]⟩
  ·by_cases e2 : l = k
   ·subst e2
    exact ⟨ci, hci, by simp [swapF, e1, hlk]⟩
   ·obtain ⟨c0, h1, h2⟩ := hh l hl
    exact ⟨c0, h1, by rw [← show swapF bs i k l = bs l by simp [swapF, e1, e2]] at h2; rw [← h2]; simp [Array.getElem?_setIfInBounds, Ne.symm e1, Ne.symm e2]⟩
 ·have key : ∀ r, r < m → ∃ cells, ((w.setCell ⟨R, i, none⟩ (.slice (some ⟨bs k, 0, none⟩) N ck)).setCell ⟨R, k, none⟩ (.slice (some ⟨bs i, 0, none⟩) N ci)).heap[bs r]? = some (.cells cells 3 (0, 0)) ∧ ∀ j, j < N → cells[j]? = some (.int .i64 (E r j)) := fun r hr => by
   obtain ⟨cells', hb', hc'⟩ := h.rw_ r hr
   exact ⟨cells', blk_far (blk_far hb' (h.neR hr) _) (h.neR hr) _, hc'⟩
  unfold swapF
  by_cases e1 : l = i
  ·rw [if_pos e1, if_pos e1]; exact key k hk
  ·rw [if_neg e1, if_neg e1]
   by_cases e2 : l = k
   ·rw [if_pos e2, if_pos e2]; exact key i hi
   ·rw [if_neg e2, if_neg e2]; exact key l hl
 ·have e' : bs (sg i k l) = bs (sg i k l') := by rw [← swapF_sg bs, ← swapF_sg bs]; exact e
  have := h.inj _ _ (sg_lt hi hk hl) (sg_lt hi hk hl') e'
  rw [← sg_sg i k l, this, sg_sg]
 ·unfold swapF
  split
  ·exact h.lo k hk
  ·split
   ·exact h.lo i hi
   ·exact h.lo l hl
end
section
variable {D : FD} {P M : Int} {Mod : List Int}
noncomputable def adF (D : FD) (v : Nat → Int) (a : Int) (u : Nat → Int) : Nat → Int := fun j => if u j = 0 then v j else (inn D (v j) + inn D a * inn D (u j)).1
noncomputable def scF (D : FD) (a : Int) (u : Nat → Int) : Nat → Int := fun j => (inn D a * inn D (u j)).1
structure Fs (D : FD) (P M : Int) (Mod : List Int) (w0 w : World) (g : Nat) (γ : GF D) : Prop where
 h : Desc D P M Mod
 hg : IsOrd γ (D.q - 1).toNat
 I : IsS92 w0 w g P M Mod D.q (expL γ) (LG γ)
 B : Below w0.heap.size w0 w
variable {w0 w w1 : World} {g : Nat} {γ : GF D}
theorem Fs.mul (h : Fs D P M Mod w0 w g γ) (x y : Int) : Calls Try.prog 116 #[.pointer (some ⟨g, 0, none⟩), .int .i64 x, .int .i64 y] w fun e w' => e = .returned (.int .i64 (inn D x * inn D y).1) ∧ Fs D P M Mod w0 w' g γ ∧ KeepBut w w' g none := by
 refine (field_GF_Mul.calls g _ _ _ _ _ _ x y _ _ _ _ w0 w h.I h.B (gf_mul h.h h.hg x y)).mono ?_
 rintro e w' ⟨rfl, hI, hB, hk⟩
 exact ⟨rfl, ⟨h.h, h.hg, hI, hB⟩, hk⟩
theorem Fs.add (h : Fs D P M Mod w0 w g γ) (x y : Int) : Calls Try.prog 120 #[.pointer (some ⟨g, 0, none⟩), .int .i64 x, .int .i64 y] w fun e w' => e = .returned (.int .i64 (inn D x + inn D y).1) ∧ Fs D P M Mod w0 w' g γ ∧ KeepBut w w' g none := by
 obtain ⟨k, hk⟩ := (gf_add h.h (expL γ) (LG γ) x y).rounds
 refine (field_GF_Add.calls k g _ _ _ _ _ _ x y _ _ _ _ w0 w h.I h.B hk).mono ?_
 rintro e w' ⟨rfl, hI, hB, hk⟩
 exact ⟨rfl, ⟨h.h, h.hg, hI, hB⟩, hk⟩
theorem Fs.neg (h : Fs D P M Mod w0 w g γ) (x : Int) : Calls Try.prog 153 #[.pointer (some ⟨g, 0, none⟩), .int .i64 x] w fun e w' => e = .returned (.int .i64 (-inn D x).1) ∧ Fs D P M Mod w0 w' g γ ∧ KeepBut w w' g none := by
 obtain ⟨k, hk⟩ := (gf_neg h.h (expL γ) (LG γ) x).rounds
 refine (field_GF_Neg.calls k g _ _ _ _ _ _ x _ _ _ _ w0 w h.I h.B hk).mono ?_
 rintro e w' ⟨rfl, hI, hB, hk⟩
 exact ⟨rfl, ⟨h.h, h.hg, hI, hB⟩, hk⟩
theorem Fs.inv (h : Fs D P M Mod w0 w g γ) {x : Int} (hx : inn D x ≠ 0) : Calls Try.prog 154 #[.pointer (some ⟨g, 0, none⟩), .int .i64 x] w fun e w' => e = .returned (.tuple #[.int .i64 (Alg.inv (inn D x)).1, .int .i64 0]) ∧ Fs D P M Mod w0 w' g γ ∧ KeepBut w w' g none := by
 have hi := gf_inv h.h h.hg x
 rw [if_neg hx, if_neg hx] at hi
 refine (field_GF_Inv.calls g _ _ _ _ _ _ x _ _ _ _ _ w0 w h.I h.B hi).mono ?_
 rintro e w' ⟨rfl, hI, hB, hk⟩
 exact ⟨rfl, ⟨h.h, h.hg, hI, hB⟩, hk⟩
theorem gf_scale_l0 (h : Desc D P M Mod) (hγ : IsOrd γ (D.q - 1).toNat) (a : Int) (l : List Int) (hl : l.length ≤ 1000000) : ∀ (d : Nat) (i : Int) (o : List Int), 0 ≤ i → i + d = l.length → o.length = l.length → (∀ t : Int, 0 ≤ t → t < i → rd o t = (inn D a * inn D (rd l t)).1) →
  Ev (fun k => field_GF_Scale.l0 k a o l l.length i P M Mod D.q (expL γ) (LG γ)) (l.map fun x => (inn D a * inn D x).1, P, M, D.q) := by
 intro d
 induction d with
 | zero =>
  intro i o h0 hd ho ht
  have e : o = l.map fun x => (inn D a * inn D x).1 := by
   refine list_ext_rd (by simp [ho]) fun t h1 h2 => ?_
   rw [ht t h1 (by omega)]
   have hlt : t.toNat < l.length := by omega
   simp [rd, List.getD_eq_getElem?_getD, List.getElem?_eq_getElem hlt]
  subst e
  exact ev_succ (ev_now fun k => by rw [field_GF_Scale.l0, if_neg (by omega)])
 | succ d ih =>
  intro i o h0 hd ho ht
  refine Ev.step (fun k => ?_) (ih (i + 1) (o.set i.toNat (inn D a * inn D (rd l i)).1) (by omega) (by omega) (by simp [ho]) (fun t h1 h2 => ?_))
  ·rw [field_GF_Scale.l0, if_pos (by omega), if_pos h0, if_pos (by omega), gf_mul h hγ]
   simp only [Option.bind_some]
   rw [if_pos (by omega), w64 (by omega) (by omega)]
  ·by_cases e : t = i
   ·subst e; rw [rd_set_self h0 (by omega)]
   ·rw [rd_set_ne h0 h1 (fun e' => e e'.symm)]; exact ht t h1 (by omega)
theorem Fs.scale (h : Fs D P M Mod w0 w g γ) (a : Int) {A : Option Addr} {c : Nat} {l : List Int} (hr : Kd.C (Kd.int .i64) w A l.length l) (hc : l.length ≤ c) (hl : l.length ≤ 1000000) (hne : ∀ ad, A = some ad → 0 < l.length → ad.block ≠ g) :
  Calls Try.prog 156 #[.pointer (some ⟨g, 0, none⟩), .int .i64 a, .slice A l.length c] w fun e w' => ∃ v, e = .returned v ∧ Kd.R (Kd.int .i64) 3 w' w.heap.size (fun _ => True) v (l.map fun x => (inn D a * inn D x).1) ∧ Fs D P M Mod w0 w' g γ ∧ KeepBut w w' g none := by
 have hev : Ev (fun k => field_GF_Scale.f k P M Mod D.q (expL γ) (LG γ) a l) (l.map fun x => (inn D a * inn D x).1, P, M, D.q) := by
  refine Ev.congr (fun k => ?_) (gf_scale_l0 h.h h.hg a l hl l.length 0 (List.replicate l.length 0) (by omega) (by omega) (by simp) (fun t _ _ => by omega))
  unfold field_GF_Scale.f
  rw [if_pos (by omega), if_pos (by omega)]
  rfl
 obtain ⟨k, hk⟩ := hev.rounds
 refine (field_GF_Scale.calls k g _ _ _ _ _ _ a A c l _ _ _ _ w0 w h.I h.B hr hc hne hk).mono ?_
 rintro e w' ⟨v, rfl, hR, hI, hB, hk⟩
 exact ⟨v, rfl, hR, ⟨h.h, h.hg, hI, hB⟩, hk⟩
theorem Fs.kept {S : Nat → Prop} (h : Fs D P M Mod w0 w g γ) (hk : Kept w w1 S) (hg : ¬ S g) (hB : Below w0.heap.size w0 w1) : Fs D P M Mod w0 w1 g γ := ⟨h.h, h.hg, h.I.kept hk hg, hB⟩
theorem Fs.below (h : Fs D P M Mod w0 w g γ) (hb : Below w.heap.size w w1) : Fs D P M Mod w0 w1 g γ := ⟨h.h, h.hg, h.I.below hb, below_step h.B hb⟩
theorem Fs.drew (h : Fs D P M Mod w0 w g γ) : Fs D P M Mod w0 w.drew g γ := ⟨h.h, h.hg, h.I.drew, below_drew1 h.B⟩
theorem Fs.blk (h : Fs D P M Mod w0 w g γ) : ∃ cells, w.heap[g]? = some (.cells cells 92 (0, 0)) := by
 obtain ⟨A2, c2, A4, c4, A5, c5, hb, _⟩ := h.I
 exact ⟨_, hb⟩
theorem Mat.drew {base R m N : Nat} {bs : Nat → Nat} {E : Nat → Nat → Int} (h : Mat w base R bs m N E) : Mat w.drew base R bs m N E := ⟨h.hd, h.rw_, h.inj, h.loR, h.lo⟩
theorem Fs.neR (h : Fs D P M Mod w0 w g γ) {base R m N : Nat} {bs : Nat → Nat} {E : Nat → Nat → Int} (hM : Mat w base R bs m N E) (hm : 0 < m) : R ≠ g := by
 obtain ⟨c, hb⟩ := h.blk
 obtain ⟨c', hb', _⟩ := hM.hd hm
 exact blk_ne hb' hb (by decide)
theorem Fs.neB (h : Fs D P M Mod w0 w g γ) {base R m N : Nat} {bs : Nat → Nat} {E : Nat → Nat → Int} (hM : Mat w base R bs m N E) {i : Nat} (hi : i < m) : bs i ≠ g := by
 obtain ⟨c, hb⟩ := h.blk
 obtain ⟨c', hb', _⟩ := hM.rw_ i hi
 exact blk_ne hb' hb (by decide)
theorem kept_but {g : Nat} (hk : KeepBut w w1 g none) : Kept w w1 (fun k => k = g) := Kept.of_keep (Kept.refl w _) hk (.inl rfl)
theorem cellR {b j : Nat} {v : Value} (hc : w.cell? ⟨b, j, none⟩ = some v) {S : Nat → Prop} (hk : Kept w w1 S) (hne : ¬ S b) : w1.cell? ⟨b, j, none⟩ = some v := Go.Proofs.YtibbdjkboglepaaW.PrintWords.cell_kept hc hk hne
theorem Mat.fs (hF : Fs D P M Mod w0 w g γ) {base R m N : Nat} {bs : Nat → Nat} {E : Nat → Nat → Int} (hM : Mat w base R bs m N E) (hk : KeepBut w w1 g none) : Mat w1 base R bs m N E :=
 hM.kept (kept_but hk) (fun hm => hF.neR hM hm) (fun i hi => hF.neB hM hi)
theorem Fs.store (h : Fs D P M Mod w0 w g γ) {b j : Nat} (hb : b ≠ g) (hlo : w0.heap.size ≤ b) (v : Value) : Fs D P M Mod w0 (w.setCell ⟨b, j, none⟩ v) g γ := by
 refine ⟨h.h, h.hg, h.I.far (p := ⟨b, j, none⟩) (fun e => hb e.symm) v, below_set h.B hlo⟩
end
def Add4.T : Bool × List (List Nat × List Nat) := (true, [([], []), ([], []), ([], []), ([], []), ([], []), ([3, 4], [3, 4]), ([5], [5]), ([], []), ([], []), ([], []), ([7, 8, 9], [7, 8, 9]), ([2, 6, 10, 10], [2, 6, 10]), ([0, 1, 0, 1, 2, 3, 4, 5, 6, 7, 8, 9, 10, 11], [0, 1]), ([12, 11, 11, 0, 1, 2, 3, 4, 5, 6, 7, 8, 9, 10, 11], [11, 12])])
def Add4.B : List Nat := [0, 0, 0, 0, 0, 24, 56, 0, 0, 0, 896, 2044, 4095, 8191]
theorem Add4.tab : rtab .any (opsOf Try.f158 4) = Add4.T := by kernel_rfl
theorem Add4.bits : waitsOk Add4.T.2 Add4.B = true := by kernel_rfl
section
variable {D : FD} {P M : Int} {Mod : List Int} {w0 w : World} {g R m N : Nat} {bs : Nat → Nat} {E : Nat → Nat → Int} {γ : GF D}
noncomputable def adP (D : FD) (v : Nat → Int) (a : Int) (u : Nat → Int) (j : Nat) : Nat → Int := fun t => if t < j then adF D v a u t else v t
theorem adP_zero (v : Nat → Int) (a : Int) (u : Nat → Int) : adP D v a u 0 = v := funext fun t => if_neg (Nat.not_lt_zero t)
theorem adP_at (v : Nat → Int) (a : Int) (u : Nat → Int) (j : Nat) : adP D v a u j j = v j := if_neg (Nat.lt_irrefl j)
theorem adP_succ (v : Nat → Int) (a : Int) (u : Nat → Int) (j : Nat) : adP D v a u (j + 1) = setF (adP D v a u j) j (adF D v a u j) := by
 funext t
 show (if t < j + 1 then adF D v a u t else v t) = if t = j then adF D v a u j else if t < j then adF D v a u t else v t
 by_cases e : t = j
 ·subst e; rw [if_pos (Nat.lt_succ_self t), if_pos rfl]
 ·rw [if_neg e]
  by_cases e2 : t < j
  ·rw [if_pos e2, if_pos (by omega)]
  ·rw [if_neg e2, if_neg (by omega)]
theorem setF_setF {α : Type} (E : Nat → α) (i : Nat) (x y : α) : setF (setF E i x) i y = setF E i y := by
 funext t
 unfold setF
 split <;> rfl
theorem setF_same {α : Type} (E : Nat → α) (i : Nat) : setF E i (E i) = E := by
 funext t
 unfold setF
 split
 ·next h => rw [h]
 ·rfl
theorem bodyPost_end0 {Pr : Program} {fn : Func} {R : Ending → World → Prop} {a : Act} {w : World} (hr : fn.results = #[]) (hd : a.defers = []) (hR : R (.returned (.tuple #[])) w) : bodyPost Pr fn R .normal a w :=
 bodyPost_end (v := .tuple #[]) (results_none hr _ _ _) hd hR
theorem Add_in (hF : Fs D P M Mod w0 w g γ) (hM : Mat w w0.heap.size R bs m N E) (hN : N ≤ 1000000) {i p : Nat} (hi : i < m) (hp : p < m) (hne : i ≠ p) (a : Int) (ci cp : Nat) :
  Calls Try.prog 158 #[.pointer (some ⟨g, 0, none⟩), .slice (some ⟨bs i, 0, none⟩) N ci, .int .i64 a, .slice (some ⟨bs p, 0, none⟩) N cp] w fun e w' => e = .returned (.tuple #[]) ∧ Fs D P M Mod w0 w' g γ ∧ Mat w' w0.heap.size R bs m N (setF E i (adF D (E i) a (E p))) ∧ Kept w w' (fun k => k = g ∨ k = bs i) := by
 have HF := Aside0.mk hF
 have HM := Aside0.mk hM
 have HN := Aside0.mk hN
 clear hF hM hN
 go_enter Try.func158, Try.ntmps158
 go_wp2
 go_loopg [12] (N + 1) (fun kq v12 w' => ∃ j : Nat, v12 = .int .i64 (j : Int) ∧ Aside0 (j ≤ N ∧ j + kq = N + 1) ∧ Aside0 (Fs D P M Mod w0 w' g γ) ∧ Aside0 (Mat w' w0.heap.size R bs m N (setF E i (adP D (E i) a (E p) j))) ∧ Aside0 (Kept w w' (fun k => k = g ∨ k = bs i)))
 case atStart => exact ⟨0, rfl, ⟨by omega, by omega⟩, HF, ⟨by rw [adP_zero, setF_same]; exact HM.out⟩, ⟨Kept.refl _ _⟩⟩
 case round =>
  obtain ⟨j, rfl, HJ, HF, HM, HK⟩ := hrel
  cases gk with
  | zero => exact absurd HJ.out (by omega)
  | succ k1 =>
   by_cases hn : j < N
   ·have c1 : decide ((j : Int) < (N : Int)) = true := decide_eq_true (by omega)
    have p6 : (0 ≤ (j : Int)) = True := eq_true (by omega)
    have p7 : ((j : Int) < (N : Int)) = True := eq_true (by omega)
    have hwn : wrap64 ((j : Int) + 1) = ((j + 1 : Nat) : Int) := by have := HN.out; rw [w64] <;> omega
    have hxu := (HM.out.cell hp hn).1
    rw [setF_ne (Ne.symm hne)] at hxu
    by_cases hz : E p j = 0
    ·have hz1 : (E p j == 0) = true := by simpa using hz
     have hz2 : (E p j != 0) = false := by simpa using hz
     go_wp2
     go_roundg k1
     case measure => omega
     case rel => exact ⟨j + 1, rY, ⟨by have := HJ.out; omega⟩, HF, ⟨by rw [adP_succ, show adF D (E i) a (E p) j = adP D (E i) a (E p) j j by rw [adP_at]; exact if_pos hz, setF_same]; exact HM.out⟩, HK⟩
    ·have hz1 : (E p j == 0) = false := by simpa using hz
     have hz2 : (E p j != 0) = true := by simpa using hz
     go_wp2
     have hxv := (HM.out.cell hi hn).1
     rw [setF_self, adP_at] at hxv
     have HF := Aside0.mk HF.out.drew
     have HM := Aside0.mk HM.out.drew
     have HK := Aside0.mk HK.out.drew
     refine start_ (n := 14) (S := fun w' => w'.cell? ⟨bs i, j, none⟩ = some (.int .i64 (E i j))) (ds := [13]) (bb 14 0) (by kernel_rfl) rfl rfl hxv (fun hHeld => ?_); refine with_tabW Add4.tab Add4.bits (fun HT_ HW_ => ?_)
     generalize wr.drew = w11 at HF HM HK hHeld ⊢
     refine pq HT_ 0 19 (bb 14 1) ?_
     refine pq HT_ 1 20 (bb 14 3) ?_
     refine pq HT_ 2 21 (bb 14 7) ?_
     refine pq HT_ 3 22 (bb 14 15) ?_
     refine pq HT_ 4 23 (bb 14 31) ?_
     refine pq HT_ 5 24 (bb 14 63) ?_
     refine tq HT_ HW_ hHeld 6 25 (bb 14 127) ?_
     refine pq HT_ 7 26 (bb 14 255) ?_
     refine pq HT_ 8 27 (bb 14 511) ?_
     refine pq HT_ 9 28 (bb 14 1023) ?_
     refine oq HT_ 10 (some 29) (bb 14 2047) (fun K hK => ?_)
     refine gq Try.func116 #[.pointer (some ⟨g, 0, none⟩), .int .i64 a, .int .i64 (E p j)] ?_
     refine (HF.out.mul a (E p j)).mono ?_
     rintro e w12 ⟨rfl, hf, hk⟩
     refine ⟨_, rfl, ?_⟩
     have HM := Aside0.mk (HM.out.fs HF.out hk)
     have HK := Aside0.mk (HK.out.then_ (kept_but hk) (fun k e => .inl (.inl e)))
     have HF := Aside0.mk hf
     have hxv := (HM.out.cell hi hn).1
     rw [setF_self, adP_at] at hxv
     clear hk hf
     refine hK.out _ _ hxv (fun hHeld => ?_)
     clear hK K
     refine nq 29 ?_
     refine oq HT_ 11 (some 30) (bb 14 4095) (fun K hK => ?_)
     refine gq Try.func120 #[.pointer (some ⟨g, 0, none⟩), .int .i64 (E i j), .int .i64 (inn D a * inn D (E p j)).1] ?_
     refine (HF.out.add (E i j) (inn D a * inn D (E p j)).1).mono ?_
     rintro e w13 ⟨rfl, hf, hk⟩
     refine ⟨_, rfl, ?_⟩
     have HM := Aside0.mk (HM.out.fs HF.out hk)
     have HK := Aside0.mk (HK.out.then_ (kept_but hk) (fun k e => .inl (.inl e)))
     have HF := Aside0.mk hf
     have hxv := (HM.out.cell hi hn).1
     have hfz := (HM.out.cell hi hn).2
     rw [setF_self, adP_at] at hxv
     clear hk hf
     refine hK.out _ _ hxv (fun hHeld => ?_)
     clear hK K
     refine nq 30 ?_
     refine pq HT_ 12 31 (bb 14 8191) ?_
     refine lq HT_ 13 none (bb 14 16383) (fun K hK => ?_)
     refine skip_ (w1 := ?_) (by rfl) rfl ?_ ?_
     rotate_left
     ·go_simp
      rfl
     refine hK.out _ _ ?_
     clear hK K
     refine dq HT_ ?_
     have hval : (inn D (E i j) + inn D (inn D a * inn D (E p j)).1).1 = adF D (E i) a (E p) j := by rw [inn_self]; exact (if_neg hz).symm
     rw [hval]
     have hput := HM.out.put hi hn (adF D (E i) a (E p) j)
     rw [setF_setF, setF_self, ← adP_succ] at hput
     have HMp := Aside0.mk hput
     have HFp := Aside0.mk (HF.out.store (j := j) (HF.out.neB HM.out hi) (HM.out.lo i hi) (.int .i64 (adF D (E i) a (E p) j)))
     have HKp := Aside0.mk (HK.out.setCell (p := ⟨bs i, j, none⟩) (.inl (.inr rfl)) (.int .i64 (adF D (E i) a (E p) j)))
     clear hput
     go_wp2
     go_roundg k1
     case measure => omega
     case rel => exact ⟨j + 1, rY, ⟨by have := HJ.out; omega⟩, HFp, HMp, HKp⟩
   ·have c1 : decide ((j : Int) < (N : Int)) = false := decide_eq_false (by omega)
    have hj : j = N := by have := HJ.out; omega
    subst hj
    go_wp2
    refine bodyPost_end0 rfl rfl ⟨rfl, HF.out, HM.out.congr (fun r t hr ht => ?_), HK.out⟩
    unfold setF
    split
    ·exact if_pos ht
    ·rfl
end
def Lit2.T : Bool × List (List Nat × List Nat) := (true, [([], []), ([], []), ([], []), ([], []), ([], []), ([], []), ([4, 5], [4, 5]), ([6], [6]), ([], []), ([], []), ([8, 9], [8, 9]), ([10], [10]), ([0, 1, 0, 1, 4, 5, 6, 7, 11], [0, 1]), ([12, 7, 0, 1, 4, 5, 6, 7, 11], [7, 12]), ([2, 3, 0, 1, 2, 3, 4, 5, 6, 7, 8, 9, 10, 11, 12, 13], [2, 3]), ([14, 11, 13, 0, 1, 2, 3, 4, 5, 6, 7, 8, 9, 10, 11, 12, 13], [11, 14])])
def Lit2.B : List Nat := [0, 0, 0, 0, 0, 0, 48, 112, 0, 0, 768, 1792, 4083, 8179, 16383, 32767]
theorem Lit2.tab : rtab .any (opsOf Try.f152 0) = Lit2.T := by kernel_rfl
theorem Lit2.bits : waitsOk Lit2.T.2 Lit2.B = true := by kernel_rfl
def Lit3.T : Bool × List (List Nat × List Nat) := (true, [([], []), ([], []), ([], []), ([], []), ([], []), ([], []), ([4, 5], [4, 5]), ([6], [6]), ([2, 3, 7], [2, 3, 7]), ([0, 1, 0, 1, 2, 3, 4, 5, 6, 7, 8], [0, 1]), ([9, 8, 8, 0, 1, 2, 3, 4, 5, 6, 7, 8], [8, 9])])
def Lit3.B : List Nat := [0, 0, 0, 0, 0, 0, 48, 112, 252, 511, 1023]
theorem Lit3.tab : rtab .any (opsOf Try.f155 0) = Lit3.T := by kernel_rfl
theorem Lit3.bits : waitsOk Lit3.T.2 Lit3.B = true := by kernel_rfl
def Lit4.T : Bool × List (List Nat × List Nat) := (true, [([], []), ([], []), ([], []), ([1, 2], [1, 2]), ([3], [3]), ([], []), ([], []), ([5, 6], [5, 6]), ([], []), ([], []), ([8, 9], [8, 9]), ([10], [10]), ([0, 4, 7, 11, 7], [0, 4, 7, 11])])
def Lit4.B : List Nat := [0, 0, 0, 6, 14, 0, 0, 96, 0, 0, 768, 1792, 4095]
theorem Lit4.tab : rtab .any (opsOf Try.f157 0) = Lit4.T := by kernel_rfl
theorem Lit4.bits : waitsOk Lit4.T.2 Lit4.B = true := by kernel_rfl
section
variable {D : FD} {P M : Int} {Mod : List Int} {w0 w : World} {g R m N : Nat} {bs : Nat → Nat} {E : Nat → Nat → Int} {γ : GF D}
theorem hdr2 {base : Nat} (h : Mat w base R bs m N E) {i k : Nat} (hi : i < m) (hk : k < m) (u : Value) : ∃ v, (w.setCell ⟨R, i, none⟩ u).cell? ⟨R, k, none⟩ = some v ∧ (w.setCell ⟨R, i, none⟩ u).frozen? ⟨R, k, none⟩ = false := by
 obtain ⟨cells, hb, hh⟩ := h.hd (by omega)
 obtain ⟨c, _, h2⟩ := hh k hk
 have hlt : k < cells.size := by
  rw [Array.getElem?_eq_some_iff] at h2
  exact h2.1
 have hb2 := blk_set hb i u
 have hlt2 : k < (cells.setIfInBounds i u).size := by simpa using hlt
 exact ⟨_, (blk_cell hb2 k).trans (Array.getElem?_eq_getElem hlt2), blk_frozen hb2 k⟩
theorem swap_in (hF : Fs D P M Mod w0 w g γ) (hM : Mat w w0.heap.size R bs m N E) {i k : Nat} (hi : i < m) (hk : k < m) (c bk ba : Nat)
  (hbk : w.cell? ⟨bk, 0, none⟩ = some (.int .i64 (k : Int))) (hba : w.cell? ⟨ba, 0, none⟩ = some (.int .i64 (i : Int))) (hbkR : bk ≠ R) (hbaR : ba ≠ R) :
  Calls Try.prog 152 #[.slice (some ⟨R, 0, none⟩) m c, .pointer (some ⟨bk, 0, none⟩), .pointer (some ⟨ba, 0, none⟩)] w fun e w' => e = .returned (.tuple #[]) ∧ Fs D P M Mod w0 w' g γ ∧ Mat w' w0.heap.size R (swapF bs i k) m N (swapF E i k) ∧ Kept w w' (fun b => b = R) := by
 have HF := Aside0.mk hF.drew
 have HM := Aside0.mk hM.drew
 have HK := Aside0.mk ((Kept.refl w (fun b => b = R)).drew)
 obtain ⟨ci, hci, hhi, hfi⟩ := hM.drew.hcell hi
 obtain ⟨ck, hck, hhk, hfk⟩ := hM.drew.hcell hk
 replace hbk : w.drew.cell? ⟨bk, 0, none⟩ = some (.int .i64 (k : Int)) := hbk
 replace hba : w.drew.cell? ⟨ba, 0, none⟩ = some (.int .i64 (i : Int)) := hba
 have HRG := Aside0.mk (hF.neR hM (by omega))
 have HLO := Aside0.mk (hM.loR (by omega))
 have p1 : (0 ≤ (i : Int)) = True := eq_true (by omega)
 have p2 : (0 ≤ (k : Int)) = True := eq_true (by omega)
 have p3 : ((i : Int) < (m : Int)) = True := eq_true (by omega)
 have p4 : ((k : Int) < (m : Int)) = True := eq_true (by omega)
 clear hF hM
 go_enter Try.func152, Try.ntmps152
 refine start_ (n := 16) (S := fun w' => w'.cell? ⟨bk, 0, none⟩ = some (.int .i64 (k : Int)) ∧ w'.cell? ⟨ba, 0, none⟩ = some (.int .i64 (i : Int))) (ds := []) (bb 16 0) (by kernel_rfl) rfl rfl ⟨hbk, hba⟩ (fun hHeld => ?_); refine with_tabW Lit2.tab Lit2.bits (fun HT_ HW_ => ?_)
 generalize w.drew = w11 at HF HM HK hHeld hhi hhk hfi hfk ⊢
 clear hbk hba
 refine pq HT_ 0 4 (bb 16 1) ?_
 refine tq HT_ HW_ hHeld 1 5 (bb 16 3) ?_
 refine pq HT_ 2 6 (bb 16 7) ?_
 refine tq HT_ HW_ hHeld 3 7 (bb 16 15) ?_
 refine pq HT_ 4 8 (bb 16 31) ?_
 refine tq HT_ HW_ hHeld 5 9 (bb 16 63) ?_
 refine pq HT_ 6 10 (bb 16 127) ?_
 refine pq HT_ 8 12 (bb 16 383) ?_
 refine tq HT_ HW_ hHeld 9 13 (bb 16 895) ?_
 refine pq HT_ 10 14 (bb 16 1919) ?_
 refine two_ (i := 7) (j := 11) (Ni := some 11) (Nj := some 15) (bb 16 2047) (bb 16 3967) rfl rfl rfl rfl (two_of HT_.out (by kernel_rfl)) (by decide) (by decide) (fun K hK => ?_) (fun K hK => ?_)
 focus
  refine event_step (v := .slice (some ⟨bs k, 0, none⟩) N ck) (w1 := w11) (by rfl) ?_ ?_
  ·go_simp
   try rfl
  refine hK.out _ _ hHeld (fun hHeld => ?_)
  clear hK K
  refine nq 11 ?_
  refine oq HT_ 11 (some 15) (bb 16 4095) (fun K hK => ?_)
  refine event_step (v := .slice (some ⟨bs i, 0, none⟩) N ci) (w1 := w11) (by rfl) ?_ ?_
  ·go_simp
   try rfl
  refine hK.out _ _ hHeld (fun hHeld => ?_)
  clear hK K
  refine nq 15 ?_
  refine pq HT_ 12 16 (bb 16 8191) ?_
  refine oq HT_ 13 none (bb 16 16383) (fun K hK => ?_)
  refine skip_ (w1 := w11.setCell ⟨R, i, none⟩ (.slice (some ⟨bs k, 0, none⟩) N ck)) (by rfl) rfl ?_ ?_
  ·go_simp
   try rfl
  refine hK.out _ _ ⟨(cell_far (p := ⟨R, i, none⟩) (a := ⟨bk, 0, none⟩) hbkR _).trans hHeld.1, (cell_far (p := ⟨R, i, none⟩) (a := ⟨ba, 0, none⟩) hbaR _).trans hHeld.2⟩ (fun hHeld => ?_)
  clear hK K
  obtain ⟨v2, hc2, hf2⟩ := hdr2 HM.out hi hk (.slice (some ⟨bs k, 0, none⟩) N ck)
  refine pq HT_ 14 17 (bb 16 32767) ?_
  refine oq HT_ 15 none (bb 16 65535) (fun K hK => ?_)
  refine skip_ (w1 := (w11.setCell ⟨R, i, none⟩ (.slice (some ⟨bs k, 0, none⟩) N ck)).setCell ⟨R, k, none⟩ (.slice (some ⟨bs i, 0, none⟩) N ci)) (by rfl) rfl ?_ ?_
  ·go_simp
   try rfl
  refine hK.out _ _ ⟨(cell_far (p := ⟨R, k, none⟩) (a := ⟨bk, 0, none⟩) hbkR _).trans hHeld.1, (cell_far (p := ⟨R, k, none⟩) (a := ⟨ba, 0, none⟩) hbaR _).trans hHeld.2⟩ (fun hHeld => ?_)
  clear hK K
  refine dq HT_ ?_
  exact bodyPost_end0 rfl rfl ⟨rfl, ((HF.out.store HRG.out HLO.out _).store HRG.out HLO.out _), HM.out.swap hi hk hci hck, (HK.out.setCell (.inl rfl) _).setCell (.inl rfl) _⟩
 rotate_left
 focus
  refine event_step (v := .slice (some ⟨bs i, 0, none⟩) N ci) (w1 := w11) (by rfl) ?_ ?_
  ·go_simp
   try rfl
  refine hK.out _ _ hHeld (fun hHeld => ?_)
  clear hK K
  refine nq 15 ?_
  refine oq HT_ 7 (some 11) (bb 16 4095) (fun K hK => ?_)
  refine event_step (v := .slice (some ⟨bs k, 0, none⟩) N ck) (w1 := w11) (by rfl) ?_ ?_
  ·go_simp
   try rfl
  refine hK.out _ _ hHeld (fun hHeld => ?_)
  clear hK K
  refine nq 11 ?_
  refine pq HT_ 12 16 (bb 16 8191) ?_
  refine oq HT_ 13 none (bb 16 16383) (fun K hK => ?_)
  refine skip_ (w1 := w11.setCell ⟨R, i, none⟩ (.slice (some ⟨bs k, 0, none⟩) N ck)) (by rfl) rfl ?_ ?_
  ·go_simp
   try rfl
  refine hK.out _ _ ⟨(cell_far (p := ⟨R, i, none⟩) (a := ⟨bk, 0, none⟩) hbkR _).trans hHeld.1, (cell_far (p := ⟨R, i, none⟩) (a := ⟨ba, 0, none⟩) hbaR _).trans hHeld.2⟩ (fun hHeld => ?_)
  clear hK K
  obtain ⟨v2, hc2, hf2⟩ := hdr2 HM.out hi hk (.slice (some ⟨bs k, 0, none⟩) N ck)
  refine pq HT_ 14 17 (bb 16 32767) ?_
  refine oq HT_ 15 none (bb 16 65535) (fun K hK => ?_)
  refine skip_ (w1 := (w11.setCell ⟨R, i, none⟩ (.slice (some ⟨bs k, 0, none⟩) N ck)).setCell ⟨R, k, none⟩ (.slice (some ⟨bs i, 0, none⟩) N ci)) (by rfl) rfl ?_ ?_
  ·go_simp
   try rfl
  refine hK.out _ _ ⟨(cell_far (p := ⟨R, k, none⟩) (a := ⟨bk, 0, none⟩) hbkR _).trans hHeld.1, (cell_far (p := ⟨R, k, none⟩) (a := ⟨ba, 0, none⟩) hbaR _).trans hHeld.2⟩ (fun hHeld => ?_)
  clear hK K
  refine dq HT_ ?_
  exact bodyPost_end0 rfl rfl ⟨rfl, ((HF.out.store HRG.out HLO.out _).store HRG.out HLO.out _), HM.out.swap hi hk hci hck, (HK.out.setCell (.inl rfl) _).setCell (.inl rfl) _⟩
theorem scale_in (hF : Fs D P M Mod w0 w g γ) (hM : Mat w w0.heap.size R bs m N E) (hN1 : 1 ≤ N) (hN : N ≤ 1000000) {p : Nat} (hp : p < m) (a : Int) (c bg bv ba : Nat)
  (hbg : w.cell? ⟨bg, 0, none⟩ = some (.pointer (some ⟨g, 0, none⟩))) (hbv : w.cell? ⟨bv, 0, none⟩ = some (.int .i64 a)) (hba : w.cell? ⟨ba, 0, none⟩ = some (.int .i64 (p : Int)))
  (hgg : bg ≠ g) (hvg : bv ≠ g) (hag : ba ≠ g) (hgR : bg ≠ R) (hvR : bv ≠ R) (haR : ba ≠ R) :
  Calls Try.prog 155 #[.slice (some ⟨R, 0, none⟩) m c, .pointer (some ⟨bg, 0, none⟩), .pointer (some ⟨bv, 0, none⟩), .pointer (some ⟨ba, 0, none⟩)] w fun e w' => e = .returned (.tuple #[]) ∧ Fs D P M Mod w0 w' g γ ∧
   (∃ bs', Mat w' w0.heap.size R bs' m N (setF E p (scF D a (E p))) ∧ ∀ r, bs' r = bs r ∨ w.heap.size ≤ bs' r) ∧ Kept w w' (fun b => b = g ∨ b = R) := by
 have HF := Aside0.mk hF.drew
 have HM := Aside0.mk hM.drew
 have HK := Aside0.mk ((Kept.refl w (fun b => b = g ∨ b = R)).drew)
 obtain ⟨cp, hcp, hhp, hfp⟩ := hM.drew.hcell hp
 replace hbg : w.drew.cell? ⟨bg, 0, none⟩ = some (.pointer (some ⟨g, 0, none⟩)) := hbg
 replace hbv : w.drew.cell? ⟨bv, 0, none⟩ = some (.int .i64 a) := hbv
 replace hba : w.drew.cell? ⟨ba, 0, none⟩ = some (.int .i64 (p : Int)) := hba
 have HRG := Aside0.mk (hF.neR hM (by omega))
 have HLO := Aside0.mk (hM.loR (by omega))
 have HSZ := Aside0.mk (Nat.le_refl w.heap.size)
 have p1 : (0 ≤ (p : Int)) = True := eq_true (by omega)
 have p3 : ((p : Int) < (m : Int)) = True := eq_true (by omega)
 clear hF hM
 go_enter Try.func155, Try.ntmps155
 refine start_ (n := 11) (S := fun w' => w'.cell? ⟨bg, 0, none⟩ = some (.pointer (some ⟨g, 0, none⟩)) ∧ w'.cell? ⟨bv, 0, none⟩ = some (.int .i64 a) ∧ w'.cell? ⟨ba, 0, none⟩ = some (.int .i64 (p : Int))) (ds := []) (bb 11 0) (by kernel_rfl) rfl rfl ⟨hbg, hbv, hba⟩ (fun hHeld => ?_); refine with_tabW Lit3.tab Lit3.bits (fun HT_ HW_ => ?_)
 replace HSZ : Aside0 (w.heap.size ≤ w.drew.heap.size) := HSZ
 generalize w.drew = w11 at HF HM HK HSZ hHeld hhp hfp ⊢
 clear hbg hbv hba
 refine pq HT_ 0 5 (bb 11 1) ?_
 refine tq HT_ HW_ hHeld 1 6 (bb 11 3) ?_
 refine tq HT_ HW_ hHeld 2 7 (bb 11 7) ?_
 refine tq HT_ HW_ hHeld 3 8 (bb 11 15) ?_
 refine pq HT_ 4 9 (bb 11 31) ?_
 refine tq HT_ HW_ hHeld 5 10 (bb 11 63) ?_
 refine pq HT_ 6 11 (bb 11 127) ?_
 refine oq HT_ 7 (some 12) (bb 11 255) (fun K hK => ?_)
 refine event_step (v := .slice (some ⟨bs p, 0, none⟩) N cp) (w1 := w11) (by rfl) ?_ ?_
 ·go_simp
  try rfl
 refine hK.out _ _ hHeld (fun hHeld => ?_)
 clear hK K
 refine nq 12 ?_
 refine oq HT_ 8 (some 13) (bb 11 511) (fun K hK => ?_)
 refine gq Try.func156 #[.pointer (some ⟨g, 0, none⟩), .int .i64 a, .slice (some ⟨bs p, 0, none⟩) N cp] ?_
 have HC := HF.out.scale a (A := some ⟨bs p, 0, none⟩) (c := cp) (l := rowL N (E p)) (by rw [rowL_length]; exact HM.out.C (by omega) hp) (by rw [rowL_length]; exact hcp) (by rw [rowL_length]; exact hN) (fun ad e _ => by cases e; exact HF.out.neB HM.out hp)
 rw [rowL_length] at HC
 refine HC.mono ?_
 clear HC
 rintro e w12 ⟨v, rfl, hr, hf, hk⟩
 refine ⟨_, rfl, ?_⟩
 obtain ⟨gn, cn, rfl, hlo, hlt, cells, hcells⟩ := Kd.R_form hr (by rw [List.length_map, rowL_length]; omega)
 rw [List.length_map, rowL_length] at hr ⊢
 have hrow : ∀ j, j < N → cells[j]? = some (.int .i64 (scF D a (E p) j)) := fun j hj => by
  have h1 := (Kd.R_celln 0 hr (j : Int) (by omega) (by omega)).1
  rw [show ((j : Int)).toNat = j from rfl, blk_cell hcells] at h1
  rw [h1]
  have h2 : j < (rowL N (E p)).length := by rw [rowL_length]; exact hj
  have h3 : (rowL N (E p))[j]'h2 = E p j := by simp [rowL]
  simp [rdOf, h2, h3, scF]
 have hcn : N ≤ cn := by have := (Kd.R_reads' hr).2.1; exact this
 have HM2 := Aside0.mk (HM.out.fs HF.out hk)
 have HNW := Aside0.mk (fun r (hr2 : r < m) => (Nat.ne_of_lt (Nat.lt_of_lt_of_le (HM.out.lt hr2) hlo) : bs r ≠ gn))
 have HLN := Aside0.mk (Nat.le_trans HSZ.out hlo)
 have HLW := Aside0.mk (Nat.le_trans HF.out.B.size hlo)
 have HK2 := Aside0.mk (HK.out.then_ (kept_but hk) (fun k e => .inl (.inl e)))
 have hh1 := cellR hHeld.1 (kept_but hk) hgg
 have hh2 := cellR hHeld.2.1 (kept_but hk) hvg
 have hh3 := cellR hHeld.2.2 (kept_but hk) hag
 have HF2 := Aside0.mk hf
 obtain ⟨cq, _, hhq, hfq⟩ := HM2.out.hcell hp
 have HR2 := Aside0.mk hcells
 have HR3 := Aside0.mk hrow
 have HR4 := Aside0.mk hcn
 clear hk hf hr hlo hlt hHeld hhp hfp hcells hrow hcn HM HF HK
 refine hK.out _ _ ⟨hh1, hh2, hh3⟩ (fun hHeld => ?_)
 clear hK K hh1 hh2 hh3
 refine nq 13 ?_
 refine pq HT_ 9 14 (bb 11 1023) ?_
 refine oq HT_ 10 none (bb 11 2047) (fun K hK => ?_)
 refine skip_ (w1 := w12.setCell ⟨R, p, none⟩ (.slice (some ⟨gn, 0, none⟩) N cn)) (by rfl) rfl ?_ ?_
 ·go_simp
  try rfl
 refine hK.out _ _ ⟨(cell_far (p := ⟨R, p, none⟩) (a := ⟨bg, 0, none⟩) hgR _).trans hHeld.1, (cell_far (p := ⟨R, p, none⟩) (a := ⟨bv, 0, none⟩) hvR _).trans hHeld.2.1, (cell_far (p := ⟨R, p, none⟩) (a := ⟨ba, 0, none⟩) haR _).trans hHeld.2.2⟩ (fun hHeld => ?_)
 clear hK K
 refine dq HT_ ?_
 refine bodyPost_end0 rfl rfl ⟨rfl, HF2.out.store HRG.out HLO.out _, ⟨setF bs p gn, HM2.out.replace hp HR2.out HR3.out HR4.out (fun k hk _ => HNW.out k hk) HLW.out, fun r => ?_⟩, HK2.out.setCell (.inl (.inr rfl)) _⟩
 by_cases e : r = p
 ·subst e; rw [setF_self]; exact .inr HLN.out
 ·rw [setF_ne e]; exact .inl rfl
theorem addto_in (hF : Fs D P M Mod w0 w g γ) (hM : Mat w w0.heap.size R bs m N E) (hN : N ≤ 1000000) {i p : Nat} (hi : i < m) (hp : p < m) (hne : i ≠ p) (x : Int) (c bg bi bx ba : Nat)
  (hbg : w.cell? ⟨bg, 0, none⟩ = some (.pointer (some ⟨g, 0, none⟩))) (hbi : w.cell? ⟨bi, 0, none⟩ = some (.int .i64 (i : Int))) (hbx : w.cell? ⟨bx, 0, none⟩ = some (.int .i64 x)) (hba : w.cell? ⟨ba, 0, none⟩ = some (.int .i64 (p : Int)))
  (hgg : bg ≠ g) (hig : bi ≠ g) (hxg : bx ≠ g) (hag : ba ≠ g) (hgi : bg ≠ bs i) (hii : bi ≠ bs i) (hxi : bx ≠ bs i) (hai : ba ≠ bs i) :
  Calls Try.prog 157 #[.slice (some ⟨R, 0, none⟩) m c, .pointer (some ⟨bg, 0, none⟩), .pointer (some ⟨bi, 0, none⟩), .pointer (some ⟨bx, 0, none⟩), .pointer (some ⟨ba, 0, none⟩)] w fun e w' => e = .returned (.tuple #[]) ∧ Fs D P M Mod w0 w' g γ ∧
   Mat w' w0.heap.size R bs m N (setF E i (adF D (E i) (-inn D x).1 (E p))) ∧ Kept w w' (fun b => b = g ∨ b = bs i) := by
 have HF := Aside0.mk hF.drew
 have HM := Aside0.mk hM.drew
 have HK := Aside0.mk ((Kept.refl w (fun b => b = g ∨ b = bs i)).drew)
 obtain ⟨ci, hci, hhi, hfi⟩ := hM.drew.hcell hi
 obtain ⟨cp, hcp, hhp, hfp⟩ := hM.drew.hcell hp
 replace hbg : w.drew.cell? ⟨bg, 0, none⟩ = some (.pointer (some ⟨g, 0, none⟩)) := hbg
 replace hbi : w.drew.cell? ⟨bi, 0, none⟩ = some (.int .i64 (i : Int)) := hbi
 replace hbx : w.drew.cell? ⟨bx, 0, none⟩ = some (.int .i64 x) := hbx
 replace hba : w.drew.cell? ⟨ba, 0, none⟩ = some (.int .i64 (p : Int)) := hba
 have HRG := Aside0.mk (hF.neR hM (by omega))
 have HRI := Aside0.mk (hM.neR hi)
 have p1 : (0 ≤ (p : Int)) = True := eq_true (by omega)
 have p2 : (0 ≤ (i : Int)) = True := eq_true (by omega)
 have p3 : ((p : Int) < (m : Int)) = True := eq_true (by omega)
 have p4 : ((i : Int) < (m : Int)) = True := eq_true (by omega)
 clear hF hM
 go_enter Try.func157, Try.ntmps157
 refine start_ (n := 13) (S := fun w' => w'.cell? ⟨bg, 0, none⟩ = some (.pointer (some ⟨g, 0, none⟩)) ∧ w'.cell? ⟨bi, 0, none⟩ = some (.int .i64 (i : Int)) ∧ w'.cell? ⟨bx, 0, none⟩ = some (.int .i64 x) ∧ w'.cell? ⟨ba, 0, none⟩ = some (.int .i64 (p : Int)) ∧ w'.cell? ⟨R, i, none⟩ = some (.slice (some ⟨bs i, 0, none⟩) N ci) ∧ w'.cell? ⟨R, p, none⟩ = some (.slice (some ⟨bs p, 0, none⟩) N cp)) (ds := [12]) (bb 13 0) (by kernel_rfl) rfl rfl ⟨hbg, hbi, hbx, hba, hhi, hhp⟩ (fun hHeld => ?_); refine with_tabW Lit4.tab Lit4.bits (fun HT_ HW_ => ?_)
 generalize w.drew = w11 at HF HM HK hHeld ⊢
 clear hbg hbi hbx hba hhi hhp hfi hfp
 refine tq HT_ HW_ hHeld 0 6 (bb 13 1) ?_
 refine pq HT_ 1 7 (bb 13 3) ?_
 refine tq HT_ HW_ hHeld 2 8 (bb 13 7) ?_
 refine pq HT_ 3 9 (bb 13 15) ?_
 refine tq HT_ HW_ hHeld 4 10 (bb 13 31) ?_
 refine tq HT_ HW_ hHeld 5 11 (bb 13 63) ?_
 refine tq HT_ HW_ hHeld 6 12 (bb 13 127) ?_
 refine pq HT_ 8 14 (bb 13 383) ?_
 refine tq HT_ HW_ hHeld 9 15 (bb 13 895) ?_
 refine pq HT_ 10 16 (bb 13 1919) ?_
 refine tq HT_ HW_ hHeld 11 17 (bb 13 3967) ?_
 refine oq HT_ 7 (some 13) (bb 13 4095) (fun K hK => ?_)
 refine gq Try.func153 #[.pointer (some ⟨g, 0, none⟩), .int .i64 x] ?_
 refine (HF.out.neg x).mono ?_
 rintro e w12 ⟨rfl, hf, hk⟩
 refine ⟨_, rfl, ?_⟩
 have HM2 := Aside0.mk (HM.out.fs HF.out hk)
 have HK2 := Aside0.mk (HK.out.then_ (kept_but hk) (fun k e => .inl (.inl e)))
 have HF2 := Aside0.mk hf
 have hh : _ ∧ _ ∧ _ ∧ _ ∧ _ ∧ _ := ⟨cellR hHeld.1 (kept_but hk) hgg, cellR hHeld.2.1 (kept_but hk) hig, cellR hHeld.2.2.1 (kept_but hk) hxg, cellR hHeld.2.2.2.1 (kept_but hk) hag, cellR hHeld.2.2.2.2.1 (kept_but hk) HRG.out, cellR hHeld.2.2.2.2.2 (kept_but hk) HRG.out⟩
 clear hk hf hHeld HM HF HK
 refine hK.out _ _ hh (fun hHeld => ?_)
 clear hK K hh
 refine nq 13 ?_
 refine lq HT_ 12 (some 18) (bb 13 8191) (fun K hK => ?_)
 refine gq Try.func158 #[.pointer (some ⟨g, 0, none⟩), .slice (some ⟨bs i, 0, none⟩) N ci, .int .i64 (-inn D x).1, .slice (some ⟨bs p, 0, none⟩) N cp] ?_
 refine (Add_in HF2.out HM2.out hN hi hp hne _ ci cp).mono ?_
 rintro e w13 ⟨rfl, hf, hm, hk⟩
 refine ⟨_, rfl, ?_⟩
 have HF3 := Aside0.mk hf
 have HM3 := Aside0.mk hm
 have HK3 := Aside0.mk (HK2.out.then_ hk (fun k e => .inl e))
 clear hf hm hk HF2 HM2 HK2 hHeld
 refine hK.out _ _ ?_
 clear hK K
 refine nq 18 ?_
 refine dq HT_ ?_
 exact bodyPost_end0 rfl rfl ⟨rfl, HF3.out, HM3.out, HK3.out⟩
end
section
variable {w : World}
theorem each_152 (Q : World → Prop) (A : Option Addr) (m c bk ba b5 b7 : Nat) (hb5 : w.cell? ⟨b5, 0, none⟩ = some (.slice A m c))
  (hs : Calls Try.prog 152 #[.slice A m c, .pointer (some ⟨bk, 0, none⟩), .pointer (some ⟨ba, 0, none⟩)] w fun e w' => e = .returned (.tuple #[]) ∧ Q w') (hQ : ∀ w', Q w' → w'.cell? ⟨b7, 0, none⟩ = some (.slice none 0 0)) :
  Calls Try.prog 151 #[.func (.func 152) #[] #[.pointer (some ⟨bk, 0, none⟩), .pointer (some ⟨ba, 0, none⟩)], .pointer (some ⟨b5, 0, none⟩), .pointer (some ⟨b7, 0, none⟩)] w fun e w' => e = .returned (.tuple #[]) ∧ Q w' := by
 have HS := Aside0.mk hs
 have HQ := Aside0.mk hQ
 clear hs hQ
 go_enter Try.func151, Try.ntmps151
 go_wp2_with (go_at_call 152; refine HS.out.mono ?_; rintro e w1 ⟨rfl, hq⟩; have hb7 := HQ.out _ hq; have HW := Aside0.mk hq; clear hq)
 exact bodyPost_end0 rfl rfl ⟨rfl, HW.out⟩
theorem each_155 (Q : World → Prop) (A : Option Addr) (m c bg bv ba b5 b7 : Nat) (hb5 : w.cell? ⟨b5, 0, none⟩ = some (.slice A m c))
  (hs : Calls Try.prog 155 #[.slice A m c, .pointer (some ⟨bg, 0, none⟩), .pointer (some ⟨bv, 0, none⟩), .pointer (some ⟨ba, 0, none⟩)] w fun e w' => e = .returned (.tuple #[]) ∧ Q w') (hQ : ∀ w', Q w' → w'.cell? ⟨b7, 0, none⟩ = some (.slice none 0 0)) :
  Calls Try.prog 151 #[.func (.func 155) #[] #[.pointer (some ⟨bg, 0, none⟩), .pointer (some ⟨bv, 0, none⟩), .pointer (some ⟨ba, 0, none⟩)], .pointer (some ⟨b5, 0, none⟩), .pointer (some ⟨b7, 0, none⟩)] w fun e w' => e = .returned (.tuple #[]) ∧ Q w' := by
 have HS := Aside0.mk hs
 have HQ := Aside0.mk hQ
 clear hs hQ
 go_enter Try.func151, Try.ntmps151
 go_wp2_with (go_at_call 155; refine HS.out.mono ?_; rintro e w1 ⟨rfl, hq⟩; have hb7 := HQ.out _ hq; have HW := Aside0.mk hq; clear hq)
 exact bodyPost_end0 rfl rfl ⟨rfl, HW.out⟩
theorem each_157 (Q : World → Prop) (A : Option Addr) (m c bg bi bx ba b5 b7 : Nat) (hb5 : w.cell? ⟨b5, 0, none⟩ = some (.slice A m c))
  (hs : Calls Try.prog 157 #[.slice A m c, .pointer (some ⟨bg, 0, none⟩), .pointer (some ⟨bi, 0, none⟩), .pointer (some ⟨bx, 0, none⟩), .pointer (some ⟨ba, 0, none⟩)] w fun e w' => e = .returned (.tuple #[]) ∧ Q w') (hQ : ∀ w', Q w' → w'.cell? ⟨b7, 0, none⟩ = some (.slice none 0 0)) :
  Calls Try.prog 151 #[.func (.func 157) #[] #[.pointer (some ⟨bg, 0, none⟩), .pointer (some ⟨bi, 0, none⟩), .pointer (some ⟨bx, 0, none⟩), .pointer (some ⟨ba, 0, none⟩)], .pointer (some ⟨b5, 0, none⟩), .pointer (some ⟨b7, 0, none⟩)] w fun e w' => e = .returned (.tuple #[]) ∧ Q w' := by
 have HS := Aside0.mk hs
 have HQ := Aside0.mk hQ
 clear hs hQ
 go_enter Try.func151, Try.ntmps151
 go_wp2_with (go_at_call 157; refine HS.out.mono ?_; rintro e w1 ⟨rfl, hq⟩; have hb7 := HQ.out _ hq; have HW := Aside0.mk hq; clear hq)
 exact bodyPost_end0 rfl rfl ⟨rfl, HW.out⟩
end
end Go.Proofs.Ytibbdjkboglepaa.MyQBchZeros

import Derived.Test.YtibbdjkboglepaaM2
import Derived.LoopIn
import Derived.LoopNIn
import Derived.OwnWalkIn
import Derived.RangeFuncBound
import Derived.RangeFuncBox
import Derived.RangeFuncCalls
import Derived.RangeFuncFrom
import Derived.RangeFuncLeaves
import Derived.Shelf.Abstract
import Derived.Shelf.RegionOpen
import Derived.TacticsInMore
import Derived.WalkSpells
set_option maxHeartbeats 8000000
set_option maxRecDepth 100000
set_option linter.unusedVariables false
set_option linter.unusedSimpArgs false
set_option linter.unusedSectionVars false
namespace Go.Proofs.Ytibbdjkboglepaa.QBchRoots
open Go.RowKit Go.Proofs.YtibbdjkboglepaaW.PrintWords Go.Proofs.YtibbdjkboglepaaW.PrintLast Go.Proofs.YtibbdjkboglepaaW.PrintMore
attribute [local go_sem] max2_int min2_int max_two min_two max_three min_three max_four min_four
def field_powers.l0 : Nat → Int → List Int → List Bool → Int → Int → Int → List Int → Option (List Int)
 | 0, _, _, _, _, _, _, _ => none
 | k + 1, x2, x7, x8, x9, x141000, x141001, x141002 => if x9 = 0 then (some x7) else (if 0 ≤ x9 then (if x9 < (x8.length : Int) then (if rdOf false x8 x9 = true then (some x7) else (if x7.length < 17592186044416 then ((field_multiply.f k x141000 x141001 x141002 x9 x2).bind fun t153 => (field_powers.l0 k x2 (x7 ++ [x9]) (x8.set (x9 : Int).toNat true) t153 x141000 x141001 x141002)) else (none))) else (none)) else (none))
def field_powers.f (k : Nat) (a0_0 : Int) (a0_1 : Int) (l0_2 : List Int) (a1 : Int) (a2 : Int) : Option (List Int) := if 0 ≤ a1 then (if (a1 : Int).toNat ≤ 281474976710656 then ((some (List.replicate (a1 : Int).toNat false : List Bool)).bind fun y144 => (if 1 < (y144.length : Int) then (field_powers.l0 k a2 (([1] : List Int)) (y144.set (1 : Int).toNat true) a2 a0_0 a0_1 l0_2) else (none))) else (none)) else (none)
theorem field_powers.calls (k : Nat) (a0_0 : Int) (a0_1 : Int) (A0_2 : Option Addr) (c0_2 : Nat) (l0_2 : List Int) (a1 : Int) (a2 : Int) (r : List Int) (w : World) (hr0_2 : Kd.C (Kd.int .i64) w A0_2 l0_2.length l0_2) (hc0_2 : l0_2.length ≤ c0_2) (h : field_powers.f k a0_0 a0_1 l0_2 a1 a2 = some r) :
  Calls Try.prog 91 #[.agg #[.int .i64 a0_0, .int .i64 a0_1, .slice A0_2 l0_2.length c0_2], .int .i64 a1, .int .i64 a2] w fun e w' => ∃ v0_ : Value, e = .returned (v0_) ∧ Kd.R (Kd.int .i64) 3 w' w.heap.size (fun _ => True) v0_ r ∧ Below w.heap.size w w' := by
 have hu36 := Try.underlying36
 have HR0_2 := Aside0.mk hr0_2
 have HC0_2 := Aside0.mk hc0_2
 clear hr0_2 hc0_2
 have HB := Aside0.mk (Below.refl w.heap.size w)
 have H := h
 clear h
 unfold field_powers.f at H
 obtain ⟨y141, hy141⟩ : ∃ y_ : List Int, y_ = (([1] : List Int)) := ⟨_, rfl⟩
 (try rw [Option.bind_some] at H); (try rw [← hy141] at H)
 have Ny141 := Aside0.mk hy141
 clear hy141
 obtain ⟨c4, H⟩ := iE H
 have c4b0 := eq_true c4
 have c4b1 := decide_eq_true c4
 clear c4
 obtain ⟨c5, H⟩ := iE H
 have c5b0 := eq_true c5
 have c5b1 := decide_eq_true c5
 clear c5
 obtain ⟨y144, hy144⟩ : ∃ y_ : List Bool, y_ = (List.replicate (a1 : Int).toNat false) := ⟨_, rfl⟩
 (try rw [Option.bind_some] at H); (try rw [← hy144] at H)
 have Ny144 := Aside0.mk hy144
 clear hy144
 obtain ⟨c6, H⟩ := iE H
 have c6b0 := decide_eq_true c6
 have c6b1 : decide (1 < y144.length) = true := decide_eq_true (by omega)
 clear c6
 obtain ⟨y147, hy147⟩ : ∃ y_ : List Bool, y_ = (y144.set (1 : Int).toNat true) := ⟨_, rfl⟩
 (try rw [Option.bind_some] at H); (try rw [← hy147] at H)
 have Ny147 := Aside0.mk hy147
 clear hy147
 have H' := Aside0.mk H
 clear H
 go_enter Try.func91, Try.ntmps91
 go_wp2_with (first | (refine bz 3 #[.int .i64 a0_0, .int .i64 a0_1, .slice A0_2 l0_2.length c0_2] 36 ?_; clear HB; intro gb140 w8 BK140 GW140 GE140 HB) | ((with_reducible refine gate_dst (N := 10) rfl ?_); refine Kd.R_lit (Kd.int .i64) _ 3 ?hg (N := 10) ?hd (xs := ([1] : List Int)) (inner := [.int .i64 1]) (ok := fun _ => True) (okp := fun _ => True) ?hr ?hp (fun _ hk => hk) trivial (Below.refl _ _) (Nat.le_refl _) (by simp) ?_; (case hd => rfl); (case hg => rfl); (case hr => first | (go_simp; done) | (go_simp; rfl)); (case hp => exact (Reps.one (show Kd.M (Kd.int .i64) _ _ _ 1 [.int .i64 1] from rfl) (Reps.none _ _))); intro v142 w9 ho10 hb hg_ hnew_; clear hg_ hnew_; (first | rw [← Ny141.out] at ho10 | (simp only [Int.reduceToNat] at ho10; rw [← Ny141.out] at ho10)); have HO143 := Aside0.mk (Kd.R_lower ho10 (below_size bw)); replace BK140 := Aside0.mk (bkb BK140 hb); replace HB := Aside0.mk (below_step bw hb); clear hb ho10) | ((with_reducible refine gate_dst (N := 12) rfl ?_); refine Kd.R_make Kd.bool _ 4 rfl (N := 12) rfl 56 _ _ rfl a1 rfl rfl Try.underlying56 (.bool false) 1 info4 rfl (by decide) (by omega) false (ok := fun _ => True) (okp := fun _ => True) rfl (fun _ hk => hk) trivial (dT) (Nat.le_trans (Nat.mul_le_mul_right _ (dT : a1.toNat ≤ 281474976710656)) (by omega)) (Below.refl _ _) (Nat.le_refl _) ?_; intro v145 w11 ho12 hb hg_ hnew_; clear hg_ hnew_; (first | rw [← Ny144.out] at ho12 | (simp only [Int.reduceToNat] at ho12; rw [← Ny144.out] at ho12)); replace HO143 := Aside0.mk (Kd.R_below (rR HO143) hb); have HO146 := Aside0.mk (Kd.R_lower ho12 (below_size bw)); replace BK140 := Aside0.mk (bkb BK140 hb); replace HB := Aside0.mk (below_step bw hb); clear hb ho12; have p7 : 0 ≤ (1 : Int) := (by omega); have q7 : (1 : Int) < ((y144.length : Int) : Int) := dT; have qi7 : (1 < y144.length) = True := eq_true (by omega); obtain ⟨go7, co7, eo7, gb7, gl7, cl7, HG7⟩ := Kd.R_form HO146.out (by omega); (first | cases eo7 | (injection eo7 with ea_ en_ ec_; (first | subst ea_ | (injection ea_ with ea_; subst ea_)); subst ec_; clear en_)); have GB7 := Aside0.mk gb7; have GG7 := Aside0.mk HG7; clear gb7 gl7 HG7; obtain ⟨hx7_0, hf7_0⟩ := Kd.R_celln false HO146.out (1 : Int) p7 q7; (try rw [show ((1 : Int)).toNat = 1 from rfl] at hx7_0); (try simp only [Nat.reduceMul, Nat.zero_mul, Nat.zero_add, Nat.reduceAdd] at hx7_0); (try rw [show ((1 : Int)).toNat = 1 from rfl] at hf7_0); (try simp only [Nat.reduceMul, Nat.zero_mul, Nat.zero_add, Nat.reduceAdd] at hf7_0); replace p7 := eq_true p7; replace q7 := eq_true q7; obtain ⟨hy13_, hz13_⟩ := Kd.R_celln false HO146.out (1 : Int) (by omega) (dT); (try simp only [Int.reduceToNat, Int.toNat_zero, Int.toNat_ofNat, Nat.reduceMul, Nat.zero_mul, Nat.zero_add] at hy13_ hz13_); (try rw [show ((1 : Int)).toNat = 1 from rfl] at hy13_); (try rw [show ((1 : Int)).toNat = 1 from rfl] at hz13_); have HP13 := Kd.R_putg HO146.out (1 : Int) true) | ((with_reducible refine gate_store (t := 4) (p := 14) rfl ?_); refine store_event (t := 4) (p := 14) (v := ?vo_w14) (w1 := (w11.setCell ⟨go7, (1 : Int).toNat, none⟩ (.bool true))) ?hg ?ho ?hn ?hr ?_; (case ho => rfl); (case hg => rfl); (case hn => rfl); (case hr => first | (go_simp; done) | (go_simp; rfl)); intro w14 hw; have hg : w11.grownBy w14 (some go7) := (by rw [hw]; exact HP13.2); have hp_ : Kd.R Kd.bool 4 w14 w.heap.size (fun _ => True) (.slice (some ⟨go7, 0, none⟩) y144.length co7) y147 := (by rw [hw, Ny147.out]; exact HP13.1); clear HP13; replace BK140 := Aside0.mk (blk_grown (g := gb140) (o := .cells #[.int .i64 a0_0, .int .i64 a0_1, .slice A0_2 l0_2.length c0_2] 36 (0, 0)) (kk BK140) hg (Kd.R_ne HO146.out BK140.out (by decide))); replace HO143 := Aside0.mk (Kd.R_over' (v := (.slice (some ⟨go7, 0, none⟩) y144.length co7)) (rR HO143) (Kd.R_typed HO146.out) (by decide) hg); replace HO146 := Aside0.mk hp_; replace HB := Aside0.mk ((by rw [hw]; exact below_set (HB.out) GB7.out : Below w.heap.size w w14)); clear hg hw hp_))
 go_loopg [7, 9] k (fun kq v7 v9 w' => ∃ (x7_1 : List Int) (x8_1 : List Bool) (x9_1 : Int), v9 = .int .i64 x9_1 ∧ Aside0 (field_powers.l0 kq a2 x7_1 x8_1 x9_1 a0_0 a0_1 l0_2 = some r) ∧ Aside0 (kq ≤ k) ∧ Aside0 (Kd.R (Kd.int .i64) 3 w' w.heap.size (fun _ => True) v7 x7_1) ∧ Aside0 (Kd.R Kd.bool 4 w' w.heap.size (fun _ => True) (.slice (some ⟨go7, 0, none⟩) y144.length co7) x8_1) ∧ Aside0 (w'.heap[gb140]? = some (.cells #[.int .i64 a0_0, .int .i64 a0_1, (.slice A0_2 l0_2.length c0_2)] 36 (0, 0))) ∧ Aside0 (Below w.heap.size w w'))
 case atStart => exact ⟨(y141), (y147), (a2), rX, H', ⟨Nat.le_refl _⟩, ⟨rR HO143⟩, ⟨rR HO146⟩, ⟨kk BK140⟩, ⟨bw⟩⟩
 case round =>
  clear H' c4b0 c4b1 c5b0 c5b1 c6b0 c6b1 p7 q7 qi7 hx7_0
  obtain ⟨x7_1, x8_1, x9_1, rfl, HA, HK1, HO_7, HO_8, BK140, HB⟩ := hrel
  have hl8_1 := (Kd.R_reads' HO_8.out).1
  rw [hl8_1] at HO_8
  (try simp only [hl8_1])
  (try simp only [hl8_1] at BK140)
  (try simp only [hl8_1] at HO_7)
  cases gk with
  | zero => exact absurd HA.out (by simp [field_powers.l0])
  | succ k1 =>
   have H := HA.out
   clear HA
   simp only [field_powers.l0] at H
   by_cases c15 : x9_1 = 0
   ·rw [if_pos c15] at H
    have c15b0 := beq_iff_eq.mpr c15
    have c15b1 := bne_eq_false_iff_eq.mpr c15
    clear c15
    obtain rfl := Option.some.inj H
    go_wp2
    go_ret
    exact ⟨_, rW, rR HO_7, bw⟩
   ·rw [if_neg c15] at H
    have c15b0 := beq_eq_false_iff_ne.mpr c15
    have c15b1 := bne_iff_ne.mpr c15
    obtain ⟨c16, H⟩ := iE H
    have c16b0 := decide_eq_true c16
    clear c16
    obtain ⟨c17, H⟩ := iE H
    have c17b0 := decide_eq_true c17
    clear c17
    obtain ⟨bq18, hbq18⟩ : ∃ b_ : Bool, b_ = (rdOf false x8_1 x9_1) := ⟨_, rfl⟩
    replace H : (if bq18 = true then (some x7_1) else (if x7_1.length < 17592186044416 then ((field_multiply.f k1 a0_0 a0_1 l0_2 x9_1 a2).bind fun t153 => (field_powers.l0 k1 a2 (x7_1 ++ [x9_1]) (x8_1.set (x9_1 : Int).toNat true) t153 a0_0 a0_1 l0_2)) else (none))) = some r := by rw [← hbq18] at H; exact H
    have Nbq18 := Aside0.mk hbq18
    clear hbq18
    by_cases c19 : bq18 = true
    ·subst c19
     have H1 : (some x7_1) = some r := by rw [if_pos rfl] at H; exact H
     clear H
     have H := H1
     clear H1
     obtain rfl := Option.some.inj H
     have p148 : 0 ≤ (x9_1 : Int) := dT
     have q148 : x9_1 < (x8_1.length : Int) := dT
     obtain ⟨ad148, e148, hx148_0⟩ := Kd.at_bool (Kd.R_reads' HO_8.out).2.2 x9_1 p148 q148
     (try rw [← Nbq18.out] at hx148_0)
     obtain rfl : (⟨go7, 0, none⟩ : Addr) = ad148 := (by injection e148)
     (first | simp only [add_plain] at hx148_0 | simp only [add_at] at hx148_0 | simp only [Addr.add, Nat.zero_add] at hx148_0 | skip)
     replace p148 := eq_true p148
     replace q148 := eq_true q148
     go_wp2
     go_ret
     exact ⟨_, rW, rR HO_7, bw⟩
    ·replace c19 := Bool.eq_false_iff.mpr c19
     subst c19
     have H1 : (if x7_1.length < 17592186044416 then ((field_multiply.f k1 a0_0 a0_1 l0_2 x9_1 a2).bind fun t153 => (field_powers.l0 k1 a2 (x7_1 ++ [x9_1]) (x8_1.set (x9_1 : Int).toNat true) t153 a0_0 a0_1 l0_2)) else (none)) = some r := by rw [if_neg (show ¬ (false = true) by decide)] at H; exact H
     clear H
     have H := H1
     clear H1
     obtain ⟨y149, hy149⟩ : ∃ y_ : List Bool, y_ = (x8_1.set (x9_1 : Int).toNat true) := ⟨_, rfl⟩
     (try rw [Option.bind_some] at H); (try rw [← hy149] at H)
     have Ny149 := Aside0.mk hy149
     clear hy149
     obtain ⟨c21, H⟩ := iE H
     have LMc21 := Aside0.mk c21
     clear c21
     obtain ⟨y150, hy150⟩ : ∃ y_ : List Int, y_ = (x7_1 ++ [x9_1]) := ⟨_, rfl⟩
     replace H : ((field_multiply.f k1 a0_0 a0_1 l0_2 x9_1 a2).bind fun t153 => (field_powers.l0 k1 a2 y150 y149 t153 a0_0 a0_1 l0_2)) = some r := by first | (rw [hy150]; with_reducible exact H) | (have H2_ := (Option.bind_some _ _).symm.trans H; rw [hy150]; with_reducible exact H2_) | (have H2_ := (Option.bind_some _ _).symm.trans H; with_reducible exact H2_) | with_reducible exact H | (rw [hy150]; exact H) | exact H
     have Ny150 := Aside0.mk hy150
     clear hy150
     obtain ⟨t153, A22, H⟩ := bE H
     have H' := Aside0.mk H
     clear H
     have p148 : 0 ≤ (x9_1 : Int) := dT
     have q148 : x9_1 < (x8_1.length : Int) := dT
     obtain ⟨ad148, e148, hx148_0⟩ := Kd.at_bool (Kd.R_reads' HO_8.out).2.2 x9_1 p148 q148
     (try rw [← Nbq18.out] at hx148_0)
     obtain rfl : (⟨go7, 0, none⟩ : Addr) = ad148 := (by injection e148)
     (first | simp only [add_plain] at hx148_0 | simp only [add_at] at hx148_0 | simp only [Addr.add, Nat.zero_add] at hx148_0 | skip)
     replace p148 := eq_true p148
     replace q148 := eq_true q148
     have p20 : 0 ≤ (x9_1 : Int) := dT
     have q20 : (x9_1 : Int) < ((x8_1.length : Int) : Int) := dT
     obtain ⟨hx20_0, hf20_0⟩ := Kd.R_celln false HO_8.out (x9_1 : Int) p20 q20
     replace p20 := eq_true p20
     replace q20 := eq_true q20
     have HP23 := Kd.R_putg HO_8.out (x9_1 : Int) true
     go_wp2_with (first | ((with_reducible refine gate_store (t := 4) (p := 31) rfl ?_); refine store_event (t := 4) (p := 31) (v := ?vo_w24) (w1 := (wr.setCell ⟨go7, (x9_1 : Int).toNat, none⟩ (.bool true))) ?hg ?ho ?hn ?hr ?_; (case ho => rfl); (case hg => rfl); (case hn => rfl); (case hr => first | (go_simp; done) | (go_simp; rfl)); intro w24 hw; have hg : wr.grownBy w24 (some go7) := (by rw [hw]; exact HP23.2); have hp_ : Kd.R Kd.bool 4 w24 w.heap.size (fun _ => True) (.slice (some ⟨go7, 0, none⟩) x8_1.length co7) y149 := (by rw [hw, Ny149.out]; exact HP23.1); clear HP23; replace HO_7 := Aside0.mk (Kd.R_over' (v := (.slice (some ⟨go7, 0, none⟩) x8_1.length co7)) (rR HO_7) (Kd.R_typed HO_8.out) (by decide) hg); replace BK140 := Aside0.mk (blk_grown (g := gb140) (o := .cells #[.int .i64 a0_0, .int .i64 a0_1, .slice A0_2 l0_2.length c0_2] 36 (0, 0)) (kk BK140) hg (Kd.R_ne HO_8.out BK140.out (by decide))); replace HO_8 := Aside0.mk hp_; replace HB := Aside0.mk ((by rw [hw]; exact below_set (HB.out) GB7.out : Below w.heap.size w w24)); clear hg hw hp_) | ((with_reducible refine gate_builtin (b := .append) (xs := #[.tmp 32, .tmp 34]) rfl ?_); at_builtin; refine Kd.R_append (Kd.int .i64) (w0 := w) w.heap.size rfl (.tmp 32) (.tmp 34) 22 3 (.int .i64 0) 8 rfl Try.underlying22 info3 rfl (by decide) (by omega) u7 x7_1 x9_1 [.int .i64 x9_1] (fun _ => True) (fun _ => False) rfl rfl ?aP (fun _ hk => hk.elim) ?aF ?aO ?aB ?aS ?aL ?_; (case aP => exact rfl); (case aB => exact bw); (case aF => exact (fun _ _ => trivial)); (case aO => exact (rR HO_7)); (case aS => exact (below_size bw)); (case aL => have := LMc21.out; omega); intro v151 w25 ho hb hg hat; rw [← Ny150.out] at ho; replace HO_8 := Aside0.mk (Kd.R_over' (rR HO_8) (Kd.R_typed (rR HO_7)) (by decide) hg); replace BK140 := Aside0.mk (blk_grown (g := gb140) (o := .cells #[.int .i64 a0_0, .int .i64 a0_1, .slice A0_2 l0_2.length c0_2] 36 (0, 0)) (kk BK140) hg (Kd.R_ne HO_7.out BK140.out (by decide))); replace HB := Aside0.mk hb; have HO152 := Aside0.mk (ho); clear HO_7; clear ho hb hg hat; obtain ⟨hcz26_0, hcz26_1, hcz26_2, hfz26_0, hfz26_1, hfz26_2⟩ := bq3 BK140.out) | (refine gL 28 Try.func92 #[.agg #[.int .i64 a0_0, .int .i64 a0_1, .slice A0_2 l0_2.length c0_2], .int .i64 x9_1, .int .i64 a2] ?_; (with_reducible refine (field_multiply.calls k1 a0_0 a0_1 _ _ l0_2 x9_1 a2 t153 _ (Kd.C_below HR0_2.out bw) HC0_2.out A22.out).mono ?_); rintro e w27 ⟨rfl, hb⟩; refine ⟨_, rfl, ?_⟩; replace HO_8 := Aside0.mk (Kd.R_below (rR HO_8) hb); replace HO152 := Aside0.mk (Kd.R_below (rR HO152) hb); replace BK140 := Aside0.mk (bkb BK140 hb); replace HB := Aside0.mk (below_step bw hb); (try clear hb)))
     (try simp only [← hl8_1])
     go_roundg k1
     case measure => have := HK1.out; omega
     case rel => exact ⟨(y150), (y149), (t153), rX, H', mK, ⟨by (try simp only [hl8_1]); (with_reducible repeat (first | apply Kd.R_alloc | apply Kd.R_drewN | apply Kd.R_drew)); exact HO152.out⟩, ⟨by (try simp only [hl8_1]); (with_reducible repeat (first | apply Kd.R_alloc | apply Kd.R_drewN | apply Kd.R_drew)); exact HO_8.out⟩, ⟨by (try simp only [hl8_1]); (with_reducible repeat (first | refine blk_drewN ?_ _ | refine blk_drew ?_ | refine blk_alloc ?_ _)); exact BK140.out⟩, ⟨bw⟩⟩
def field_generator.l0 : Nat → Int → Int → Int → Int → List Int → Option (List Int)
 | 0, _, _, _, _, _ => none
 | k + 1, x1, x5, x155000, x155001, x155002 => if x5 < x1 then ((field_powers.f k x155000 x155001 x155002 x1 x5).bind fun t155 => (if (t155.length : Int) = (wrap64 (x1 - 1)) then (if 0 ≤ (wrap64 (x1 - 2)) then (if (wrap64 (x1 - 2)) < (t155.length : Int) then ((field_multiply.f k x155000 x155001 x155002 (rd t155 (wrap64 (x1 - 2))) x5).bind fun t159 => (if t159 = 1 then (some t155) else (field_generator.l0 k x1 (wrap64 (x5 + 1)) x155000 x155001 x155002))) else (none)) else (none)) else (field_generator.l0 k x1 (wrap64 (x5 + 1)) x155000 x155001 x155002))) else (some ([] : List Int))
def field_generator.f (k : Nat) (a0_0 : Int) (a0_1 : Int) (l0_2 : List Int) (a1 : Int) : Option (List Int) := field_generator.l0 k a1 1 a0_0 a0_1 l0_2
def field_generator.T5 : Bool × List (List Nat × List Nat) := (true, [([], []), ([0], [0]), ([], []), ([2], [2]), ([1, 3], [1, 3]), ([4], [4]), ([5], [5]), ([5], [5]), ([5], [5]), ([8, 5], [5, 8]), ([7, 9, 5], [5, 7, 9]), ([10, 5], [5, 10]), ([5], [5]), ([6, 11, 12, 5, 5], [5, 6, 11, 12]), ([13, 5], [5, 13]), ([5, 14], [5, 14])])
def field_generator.B5 : List Nat := [0, 1, 0, 4, 15, 31, 63, 63, 63, 319, 959, 1983, 63, 8191, 16383, 32767]
theorem field_generator.tab5 : rtab .any (opsOf Try.f64 5) = field_generator.T5 := by kernel_rfl
theorem field_generator.bits5 : waitsOk field_generator.T5.2 field_generator.B5 = true := by kernel_rfl
theorem field_generator.calls (k : Nat) (a0_0 : Int) (a0_1 : Int) (A0_2 : Option Addr) (c0_2 : Nat) (l0_2 : List Int) (a1 : Int) (r : List Int) (w : World) (hr0_2 : Kd.C (Kd.int .i64) w A0_2 l0_2.length l0_2) (hc0_2 : l0_2.length ≤ c0_2) (h : field_generator.f k a0_0 a0_1 l0_2 a1 = some r) :
  Calls Try.prog 64 #[.agg #[.int .i64 a0_0, .int .i64 a0_1, .slice A0_2 l0_2.length c0_2], .int .i64 a1] w fun e w' => ∃ v0_ : Value, e = .returned (v0_) ∧ Kd.R (Kd.int .i64) 3 w' w.heap.size (fun _ => True) v0_ r ∧ Below w.heap.size w w' ∧ (r = [] → v0_ = .slice none 0 0) := by
 have hu36 := Try.underlying36
 have HR0_2 := Aside0.mk hr0_2
 have HC0_2 := Aside0.mk hc0_2
 clear hr0_2 hc0_2
 have HB := Aside0.mk (Below.refl w.heap.size w)
 have H := h
 clear h
 unfold field_generator.f at H
 have H' := Aside0.mk H
 clear H
 go_enter Try.func64, Try.ntmps64
 go_wp2_with (refine bz 2 #[.int .i64 a0_0, .int .i64 a0_1, .slice A0_2 l0_2.length c0_2] 36 ?_; clear HB; intro gb154 w3 BK154 GW154 GE154 HB)
 go_loopg [5] k (fun kq v5 w' => ∃ (x5_1 : Int), v5 = .int .i64 x5_1 ∧ Aside0 (field_generator.l0 kq a1 x5_1 a0_0 a0_1 l0_2 = some r) ∧ Aside0 (kq ≤ k) ∧ Aside0 (w'.heap[gb154]? = some (.cells #[.int .i64 a0_0, .int .i64 a0_1, (.slice A0_2 l0_2.length c0_2)] 36 (0, 0))) ∧ Aside0 (Below w.heap.size w w'))
 case atStart => exact ⟨(1), rX, H', ⟨Nat.le_refl _⟩, ⟨kk BK154⟩, ⟨bw⟩⟩
 case round =>
  clear H'
  obtain ⟨x5_1, rfl, HA, HK1, BK154, HB⟩ := hrel
  cases gk with
  | zero => exact absurd HA.out (by simp [field_generator.l0])
  | succ k1 =>
   have H := HA.out
   clear HA
   simp only [field_generator.l0] at H
   by_cases c4 : x5_1 < a1
   ·rw [if_pos c4] at H
    have c4b0 := decide_eq_true c4
    clear c4
    obtain ⟨t155, A5, H⟩ := bE H
    by_cases c6 : (t155.length : Int) = (wrap64 (a1 - 1))
    ·rw [if_pos c6] at H
     have c6b0 := beq_iff_eq.mpr c6
     have c6b1 := bne_eq_false_iff_eq.mpr c6
     clear c6
     obtain ⟨ji7, hji7⟩ : ∃ j_ : Int, (wrap64 (a1 - 2)) = j_ := ⟨_, rfl⟩
     replace H : (if 0 ≤ (ji7) then (if (ji7) < (t155.length : Int) then ((field_multiply.f k1 a0_0 a0_1 l0_2 (rd t155 (ji7)) x5_1).bind fun t159 => (if t159 = 1 then (some t155) else (field_generator.l0 k1 a1 (wrap64 (x5_1 + 1)) a0_0 a0_1 l0_2))) else (none)) else (none)) = some r := by first | (rw [hji7] at H; exact H) | (simp only [hji7] at H ⊢; exact H)
     (try rw [hji7] at A5)
     have hji7w : (IntKind.i64.wrap (a1 - 2)) = ji7 := (i64_w _).trans hji7
     obtain ⟨c8, H⟩ := iE H
     have c8b0 := decide_eq_true c8
     clear c8
     obtain ⟨c9, H⟩ := iE H
     have c9b0 := decide_eq_true c9
     clear c9
     obtain ⟨t159, A10, H⟩ := bE H
     by_cases c11 : t159 = 1
     ·rw [if_pos c11] at H
      have c11b0 := beq_iff_eq.mpr c11
      have c11b1 := bne_eq_false_iff_eq.mpr c11
      clear c11
      obtain rfl := Option.some.inj H
      obtain ⟨hcz12_0, hcz12_1, hcz12_2, hfz12_0, hfz12_1, hfz12_2⟩ := bq3 BK154.out
      try go_wp2_with (refine gL 15 Try.func91 #[.agg #[.int .i64 a0_0, .int .i64 a0_1, .slice A0_2 l0_2.length c0_2], .int .i64 a1, .int .i64 x5_1] ?_; (with_reducible refine (field_powers.calls k1 a0_0 a0_1 _ _ l0_2 a1 x5_1 t155 _ (Kd.C_below HR0_2.out bw) HC0_2.out A5.out).mono ?_); rintro e w13 ⟨v156, rfl, ho0, hb⟩; refine ⟨_, rfl, ?_⟩; have HO157 := Aside0.mk (Kd.R_lower ho0 (below_size bw)); replace BK154 := Aside0.mk (bkb BK154 hb); replace HB := Aside0.mk (below_step bw hb); (try clear hb); (try clear ho0))
      replace HO157 := Aside0.mk (Kd.R_drew HO157.out)
      replace BK154 := Aside0.mk (blk_drew BK154.out)
      replace HB := Aside0.mk (below_drew1 HB.out)
      obtain ⟨Ao15, co15, eo15⟩ := Kd.R_slice HO157.out
      (first | subst eo15 | (injection eo15 with f1_ f2_ f3_; have f4_ := f1_.symm; have f5_ := f3_.symm; clear f1_ f2_ f3_; subst f4_; subst f5_))
      have p158 : 0 ≤ ((ji7) : Int) := dT
      have q158 : (ji7) < (t155.length : Int) := dT
      obtain ⟨ad158, e158, hx158_0⟩ := Kd.at_int (Kd.R_reads' HO157.out).2.2 (ji7) p158 q158
      cases e158
      replace p158 := eq_true p158
      replace q158 := eq_true q158
      refine start_ (n := 16) (S := fun w' => w'.cell? ⟨gb154, 0, none⟩ = some (.int .i64 a0_0) ∧ w'.cell? ⟨gb154, 1, none⟩ = some (.int .i64 a0_1) ∧ w'.cell? ⟨gb154, 2, none⟩ = some (.slice A0_2 l0_2.length c0_2) ∧ w'.cell? (ad158.add ((ji7)).toNat) = some (.int .i64 (rd t155 (ji7)))) (ds := []) (bb 16 0) (by kernel_rfl) rfl rfl ⟨bc0 BK154.out, bc1 BK154.out, bc2 BK154.out, hx158_0⟩ (fun hHeld => ?_); refine with_tabW field_generator.tab5 field_generator.bits5 (fun HT_ HW_ => ?_)
      generalize w13.drew = w14 at HO157 BK154 HB hx158_0 hHeld ⊢
      refine pq HT_ 0 16 (bb 16 1) ?_
      refine pq HT_ 1 17 (bb 16 3) ?_
      refine pq HT_ 2 18 (bb 16 7) ?_
      refine pq HT_ 3 19 (bb 16 15) ?_
      refine pq HT_ 4 20 (bb 16 31) ?_
      refine pq HT_ 5 21 (bb 16 63) ?_
      refine pq HT_ 7 23 (bb 16 191) ?_
      refine pq HT_ 8 24 (bb 16 447) ?_
      refine pq HT_ 9 25 (bb 16 959) ?_
      refine pq HT_ 10 26 (bb 16 1983) ?_
      refine pq HT_ 12 28 (bb 16 6079) ?_
      refine tq HT_ HW_ hHeld 6 22 (bb 16 6143) ?_
      refine tq HT_ HW_ hHeld 11 27 (bb 16 8191) ?_
      refine oq HT_ 13 (some 29) (bb 16 16383) (fun K hK => ?_)
      refine goes_ Try.func92 (by kernel_rfl) rfl #[.agg #[.int .i64 a0_0, .int .i64 a0_1, .slice A0_2 l0_2.length c0_2], .int .i64 (rd t155 (ji7)), .int .i64 x5_1] (by rfl) rfl rfl (by (try simp only [List.map_toArray, List.map_cons, List.map_nil]); first | done | (simp only [hji7]; rfl) | rfl | (simp only [List.length_drop, List.length_take]; rfl)) ?_
      with_reducible refine (field_multiply.calls k1 a0_0 a0_1 _ _ l0_2 (rd t155 (ji7)) x5_1 t159 _ (Kd.C_below HR0_2.out bw) HC0_2.out A10.out).mono ?_
      rintro e w16 ⟨rfl, hb⟩
      have HS3_ := (hb.cell (World.block_lt_of_cell? _ _ (hHeld.2.2.2))).trans (hHeld.2.2.2)
      refine ⟨_, rfl, ?_⟩
      replace HO157 := Aside0.mk (Kd.R_below (rR HO157) hb)
      replace BK154 := Aside0.mk (bkb BK154 hb)
      replace HB := Aside0.mk (below_step bw hb)
      clear hb
      refine hK.out _ _ ⟨bc0 BK154.out, bc1 BK154.out, bc2 BK154.out, HS3_⟩ (fun hHeld => ?_)
      clear hK K
      refine nq 29 ?_
      refine pq HT_ 14 30 (bb 16 32767) ?_
      refine pq HT_ 15 31 (bb 16 65535) ?_
      refine dq HT_ ?_
      try go_wp2
      go_ret
      exact ⟨_, by first | rfl | (simp [errW_none, errW_some] <;> rfl) | (simp only [← hji7]; first | rfl | (simp [errW_none, errW_some] <;> rfl)) | (simp [*, errW_none, errW_some] <;> rfl), rR HO157, bw, fun h_ => absurd (of_decide_eq_true (by assumption) : (ji7) < (t155.length : Int)) (by rw [h_]; have := (of_decide_eq_true (by assumption) : 0 ≤ (ji7)); simp; omega)⟩
     ·rw [if_neg c11] at H
      have c11b0 := beq_eq_false_iff_ne.mpr c11
      have c11b1 := bne_iff_ne.mpr c11
      have H' := Aside0.mk H
      clear H
      obtain ⟨hcz17_0, hcz17_1, hcz17_2, hfz17_0, hfz17_1, hfz17_2⟩ := bq3 BK154.out
      try go_wp2_with (refine gL 15 Try.func91 #[.agg #[.int .i64 a0_0, .int .i64 a0_1, .slice A0_2 l0_2.length c0_2], .int .i64 a1, .int .i64 x5_1] ?_; (with_reducible refine (field_powers.calls k1 a0_0 a0_1 _ _ l0_2 a1 x5_1 t155 _ (Kd.C_below HR0_2.out bw) HC0_2.out A5.out).mono ?_); rintro e w18 ⟨v156, rfl, ho0, hb⟩; refine ⟨_, rfl, ?_⟩; have HO157 := Aside0.mk (Kd.R_lower ho0 (below_size bw)); replace BK154 := Aside0.mk (bkb BK154 hb); replace HB := Aside0.mk (below_step bw hb); (try clear hb); (try clear ho0))
      replace HO157 := Aside0.mk (Kd.R_drew HO157.out)
      replace BK154 := Aside0.mk (blk_drew BK154.out)
      replace HB := Aside0.mk (below_drew1 HB.out)
      obtain ⟨Ao20, co20, eo20⟩ := Kd.R_slice HO157.out
      (first | subst eo20 | (injection eo20 with f1_ f2_ f3_; have f4_ := f1_.symm; have f5_ := f3_.symm; clear f1_ f2_ f3_; subst f4_; subst f5_))
      have p158 : 0 ≤ ((ji7) : Int) := dT
      have q158 : (ji7) < (t155.length : Int) := dT
      obtain ⟨ad158, e158, hx158_0⟩ := Kd.at_int (Kd.R_reads' HO157.out).2.2 (ji7) p158 q158
      cases e158
      replace p158 := eq_true p158
      replace q158 := eq_true q158
      refine start_ (n := 16) (S := fun w' => w'.cell? ⟨gb154, 0, none⟩ = some (.int .i64 a0_0) ∧ w'.cell? ⟨gb154, 1, none⟩ = some (.int .i64 a0_1) ∧ w'.cell? ⟨gb154, 2, none⟩ = some (.slice A0_2 l0_2.length c0_2) ∧ w'.cell? (ad158.add ((ji7)).toNat) = some (.int .i64 (rd t155 (ji7)))) (ds := []) (bb 16 0) (by kernel_rfl) rfl rfl ⟨bc0 BK154.out, bc1 BK154.out, bc2 BK154.out, hx158_0⟩ (fun hHeld => ?_); refine with_tabW field_generator.tab5 field_generator.bits5 (fun HT_ HW_ => ?_)
      generalize w18.drew = w19 at HO157 BK154 HB hx158_0 hHeld ⊢
      refine pq HT_ 0 16 (bb 16 1) ?_
      refine pq HT_ 1 17 (bb 16 3) ?_
      refine pq HT_ 2 18 (bb 16 7) ?_
      refine pq HT_ 3 19 (bb 16 15) ?_
      refine pq HT_ 4 20 (bb 16 31) ?_
      refine pq HT_ 5 21 (bb 16 63) ?_
      refine pq HT_ 7 23 (bb 16 191) ?_
      refine pq HT_ 8 24 (bb 16 447) ?_
      refine pq HT_ 9 25 (bb 16 959) ?_
      refine pq HT_ 10 26 (bb 16 1983) ?_
      refine pq HT_ 12 28 (bb 16 6079) ?_
      refine tq HT_ HW_ hHeld 6 22 (bb 16 6143) ?_
      refine tq HT_ HW_ hHeld 11 27 (bb 16 8191) ?_
      refine oq HT_ 13 (some 29) (bb 16 16383) (fun K hK => ?_)
      refine goes_ Try.func92 (by kernel_rfl) rfl #[.agg #[.int .i64 a0_0, .int .i64 a0_1, .slice A0_2 l0_2.length c0_2], .int .i64 (rd t155 (ji7)), .int .i64 x5_1] (by rfl) rfl rfl (by (try simp only [List.map_toArray, List.map_cons, List.map_nil]); first | done | (simp only [hji7]; rfl) | rfl | (simp only [List.length_drop, List.length_take]; rfl)) ?_
      with_reducible refine (field_multiply.calls k1 a0_0 a0_1 _ _ l0_2 (rd t155 (ji7)) x5_1 t159 _ (Kd.C_below HR0_2.out bw) HC0_2.out A10.out).mono ?_
      rintro e w21 ⟨rfl, hb⟩
      have HS3_ := (hb.cell (World.block_lt_of_cell? _ _ (hHeld.2.2.2))).trans (hHeld.2.2.2)
      refine ⟨_, rfl, ?_⟩
      replace HO157 := Aside0.mk (Kd.R_below (rR HO157) hb)
      replace BK154 := Aside0.mk (bkb BK154 hb)
      replace HB := Aside0.mk (below_step bw hb)
      clear hb
      refine hK.out _ _ ⟨bc0 BK154.out, bc1 BK154.out, bc2 BK154.out, HS3_⟩ (fun hHeld => ?_)
      clear hK K
      refine nq 29 ?_
      refine pq HT_ 14 30 (bb 16 32767) ?_
      refine pq HT_ 15 31 (bb 16 65535) ?_
      refine dq HT_ ?_
      try go_wp2
      go_roundg k1
      case measure => have := HK1.out; omega
      case rel => exact ⟨(wrap64 (x5_1 + 1)), rX, H', mK, ⟨kk BK154⟩, ⟨bw⟩⟩
    ·rw [if_neg c6] at H
     have c6b0 := beq_eq_false_iff_ne.mpr c6
     have c6b1 := bne_iff_ne.mpr c6
     have H' := Aside0.mk H
     clear H
     obtain ⟨hcz22_0, hcz22_1, hcz22_2, hfz22_0, hfz22_1, hfz22_2⟩ := bq3 BK154.out
     try go_wp2_with (refine gL 15 Try.func91 #[.agg #[.int .i64 a0_0, .int .i64 a0_1, .slice A0_2 l0_2.length c0_2], .int .i64 a1, .int .i64 x5_1] ?_; (with_reducible refine (field_powers.calls k1 a0_0 a0_1 _ _ l0_2 a1 x5_1 t155 _ (Kd.C_below HR0_2.out bw) HC0_2.out A5.out).mono ?_); rintro e w23 ⟨v156, rfl, ho0, hb⟩; refine ⟨_, rfl, ?_⟩; have HO157 := Aside0.mk (Kd.R_lower ho0 (below_size bw)); replace BK154 := Aside0.mk (bkb BK154 hb); replace HB := Aside0.mk (below_step bw hb); (try clear hb); (try clear ho0))
     replace HO157 := Aside0.mk (Kd.R_drew HO157.out)
     replace BK154 := Aside0.mk (blk_drew BK154.out)
     replace HB := Aside0.mk (below_drew1 HB.out)
     obtain ⟨Ao25, co25, eo25⟩ := Kd.R_slice HO157.out
     (first | subst eo25 | (injection eo25 with f1_ f2_ f3_; have f4_ := f1_.symm; have f5_ := f3_.symm; clear f1_ f2_ f3_; subst f4_; subst f5_))
     refine start_ (n := 16) (S := fun w' => True) (ds := []) (bb 16 0) (by kernel_rfl) rfl rfl trivial (fun hHeld => ?_); refine with_tabW field_generator.tab5 field_generator.bits5 (fun HT_ HW_ => ?_)
     generalize w23.drew = w24 at HO157 BK154 HB hHeld ⊢
     refine pq HT_ 0 16 (bb 16 1) ?_
     refine pq HT_ 1 17 (bb 16 3) ?_
     refine pq HT_ 2 18 (bb 16 7) ?_
     refine pq HT_ 3 19 (bb 16 15) ?_
     refine pq HT_ 4 20 (bb 16 31) ?_
     refine pq HT_ 5 21 (bb 16 63) ?_
     refine pu HT_ 6 22 (bb 16 127) ?_
     refine pu HT_ 7 23 (bb 16 255) ?_
     refine pu HT_ 8 24 (bb 16 511) ?_
     refine pu HT_ 9 25 (bb 16 1023) ?_
     refine pu HT_ 10 26 (bb 16 2047) ?_
     refine pu HT_ 11 27 (bb 16 4095) ?_
     refine pu HT_ 12 28 (bb 16 8191) ?_
     refine pu HT_ 13 29 (bb 16 16383) ?_
     refine pu HT_ 14 30 (bb 16 32767) ?_
     refine pq HT_ 15 31 (bb 16 65535) ?_
     refine dq HT_ ?_
     try go_wp2
     go_roundg k1
     case measure => have := HK1.out; omega
     case rel => exact ⟨(wrap64 (x5_1 + 1)), rX, H', mK, ⟨kk BK154⟩, ⟨bw⟩⟩
   ·rw [if_neg c4] at H
    have c4b0 := decide_eq_false c4
    clear c4
    obtain rfl := Option.some.inj H
    go_wp2
    go_ret
    exact ⟨_, rW, by first | exact Kd.R_nil _ _ _ _ _ | exact Kd.N_nil _ _ _ _ _ | exact Kd.V_nil _ _ _ _ _ | exact Kd.Q_nil _ _ _ _ _ | exact Kd.S_nil _ _ _ _ _, bw, (by first | exact rfl | exact fun _ => rfl)⟩
end Go.Proofs.Ytibbdjkboglepaa.QBchRoots
namespace Go.Proofs.Ytibbdjkboglepaa.MyQBchRoots
open Go Go.RowKit Go.Proofs.YtibbdjkboglepaaW.PrintWords Go.Proofs.YtibbdjkboglepaaW.PrintLast Go.Proofs.YtibbdjkboglepaaW.PrintMore Go.Proofs.Ytibbdjkboglepaa.My Go.Proofs.Ytibbdjkboglepaa.QBchRoots
theorem New_ok (k : Nat) (P M q : Int) (A : Option Addr) (c : Nat) (Mod ex : List Int) (w : World) (hr : Kd.C (Kd.int .i64) w A Mod.length Mod) (hc : Mod.length ≤ c) (hml : Mod.length ≤ 8) (hs : field_shape.f k P M Mod = some true)
  (ho : field_order.f k P M = some q) (hg : field_generator.f k P M Mod q = some ex) (hne : 0 < ex.length) (hq0 : 0 ≤ q) (hq1 : q ≤ 256) (hel : ex.length ≤ 256) (hex : ∀ x ∈ ex, 0 ≤ x ∧ x < q) :
  Calls Try.prog 37 #[.agg #[.int .i64 P, .int .i64 M, .slice A Mod.length c]] w fun e w' => ∃ (g : Nat) (w0 : World), e = .returned (.tuple #[.pointer (some ⟨g, 0, none⟩), .int .i64 0]) ∧ IsS92 w0 w' g P M Mod q ex (logs ex (List.replicate q.toNat 0) ex.length) ∧ Below w0.heap.size w0 w' ∧ w.heap.size ≤ w0.heap.size ∧ Below w.heap.size w w' := by
 have HR := Aside0.mk hr
 have HC := Aside0.mk hc
 have HS := Aside0.mk hs
 have HO := Aside0.mk ho
 have HG := Aside0.mk hg
 have hu36 := Try.underlying36
 have HX := Aside0.mk hex
 have HNE := Aside0.mk hne
 clear hr hc hs ho hg hex hne
 have HB := Aside0.mk (Below.refl w.heap.size w)
 go_enter Try.func37, Try.ntmps37
 go_wp2_with (first
  | (go_at_call 62; refine (field_shape.calls k P M _ _ Mod true _ (Kd.C_alloc HR.out _) HC.out HS.out).mono ?_; rintro e w1 ⟨rfl, hb⟩
     have HB1 := Aside0.mk (below_step (below_alloc HB.out (.cells #[.int .i64 P, .int .i64 M, .slice A Mod.length c] 36)) hb)
     have BK := Aside0.mk (blk_below (blk_new w (.cells #[.int .i64 P, .int .i64 M, .slice A Mod.length c] 36)) hb)
     clear hb HB
     have hcz0 : w1.cell? ⟨w.heap.size, 0, none⟩ = some (.int .i64 P) := bc0 BK.out
     have hcz1 : w1.cell? ⟨w.heap.size, 1, none⟩ = some (.int .i64 M) := bc1 BK.out
     have hcz2 : w1.cell? ⟨w.heap.size, 2, none⟩ = some (.slice A Mod.length c) := bc2 BK.out)
  | (go_at_call 63; refine (field_order.calls k P M q _ HO.out).mono ?_; rintro e w2 ⟨rfl, ⟨nd, rfl⟩⟩)
  | (go_at_call 64; refine (field_generator.calls k P M _ _ Mod q ex _ (Kd.C_drewN (Kd.C_below HR.out HB1.out) _) HC.out HG.out).mono ?_; rintro e w3 ⟨v, rfl, hR3, hb3, hnil⟩; clear hnil
     obtain ⟨ge, ce, rfl, hge1, hge2, hge3⟩ := Kd.R_form hR3 HNE.out
     have HGE1 := Aside0.mk hge1
     have HGE2 := Aside0.mk hge2
     clear hge1 hge2 hge3
     have hnileq := fun W : World => Lib.run_eql_slice_nil (P := Try.prog) W 22 3 (some ⟨ge, 0, none⟩) ex.length ce 0 0 Try.underlying22
     have HR3 := Aside0.mk hR3
     have HB3 := Aside0.mk (below_step (pw_below_drewN HB1.out nd) hb3)
     have BK3 := Aside0.mk (blk_below (blk_drewN BK.out nd) hb3)
     clear hR3 hb3))
 clear hnileq hcz0 hcz1 hcz2
 refine start_ (n := 16) (S := fun w' => w'.cell? ⟨w.heap.size, 0, none⟩ = some (.int .i64 P) ∧ w'.cell? ⟨w.heap.size, 1, none⟩ = some (.int .i64 M) ∧ w'.cell? ⟨w.heap.size, 2, none⟩ = some (.slice A Mod.length c)) (ds := [14]) (bb 16 0) (by kernel_rfl) rfl rfl ⟨(blk_cell (blk_drew BK3.out) 0).trans rfl, (blk_cell (blk_drew BK3.out) 1).trans rfl, (blk_cell (blk_drew BK3.out) 2).trans rfl⟩ (fun hHeld => ?_)
 refine pure_ (i := 0) (N := some 22) (v := ?_) (a' := ?_) (bb 16 1) rfl rfl (by kernel_rfl) (fun _ _ _ h => h) (Or.inl ⟨by rfl, ?_⟩) ?_ ?_
 rotate_left
 ·intro w'
  go_simp
  with_reducible rfl
 rotate_left
 ·simp only [Act.put, List.setIfInBounds_toArray, List.set_cons_zero, List.set_cons_succ, i64_w, i32_w]
  rfl
 refine take_ (i := 1) (N := some 23) (v := ?_) (a' := ?_) (bb 16 3) rfl rfl (by kernel_rfl) (fun _ _ _ h => h) (Or.inl ⟨by rfl, ?_⟩) hHeld ?_ ?_
 rotate_left
 ·rintro w' ⟨s0, s1, s2⟩
  go_simp
  with_reducible rfl
 rotate_left
 ·simp only [Act.put, List.setIfInBounds_toArray, List.set_cons_zero, List.set_cons_succ, i64_w, i32_w]
  rfl
 refine pure_ (i := 2) (N := some 24) (v := ?_) (a' := ?_) (bb 16 7) rfl rfl (by kernel_rfl) (fun _ _ _ h => h) (Or.inl ⟨by rfl, ?_⟩) ?_ ?_
 rotate_left
 ·intro w'
  go_simp
  with_reducible rfl
 rotate_left
 ·simp only [Act.put, List.setIfInBounds_toArray, List.set_cons_zero, List.set_cons_succ, i64_w, i32_w]
  rfl
 refine take_ (i := 3) (N := some 25) (v := ?_) (a' := ?_) (bb 16 15) rfl rfl (by kernel_rfl) (fun _ _ _ h => h) (Or.inl ⟨by rfl, ?_⟩) hHeld ?_ ?_
 rotate_left
 ·rintro w' ⟨s0, s1, s2⟩
  go_simp
  with_reducible rfl
 rotate_left
 ·simp only [Act.put, List.setIfInBounds_toArray, List.set_cons_zero, List.set_cons_succ, i64_w, i32_w]
  rfl
 refine pure_ (i := 5) (N := some 27) (v := ?_) (a' := ?_) (bb 16 47) rfl rfl (by kernel_rfl) (fun _ _ _ h => h) (Or.inl ⟨by rfl, ?_⟩) ?_ ?_
 rotate_left
 ·intro w'
  go_simp
  with_reducible rfl
 rotate_left
 ·simp only [Act.put, List.setIfInBounds_toArray, List.set_cons_zero, List.set_cons_succ, i64_w, i32_w]
  rfl
 refine take_ (i := 6) (N := some 28) (v := ?_) (a' := ?_) (bb 16 111) rfl rfl (by kernel_rfl) (fun _ _ _ h => h) (Or.inl ⟨by rfl, ?_⟩) hHeld ?_ ?_
 rotate_left
 ·rintro w' ⟨s0, s1, s2⟩
  go_simp
  with_reducible rfl
 rotate_left
 ·simp only [Act.put, List.setIfInBounds_toArray, List.set_cons_zero, List.set_cons_succ, i64_w, i32_w]
  rfl
 refine pure_ (i := 9) (N := some 31) (v := ?_) (a' := ?_) (bb 16 623) rfl rfl (by kernel_rfl) (fun _ _ _ h => h) (Or.inl ⟨by rfl, ?_⟩) ?_ ?_
 rotate_left
 ·intro w'
  go_simp
  with_reducible rfl
 rotate_left
 ·simp only [Act.put, List.setIfInBounds_toArray, List.set_cons_zero, List.set_cons_succ, i64_w, i32_w]
  rfl
 refine pure_ (i := 10) (N := some 32) (v := ?_) (a' := ?_) (bb 16 1647) rfl rfl (by kernel_rfl) (fun _ _ _ h => h) (Or.inl ⟨by rfl, ?_⟩) ?_ ?_
 rotate_left
 ·intro w'
  go_simp
  with_reducible rfl
 rotate_left
 ·simp only [Act.put, List.setIfInBounds_toArray, List.set_cons_zero, List.set_cons_succ, i64_w, i32_w]
  rfl
 refine pure_ (i := 11) (N := some 33) (v := ?_) (a' := ?_) (bb 16 3695) rfl rfl (by kernel_rfl) (fun _ _ _ h => h) (Or.inl ⟨by rfl, ?_⟩) ?_ ?_
 rotate_left
 ·intro w'
  go_simp
  with_reducible rfl
 rotate_left
 ·simp only [Act.put, List.setIfInBounds_toArray, List.set_cons_zero, List.set_cons_succ, i64_w, i32_w]
  rfl
 refine join_ (σ := Value × Value × Value) 3 (bb 16 8191) (fun s => [(26, s.1), (29, s.2.1), (30, .agg #[.int .i64 P, .int .i64 M, s.2.1]), (34, s.2.2)]) (fun s w' => (Kd.int .i64).R 3 w' w.heap.size (fun k => some k ≠ s.2.2.ownBlock) s.2.1 Mod ∧ (Kd.int .i64).R 3 w' w.heap.size (fun _ => True) s.2.2 (List.replicate q.toNat 0) ∧ (Kd.int .i64).R 3 w' w.heap.size (fun k => some k ≠ s.2.2.ownBlock) (.slice (some ⟨ge, 0, none⟩) ex.length ce) ex ∧ Below w.heap.size w w' ∧ w'.heap[w.heap.size]? = some (.cells #[.int .i64 P, .int .i64 M, .slice A Mod.length c] 36 (0, 0))) ?_ ?_
 rotate_left
 ·intro hCont
  have hB3 := below_drew HB3.out
  have hK3 := blk_drew BK3.out
  have hE3 := Ri_ok (Kd.R_lower (Kd.R_drew HR3.out) (below_size (pw_below_drewN HB1.out nd))) (ok' := fun _ => True) (fun _ _ => trivial)
  have hEl : ∀ k, (Value.slice (some ⟨ge, 0, none⟩) ex.length ce).ownBlock = some k → k < w3.drew.heap.size := fun k hk => by simp [Value.ownBlock] at hk; subst hk; exact HGE2.out
  have hKl : w.heap.size < w3.drew.heap.size := blk_lt hK3
  refine two_ (i := 4) (j := 12) (Ni := some 26) (Nj := some 34) (bb 16 3711) (bb 16 7791) rfl rfl rfl rfl (by kernel_rfl) (by decide) (by decide) (fun K hK => ?_) (fun K hK => ?_)
  ·skip
   refine Kd.R_lit_step (Kd.int .i64) (w0 := w) w.heap.size 3 (by kernel_rfl) (N := 26) rfl (xs := []) (inner := []) (ok := fun _ => True) (okp := fun _ => True) (by first | (go_simp; done) | (go_simp; rfl)) (Reps.none _ _) (fun _ hk => hk) trivial hB3 hB3.size (by simp) ?_
   intro v26 wa h26 hBa hg26 hn26
   obtain ⟨b26, hb26, hl26⟩ := hn26
   have hEa := Ri_grown hE3 hg26 (fun _ _ => by simp)
   have hKa := blk_grown hK3 hg26 (by simp)
   have hsa := grownBy_size hg26
   refine hK.out _ _ ⟨bc0 hKa, bc1 hKa, bc2 hKa⟩ (fun hHeld => ?_)
   clear hK K
   refine nq 26 ?_
   refine two_ (i := 7) (j := 12) (Ni := some 29) (Nj := some 34) (bb 16 3839) (bb 16 7807) rfl rfl rfl rfl (by kernel_rfl) (by decide) (by decide) (fun K hK => ?_) (fun K hK => ?_)
   ·skip
    refine Kd.R_append_rows_step (Kd.int .i64) (w0 := w) w.heap.size (by kernel_rfl) _ _ 22 3 (.int .i64 0) 8 rfl Try.underlying22 info3 rfl (by decide) (by omega) v26 [] Mod A Mod.length c (fun _ => True) (fun _ => False) rfl rfl h26 (Kd.C_below HR.out hBa) (fun _ _ h => h) (fun _ h => h.elim) (fun _ _ => trivial) hBa hBa.size (by simp; omega) ?_
    intro v29 wb h29 hBb hg29 hn29
    rw [List.nil_append] at h29; obtain ⟨A29, c29, rfl⟩ := Kd.R_slice h29
    have hEb := Ri_grown hEa hg29 (fun k hk => by rw [hb26]; simp only [ne_eq, Option.some.injEq]; have := hEl k hk; omega)
    have hKb := blk_grown hKa hg29 (by rw [hb26]; simp only [ne_eq, Option.some.injEq]; omega)
    have hsb := grownBy_size hg29
    refine hK.out _ _ ⟨bc0 hKb, bc1 hKb, bc2 hKb⟩ (fun hHeld => ?_)
    clear hK K
    refine nq 29 ?_
    refine pure_ (i := 8) (N := some 30) (v := ?_) (a' := ?_) (bb 16 4095) rfl rfl (by kernel_rfl) (fun _ _ _ h => h) (Or.inl ⟨by rfl, ?_⟩) ?_ ?_
    rotate_left
    ·intro w'
     go_simp
     with_reducible rfl
    rotate_left
    ·simp only [Act.put, List.setIfInBounds_toArray, List.set_cons_zero, List.set_cons_succ, i64_w, i32_w]
     rfl
    refine one_ (i := 12) (N := some 34) (bb 16 8191) rfl rfl (by kernel_rfl) (by decide) (fun K hK => ?_)
    refine Kd.R_make_step (Kd.int .i64) (w0 := w) w.heap.size 3 (by kernel_rfl) (N := 34) rfl 22 _ _ rfl q rfl rfl Try.underlying22 (.int .i64 0) 8 info3 rfl (by decide) (by omega) 0 (ok := fun _ => True) (okp := fun _ => True) rfl (fun _ hk => hk) trivial hq0 (by omega) hBb hBb.size ?_
    intro v34 wc h34 hBc hg34 hn34
    obtain ⟨b34, hb34, hl34⟩ := hn34
    have hKc := blk_grown hKb hg34 (by simp)
    refine hK.out _ _ ⟨bc0 hKc, bc1 hKc, bc2 hKc⟩ (fun hHeld => ?_)
    clear hK K
    refine nq 34 ?_
    exact norm_ (by first | (simp only [putAll, Act.put, List.setIfInBounds_toArray, List.set_cons_zero, List.set_cons_succ]; done) | (simp only [putAll, Act.put, List.setIfInBounds_toArray, List.set_cons_zero, List.set_cons_succ]; rfl)) (hCont (v26, .slice A29 Mod.length c29, v34) _ ⟨Ri_ok (Ri_grown h29 hg34 (fun _ _ => by simp)) (fun k hk => by show some k ≠ v34.ownBlock; rw [hb34]; simp only [ne_eq, Option.some.injEq]; have := Kd.R_lt h29 k hk; omega), h34, Ri_ok (Ri_grown hEb hg34 (fun _ _ => by simp)) (fun k hk => by show some k ≠ v34.ownBlock; rw [hb34]; simp only [ne_eq, Option.some.injEq]; have := hEl k hk; omega), hBc, hKc⟩)
   ·skip
    refine Kd.R_make_step (Kd.int .i64) (w0 := w) w.heap.size 3 (by kernel_rfl) (N := 34) rfl 22 _ _ rfl q rfl rfl Try.underlying22 (.int .i64 0) 8 info3 rfl (by decide) (by omega) 0 (ok := fun _ => True) (okp := fun _ => True) rfl (fun _ hk => hk) trivial hq0 (by omega) hBa hBa.size ?_
    intro v34 wb h34 hBb hg34 hn34
    obtain ⟨b34, hb34, hl34⟩ := hn34
    have hEb := Ri_grown hEa hg34 (fun _ _ => by simp)
    have h26b := Ri_grown h26 hg34 (fun _ _ => by simp)
    have hlt26 := Kd.R_lt h26 b26 hb26
    have hlt34 := Kd.R_lt h34 b34 hb34
    have hKb := blk_grown hKa hg34 (by simp)
    have hsb := grownBy_size hg34
    refine hK.out _ _ ⟨bc0 hKb, bc1 hKb, bc2 hKb⟩ (fun hHeld => ?_)
    clear hK K
    refine nq 34 ?_
    have h34b := h34
    refine one_ (i := 7) (N := some 29) (bb 16 7935) rfl rfl (by kernel_rfl) (by decide) (fun K hK => ?_)
    refine Kd.R_append_rows_step (Kd.int .i64) (w0 := w) w.heap.size (by kernel_rfl) _ _ 22 3 (.int .i64 0) 8 rfl Try.underlying22 info3 rfl (by decide) (by omega) v26 [] Mod A Mod.length c (fun _ => True) (fun _ => False) rfl rfl h26b (Kd.C_below HR.out hBb) (fun _ _ h => h) (fun _ h => h.elim) (fun _ _ => trivial) hBb hBb.size (by simp; omega) ?_
    intro v29 wc h29 hBc hg29 hn29
    rw [List.nil_append] at h29; obtain ⟨A29, c29, rfl⟩ := Kd.R_slice h29
    have hEc := Ri_grown hEb hg29 (fun k hk => by rw [hb26]; simp only [ne_eq, Option.some.injEq]; have := hEl k hk; omega)
    have h34c := Ri_grown h34b hg29 (fun k hk => by rw [hb26]; simp only [ne_eq, Option.some.injEq]; rw [hb34] at hk; injection hk with hk; omega)
    have hKc := blk_grown hKb hg29 (by rw [hb26]; simp only [ne_eq, Option.some.injEq]; omega)
    refine hK.out _ _ ⟨bc0 hKc, bc1 hKc, bc2 hKc⟩ (fun hHeld => ?_)
    clear hK K
    refine nq 29 ?_
    refine pure_ (i := 8) (N := some 30) (v := ?_) (a' := ?_) (bb 16 8191) rfl rfl (by kernel_rfl) (fun _ _ _ h => h) (Or.inl ⟨by rfl, ?_⟩) ?_ ?_
    rotate_left
    ·intro w'
     go_simp
     with_reducible rfl
    rotate_left
    ·simp only [Act.put, List.setIfInBounds_toArray, List.set_cons_zero, List.set_cons_succ, i64_w, i32_w]
     rfl
    exact norm_ (by first | (simp only [putAll, Act.put, List.setIfInBounds_toArray, List.set_cons_zero, List.set_cons_succ]; done) | (simp only [putAll, Act.put, List.setIfInBounds_toArray, List.set_cons_zero, List.set_cons_succ]; rfl)) (hCont (v26, .slice A29 Mod.length c29, v34) _ ⟨Ri_ok h29 (fun k hk => by show some k ≠ v34.ownBlock; rw [hb34]; simp only [ne_eq, Option.some.injEq]; rcases hn29 with e | ⟨b29, e, hl29⟩ <;> rw [hk] at e <;> (try rw [hb26] at e) <;> injection e with e <;> omega), h34c, Ri_ok hEc (fun k hk => by show some k ≠ v34.ownBlock; rw [hb34]; simp only [ne_eq, Option.some.injEq]; have := hEl k hk; omega), hBc, hKc⟩)
  ·skip
   refine Kd.R_make_step (Kd.int .i64) (w0 := w) w.heap.size 3 (by kernel_rfl) (N := 34) rfl 22 _ _ rfl q rfl rfl Try.underlying22 (.int .i64 0) 8 info3 rfl (by decide) (by omega) 0 (ok := fun _ => True) (okp := fun _ => True) rfl (fun _ hk => hk) trivial hq0 (by omega) hB3 hB3.size ?_
   intro v34 wa h34 hBa hg34 hn34
   obtain ⟨b34, hb34, hl34⟩ := hn34
   have hEa := Ri_grown hE3 hg34 (fun _ _ => by simp)
   have hKa := blk_grown hK3 hg34 (by simp)
   have hsa := grownBy_size hg34
   have hlt34 := Kd.R_lt h34 b34 hb34
   refine hK.out _ _ ⟨bc0 hKa, bc1 hKa, bc2 hKa⟩ (fun hHeld => ?_)
   clear hK K
   refine nq 34 ?_
   refine one_ (i := 4) (N := some 26) (bb 16 7807) rfl rfl (by kernel_rfl) (by decide) (fun K hK => ?_)
   refine Kd.R_lit_step (Kd.int .i64) (w0 := w) w.heap.size 3 (by kernel_rfl) (N := 26) rfl (xs := []) (inner := []) (ok := fun _ => True) (okp := fun _ => True) (by first | (go_simp; done) | (go_simp; rfl)) (Reps.none _ _) (fun _ hk => hk) trivial hBa hBa.size (by simp) ?_
   intro v26 wb h26 hBb hg26 hn26
   obtain ⟨b26, hb26, hl26⟩ := hn26
   have hEb := Ri_grown hEa hg26 (fun _ _ => by simp)
   have h34b := Ri_grown h34 hg26 (fun _ _ => by simp)
   have h26b := h26
   have hlt26 := Kd.R_lt h26 b26 hb26
   have hKb := blk_grown hKa hg26 (by simp)
   have hsb := grownBy_size hg26
   refine hK.out _ _ ⟨bc0 hKb, bc1 hKb, bc2 hKb⟩ (fun hHeld => ?_)
   clear hK K
   refine nq 26 ?_
   refine one_ (i := 7) (N := some 29) (bb 16 7935) rfl rfl (by kernel_rfl) (by decide) (fun K hK => ?_)
   refine Kd.R_append_rows_step (Kd.int .i64) (w0 := w) w.heap.size (by kernel_rfl) _ _ 22 3 (.int .i64 0) 8 rfl Try.underlying22 info3 rfl (by decide) (by omega) v26 [] Mod A Mod.length c (fun _ => True) (fun _ => False) rfl rfl h26b (Kd.C_below HR.out hBb) (fun _ _ h => h) (fun _ h => h.elim) (fun _ _ => trivial) hBb hBb.size (by simp; omega) ?_
   intro v29 wc h29 hBc hg29 hn29
   rw [List.nil_append] at h29; obtain ⟨A29, c29, rfl⟩ := Kd.R_slice h29
   have hEc := Ri_grown hEb hg29 (fun k hk => by rw [hb26]; simp only [ne_eq, Option.some.injEq]; have := hEl k hk; omega)
   have h34c := Ri_grown h34b hg29 (fun k hk => by rw [hb26]; simp only [ne_eq, Option.some.injEq]; rw [hb34] at hk; injection hk with hk; omega)
   have hKc := blk_grown hKb hg29 (by rw [hb26]; simp only [ne_eq, Option.some.injEq]; omega)
   refine hK.out _ _ ⟨bc0 hKc, bc1 hKc, bc2 hKc⟩ (fun hHeld => ?_)
   clear hK K
   refine nq 29 ?_
   refine pure_ (i := 8) (N := some 30) (v := ?_) (a' := ?_) (bb 16 8191) rfl rfl (by kernel_rfl) (fun _ _ _ h => h) (Or.inl ⟨by rfl, ?_⟩) ?_ ?_
   rotate_left
   ·intro w'
    go_simp
    with_reducible rfl
   rotate_left
   ·simp only [Act.put, List.setIfInBounds_toArray, List.set_cons_zero, List.set_cons_succ, i64_w, i32_w]
    rfl
   exact norm_ (by first | (simp only [putAll, Act.put, List.setIfInBounds_toArray, List.set_cons_zero, List.set_cons_succ]; done) | (simp only [putAll, Act.put, List.setIfInBounds_toArray, List.set_cons_zero, List.set_cons_succ]; rfl)) (hCont (v26, .slice A29 Mod.length c29, v34) _ ⟨Ri_ok h29 (fun k hk => by show some k ≠ v34.ownBlock; rw [hb34]; simp only [ne_eq, Option.some.injEq]; rcases hn29 with e | ⟨b29, e, hl29⟩ <;> rw [hk] at e <;> (try rw [hb26] at e) <;> injection e with e <;> omega), h34c, Ri_ok hEc (fun k hk => by show some k ≠ v34.ownBlock; rw [hb34]; simp only [ne_eq, Option.some.injEq]; have := hEl k hk; omega), hBc, hKc⟩)
 rintro ⟨v26, v29, v34⟩ w4 ⟨hM4, hL4, hE4, hB4, hK4⟩
 simp only at hM4 hL4 hE4
 have hqp : 0 < q := by
  have h0 := HX.out (ex[0]'HNE.out) (List.getElem_mem _)
  omega
 obtain ⟨A29, c29, rfl⟩ := Kd.R_slice hM4
 obtain ⟨gl, cl, rfl, hgl1, hgl2, hgl3⟩ := Kd.R_form hL4 (by rw [List.length_replicate]; omega)
 rw [List.length_replicate] at hL4 hM4 hE4
 clear hgl3
 refine norm_ (a' := ?_) ?_ ?_
 rotate_left
 ·simp only [putAll, Act.put, List.setIfInBounds_toArray, List.set_cons_zero, List.set_cons_succ, List.length_replicate]
  rfl
 have hu92 := Try.underlying92
 refine pure_ (i := 13) (N := some 35) (v := ?_) (a' := ?_) (bb 16 16383) rfl rfl (by kernel_rfl) (fun _ _ _ h => h) (Or.inl ⟨by rfl, ?_⟩) ?_ ?_
 rotate_left
 ·intro w'
  go_simp
  with_reducible rfl
 rotate_left
 ·simp only [Act.put, List.setIfInBounds_toArray, List.set_cons_zero, List.set_cons_succ, i64_w, i32_w]
  rfl
 refine last_ (i := 14) (N := some 36) (bb 16 32767) rfl rfl (by kernel_rfl) (by decide) (fun K hK => ?_)
 refine box_step (by kernel_rfl) (N := 36) rfl (cs := #[.int .i64 P, .int .i64 M, .slice A29 Mod.length c29, .int .i64 q, .slice (some ⟨ge, 0, none⟩) ex.length ce, .slice (some ⟨gl, 0, none⟩) q.toNat cl]) (t := 92) (by first | (go_simp; done) | (go_simp; rfl)) ?_
 intro g hg_ w5 hbox hb5
 have HGQ := Aside0.mk hg_
 clear hg_
 refine hK.out _ _ ?_
 clear hK K
 refine nq 36 ?_
 refine pure_ (i := 15) (N := some 6) (v := ?_) (a' := ?_) (bb 16 65535) rfl rfl (by kernel_rfl) (fun _ _ _ h => h) (Or.inl ⟨by rfl, ?_⟩) ?_ ?_
 rotate_left
 ·intro w'
  go_simp
  with_reducible rfl
 rotate_left
 ·simp only [Act.put, List.setIfInBounds_toArray, List.set_cons_zero, List.set_cons_succ, i64_w, i32_w]
  rfl
 refine done_ (by kernel_rfl) ?_
 have hg := HGQ.out
 clear HGQ
 have HB := Aside0.mk (below_step hB4 hb5)
 have HM := Aside0.mk (Ri_ok (Kd.R_below hM4 hb5) (ok' := fun k => k < g ∧ k ≠ gl) (fun k hk => ⟨by rw [hg]; exact Kd.R_lt hM4 k hk, fun e => hM4.1 k hk (by rw [e]; rfl)⟩))
 have HE := Aside0.mk (Ri_ok (Kd.R_below hE4 hb5) (ok' := fun k => k < g ∧ k ≠ gl) (fun k hk => ⟨by rw [hg]; exact Kd.R_lt hE4 k hk, fun e => hE4.1 k hk (by rw [e]; rfl)⟩))
 have HL := Aside0.mk (Ri_ok (Kd.R_below hL4 hb5) (ok' := fun k => k < g) (fun k hk => by rw [hg]; exact Kd.R_lt hL4 k hk))
 have BG := Aside0.mk hbox
 have HG0 := Aside0.mk ((by rw [hg]; exact hB4.size) : w.heap.size ≤ g)
 have HGL := Aside0.mk hgl1
 have HLG := Aside0.mk ((by rw [hg]; exact hgl2) : gl < g)
 clear hM4 hL4 hE4 hB4 hK4 hb5 hbox hg hgl1 hgl2
 try go_wp2
 go_loopg [39] (ex.length + 1) (fun kq v39 w' => ∃ n : Nat, v39 = .int .i64 (n : Int) ∧ Aside0 (n ≤ ex.length ∧ n + kq = ex.length + 1) ∧ Aside0 ((Kd.int .i64).R 3 w' w.heap.size (fun k => k < g) (.slice (some ⟨gl, 0, none⟩) q.toNat cl) (logs ex (List.replicate q.toNat 0) n)) ∧ Aside0 ((Kd.int .i64).R 3 w' w.heap.size (fun k => k < g ∧ k ≠ gl) (.slice A29 Mod.length c29) Mod) ∧ Aside0 ((Kd.int .i64).R 3 w' w.heap.size (fun k => k < g ∧ k ≠ gl) (.slice (some ⟨ge, 0, none⟩) ex.length ce) ex) ∧ Aside0 (w'.heap[g]? = some (.cells #[.int .i64 P, .int .i64 M, .slice A29 Mod.length c29, .int .i64 q, .slice (some ⟨ge, 0, none⟩) ex.length ce, .slice (some ⟨gl, 0, none⟩) q.toNat cl] 92 (0, 0))) ∧ Aside0 (Below w.heap.size w w'))
 case atStart => exact ⟨0, rfl, ⟨⟨by omega, by omega⟩⟩, ⟨(rR HL)⟩, ⟨(rR HM)⟩, ⟨(rR HE)⟩, ⟨(kk BG)⟩, ⟨bw⟩⟩
 case round =>
  clear HL HM HE BG HB
  obtain ⟨n, rfl, HN, HL, HM, HE, BG, HB⟩ := hrel
  cases gk with
  | zero => exact absurd HN.out (by omega)
  | succ k1 =>
   by_cases hn : n < ex.length
   ·have c1 : decide ((n : Int) < (ex.length : Int)) = true := decide_eq_true (by omega)
    have hxm := HX.out (ex[n]'hn) (List.getElem_mem _)
    obtain ⟨ad1, e1, hx1⟩ := Kd.at_int (Kd.R_reads' HE.out).2.2 (n : Int) (by omega) (by omega)
    obtain rfl : (⟨ge, 0, none⟩ : Addr) = ad1 := (by injection e1)
    have hrx : rd ex (n : Int) = ex[n]'hn := by simp [rd, List.getD_eq_getElem?_getD, List.getElem?_eq_getElem hn]
    rw [hrx] at hx1
    have hlog : logs ex (List.replicate q.toNat 0) (n + 1) = (logs ex (List.replicate q.toNat 0) n).set (ex[n]'hn).toNat (n : Int) := by rw [logs, hrx]
    have LG := Aside0.mk hlog
    clear hrx hlog
    generalize hxe : ex[n]'hn = x at hx1 hxm LG
    clear hxe
    (first | simp only [add_plain] at hx1 | simp only [add_at] at hx1 | simp only [Addr.add, Nat.zero_add] at hx1 | skip)
    (try simp only [Int.toNat_natCast, Nat.zero_add] at hx1)
    obtain ⟨hx2, hf2⟩ := Kd.R_celln 0 HL.out x hxm.1 (by have := hxm.2; omega)
    have hcg3 := bc3 BG.out
    have hcg5 : wr.cell? ⟨g, 5, none⟩ = some (.slice (some ⟨gl, 0, none⟩) q.toNat cl) := (blk_cell BG.out 5).trans rfl
    have p1 : decide (0 ≤ (n : Int)) = true := decide_eq_true (by omega)
    have p2 : decide (0 ≤ x) = true := decide_eq_true hxm.1
    have p3 : decide (x < (q.toNat : Int)) = true := decide_eq_true (by have := hxm.2; omega)
    have p4 : (0 ≤ x) = True := eq_true hxm.1
    have p5 : (x < (q.toNat : Int)) = True := eq_true (by have := hxm.2; omega)
    have p6 : (0 ≤ (n : Int)) = True := eq_true (by omega)
    have p7 : ((n : Int) < (ex.length : Int)) = True := eq_true (by omega)
    have HP := Kd.R_putg HL.out x (n : Int)
    have hwn : wrap64 ((n : Int) + 1) = ((n + 1 : Nat) : Int) := by rw [My.w64] <;> omega
    go_wp2_with ((with_reducible refine gate_store (t := 3) (p := 50) rfl ?_); refine store_event (t := 3) (p := 50) (v := .tmp 49) (w1 := (wr.setCell ⟨gl, x.toNat, none⟩ (.int .i64 (n : Int)))) ?hg ?ho ?hn ?hr ?_; (case ho => rfl); (case hg => rfl); (case hn => rfl); (case hr => first | (go_simp; done) | (go_simp; rfl)); intro w24 hw; have hg24 : wr.grownBy w24 (some gl) := (by rw [hw]; exact HP.2); replace HL := Aside0.mk ((by rw [hw, LG.out]; exact HP.1) : (Kd.int .i64).R 3 w24 w.heap.size (fun k => k < g) (.slice (some ⟨gl, 0, none⟩) q.toNat cl) (logs ex (List.replicate q.toNat 0) (n + 1))); replace HM := Aside0.mk (Ri_grown HM.out hg24 (fun k hk => by have := (HM.out.1 k hk).2; simpa using this)); replace HE := Aside0.mk (Ri_grown HE.out hg24 (fun k hk => by have := (HE.out.1 k hk).2; simpa using this)); replace BG := Aside0.mk (blk_grown BG.out hg24 (by have := HLG.out; simp only [ne_eq, Option.some.injEq]; omega)); replace HB := Aside0.mk ((by rw [hw]; exact below_set HB.out HGL.out) : Below w.heap.size w w24); clear HP hw hg24)
    go_roundg k1
    case measure => omega
    case rel => exact ⟨n + 1, rY, ⟨⟨by omega, by have := HN.out; omega⟩⟩, ⟨(rR HL)⟩, ⟨(rR HM)⟩, ⟨(rR HE)⟩, ⟨(kk BG)⟩, ⟨bw⟩⟩
   ·have c1 : decide ((n : Int) < (ex.length : Int)) = false := decide_eq_false (by omega)
    have HN2 := HN.out
    obtain rfl : n = ex.length := by omega
    go_wp2
    go_ret2
    have hgw := blk_lt BG.out
    have hCM := cutW_R HM.out (fun k hk => (HM.out.1 k hk).1)
    have hCE := cutW_R HE.out (fun k hk => (HE.out.1 k hk).1)
    have hCL := cutW_R HL.out (fun k hk => HL.out.1 k hk)
    have hll : (logs ex (List.replicate q.toNat 0) ex.length).length = q.toNat := by rw [logs_length, List.length_replicate]
    refine ⟨g, cutW wr g, rfl, ⟨A29, c29, some ⟨ge, 0, none⟩, ce, some ⟨gl, 0, none⟩, cl, ?_, ?_, hCM, hCE, hCL⟩, ?_, ?_, ?_⟩
    ·rw [hll]
     exact (kk BG)
    ·rw [cutW_size (by omega)]
     exact Nat.le_refl _
    ·repeat (first | (with_reducible first | exact cutW_below (by omega) | apply pw_below_drewN | apply below_drew) | exact cutW_below (by omega))
    ·rw [cutW_size (by omega)]
     exact HG0.out
    ·exact bw
theorem New_shape (k : Nat) (P M : Int) (A : Option Addr) (c : Nat) (Mod : List Int) (w : World) (hr : Kd.C (Kd.int .i64) w A Mod.length Mod) (hc : Mod.length ≤ c) (hs : field_shape.f k P M Mod = some false) :
  Calls Try.prog 37 #[.agg #[.int .i64 P, .int .i64 M, .slice A Mod.length c]] w fun e w' => e = .returned (.tuple #[.pointer none, .int .i64 1]) ∧ Below w.heap.size w w' := by
 have HR := Aside0.mk hr
 have HC := Aside0.mk hc
 have HS := Aside0.mk hs
 have hu36 := Try.underlying36
 clear hr hc hs
 have HB := Aside0.mk (Below.refl w.heap.size w)
 go_enter Try.func37, Try.ntmps37
 go_wp2_with (go_at_call 62; refine (field_shape.calls k P M _ _ Mod false _ (Kd.C_alloc HR.out _) HC.out HS.out).mono ?_; rintro e w1 ⟨rfl, hb⟩)
 go_ret2
 exact ⟨rfl, below_step (below_alloc HB.out _) hb⟩
theorem New_gen (k : Nat) (P M q : Int) (A : Option Addr) (c : Nat) (Mod : List Int) (w : World) (hr : Kd.C (Kd.int .i64) w A Mod.length Mod) (hc : Mod.length ≤ c) (hs : field_shape.f k P M Mod = some true)
  (ho : field_order.f k P M = some q) (hg : field_generator.f k P M Mod q = some []) :
  Calls Try.prog 37 #[.agg #[.int .i64 P, .int .i64 M, .slice A Mod.length c]] w fun e w' => e = .returned (.tuple #[.pointer none, .int .i64 1]) ∧ Below w.heap.size w w' := by
 have HR := Aside0.mk hr
 have HC := Aside0.mk hc
 have HS := Aside0.mk hs
 have HO := Aside0.mk ho
 have HG := Aside0.mk hg
 have hu36 := Try.underlying36
 have hnileq := fun W : World => Lib.run_eql_slice_nil (P := Try.prog) W 22 3 none 0 0 0 0 Try.underlying22
 clear hr hc hs ho hg
 have HB := Aside0.mk (Below.refl w.heap.size w)
 go_enter Try.func37, Try.ntmps37
 go_wp2_with (first
  | (go_at_call 62; refine (field_shape.calls k P M _ _ Mod true _ (Kd.C_alloc HR.out _) HC.out HS.out).mono ?_; rintro e w1 ⟨rfl, hb⟩
     have HB1 := Aside0.mk (below_step (below_alloc HB.out (.cells #[.int .i64 P, .int .i64 M, .slice A Mod.length c] 36)) hb)
     have BK := Aside0.mk (blk_below (blk_new w (.cells #[.int .i64 P, .int .i64 M, .slice A Mod.length c] 36)) hb)
     clear hb HB
     have hcz0 : w1.cell? ⟨w.heap.size, 0, none⟩ = some (.int .i64 P) := bc0 BK.out
     have hcz1 : w1.cell? ⟨w.heap.size, 1, none⟩ = some (.int .i64 M) := bc1 BK.out
     have hcz2 : w1.cell? ⟨w.heap.size, 2, none⟩ = some (.slice A Mod.length c) := bc2 BK.out)
  | (go_at_call 63; refine (field_order.calls k P M q _ HO.out).mono ?_; rintro e w2 ⟨rfl, ⟨nd, rfl⟩⟩)
  | (go_at_call 64; refine (field_generator.calls k P M _ _ Mod q [] _ (Kd.C_drewN (Kd.C_below HR.out HB1.out) _) HC.out HG.out).mono ?_; rintro e w3 ⟨v, rfl, hR3, hb3, hnil⟩; obtain rfl := hnil rfl))
 go_ret2
 exact ⟨rfl, below_step (pw_below_drewN HB1.out _) hb3⟩
end Go.Proofs.Ytibbdjkboglepaa.MyQBchRoots
namespace Go.Proofs.Ytibbdjkboglepaa.MyQBchRoots
open Go Go.RowKit Go.Shelf Go.Proofs.YtibbdjkboglepaaW.PrintWords Go.Proofs.YtibbdjkboglepaaW.PrintLast Go.Proofs.YtibbdjkboglepaaW.PrintMore Go.Proofs.Ytibbdjkboglepaa.My Go.Proofs.Ytibbdjkboglepaa.QBchRoots
attribute [local go_sem] Oper.semAt_some
theorem fin_take {N k : Nat} (h : k < N) : (List.finRange N).take (k + 1) = (List.finRange N).take k ++ [⟨k, h⟩] := by
 rw [List.take_add_one]
 simp [h]
theorem elements1_in (F : Fence) (n : Nat) (h6 : F.fn 65) (hro : F.round = none) (hn : 1 ≤ n) (l Bn n₀ g : Nat) (q : Int) (J Jx : List (Fin q.toNat) → World → Prop) (hq : 0 ≤ q) (hqb : q < 4611686018427387904)
  (hY : ∀ pre x W, J pre W → pre.length < q.toNat → YieldAt F (n - 1) Try.prog l #[.int .i64 ((x.val : Nat) : Int)] W fun e W' =>
    (e = .returned (.bool true) ∧ J (pre ++ [x]) W' ∧ Below n₀ W W') ∨ (e = .returned (.bool false) ∧ Jx (pre ++ [x]) W'))
  (W : World) (hBn : W.cell? ⟨Bn, 0, none⟩ = some (.pointer (some ⟨g, 0, none⟩))) (hL : W.cell? ⟨g, 3, none⟩ = some (.int .i64 q)) (h0 : J [] W) :
  CallsIn F n Try.prog 65 #[.func (.yield l) #[] #[], .pointer (some ⟨Bn, 0, none⟩)] W fun e W' => (∃ v, e = .returned v) ∧
   ((∃ ys, ys = List.finRange q.toNat ∧ J ys W') ∨ (∃ pre, pre <+: List.finRange q.toNat ∧ Jx pre W')) := by
 refine callsIn_of_wp Try.func65 rfl h6 ?_ hro
 simp only [Try.ntmps65, List.size_toArray, List.length_cons, List.length_nil, Nat.reduceAdd, Nat.reduceSub, Array.replicate_succ, Array.replicate_zero, List.push_toArray, List.append_toArray, List.nil_append, List.cons_append]
 have hu92 := Try.underlying92
 gi_wp2
 gi_loopw [8] (fun i wr => ∃ k : Nat, k ≤ q.toNat ∧ i = .int .i64 k ∧ J ((List.finRange q.toNat).take k) wr)
  (fun i _ => q.toNat - (intOf i).toNat)
 case atStart => exact ⟨0, Nat.zero_le _, rfl, h0⟩
 case round =>
  obtain ⟨k, hk, rfl, hJs⟩ := hrel
  by_cases hlt : k < q.toNat
  ·obtain ⟨fn, tmps, assign, body, hy, hR⟩ := hY _ ⟨k, hlt⟩ wr hJs (by simp; omega)
   dsimp only at hy
   have c1 : decide ((k : Int) < q) = true := decide_eq_true (by omega)
   have hwn : wrap64 ((k : Int) + 1) = ((k + 1 : Nat) : Int) := by rw [My.w64] <;> omega
   gi_wp2
   refine hR.mono ?_
   rintro e W3 (⟨rfl, hJ3, hk3⟩ | ⟨rfl, hJx3⟩)
   ·gi_wp2
    go_roundw
    case rel => exact ⟨k + 1, by omega, by first | rfl | (simp; done) | (simp [hwn]; done), by rw [fin_take hlt]; exact hJ3⟩
    case measure => simp [intOf]; omega
   ·gi_wp2
    refine bodyPost_ret (results_none rfl _ _ _) rfl ?_
    exact ⟨⟨_, rfl⟩, .inr ⟨_, by rw [← fin_take hlt]; exact List.take_prefix _ _, hJx3⟩⟩
  ·obtain rfl : k = q.toNat := by omega
   have c1 : decide (((q.toNat : Nat) : Int) < q) = false := decide_eq_false (by omega)
   gi_wp2
   go_end0
   exact ⟨⟨_, rfl⟩, .inl ⟨_, by rw [List.take_of_length_le (by simp)], hJs⟩⟩
theorem elements_in (F : Fence) (n : Nat) (h5 : F.fn 38) (hro : F.round = none) (p0 : Option Addr) (w : World) :
  CallsIn F n Try.prog 38 #[.pointer p0] w fun e w' => e = .returned (.func (.func 65) #[] #[.pointer (some ⟨w.heap.size, 0, none⟩)]) ∧ w' = w.alloc (.cells #[.pointer p0] 63) := by
 refine callsIn_of_wp Try.func38 rfl h5 ?_ hro
 simp only [Try.ntmps38, List.size_toArray, List.length_cons, List.length_nil, Nat.reduceAdd, Nat.reduceSub, Array.replicate_succ, Array.replicate_zero, List.push_toArray, List.append_toArray, List.nil_append, List.cons_append]
 gi_wp2
 go_ret
 exact ⟨rfl, rfl⟩
theorem elements_stops (F : Fence) (n : Nat) (h6 : F.fn 65) (hro : F.round = none) (hn : 1 ≤ n) (Bn n₀ g : Nat) (q : Int) (hq : 0 ≤ q) (hqb : q < 4611686018427387904) (w : World) (hBn : Bn < w.heap.size) (hg : g < w.heap.size)
  (hc : w.cell? ⟨Bn, 0, none⟩ = some (.pointer (some ⟨g, 0, none⟩))) (hL : w.cell? ⟨g, 3, none⟩ = some (.int .i64 q)) :
  SeqStopsK F n Try.prog 65 #[.pointer (some ⟨Bn, 0, none⟩)] (fun x : Fin q.toNat => #[Value.int .i64 ((x.val : Nat) : Int)]) (Below n₀) (fun ys => ys = List.finRange q.toNat) (fun pre => pre <+: List.finRange q.toNat) q.toNat w := fun l J Jx W hW _ _ hY h0 =>
 elements1_in F n h6 hro hn l Bn n₀ g q J Jx hq hqb hY W ((hW.cell (p := ⟨Bn, 0, none⟩) hBn).trans hc) ((hW.cell (p := ⟨g, 3, none⟩) hg).trans hL) h0
end Go.Proofs.Ytibbdjkboglepaa.MyQBchRoots
namespace Go.Proofs.Ytibbdjkboglepaa.MyQBchRoots
open Go Go.RowKit Go.Shelf Go.Proofs.YtibbdjkboglepaaW.PrintWords Go.Proofs.YtibbdjkboglepaaW.PrintLast Go.Proofs.YtibbdjkboglepaaW.PrintMore Go.Proofs.Ytibbdjkboglepaa.My Go.Proofs.Ytibbdjkboglepaa.QBchRoots
def NewSays1 (P M : Int) (A : Option Addr) (c : Nat) (Mod : List Int) : Prop := ∀ w : World, Kd.C (Kd.int .i64) w A Mod.length Mod →
 Calls Try.prog 37 #[.agg #[.int .i64 P, .int .i64 M, .slice A Mod.length c]] w fun e w' => e = .returned (.tuple #[.pointer none, .int .i64 1]) ∧ Below w.heap.size w w'
def NewSaysOk (P M q : Int) (A : Option Addr) (c : Nat) (Mod ex lg : List Int) : Prop := ∀ w : World, Kd.C (Kd.int .i64) w A Mod.length Mod →
 Calls Try.prog 37 #[.agg #[.int .i64 P, .int .i64 M, .slice A Mod.length c]] w fun e w' => ∃ (g : Nat) (w0 : World), e = .returned (.tuple #[.pointer (some ⟨g, 0, none⟩), .int .i64 0]) ∧ IsS92 w0 w' g P M Mod q ex lg ∧ Below w0.heap.size w0 w' ∧ w.heap.size ≤ w0.heap.size ∧ Below w.heap.size w w'
def Frame (w W : World) (n a b : Int) (gv : Value) (gb : Nat) : Prop :=
 W.heap[w.heap.size + 1]? = some (.cells #[.int .i64 n] 3 (0, 0)) ∧ W.heap[w.heap.size + 1 + 1]? = some (.cells #[.int .i64 a] 3 (0, 0)) ∧ W.heap[w.heap.size + 1 + 1 + 1]? = some (.cells #[.int .i64 b] 25 (0, 0)) ∧ W.heap[gb]? = some (.cells #[gv] 63 (0, 0)) ∧ w.heap.size + 1 + 1 + 1 < gb ∧ Below w.heap.size w W
theorem Frame.facts {w W : World} {n a b : Int} {gv : Value} {gb : Nat} (h : Frame w W n a b gv gb) :
  W.cell? ⟨w.heap.size + 1, 0, none⟩ = some (.int .i64 n) ∧ W.cell? ⟨w.heap.size + 1 + 1, 0, none⟩ = some (.int .i64 a) ∧ W.frozen? ⟨w.heap.size + 1 + 1, 0, none⟩ = false ∧ W.cell? ⟨w.heap.size + 1 + 1 + 1, 0, none⟩ = some (.int .i64 b) ∧ W.frozen? ⟨w.heap.size + 1 + 1 + 1, 0, none⟩ = false ∧ W.cell? ⟨gb, 0, none⟩ = some gv ∧ W.frozen? ⟨gb, 0, none⟩ = false :=
 ⟨bc0 h.1, bc0 h.2.1, blk_frozen h.2.1 0, bc0 h.2.2.1, blk_frozen h.2.2.1 0, bc0 h.2.2.2.1, blk_frozen h.2.2.2.1 0⟩
theorem Frame.setG {w W : World} {n a b : Int} {gv : Value} {gb : Nat} (h : Frame w W n a b gv gb) (gv' : Value) : Frame w (W.setCell ⟨gb, 0, none⟩ gv') n a b gv' gb := by
 obtain ⟨h1, h2, h3, h4, h5, h6⟩ := h
 exact ⟨blk_far h1 (by simp; omega) _, blk_far h2 (by simp; omega) _, blk_far h3 (by simp; omega) _, blk_put h4 0 gv' rfl, h5, below_set h6 (by omega)⟩
theorem Frame.setA {w W : World} {n a b : Int} {gv : Value} {gb : Nat} (h : Frame w W n a b gv gb) (a' : Int) : Frame w (W.setCell ⟨w.heap.size + 1 + 1, 0, none⟩ (.int .i64 a')) n a' b gv gb := by
 obtain ⟨h1, h2, h3, h4, h5, h6⟩ := h
 exact ⟨blk_far h1 (by simp) _, blk_put h2 0 _ rfl, blk_far h3 (by simp) _, blk_far h4 (by simp; omega) _, h5, below_set h6 (by omega)⟩
theorem Frame.setB {w W : World} {n a b : Int} {gv : Value} {gb : Nat} (h : Frame w W n a b gv gb) (b' : Int) : Frame w (W.setCell ⟨w.heap.size + 1 + 1 + 1, 0, none⟩ (.int .i64 b')) n a b' gv gb := by
 obtain ⟨h1, h2, h3, h4, h5, h6⟩ := h
 exact ⟨blk_far h1 (by simp) _, blk_far h2 (by simp) _, blk_put h3 0 _ rfl, blk_far h4 (by simp; omega) _, h5, below_set h6 (by omega)⟩
theorem Frame.drew {w W : World} {n a b : Int} {gv : Value} {gb : Nat} (h : Frame w W n a b gv gb) : Frame w W.drew n a b gv gb :=
 ⟨h.1, h.2.1, h.2.2.1, h.2.2.2.1, h.2.2.2.2.1, below_drew h.2.2.2.2.2⟩
theorem Frame.start {w w1 w2 : World} {o : Obj} {n : Int} {gb : Nat} {gv : Value} (hb : Below ((((w.alloc o).alloc (.cells #[.int .i64 n] 3)).alloc (.cells #[.int .i64 0] 3)).alloc (.cells #[.int .i64 0] 25)).heap.size ((((w.alloc o).alloc (.cells #[.int .i64 n] 3)).alloc (.cells #[.int .i64 0] 3)).alloc (.cells #[.int .i64 0] 25)) w1)
  (hgb : gb = w1.heap.size) (hbox : w2.heap[gb]? = some (.cells #[gv] 63 (0, 0))) (hb2 : Below w1.heap.size w1 w2) : Frame w w2 n 0 0 gv gb := by
 have b1 := blk_below (blk_alloc (blk_alloc (blk_new (w.alloc o) (.cells #[.int .i64 n] 3)) (.cells #[.int .i64 0] 3)) (.cells #[.int .i64 0] 25)) hb
 have b2 := blk_below (blk_alloc (blk_new ((w.alloc o).alloc (.cells #[.int .i64 n] 3)) (.cells #[.int .i64 0] 3)) (.cells #[.int .i64 0] 25)) hb
 have b3 := blk_below (blk_new (((w.alloc o).alloc (.cells #[.int .i64 n] 3)).alloc (.cells #[.int .i64 0] 3)) (.cells #[.int .i64 0] 25)) hb
 have hs := hb.size
 simp only [World.size_alloc] at b1 b2 b3 hs
 refine ⟨blk_below b1 hb2, blk_below b2 hb2, blk_below b3 hb2, hbox, by omega, ?_⟩
 exact below_step (below_step (below_alloc (below_alloc (below_alloc (below_alloc (Below.refl _ _) _) _) _) _) hb) hb2
theorem results_cells {fn : Func} {p r : Tmp} {t u : TypeId} (h : fn.results = #[.cell p t, .cell r u]) {tmps : Array Value} {w : World} {a b : Addr} {x y : Value}
  (ha : tmps.getD p undef = .pointer (some a)) (hb : tmps.getD r undef = .pointer (some b)) (P : Program) (hx : (loadVar t a).run P w = .ok x w) (hy : (loadVar u b).run P w = .ok y w) : (results fn tmps).run P w = .ok (.tuple #[x, y]) w := by
 have ha' : (asAddr (tmps.getD p undef)).run P w = .ok a w := by rw [ha]; rfl
 have hb' : (asAddr (tmps.getD r undef)).run P w = .ok b w := by rw [hb]; rfl
 simp only [results, h]
 simp only [Sem.run_bind, Result.andThen, List.mapM_toArray]
 simp only [Array.getD_eq_getD_getElem?] at ha' hb'
 simp [Sem.run_bind, Result.andThen, ha', hb', hx, hy]
end Go.Proofs.Ytibbdjkboglepaa.MyQBchRoots
namespace Go.Proofs.Ytibbdjkboglepaa.MyQBchRoots
open Go Go.RowKit Go.Shelf Go.Proofs.YtibbdjkboglepaaW.PrintWords Go.Proofs.YtibbdjkboglepaaW.PrintLast Go.Proofs.YtibbdjkboglepaaW.PrintMore Go.Proofs.Ytibbdjkboglepaa.My Go.Proofs.Ytibbdjkboglepaa.QBchRoots
attribute [local go_sem] Oper.semAt_some
theorem ne_row {W : World} {k : Nat} {cs : Array Value} {t : TypeId} {fr : Nat × Nat} {row : Option Nat} (hb : W.heap[k]? = some (.cells cs t fr)) (hr : ∀ r, row = some r → ∃ o : Obj, W.heap[r]? = some o ∧ o.isCells = false) : some k ≠ row := by
 intro e
 obtain ⟨o, ho, hc⟩ := hr k e.symm
 rw [hb] at ho
 cases ho
 simp [Obj.isCells] at hc
theorem Frame.grown {w W W' : World} {n a b : Int} {gv : Value} {gb : Nat} {row : Option Nat} (h : Frame w W n a b gv gb) (hg : W.grownBy W' row) (hr : ∀ r, row = some r → w.heap.size ≤ r ∧ ∃ o : Obj, W.heap[r]? = some o ∧ o.isCells = false) : Frame w W' n a b gv gb := by
 obtain ⟨h1, h2, h3, h4, h5, h6⟩ := h
 have hr' := fun r e => (hr r e).2
 exact ⟨blk_grown h1 hg (ne_row h1 hr'), blk_grown h2 hg (ne_row h2 hr'), blk_grown h3 hg (ne_row h3 hr'), blk_grown h4 hg (ne_row h4 hr'), h5, h6.grown hg h6.size (fun k e => (hr k e).1)⟩
theorem isS92_grown' {w0 W W' : World} {g : Nat} {f0 f1 : Int} {f2 : List Int} {f3 : Int} {f4 f5 : List Int} {row : Option Nat} (h : IsS92 w0 W g f0 f1 f2 f3 f4 f5) (hg : W.grownBy W' row) (hr : ∀ r, row = some r → ∃ o : Obj, W.heap[r]? = some o ∧ o.isCells = false) : IsS92 w0 W' g f0 f1 f2 f3 f4 f5 := by
 obtain ⟨A2, c2, A4, c4, A5, c5, hb, _⟩ := id h
 exact h.grown hg (ne_row hb hr)
theorem below_keep {w0 W W' : World} {g b : Nat} (h0 : Below w0.heap.size w0 W) (h1 : Below w0.heap.size w0 W') (hk : KeepBut W W' g none) (hb : b ≤ W.heap.size) (hg : b ≤ g) : Below b W W' :=
 ⟨h1.os.trans h0.os.symm, h1.tape.trans h0.tape.symm, h1.output.trans h0.output.symm, hk.1, fun k hk' => hk.2 k (by omega) (by omega) (by simp)⟩
theorem isS92_others {w0 W W' : World} {g : Nat} {f0 f1 : Int} {f2 : List Int} {f3 : Int} {f4 f5 : List Int} (h : IsS92 w0 W g f0 f1 f2 f3 f4 f5) (hk : KeepBut W W' g none) : KeepsOthers W W' := by
 obtain ⟨A2, c2, A4, c4, A5, c5, hb, _⟩ := id h
 refine ⟨hk.1, fun j o hj ho => (hk.2 j (blk_lt hj) (fun e => ?_) (by simp)).trans hj⟩
 subst e
 rw [hb] at hj
 cases hj
 simp [Obj.isCells] at ho
theorem Frame.keep {w w0 W W' : World} {n a b : Int} {gv : Value} {gb g : Nat} {f0 f1 : Int} {f2 : List Int} {f3 : Int} {f4 f5 : List Int} (h : Frame w W n a b gv gb) (hI : IsS92 w0 W g f0 f1 f2 f3 f4 f5) (h0 : Below w0.heap.size w0 W) (h1 : Below w0.heap.size w0 W') (hk : KeepBut W W' g none) (hw : w.heap.size ≤ w0.heap.size) : Frame w W' n a b gv gb := by
 obtain ⟨k1, k2, k3, k4, k5, k6⟩ := h
 have hge := hI.ge
 exact ⟨hk.blk k1 (fun e => hI.ne_blk k1 (by decide) e.symm) (by simp), hk.blk k2 (fun e => hI.ne_blk k2 (by decide) e.symm) (by simp), hk.blk k3 (fun e => hI.ne_blk k3 (by decide) e.symm) (by simp), hk.blk k4 (fun e => hI.ne_blk k4 (by decide) e.symm) (by simp), k5, k6.trans (below_keep h0 h1 hk k6.size (by omega))⟩
theorem pre_fin {N : Nat} {pre : List (Fin N)} {x : Fin N} (h : pre ++ [x] <+: List.finRange N) (y : Nat) (hy : y < x.val) : (⟨y, by have := x.isLt; omega⟩ : Fin N) ∈ pre := by
 obtain ⟨t, ht⟩ := h
 have hat : ∀ (i : Nat) (z : Fin N), (pre ++ [x])[i]? = some z → z.val = i := by
  intro i z hz
  have h2 : (List.finRange N)[i]? = some z := by
   rw [← ht, List.append_assoc]
   have hl : i < (pre ++ [x]).length := (List.getElem?_eq_some_iff.1 hz).1
   rw [← List.append_assoc, List.getElem?_append_left hl]
   exact hz
  obtain ⟨h3, h4⟩ := List.getElem?_eq_some_iff.1 h2
  rw [← h4]
  simp
 have hx := hat pre.length x (by simp)
 have hyl : y < pre.length := by omega
 have h5 := hat y (pre[y]'hyl) (by rw [List.getElem?_append_left hyl]; simp [hyl])
 have h6 : (⟨y, by have := x.isLt; omega⟩ : Fin N) = pre[y]'hyl := Fin.ext h5.symm
 rw [h6]
 exact List.getElem_mem _
theorem Root_ok (k : Nat) (P M n q : Int) (A : Option Addr) (c : Nat) (Mod ex lg : List Int) (w : World) (hr : Kd.C (Kd.int .i64) w A Mod.length Mod) (hN : NewSaysOk P M q A c Mod ex lg) (hna : 1 ≤ n) (hnb : n ≤ 64) (hq0 : 0 ≤ q) (hq1 : q ≤ 256)
  (ord er : Int → Int) (hmo : ∀ x : Int, 0 ≤ x → x < q → field_GF_MulOrder.f k P M Mod q ex lg x = some (ord x, er x, P, M, q)) :
  Calls Try.prog 16 #[.agg #[.int .i64 P, .int .i64 M, .slice A Mod.length c], .int .i64 n] w fun e w' => (∃ r s : Int, e = .returned (.tuple #[.int .i64 r, .int .i64 s]) ∧
   ((∃ x : Nat, (x : Int) < q ∧ er x = 0 ∧ ord x = n ∧ (∀ y : Nat, y < x → ¬ (er y = 0 ∧ ord y = n)) ∧ r = x ∧ s = 0) ∨ ((∀ y : Nat, (y : Int) < q → ¬ (er y = 0 ∧ ord y = n)) ∧ r = 0 ∧ s = 11))) ∧ Below w.heap.size w w' := by
 have HR := Aside0.mk hr
 have HN := Aside0.mk hN
 have HM := Aside0.mk hmo
 have hu36 := Try.underlying36
 have hu92 := Try.underlying92
 clear hr hN hmo
 have d1 : decide (n < 1) = false := decide_eq_false (by omega)
 have d2 : decide (n > 64) = false := decide_eq_false (by omega)
 have d3 : decide (64 < n) = false := decide_eq_false (by omega)
 refine (callsIn_wide (n := 6)).1 ?_
 refine callsIn_of_wp_marks Try.func16 rfl trivial ?_ rfl
 refine wpIn_wide.2 ?_
 simp only [Try.ntmps16, List.size_toArray, List.length_cons, List.length_nil, Nat.reduceAdd, Nat.reduceSub, Array.replicate_succ, Array.replicate_zero, List.push_toArray, List.append_toArray, List.nil_append, List.cons_append]
 go_wp2_with (first
  | (go_at_call 37; refine (HN.out _ (Kd.C_alloc (Kd.C_alloc (Kd.C_alloc (Kd.C_alloc HR.out _) _) _) _)).mono ?_; rintro e w1 ⟨g, w0, rfl, hI, hB0, hge, hb⟩; have HB1 := Aside0.mk hb; have HI1 := Aside0.mk hI; have HW1 := Aside0.mk hB0; have HGE := Aside0.mk hge; clear hb hI hB0 hge)
  | (refine bx 6 #[.pointer none] 63 ?_; intro gb hgb wA hbox hb2; have FR := Aside0.mk (Frame.start HB1.out hgb hbox hb2); have HI := Aside0.mk (HI1.out.below hb2); have HW := Aside0.mk (HW1.out.trans (hb2.mono HW1.out.size)); have HGB : Aside0 (w0.heap.size ≤ gb) := ⟨by rw [hgb]; exact HW1.out.size⟩; clear HI1 HW1; clear HB1 hgb hbox hb2; obtain ⟨hn1, hc2, hf2, hc3, hf3, hcg, hfg⟩ := FR.out.facts)
  | ((with_reducible refine gate_store (t := 63) (p := 6) rfl ?_); refine store_event (t := 63) (p := 6) (v := ?vo_6) (w1 := (wA.setCell ⟨gb, 0, none⟩ (.pointer (some ⟨g, 0, none⟩)))) ?hg ?ho ?hn ?hr ?_; (case ho => rfl); (case hg => rfl); (case hn => rfl); (case hr => first | (go_simp; done) | (go_simp; rfl)); intro wG hw; have FR2 : Aside0 (Frame w wG n 0 0 ((.pointer (some ⟨g, 0, none⟩))) gb) := ⟨by rw [hw]; exact Frame.setG FR.out _⟩; have HI2 := Aside0.mk (HI.out.far (fun e => HI.out.ne_blk FR.out.2.2.2.1 (by decide) e) (p := ⟨gb, 0, none⟩) (.pointer (some ⟨g, 0, none⟩))); have HW2 := Aside0.mk (HW.out.setCell (p := ⟨gb, 0, none⟩) HGB.out (.pointer (some ⟨g, 0, none⟩))); rw [← hw] at HI2 HW2; clear HI HW; have HI := HI2; have HW := HW2; clear HI2 HW2; clear hw FR hn1 hc2 hf2 hc3 hf3 hcg hfg; have FR := FR2; clear FR2; obtain ⟨hn1, hc2, hf2, hc3, hf3, hcg, hfg⟩ := FR.out.facts)
  | (go_at_call 38; refine (callsIn_wide.1 (elements_in Fence.wide 3 trivial rfl _ _)).mono ?_; rintro e w' ⟨rfl, rfl⟩))
 obtain ⟨W0, hW0⟩ : ∃ W0, wG.alloc (.cells #[.pointer (some ⟨g, 0, none⟩)] 63) = W0 := ⟨_, rfl⟩
 have hcBn : W0.cell? ⟨wG.heap.size, 0, none⟩ = some (.pointer (some ⟨g, 0, none⟩)) := by rw [← hW0]; exact (blk_cell (blk_new wG (.cells #[.pointer (some ⟨g, 0, none⟩)] 63)) 0).trans rfl
 have hsz : W0.heap.size = wG.heap.size + 1 := by rw [← hW0]; simp
 have hIW : IsS92 w0 W0 g P M Mod q ex lg := by rw [← hW0]; exact HI.out.alloc _
 have hBW : Below w0.heap.size w0 W0 := by rw [← hW0]; exact below_alloc HW.out _
 have hFW : Frame w W0 n 0 0 (.pointer (some ⟨g, 0, none⟩)) gb := by
  rw [← hW0]
  exact FR.out.grown (World.grownBy_alloc wG _ none) (fun r e => by cases e)
 rw [hW0]
 clear hW0 HI HW FR hn1 hc2 hf2 hc3 hf3 hcg hfg
 have hgq : W0.cell? ⟨g, 3, none⟩ = some (.int .i64 q) := by
  obtain ⟨A2, c2, A4, c4, A5, c5, hb, _⟩ := id hIW
  exact bc3 hb
 have hwl : w.heap.size ≤ w0.heap.size := by have := HGE.out; simp only [World.size_alloc] at this; omega
 refine wpIn_wide.1 (wpIn_rangeFunc_ownF (n := 6) (F := Fence.wide) rfl (by omega) (gf := 65) (lb := #[.pointer (some ⟨wG.heap.size, 0, none⟩)]) rfl trivial (enters_of Try.func65 (by kernel_rfl) rfl)
  (elements_stops Fence.wide (6 - 1) trivial rfl (by omega) wG.heap.size w.heap.size g q hq0 (by omega) W0 (by omega) hIW.lt hcBn hgq) belowK_t (belowK_b hFW.2.2.2.2.2.size) (Below.refl _ _) (fun _ => rfl)
  (fun pre W => (∀ y ∈ pre, ¬ (er ((y.val : Nat) : Int) = 0 ∧ ord ((y.val : Nat) : Int) = n)) ∧ Frame w W n 0 0 (.pointer (some ⟨g, 0, none⟩)) gb ∧ IsS92 w0 W g P M Mod q ex lg ∧ Below w0.heap.size w0 W)
  (fun c pre W => c = .ret ∧ ∃ (pre' : List (Fin q.toNat)) (x : Fin q.toNat), pre = pre' ++ [x] ∧ (∀ y ∈ pre', ¬ (er ((y.val : Nat) : Int) = 0 ∧ ord ((y.val : Nat) : Int) = n)) ∧ (er ((x.val : Nat) : Int) = 0 ∧ ord ((x.val : Nat) : Int) = n) ∧ Frame w W n ((x.val : Nat) : Int) 0 (.pointer (some ⟨g, 0, none⟩)) gb)
  (fun s A B row hs hg hr => ⟨hs.1, hs.2.1.grown hg (fun r e => ⟨by have := (hr r e).1; have := hFW.2.2.2.2.2.size; omega, (hr r e).2⟩), isS92_grown' hs.2.2.1 hg (fun r e => (hr r e).2), hs.2.2.2.grown hg hs.2.2.2.size (fun r e => by have := (hr r e).1; have := hBW.size; omega)⟩)
  (fun c s A B row hs hg hr => by
    obtain ⟨h1, pre', x, h2, h3, h4, h5⟩ := hs
    exact ⟨h1, pre', x, h2, h3, h4, h5.grown hg (fun r e => ⟨by have := (hr r e).1; have := hFW.2.2.2.2.2.size; omega, (hr r e).2⟩)⟩)
  ⟨by simp, hFW, hIW, hBW⟩
  (fun x => { tmps := #[.agg #[.int .i64 P, .int .i64 M, .slice A Mod.length c], .int .i64 n, .pointer (some ⟨w.heap.size, 0, none⟩), .pointer (some ⟨w.heap.size + 1, 0, none⟩), .pointer (some ⟨w.heap.size + 1 + 1, 0, none⟩), .pointer (some ⟨w.heap.size + 1 + 1 + 1, 0, none⟩), .pointer (some ⟨gb, 0, none⟩), .int .i64 0, .int .i64 ((x.val : Nat) : Int), undef, undef, .tuple #[.pointer (some ⟨g, 0, none⟩), .int .i64 0], .agg #[.int .i64 P, .int .i64 M, .slice A Mod.length c], .tuple #[.pointer (some ⟨g, 0, none⟩), .int .i64 0], .pointer (some ⟨g, 0, none⟩), .int .i64 0, .int .i64 0, .bool false, undef, .int .i64 n, .bool false, .bool false, .int .i64 n, .bool false, .bool false, .pointer (some ⟨g, 0, none⟩), .func (.func 65) #[] #[.pointer (some ⟨wG.heap.size, 0, none⟩)], .int .i64 ((x.val : Nat) : Int), undef, undef, undef, undef, undef, undef, undef, undef, undef, undef, undef, undef, undef, undef], defers := [] }) ?assign ?body ?done ?stop)
 case assign =>
  intro l x W K hK
  gi_wp2
  exact hK
 case body =>
  rintro l pre x W ⟨hp, hF, hI, hB⟩ _
  have hxl := x.isLt
  obtain ⟨hn1, hc2, hf2, hc3, hf3, hcg, hfg⟩ := hF.facts
  have hcall := field_GF_MulOrder.calls k g P M Mod q ex lg ((x.val : Nat) : Int) _ _ _ _ _ w0 W hI hB (HM.out _ (by omega) (by omega))
  have HC := Aside0.mk hcall
  have HF := Aside0.mk hF
  have HI := Aside0.mk hI
  have HB := Aside0.mk hB
  clear hcall hF hI hB
  gi_wp2_with (refine ⟨trivial, ?_⟩; gi_at_call 39; refine (CallsIn.inRound l (callsIn_wide.2 HC.out)).mono ?_; rintro e W' ⟨rfl, hI', hB', hk'⟩; have HF' := Aside0.mk (HF.out.keep HI.out HB.out hB' hk' hwl); clear hn1 hc2 hf2 hc3 hf3 hcg hfg; have HI' := Aside0.mk hI'; have HB' := Aside0.mk hB'; have HK' := Aside0.mk hk'; clear hI' hB' hk'; obtain ⟨hn1, hc2, hf2, hc3, hf3, hcg, hfg⟩ := HF'.out.facts)
  all_goals
   have hsz1 := HF.out.2.2.2.2.2.size
   have hge1 := HI.out.ge
   have hbk : Below w.heap.size W W' := below_keep HB.out HB'.out HK'.out hsz1 (by omega)
   first
   | (rename_i hx
      have hne : ¬ (er ((x.val : Nat) : Int) = 0 ∧ ord ((x.val : Nat) : Int) = n) := by first | exact fun h => hx h.1 | (intro h; simp [h.2] at hx)
      exact ⟨isS92_others HI.out HK'.out, hbk, ⟨fun y hy => (List.mem_append.1 hy).elim (hp y) (fun e => by rw [List.mem_singleton] at e; subst e; exact hne), HF'.out, HI'.out, HB'.out⟩⟩)
   | (rename_i hx
      have ho : ord ((x.val : Nat) : Int) = n := by simpa using hx
      have he : er ((x.val : Nat) : Int) = 0 := by first | assumption | simpa using ‹_›
      exact ⟨((isS92_others HI.out HK'.out).trans (KeepsOthers.setCell _ _ _)).trans (KeepsOthers.setCell _ _ _), rfl, pre, x, rfl, hp, ⟨he, ho⟩, (HF'.out.setA _).setB _⟩)
 case done =>
  rintro D ys W hD rfl ⟨hne, hF, hI, hB⟩ hK
  obtain ⟨hn1, hc2, hf2, hc3, hf3, hcg, hfg⟩ := hF.facts
  have HF := Aside0.mk hF
  have HKD := Aside0.mk hK
  have HNE := Aside0.mk hne
  clear hF hI hB hK hne
  try simp only [Exit.then]
  go_wp2
  have hK' := ((KeepsOthers.setCell W ⟨w.heap.size + 1 + 1, 0, none⟩ (.int .i64 0)).trans (KeepsOthers.setCell _ ⟨w.heap.size + 1 + 1 + 1, 0, none⟩ (.int .i64 11))).same D _ HKD.out rfl
  have hF' := (HF.out.setA 0).setB 11
  have hF2 := hF'.grown (grownBy_putObj' _ D (.deferred none)) (fun r e => by cases e; exact ⟨by have := hFW.2.2.2.2.2.size; omega, _, hK', rfl⟩)
  refine ⟨by simp, .inl ⟨_, _, rfl, run_takeDeferred hK', ?_⟩⟩
  obtain ⟨kn1, kc2, kf2, kc3, kf3, kcg, kfg⟩ := hF2.facts
  exact ⟨_, results_cells (a := ⟨w.heap.size + 1 + 1, 0, none⟩) (b := ⟨w.heap.size + 1 + 1 + 1, 0, none⟩) (x := .int .i64 0) (y := .int .i64 11) rfl rfl rfl _ (by go_simp) (by go_simp), ⟨0, 11, rfl, .inr ⟨fun y hy => HNE.out ⟨y, by omega⟩ (List.mem_finRange _), rfl, rfl⟩⟩, hF2.2.2.2.2.2⟩
 case stop =>
  rintro D c pre W hD hpre ⟨rfl, pre', x, rfl, hne, hit, hF⟩ hK
  gi_wp2
  have hF2 := hF.grown (grownBy_putObj' _ D (.deferred none)) (fun r e => by cases e; exact ⟨by have := hFW.2.2.2.2.2.size; omega, _, hK, rfl⟩)
  refine ⟨by simp, .inl ⟨_, _, rfl, run_takeDeferred hK, ?_⟩⟩
  obtain ⟨kn1, kc2, kf2, kc3, kf3, kcg, kfg⟩ := hF2.facts
  have hxl := x.isLt
  exact ⟨_, results_cells (a := ⟨w.heap.size + 1 + 1, 0, none⟩) (b := ⟨w.heap.size + 1 + 1 + 1, 0, none⟩) (x := .int .i64 ((x.val : Nat) : Int)) (y := .int .i64 0) rfl rfl rfl _ (by go_simp) (by go_simp), ⟨((x.val : Nat) : Int), 0, rfl, .inl ⟨x.val, by omega, hit.1, hit.2, fun y hy => hne _ (pre_fin hpre y hy), rfl, rfl⟩⟩, hF2.2.2.2.2.2⟩
end Go.Proofs.Ytibbdjkboglepaa.MyQBchRoots
namespace Go.Proofs.Ytibbdjkboglepaa.MyQBchRoots
open Go.RowKit Go.Proofs.YtibbdjkboglepaaW.PrintWords Go.Proofs.YtibbdjkboglepaaW.PrintMore Go.Proofs.Ytibbdjkboglepaa.My Go.Proofs.Ytibbdjkboglepaa.Alg Go.Proofs.Ytibbdjkboglepaa.QBchRoots
theorem pdigits_l0 {p : Int} (hp : 2 ≤ p) {n : Int} (hn : n ≤ 1000) {x : Int} (hx : 0 ≤ x) (hx' : x < 9223372036854775808) : ∀ (d : Nat) (i : Nat) (out : List Int), (i : Int) + d = n → (out.length : Int) = n → (∀ j : Int, 0 ≤ j → j < i → rd out j = x / p ^ j.toNat % p) →
  ∃ r, Ev (fun k => field_digitsOf.l0 k (x / p ^ i) p out n i) r ∧ ((r.length : Int) = n ∧ ∀ j : Int, 0 ≤ j → j < n → rd r j = x / p ^ j.toNat % p) := by
 intro d
 induction d with
 | zero =>
  intro i out hi hl h
  exact ⟨out, ev_succ (ev_now fun k => by rw [field_digitsOf.l0, if_neg (by omega)]), hl, fun j h1 h2 => h j h1 (by omega)⟩
 | succ d ih =>
  intro i out hi hl h
  have hpi : 0 < p ^ i := Int.pow_pos (by omega)
  have h0 : 0 ≤ x / p ^ i := Int.ediv_nonneg hx (by omega)
  have h1 : x / p ^ i ≤ x := Int.ediv_le_self _ hx
  have h2 : 0 ≤ x / p ^ i / p := Int.ediv_nonneg h0 (by omega)
  have h3 : x / p ^ i / p ≤ x / p ^ i := Int.ediv_le_self _ h0
  obtain ⟨r, hr, hq⟩ := ih (i + 1) (out.set i (x / p ^ i % p)) (by omega) (by rw [List.length_set]; exact hl) (by
   intro j h1 h2
   by_cases e : j = i
   ·subst e
    rw [show out.set i (x / p ^ i % p) = out.set ((i : Int)).toNat (x / p ^ i % p) from rfl, rd_set_self (by omega) (by omega)]
    rfl
   ·rw [show out.set i (x / p ^ i % p) = out.set ((i : Int)).toNat (x / p ^ i % p) from rfl, rd_set_ne (by omega) h1 (by omega)]
    exact h j h1 (by omega))
  refine ⟨r, Ev.step (fun k => ?_) hr, hq⟩
  rw [field_digitsOf.l0, if_pos (by omega), if_neg (by omega), if_pos (by omega), if_pos (by omega), tmod_nn h0, Int.tdiv_eq_ediv_of_nonneg h0, w64 (by omega) (by omega), w64 (by omega) (by omega), Int.ediv_ediv, if_neg (by omega), Int.sub_zero, ← Int.pow_succ]
  rfl
theorem pdigits_eq {p : Int} (hp : 2 ≤ p) {n : Int} (hn0 : 0 ≤ n) (hn : n ≤ 1000) {x : Int} (hx : 0 ≤ x) (hx' : x < 9223372036854775808) :
  ∃ r, Ev (fun k => field_digitsOf.f k x p n) r ∧ ((r.length : Int) = n ∧ ∀ j : Int, 0 ≤ j → j < n → rd r j = x / p ^ j.toNat % p) := by
 obtain ⟨r, hr, hq⟩ := pdigits_l0 hp hn hx hx' n.toNat 0 (List.replicate n.toNat 0) (by omega) (by simp; omega) (fun j h1 h2 => by omega)
 rw [show x / p ^ 0 = x by rw [Int.pow_zero, Int.ediv_one]] at hr
 refine ⟨r, Ev.congr (fun k => ?_) hr, hq⟩
 unfold field_digitsOf.f
 rw [if_pos hn0, if_pos (by omega)]
 simp only [Option.bind_some, List.length_replicate]
 rw [show ((n.toNat : Nat) : Int) = n by omega]
 rfl
theorem pvalue_l0 {p : Int} (hp : 2 ≤ p) {l : List Int} (hl : ∀ d ∈ l, 0 ≤ d ∧ d < p) (hb : p ^ l.length ≤ 1000000) (hll : l.length ≤ 1000) : ∀ (i : Nat), i ≤ l.length →
  Ev (fun k => field_valueOf.l0 k l p (lval p (l.drop i)) ((i : Int) - 1)) (lval p l) := by
 intro i
 induction i with
 | zero => intro _; exact ev_succ (ev_now fun k => by rw [field_valueOf.l0, if_neg (by omega)]; rfl)
 | succ i ih =>
  intro hi
  have e : lval p (l.drop i) = lval p (l.drop (i + 1)) * p + rd l i := by
   rw [drop_rd (by omega), lval_cons, Int.mul_comm, Int.add_comm]
  have hd := hl _ (rd_mem (i := (i : Int)) (by omega) (by omega))
  have hbd : ∀ j, 0 ≤ lval p (l.drop j) ∧ lval p (l.drop j) < 1000000 := by
   intro j
   have h1 := lval_bd hp (l := l.drop j) (fun d hd => hl d (List.mem_of_mem_drop hd))
   have h2 : p ^ (l.drop j).length ≤ p ^ l.length := pow_mono (by omega) (by rw [List.length_drop]; omega)
   omega
  have b1 := hbd (i + 1)
  have b2 := hbd i
  have b3 := Int.mul_nonneg b1.1 (show 0 ≤ p by omega)
  refine Ev.step (fun k => ?_) (ih (by omega))
  rw [field_valueOf.l0, if_pos (by omega), if_pos (by omega), if_pos (by omega), show ((i + 1 : Nat) : Int) - 1 = (i : Int) by omega, w64 (x := lval p (l.drop (i + 1)) * p) (by omega) (by omega), ← e, w64 (x := lval p (l.drop i)) (by omega) (by omega), w64 (by omega) (by omega)]
theorem pvalue_eq {p : Int} (hp : 2 ≤ p) {l : List Int} (hl : ∀ d ∈ l, 0 ≤ d ∧ d < p) (hb : p ^ l.length ≤ 1000000) (hl' : l.length ≤ 1000) : Ev (fun k => field_valueOf.f k l p) (lval p l) := by
 have := pvalue_l0 hp hl hb hl' l.length (Nat.le_refl _)
 rw [List.drop_length] at this
 refine Ev.congr (fun k => ?_) this
 unfold field_valueOf.f
 rw [w64 (by omega) (by omega)]
 rfl
structure RC (Q : Pr) (m : Nat) (F : Pol (Zp Q)) (P M : Int) (Mod : List Int) : Prop where
 hp : Q.p = P
 hm : (m : Int) = M
 m1 : 1 ≤ m
 hm8 : M ≤ 8
 p256 : P ≤ 256
 hq : P ^ m ≤ 256
 mon : Monic F m
 f0 : M = 1 → F 0 = 0
 len : 1 < M → (Mod.length : Int) = M
 low : 1 < M → ∀ i : Nat, i < m → rd Mod i = (F i).1
section
variable {Q : Pr} {m : Nat} {F : Pol (Zp Q)} {P M : Int} {Mod : List Int}
theorem rd_shiftL {xs : List Int} {n : Nat} (hl : xs.length = n + 1) {t : Int} (h1 : 1 ≤ t) (h2 : t ≤ n) : rd (shiftL n xs) t = rd xs (t - 1) := by
 unfold shiftL
 rw [show min n (xs.length - 1) = n by omega]
 obtain ⟨s, rfl⟩ : ∃ s : Nat, t = (s : Int) + 1 := ⟨(t - 1).toNat, by omega⟩
 unfold rd
 rw [List.getD_eq_getElem?_getD, List.getD_eq_getElem?_getD, List.getElem?_append_right (by simp; omega), List.getElem?_append_left (by simp; omega), List.getElem?_take_of_lt (by simp; omega)]
 congr 2
 simp; omega
def low0 (M : Int) (Mod : List Int) (t : Int) : Int := if M > 1 then rd Mod t else 0
theorem RC.low0 (h : RC Q m F P M Mod) (t : Nat) (ht : t < m) : 0 ≤ MyQBchRoots.low0 M Mod t ∧ MyQBchRoots.low0 M Mod t < P ∧ of Q (MyQBchRoots.low0 M Mod t) = F t := by
 have hp2 := Q.two
 have hp := h.hp
 have hm := h.hm
 unfold MyQBchRoots.low0
 by_cases e : M > 1
 ·rw [if_pos e, h.low e t ht]
  have := (F t).2
  exact ⟨this.1, by omega, of_self _⟩
 ·rw [if_neg e]
  have hM : M = 1 := by have := h.m1; omega
  have ht0 : t = 0 := by omega
  subst ht0
  exact ⟨by omega, by omega, by rw [h.f0 hM]; rfl⟩
theorem inner (h : RC Q m F P M Mod) {a b : List Int} (ha : DL P M a) (hb : DL P M b) (i : Nat) (hi : i < m) (top : Int) (ht0 : 0 ≤ top) (htP : top < P) (c0 : List Int) (R : Int)
  (hk : ∀ c, DL P M c → (∀ t : Nat, t < m → of Q (rd c t) = of Q (rd c0 t) + (-of Q top * F t + of Q (rd b i) * of Q (rd a t))) → Ev (fun k => field_multiply.l0 k a b c ((i : Int) - 1) P M Mod) R) :
  ∀ (d : Nat) (j : Nat) (c : List Int), j + d = m → DL P M c → (∀ t : Nat, t < m → of Q (rd c t) = if t < j then of Q (rd c0 t) + (-of Q top * F t + of Q (rd b i) * of Q (rd a t)) else of Q (rd c0 t)) →
   Ev (fun k => field_multiply.l1 k a b c i top M j P M Mod) R := by
 have hp := h.hp
 have hp2 := Q.two
 have hm := h.hm
 have hm8 := h.hm8
 have hp256 := h.p256
 intro d
 induction d with
 | zero =>
  intro j c hj hc hs
  refine Ev.step (fun k => by rw [field_multiply.l1, if_neg (by omega), w64 (by omega) (by omega)]) (hk c hc ?_)
  intro t ht
  rw [hs t ht, if_pos (by omega)]
 | succ d ih =>
  intro j c hj hc hs
  have haj := ha.2 j (by omega) (by omega)
  have hbi := hb.2 i (by omega) (by omega)
  have hcj := hc.2 j (by omega) (by omega)
  obtain ⟨hl0, hl1, hl2⟩ := h.low0 j (by omega)
  have hab := mul_bd8 (a := rd b i) (b := rd a j) hbi.1 (by omega) haj.1 (by omega)
  have htl := mul_bd8 (a := P - top) (b := MyQBchRoots.low0 M Mod j) (by omega) (by omega) hl0 (by omega)
  have hcl := hc.1
  have hal := ha.1
  have hbl := hb.1
  let v := (rd c j + (P - top) * MyQBchRoots.low0 M Mod j + rd b i * rd a j) % P
  have he0 := Int.emod_nonneg (rd c j + (P - top) * MyQBchRoots.low0 M Mod j + rd b i * rd a j) (show P ≠ 0 by omega)
  have he1 := Int.emod_lt_of_pos (rd c j + (P - top) * MyQBchRoots.low0 M Mod j + rd b i * rd a j) (show 0 < P by omega)
  refine Ev.step (fun k => ?_) (ih (j + 1) (c.set ((j : Int)).toNat v) (by omega) (hc.set (by omega) (by omega) he0 he1) ?_)
  ·rw [field_multiply.l1, if_pos (by omega)]
   show _ = field_multiply.l1 k a b (c.set ((j : Int)).toNat ((rd c j + (P - top) * MyQBchRoots.low0 M Mod j + rd b i * rd a j) % P)) i top M ((j + 1 : Nat) : Int) P M Mod
   by_cases e : M > 1
   ·have hml := h.len e
    have e2 : MyQBchRoots.low0 M Mod j = rd Mod j := by unfold MyQBchRoots.low0; rw [if_pos e]
    rw [e2] at htl ⊢
    rw [if_pos e, if_pos (by omega), if_pos (by omega), if_pos (by omega), if_pos (by omega), if_pos (by omega), if_pos (by omega), if_neg (by omega),
     w64 (x := P - top) (by omega) (by omega), w64 (x := (P - top) * rd Mod j) (by omega) (by omega), w64 (x := rd c j + (P - top) * rd Mod j) (by omega) (by omega), w64 (x := rd b i * rd a j) (by omega) (by omega), w64 (x := rd c j + (P - top) * rd Mod j + rd b i * rd a j) (by omega) (by omega), tmod_nn (by omega), w64 (x := (j : Int) + 1) (by omega) (by omega)]
    rfl
   ·have e2 : MyQBchRoots.low0 M Mod j = 0 := by unfold MyQBchRoots.low0; rw [if_neg e]
    rw [e2, Int.mul_zero, Int.add_zero]
    rw [if_neg e, if_pos (by omega), if_pos (by omega), if_pos (by omega), if_pos (by omega), if_pos (by omega), if_neg (by omega),
     w64 (x := 0) (by omega) (by omega), Int.add_zero, w64 (x := rd c j) (by omega) (by omega), w64 (x := rd b i * rd a j) (by omega) (by omega), w64 (x := rd c j + rd b i * rd a j) (by omega) (by omega), tmod_nn (by omega), w64 (x := (j : Int) + 1) (by omega) (by omega)]
    rfl
  ·intro t ht
   by_cases e : t = j
   ·subst e
    rw [rd_set_self (by omega) (by omega), if_pos (by omega)]
    have e1 : of Q v = of Q (rd c t + (P - top) * MyQBchRoots.low0 M Mod t + rd b i * rd a t) := of_eq.2 (by rw [hp]; exact Int.emod_emod_of_dvd _ (Int.dvd_refl P))
    have hs' := hs t ht
    rw [if_neg (by omega)] at hs'
    rw [e1, ← of_add, ← of_add, ← of_mul, ← of_mul, hl2, hs', add_assoc]
    congr 2
    congr 1
    rw [show P - top = -top + P by omega, ← of_add, ← of_neg, show of Q P = 0 from of_eq.2 (by rw [hp]; simp), add_zero]
   ·rw [rd_set_ne (by omega) (by omega) (by omega), hs t ht]
    by_cases e2 : t < j
    ·rw [if_pos e2, if_pos (by omega)]
    ·rw [if_neg e2, if_neg (by omega)]
theorem cong_xmul {α : Type} [CR α] {F f g : Pol α} (h : Cong F f g) : Cong F (xmul f) (xmul g) := by
 obtain ⟨q, n, hq, he⟩ := h
 refine ⟨Alg.xmul q, n + 1, hq.xmul, ?_⟩
 rw [he, xmul_pmul]
 funext i
 cases i with
 | zero => show (0 : α) = 0 + 0; rw [add_zero]
 | succ i => rfl
def tl (s : Nat) (b : Pol (Zp Q)) : Pol (Zp Q) := fun t => b (t + s)
theorem pmul_tl (a b : Pol (Zp Q)) (i : Nat) : pmul a (tl i b) = padd (xmul (pmul a (tl (i + 1) b))) (smul (b i) a) := by
 have e : tl i b = padd (C (b i)) (xmul (tl (i + 1) b)) := by
  rw [Alg.split (tl i b)]
  congr 2
  ·show b (0 + i) = b i
   rw [Nat.zero_add]
  ·funext t
   show b (t + 1 + i) = b (t + (i + 1))
   rw [show t + 1 + i = t + (i + 1) by omega]
 rw [e, pmul_padd, pmul_comm a (C (b i)), C_pmul, pmul_xmul, padd_comm]
theorem outer (h : RC Q m F P M Mod) {a b : List Int} (ha : DL P M a) (hb : DL P M b) (R : Int)
  (hk : ∀ c, DL P M c → Cong F (pmul (cut Q m a) (cut Q m b)) (cut Q m c) → Ev (fun k => field_multiply.l0 k a b c (-1) P M Mod) R) :
  ∀ (i : Nat) (c : List Int), i ≤ m → DL P M c → Cong F (pmul (cut Q m a) (tl i (cut Q m b))) (cut Q m c) → Ev (fun k => field_multiply.l0 k a b c ((i : Int) - 1) P M Mod) R := by
 have hp := h.hp
 have hp2 := Q.two
 have hm := h.hm
 have hm8 := h.hm8
 have hm1 := h.m1
 intro i
 induction i with
 | zero =>
  intro c hi hc hs
  exact hk c hc hs
 | succ i ih =>
  intro c hi hc hs
  have hcl := hc.1
  have htop := hc.2 (M - 1) (by omega) (by omega)
  have hb0 := hb.2 i (by omega) (by omega)
  have hsl := shiftL_length (m - 1) c
  have hc1 : DL P M ((shiftL (m - 1) c).set (0 : Int).toNat 0) := by
   refine ⟨by rw [List.length_set, hsl]; exact hcl, fun t h0 h1 => ?_⟩
   by_cases e : t = 0
   ·subst e
    rw [rd_set_self (by omega) (by rw [hsl]; omega)]
    omega
   ·rw [rd_set_ne (by omega) h0 (by omega), rd_shiftL (by omega) (by omega) (by omega)]
    exact hc.2 (t - 1) (by omega) (by omega)
  refine Ev.step (fun k => ?_) (inner h ha hb i (by omega) (rd c (M - 1)) htop.1 htop.2 ((shiftL (m - 1) c).set (0 : Int).toNat 0) R (fun c' hc' hs' => ih c' (by omega) hc' ?_) m 0 _ (by omega) hc1 (fun t ht => by rw [if_neg (by omega)]))
  ·rw [field_multiply.l0, if_pos (by omega), w64 (x := M - 1) (by omega) (by omega), if_pos (by omega), if_pos (by omega), if_pos (by omega), if_pos (by omega), if_pos (by omega), show (M - 1).toNat = m - 1 by omega, hcl, show ((i + 1 : Nat) : Int) - 1 = i by omega]
   rfl
  ·rw [pmul_tl]
   refine Cong.trans (Cong.add (cong_xmul hs) (Cong.refl F _)) ?_
   refine ⟨C (of Q (rd c (M - 1))), 1, DegLt.C _, ?_⟩
   rw [C_pmul]
   funext t
   show Alg.xmul (cut Q m c) t + cut Q m b i * cut Q m a t = cut Q m c' t + of Q (rd c (M - 1)) * F t
   have hbi : cut Q m b i = of Q (rd b i) := if_pos (by omega)
   rw [hbi]
   by_cases et : t < m
   ·have e1 : cut Q m c' t = of Q (rd c' t) := if_pos et
    have e2 : cut Q m a t = of Q (rd a t) := if_pos et
    have e3 : Alg.xmul (cut Q m c) t = of Q (rd ((shiftL (m - 1) c).set (0 : Int).toNat 0) t) := by
     cases t with
     | zero =>
      rw [show ((0 : Nat) : Int) = 0 from rfl, rd_set_self (by omega) (by rw [hsl]; omega)]
      rfl
     | succ t =>
      rw [rd_set_ne (by omega) (by omega) (by omega), rd_shiftL (by omega) (by omega) (by omega), show ((t + 1 : Nat) : Int) - 1 = t by omega]
      exact if_pos (by omega)
    rw [e1, e2, e3, hs' t et, add_assoc, add_comm (-of Q (rd c (M - 1)) * F t), add_assoc, neg_mul, neg_add, add_zero]
   ·have e1 : cut Q m c' t = 0 := if_neg et
    have e2 : cut Q m a t = 0 := if_neg et
    rw [e1, e2, mul_zero, add_zero, zero_add]
    cases t with
    | zero => omega
    | succ t =>
     show cut Q m c t = _
     by_cases e4 : t + 1 = m
     ·rw [show t + 1 = m from e4, h.mon.1, mul_one]
      have : cut Q m c t = of Q (rd c t) := if_pos (by omega)
      rw [this, show M - 1 = (t : Int) by omega]
     ·rw [h.mon.2 (t + 1) (by omega), mul_zero]
      exact if_neg (by omega)
theorem cut_dig (h : RC Q m F P M Mod) {x : Int} (h0 : 0 ≤ x) (hx : x < P ^ m) {l : List Int} (hl : ∀ j : Int, 0 ≤ j → j < M → rd l j = x / P ^ j.toNat % P) : cut Q m l = dig Q x := by
 have hp := h.hp
 have hm := h.hm
 funext t
 unfold cut
 by_cases e : t < m
 ·rw [if_pos e, hl t (by omega) (by omega), ← hp]
  exact of_eq.2 (Int.emod_emod_of_dvd _ (Int.dvd_refl _))
 ·rw [if_neg e, dig_deg m x h0 (by rw [hp]; exact hx) t (by omega)]
theorem multiply_cong (h : RC Q m F P M Mod) {x y : Int} (h0 : 0 ≤ x) (hx : x < P ^ m) (h0' : 0 ≤ y) (hy : y < P ^ m) :
  ∃ r, Ev (fun k => field_multiply.f k P M Mod x y) r ∧ 0 ≤ r ∧ r < P ^ m ∧ Cong F (pmul (dig Q x) (dig Q y)) (dig Q r) := by
 have hp := h.hp
 have hp2 := Q.two
 have hm := h.hm
 have hm8 := h.hm8
 have hm1 := h.m1
 have hq := h.hq
 obtain ⟨a, hae, hal, had⟩ := pdigits_eq (p := P) (n := M) (x := x) (by omega) (by omega) (by omega) h0 (by omega)
 obtain ⟨b, hbe, hbl, hbd⟩ := pdigits_eq (p := P) (n := M) (x := y) (by omega) (by omega) (by omega) h0' (by omega)
 have hda : DL P M a := ⟨hal, fun t h1 h2 => by rw [had t h1 h2]; exact ⟨Int.emod_nonneg _ (by omega), Int.emod_lt_of_pos _ (by omega)⟩⟩
 have hdb : DL P M b := ⟨hbl, fun t h1 h2 => by rw [hbd t h1 h2]; exact ⟨Int.emod_nonneg _ (by omega), Int.emod_lt_of_pos _ (by omega)⟩⟩
 have hz : DL P M (List.replicate m 0) := ⟨by rw [List.length_replicate]; exact hm, fun t h1 h2 => by rw [rd_replicate]; omega⟩
 have hz0 : Cong F (pmul (cut Q m a) (tl m (cut Q m b))) (cut Q m (List.replicate m 0)) := by
  have e1 : tl m (cut Q m b) = pzero := funext fun t => if_neg (by omega)
  have e2 : cut Q m (List.replicate m 0) = pzero := by
   funext t
   unfold cut
   rw [rd_replicate]
   split <;> rfl
  rw [e1, e2, pmul_pzero]
  exact Cong.refl F _
 have hex : ∃ R, 0 ≤ R ∧ R < P ^ m ∧ Cong F (pmul (cut Q m a) (cut Q m b)) (dig Q R) ∧ Ev (fun k => field_multiply.l0 k a b (List.replicate m 0) ((m : Int) - 1) P M Mod) R := by
  obtain ⟨r0, hc0, hd0⟩ := Cong.exists (F := F) (f := pmul (cut Q m a) (cut Q m b)) h.mon (DegLt.pmul ((cut_deg Q m a).mono (Nat.le_succ m)) (cut_deg Q m b))
  have hr := pval_range m r0
  refine ⟨pval m r0, hr.1, by rw [← hp]; exact hr.2, by rw [dig_pval m r0 hd0]; exact hc0, ?_⟩
  refine outer h hda hdb _ (fun c hc hs => ?_) m _ (Nat.le_refl m) hz hz0
  have e : cut Q m c = r0 := (hs.symm.trans hc0).unique h.mon (cut_deg Q m c) hd0
  have hcl := hc.1
  have hv : lval P c = pval m r0 := by
   rw [← hp, lval_pval (fun d hd => by rw [hp]; exact hc.mem d hd), show c.length = m by omega, lp_cut, show c.length = m by omega, e]
  have hve := pvalue_eq (p := P) (l := c) (by omega) hc.mem (by rw [show c.length = m by omega]; omega) (by omega)
  rw [hv] at hve
  refine Ev.step (fun k => ?_) (Ev.bind hve (Ev.now _))
  rw [field_multiply.l0, if_neg (by omega)]
 obtain ⟨R, hR0, hR1, hRc, hRe⟩ := hex
 rw [cut_dig h h0 hx had, cut_dig h h0' hy hbd] at hRc
 refine ⟨R, ?_, hR0, hR1, hRc⟩
 refine Ev.congr (fun k => rfl) (Ev.bind hae (Ev.bind hbe (Ev.congr (fun k => ?_) hRe)))
 rw [if_pos (by omega), if_pos (by omega), show M.toNat = m by omega, w64 (by omega) (by omega), hm]
end
section
variable {Q : Pr} {m : Nat} {F : Pol (Zp Q)} {P M : Int} {Mod : List Int}
def Res (P : Int) (m : Nat) (x : Int) : Prop := 0 ≤ x ∧ x < P ^ m
open Classical in
noncomputable def rmul (F : Pol (Zp Q)) (m : Nat) (x y : Int) : Int := if h : ∃ r, Res Q.p m r ∧ Cong F (pmul (dig Q x) (dig Q y)) (dig Q r) then h.choose else 0
theorem RC.rmul (h : RC Q m F P M Mod) {x y : Int} (hx : Res P m x) (hy : Res P m y) : Ev (fun k => field_multiply.f k P M Mod x y) (MyQBchRoots.rmul F m x y) ∧ Res P m (MyQBchRoots.rmul F m x y) ∧ Cong F (pmul (dig Q x) (dig Q y)) (dig Q (MyQBchRoots.rmul F m x y)) := by
 obtain ⟨r, he, h0, h1, hc⟩ := multiply_cong h hx.1 hx.2 hy.1 hy.2
 have hp := h.hp
 have hex : ∃ r, Res Q.p m r ∧ Cong F (pmul (dig Q x) (dig Q y)) (dig Q r) := ⟨r, by rw [hp]; exact ⟨h0, h1⟩, hc⟩
 have e : MyQBchRoots.rmul F m x y = r := by
  unfold MyQBchRoots.rmul
  rw [dif_pos hex]
  have hs := hex.choose_spec
  rw [← hp] at h1
  exact dig_inj m hs.1.1 hs.1.2 h0 h1 ((hs.2.symm.trans hc).unique h.mon (dig_deg m _ hs.1.1 hs.1.2) (dig_deg m _ h0 h1))
 rw [e]
 exact ⟨he, ⟨h0, h1⟩, hc⟩
theorem RC.eq (h : RC Q m F P M Mod) {x y : Int} (hx : Res P m x) (hy : Res P m y) (hc : Cong F (dig Q x) (dig Q y)) : x = y := by
 have hp := h.hp
 unfold Res at hx hy
 rw [← hp] at hx hy
 exact dig_inj m hx.1 hx.2 hy.1 hy.2 (hc.unique h.mon (dig_deg m _ hx.1 hx.2) (dig_deg m _ hy.1 hy.2))
theorem dig_one : dig Q 1 = C (1 : Zp Q) := by
 have h2 := Q.two
 funext t
 show of Q (1 / Q.p ^ t) = if t = 0 then 1 else 0
 by_cases e : t = 0
 ·subst e
  rw [if_pos rfl, Int.pow_zero, Int.ediv_one]
  rfl
 ·rw [if_neg e]
  have h1 : Q.p ^ 1 ≤ Q.p ^ t := pow_le Q (by omega)
  rw [Int.pow_succ, Int.pow_zero, Int.one_mul] at h1
  rw [Int.ediv_eq_zero_of_lt (by omega) (by omega)]
  rfl
theorem RC.res1 (h : RC Q m F P M Mod) : Res P m 1 := by
 have h2 := Q.two
 have h1 : Q.p ^ 1 ≤ Q.p ^ m := pow_le Q h.m1
 rw [Int.pow_succ, Int.pow_zero, Int.one_mul, h.hp] at h1
 have := h.hp
 exact ⟨by omega, by omega⟩
theorem RC.one_rmul (h : RC Q m F P M Mod) {x : Int} (hx : Res P m x) : MyQBchRoots.rmul F m 1 x = x := by
 obtain ⟨_, h1, h2⟩ := h.rmul h.res1 hx
 rw [dig_one, C_one_pmul] at h2
 exact (h.eq hx h1 h2).symm
noncomputable def rpow (F : Pol (Zp Q)) (m : Nat) (x : Int) : Nat → Int
 | 0 => 1
 | n + 1 => rmul F m (rpow F m x n) x
theorem RC.rpow (h : RC Q m F P M Mod) {x : Int} (hx : Res P m x) (n : Nat) : Res P m (MyQBchRoots.rpow F m x n) := by
 induction n with
 | zero => exact h.res1
 | succ n ih => exact (h.rmul ih hx).2.1
def PowersOf (F : Pol (Zp Q)) (m : Nat) (P x : Int) (L : List Int) : Prop := ∃ n : Nat, 1 ≤ n ∧ L = (List.range n).map (MyQBchRoots.rpow F m x) ∧ L.Nodup ∧ (∀ y ∈ L, 0 < y ∧ y < P ^ m) ∧ (MyQBchRoots.rpow F m x n = 0 ∨ MyQBchRoots.rpow F m x n ∈ L)
theorem nodup_snoc {l : List Int} {a : Int} (h : l.Nodup) (ha : a ∉ l) : (l ++ [a]).Nodup := by
 rw [List.nodup_append]
 exact ⟨h, by simp, fun x hx y hy => by rw [List.mem_singleton] at hy; subst hy; exact fun e => ha (e ▸ hx)⟩
theorem short {q : Int} {l : List Int} (h : l.Nodup) (hm : ∀ y ∈ l, 0 < y ∧ y < q) : (l.length : Int) < q ∨ l = [] := by
 cases l with
 | nil => exact .inr rfl
 | cons a t =>
  left
  have ha := hm a List.mem_cons_self
  have := nodup_le (l' := (List.range (q.toNat - 1)).map fun i : Nat => (i : Int) + 1) h (fun y hy => List.mem_map.2 ⟨(y - 1).toNat, List.mem_range.2 (by have := hm y hy; omega), by have := hm y hy; omega⟩)
  rw [List.length_map, List.length_range] at this
  omega
theorem powers_l0 (h : RC Q m F P M Mod) {x : Int} (hx : Res P m x) : ∀ (d n : Nat) (L : List Int) (seen : List Bool), (d : Int) + n = P ^ m → 1 ≤ n → L = (List.range n).map (MyQBchRoots.rpow F m x) → L.Nodup → (∀ y ∈ L, 0 < y ∧ y < P ^ m) →
  (seen.length : Int) = P ^ m → (∀ y : Int, 0 ≤ y → y < P ^ m → (rdOf false seen y = true ↔ y ∈ L)) →
  ∃ L', Ev (fun k => field_powers.l0 k x L seen (MyQBchRoots.rpow F m x n) P M Mod) L' ∧ PowersOf F m P x L' := by
 have hq := h.hq
 intro d
 induction d with
 | zero =>
  intro n L seen hd hn hL hnd hm hsl hs
  exfalso
  have := short hnd hm
  rw [hL, List.length_map, List.length_range] at this
  rcases this with h1 | h1
  ·omega
  ·have := congrArg List.length h1
   rw [List.length_map, List.length_range] at this
   simp at this
   omega
 | succ d ih =>
  intro n L seen hd hn hL hnd hm hsl hs
  have hr := h.rpow hx n
  by_cases e0 : MyQBchRoots.rpow F m x n = 0
  ·exact ⟨L, Ev.step (fun k => by rw [field_powers.l0, if_pos e0]) (Ev.now _), n, hn, hL, hnd, hm, .inl e0⟩
  ·by_cases e1 : rdOf false seen (MyQBchRoots.rpow F m x n) = true
   ·exact ⟨L, Ev.step (fun k => by rw [field_powers.l0, if_neg e0, if_pos hr.1, if_pos (by rw [hsl]; exact hr.2), if_pos e1]) (Ev.now _), n, hn, hL, hnd, hm, .inr ((hs _ hr.1 hr.2).1 e1)⟩
   ·have hni : MyQBchRoots.rpow F m x n ∉ L := fun hc => e1 ((hs _ hr.1 hr.2).2 hc)
    obtain ⟨he, _⟩ := h.rmul hr hx
    have hll : L.length = n := by rw [hL, List.length_map, List.length_range]
    obtain ⟨L', h1, h2⟩ := ih (n + 1) (L ++ [MyQBchRoots.rpow F m x n]) (seen.set (MyQBchRoots.rpow F m x n).toNat true) (by omega) (by omega) (by rw [List.range_succ, List.map_append, hL]; rfl) (nodup_snoc hnd hni)
     (fun y hy => by
       rcases List.mem_append.1 hy with h3 | h3
       ·exact hm y h3
       ·rw [List.mem_singleton] at h3; subst h3; exact ⟨by have := hr.1; omega, hr.2⟩)
     (by rw [List.length_set]; exact hsl)
     (fun y h0 hy => by
       by_cases e2 : MyQBchRoots.rpow F m x n = y
       ·rw [← e2, rdOf_set_self hr.1 (by rw [hsl]; exact hr.2)]
        simp
       ·rw [rdOf_set_ne hr.1 h0 e2, hs y h0 hy]
        rw [List.mem_append, List.mem_singleton]
        exact ⟨Or.inl, fun h => h.elim id (fun e => absurd e.symm e2)⟩)
    refine ⟨L', Ev.step (fun k => ?_) (Ev.bind (f := fun k t => field_powers.l0 k x (L ++ [MyQBchRoots.rpow F m x n]) (seen.set (MyQBchRoots.rpow F m x n).toNat true) t P M Mod) he h1), h2⟩
    rw [field_powers.l0, if_neg e0, if_pos hr.1, if_pos (by rw [hsl]; exact hr.2), if_neg e1, if_pos (by omega)]
theorem powers_eq (h : RC Q m F P M Mod) {x : Int} (hx : Res P m x) : ∃ L, Ev (fun k => field_powers.f k P M Mod (P ^ m) x) L ∧ PowersOf F m P x L := by
 have hq := h.hq
 have h1 := h.res1
 have hp1 : MyQBchRoots.rpow F m x 1 = x := h.one_rmul hx
 obtain ⟨L, h2, h3⟩ := powers_l0 h hx ((P ^ m).toNat - 1) 1 [1] ((List.replicate (P ^ m).toNat false).set (1 : Int).toNat true) (by have := h1.2; omega) (Nat.le_refl 1) rfl (by simp) (fun y hy => by rw [List.mem_singleton] at hy; subst hy; exact ⟨by omega, h1.2⟩)
  (by rw [List.length_set, List.length_replicate]; have := h1.2; omega)
  (fun y h0 hy => by
    by_cases e : (1 : Int) = y
    ·rw [← e, rdOf_set_self (by omega) (by rw [List.length_replicate]; have := h1.2; omega)]
     simp
    ·rw [rdOf_set_ne (by omega) h0 e]
     have : rdOf false (List.replicate (P ^ m).toNat false) y = false := by
      unfold rdOf
      rw [List.getD_eq_getElem?_getD, List.getElem?_replicate]
      split <;> rfl
     rw [this]
     simp
     exact fun e' => e e'.symm)
 rw [hp1] at h2
 refine ⟨L, Ev.congr (fun k => ?_) h2, h3⟩
 unfold field_powers.f
 have := h1.2
 rw [if_pos (by omega), if_pos (by omega)]
 simp only [Option.bind_some, List.length_replicate]
 rw [if_pos (by omega)]
end
section
variable {Q : Pr} {m : Nat} {F : Pol (Zp Q)} {P M : Int} {Mod : List Int}
def Good (F : Pol (Zp Q)) (m : Nat) (P x : Int) (L : List Int) : Prop := PowersOf F m P x L ∧ (L.length : Int) = P ^ m - 1 ∧ MyQBchRoots.rmul F m (rd L (P ^ m - 2)) x = 1
theorem range_inj {f : Nat → Int} {n i j : Nat} (h : ((List.range n).map f).Nodup) (hi : i < n) (hj : j < n) (e : f i = f j) : i = j := by
 have hp := List.pairwise_iff_getElem.1 (List.pairwise_map.1 h)
 rcases Nat.lt_trichotomy i j with h1 | h1 | h1
 ·have := hp i j (by rw [List.length_range]; exact hi) (by rw [List.length_range]; exact hj) h1
  rw [List.getElem_range, List.getElem_range] at this
  exact absurd e this
 ·exact h1
 ·have := hp j i (by rw [List.length_range]; exact hj) (by rw [List.length_range]; exact hi) h1
  rw [List.getElem_range, List.getElem_range] at this
  exact absurd e.symm this
theorem powersOf_le {x : Int} {L L' : List Int} (h : PowersOf F m P x L) (h' : PowersOf F m P x L') : L'.length ≤ L.length := by
 obtain ⟨n, hn, e, hnd, hm, hl⟩ := h
 obtain ⟨n', hn', e', hnd', hm', hl'⟩ := h'
 have h1 : L.length = n := by rw [e, List.length_map, List.length_range]
 have h2 : L'.length = n' := by rw [e', List.length_map, List.length_range]
 rw [h1, h2]
 apply Classical.byContradiction
 intro hc
 have hin : MyQBchRoots.rpow F m x n ∈ L' := by rw [e']; exact List.mem_map.2 ⟨n, List.mem_range.2 (by omega), rfl⟩
 rcases hl with h3 | h3
 ·have := (hm' _ hin).1
  omega
 ·rw [e] at h3
  obtain ⟨i, hi, he⟩ := List.mem_map.1 h3
  have hi' := List.mem_range.1 hi
  rw [e'] at hnd'
  have := range_inj hnd' (by omega) (by omega) he
  omega
theorem powersOf_unique {x : Int} {L L' : List Int} (h : PowersOf F m P x L) (h' : PowersOf F m P x L') : L = L' := by
 have h1 := powersOf_le h h'
 have h2 := powersOf_le h' h
 obtain ⟨n, hn, e, _⟩ := h
 obtain ⟨n', hn', e', _⟩ := h'
 rw [e, e', List.length_map, List.length_map, List.length_range, List.length_range] at h1 h2
 rw [e, e', show n = n' by omega]
theorem gen_l0 (h : RC Q m F P M Mod) : ∀ (d : Nat) (x : Int), x + d = P ^ m → 1 ≤ x →
  (∃ z L, 1 ≤ z ∧ z < P ^ m ∧ Good F m P z L ∧ Ev (fun k => field_generator.l0 k (P ^ m) x P M Mod) L) ∨
  ((∀ z L, x ≤ z → z < P ^ m → ¬ Good F m P z L) ∧ Ev (fun k => field_generator.l0 k (P ^ m) x P M Mod) []) := by
 have hq := h.hq
 have hq1 := h.res1.2
 intro d
 induction d with
 | zero =>
  intro x hx hx1
  exact .inr ⟨fun z L h1 h2 => by omega, Ev.step (fun k => by rw [field_generator.l0, if_neg (by omega)]) (Ev.now _)⟩
 | succ d ih =>
  intro x hx hx1
  have hxr : Res P m x := ⟨by omega, by omega⟩
  obtain ⟨L, hL, hP⟩ := powers_eq h hxr
  have huniq : ∀ L', PowersOf F m P x L' → (L'.length : Int) = P ^ m - 1 → (L.length : Int) = P ^ m - 1 → L' = L := by
   rintro L' ⟨n', _, e', _⟩ h1 h2
   obtain ⟨n, _, e, _⟩ := hP
   rw [e'] at h1 ⊢
   rw [e] at h2 ⊢
   rw [List.length_map, List.length_range] at h1 h2
   rw [show n' = n by omega]
  have hnext : ∀ (hno : ∀ L', ¬ Good F m P x L') (hev : ∀ r, Ev (fun k => field_generator.l0 k (P ^ m) (x + 1) P M Mod) r → Ev (fun k => field_generator.l0 k (P ^ m) x P M Mod) r),
    (∃ z L, 1 ≤ z ∧ z < P ^ m ∧ Good F m P z L ∧ Ev (fun k => field_generator.l0 k (P ^ m) x P M Mod) L) ∨
    ((∀ z L, x ≤ z → z < P ^ m → ¬ Good F m P z L) ∧ Ev (fun k => field_generator.l0 k (P ^ m) x P M Mod) []) := by
   intro hno hev
   rcases ih (x + 1) (by omega) (by omega) with ⟨z, L', h1, h2, h3, h4⟩ | ⟨h1, h2⟩
   ·exact .inl ⟨z, L', h1, h2, h3, hev _ h4⟩
   ·refine .inr ⟨fun z L' h3 h4 => ?_, hev _ h2⟩
    by_cases e : z = x
    ·subst e; exact hno L'
    ·exact h1 z L' (by omega) h4
  by_cases hlen : (L.length : Int) = P ^ m - 1
  ·have hmem : Res P m (rd L (P ^ m - 2)) := by
    obtain ⟨n, hn1, e, _, hm, _⟩ := hP
    have := hm _ (rd_mem (xs := L) (i := P ^ m - 2) (by rw [e, List.length_map, List.length_range] at hlen; omega) (by omega))
    exact ⟨by omega, this.2⟩
   have hL0 : 0 ≤ P ^ m - 2 := by
    obtain ⟨n, hn1, e, _⟩ := hP
    rw [e, List.length_map, List.length_range] at hlen
    omega
   obtain ⟨hmu, hmr, _⟩ := h.rmul hmem hxr
   by_cases h1 : MyQBchRoots.rmul F m (rd L (P ^ m - 2)) x = 1
   ·refine .inl ⟨x, L, hx1, hxr.2, ⟨hP, hlen, h1⟩, Ev.step (f := fun k => (field_powers.f k P M Mod (P ^ m) x).bind fun t155 => (if (t155.length : Int) = (wrap64 (P ^ m - 1)) then (if 0 ≤ (wrap64 (P ^ m - 2)) then (if (wrap64 (P ^ m - 2)) < (t155.length : Int) then ((field_multiply.f k P M Mod (rd t155 (wrap64 (P ^ m - 2))) x).bind fun t159 => (if t159 = 1 then (some t155) else (field_generator.l0 k (P ^ m) (wrap64 (x + 1)) P M Mod))) else (none)) else (none)) else (field_generator.l0 k (P ^ m) (wrap64 (x + 1)) P M Mod))) (fun k => by rw [field_generator.l0, if_pos (by omega)]) (Ev.bind hL ?_)⟩
    refine Ev.congr (f := fun k => (field_multiply.f k P M Mod (rd L (P ^ m - 2)) x).bind fun t159 => (if t159 = 1 then (some L) else (field_generator.l0 k (P ^ m) (wrap64 (x + 1)) P M Mod))) (fun k => ?_) (Ev.bind hmu (Ev.congr (fun k => if_pos h1) (Ev.now L)))
    rw [w64 (x := P ^ m - 1) (by omega) (by omega), if_pos hlen, w64 (x := P ^ m - 2) (by omega) (by omega), if_pos hL0, if_pos (by omega)]
   ·refine hnext (fun L' hg => h1 ?_) (fun r hr => ?_)
    ·rw [← huniq L' hg.1 hg.2.1 hlen]; exact hg.2.2
    ·refine Ev.step (f := fun k => (field_powers.f k P M Mod (P ^ m) x).bind fun t155 => (if (t155.length : Int) = (wrap64 (P ^ m - 1)) then (if 0 ≤ (wrap64 (P ^ m - 2)) then (if (wrap64 (P ^ m - 2)) < (t155.length : Int) then ((field_multiply.f k P M Mod (rd t155 (wrap64 (P ^ m - 2))) x).bind fun t159 => (if t159 = 1 then (some t155) else (field_generator.l0 k (P ^ m) (wrap64 (x + 1)) P M Mod))) else (none)) else (none)) else (field_generator.l0 k (P ^ m) (wrap64 (x + 1)) P M Mod))) (fun k => by rw [field_generator.l0, if_pos (by omega)]) (Ev.bind hL ?_)
     refine Ev.congr (f := fun k => (field_multiply.f k P M Mod (rd L (P ^ m - 2)) x).bind fun t159 => (if t159 = 1 then (some L) else (field_generator.l0 k (P ^ m) (wrap64 (x + 1)) P M Mod))) (fun k => ?_) (Ev.bind hmu ?_)
     ·rw [w64 (x := P ^ m - 1) (by omega) (by omega), if_pos hlen, w64 (x := P ^ m - 2) (by omega) (by omega), if_pos hL0, if_pos (by omega)]
     ·refine Ev.congr (fun k => ?_) hr
      rw [if_neg h1, w64 (by omega) (by omega)]
  ·refine hnext (fun L' hg => ?_) (fun r hr => ?_)
   ·have := powersOf_unique hP hg.1
    rw [this] at hlen
    exact hlen hg.2.1
   ·refine Ev.step (f := fun k => (field_powers.f k P M Mod (P ^ m) x).bind fun t155 => (if (t155.length : Int) = (wrap64 (P ^ m - 1)) then (if 0 ≤ (wrap64 (P ^ m - 2)) then (if (wrap64 (P ^ m - 2)) < (t155.length : Int) then ((field_multiply.f k P M Mod (rd t155 (wrap64 (P ^ m - 2))) x).bind fun t159 => (if t159 = 1 then (some t155) else (field_generator.l0 k (P ^ m) (wrap64 (x + 1)) P M Mod))) else (none)) else (none)) else (field_generator.l0 k (P ^ m) (wrap64 (x + 1)) P M Mod))) (fun k => by rw [field_generator.l0, if_pos (by omega)]) (Ev.bind hL ?_)
    refine Ev.congr (fun k => ?_) hr
    rw [w64 (x := P ^ m - 1) (by omega) (by omega), if_neg hlen, w64 (by omega) (by omega)]
theorem rpow_add (h : RC Q m F P M Mod) {x : Int} (hx : Res P m x) (i j : Nat) : Cong F (pmul (dig Q (MyQBchRoots.rpow F m x i)) (dig Q (MyQBchRoots.rpow F m x j))) (dig Q (MyQBchRoots.rpow F m x (i + j))) := by
 have hp := h.hp
 have hdeg : ∀ y, Res P m y → DegLt (dig Q y) m := fun y hy => dig_deg m y hy.1 (by rw [hp]; exact hy.2)
 induction j with
 | zero =>
  show Cong F (pmul _ (dig Q 1)) _
  rw [dig_one, pmul_comm, C_one_pmul]
  exact Cong.refl F _
 | succ j ih =>
  have h1 := (h.rmul (h.rpow hx j) hx).2.2
  have h2 := (h.rmul (h.rpow hx (i + j)) hx).2.2
  have h3 : Cong F (pmul (dig Q (MyQBchRoots.rpow F m x i)) (dig Q (MyQBchRoots.rpow F m x (j + 1)))) (pmul (dig Q (MyQBchRoots.rpow F m x i)) (pmul (dig Q (MyQBchRoots.rpow F m x j)) (dig Q x))) := by
   have := (h1.symm).mul (hdeg _ (h.rpow hx i))
   rw [pmul_comm, pmul_comm (dig Q (MyQBchRoots.rpow F m x i)) (pmul _ _)]
   exact this
  refine h3.trans ?_
  rw [← pmul_assoc]
  exact (ih.mul (hdeg _ hx)).trans h2
theorem Good.irr (h : RC Q m F P M Mod) {x : Int} {L : List Int} (hx : Res P m x) (hg : Good F m P x L) : ∀ (k : Nat) (g g' : Pol (Zp Q)), 1 ≤ k → k < m → Monic g k → Monic g' (m - k) → pmul g g' ≠ F := by
 intro k g g' hk hkm hgm hgm' he
 have hp := h.hp
 have hq1 := h.res1.2
 obtain ⟨⟨n, hn, e, hnd, hmem, _⟩, hlen, hone⟩ := hg
 have hln : L.length = n := by rw [e, List.length_map, List.length_range]
 have hgd : DegLt g m := hgm.2.mono (by omega)
 have hG := pval_range m g
 have hGd := dig_pval m g hgd
 rw [hp] at hG
 have hG0 : pval m g ≠ 0 := by
  intro e0
  rw [e0] at hGd
  have h1 := congrFun hGd k
  rw [hgm.1] at h1
  have h2 : dig Q 0 k = 0 := by
   show of Q (0 / Q.p ^ k) = 0
   rw [Int.zero_ediv]; rfl
  rw [h2] at h1
  exact one_ne h1.symm
 have hall := nodup_full (l := L) (l' := (List.range (P ^ m - 1).toNat).map fun i : Nat => (i : Int) + 1) hnd (fun y hy => List.mem_map.2 ⟨(y - 1).toNat, List.mem_range.2 (by have := hmem y hy; omega), by have := hmem y hy; omega⟩)
  (by rw [List.length_map, List.length_range]; omega) (nodup_map List.nodup_range (fun a _ b _ e => by omega))
 have hGL := hall (pval m g) (List.mem_map.2 ⟨(pval m g - 1).toNat, List.mem_range.2 (by omega), by omega⟩)
 rw [e] at hGL
 obtain ⟨i, hi, hGi⟩ := List.mem_map.1 hGL
 have hi' := List.mem_range.1 hi
 have hlast : MyQBchRoots.rpow F m x (n - 1 + 1) = 1 := by
  have e2 : rd L (P ^ m - 2) = MyQBchRoots.rpow F m x (n - 1) := by
   have hr : rd ((List.range n).map (MyQBchRoots.rpow F m x)) (P ^ m - 2) = MyQBchRoots.rpow F m x (P ^ m - 2).toNat := rd_map_range (by omega) (by omega)
   rw [e, hr, show (P ^ m - 2).toNat = n - 1 by omega]
  rw [e2] at hone
  exact hone
 have hc := rpow_add h hx i (n - i)
 rw [show i + (n - i) = n - 1 + 1 by omega, hlast, dig_one, hGi, hGd] at hc
 have hd' : DegLt g' m := hgm'.2.mono (by omega)
 have hc2 := hc.mul hd'
 rw [C_one_pmul, pmul_assoc, pmul_comm (dig Q _) g', ← pmul_assoc, he, pmul_comm F] at hc2
 have hdY : DegLt (dig Q (MyQBchRoots.rpow F m x (n - i))) m := dig_deg m _ (h.rpow hx _).1 (by rw [hp]; exact (h.rpow hx _).2)
 have hz : Cong F (pmul (dig Q (MyQBchRoots.rpow F m x (n - i))) F) pzero := cong_zero.2 ⟨_, _, hdY, rfl⟩
 have := (hc2.symm.trans hz).unique h.mon hd' (DegLt.pzero m)
 have h3 := congrFun this (m - k)
 rw [hgm'.1] at h3
 exact one_ne h3
end
theorem porder_l0 {P M : Int} (hP : 2 ≤ P) (hP2 : P ≤ 256) (hM : 1 ≤ M) (hM8 : M ≤ 8) : ∀ (d : Nat) (i : Nat), i + d = M.toNat → P ^ i ≤ 256 →
  ∃ q, Ev (fun k => field_order.l0 k P (P ^ i) M i) q ∧ ((q = 0 ∧ ¬ InR P M) ∨ (q = P ^ M.toNat ∧ InR P M)) := by
 intro d
 induction d with
 | zero =>
  intro i hi h
  refine ⟨P ^ i, ev_succ (ev_now fun k => by rw [field_order.l0, if_neg (by omega)]), .inr ⟨by rw [show i = M.toNat by omega], hP, hM, hM8, by rw [show M.toNat = i by omega]; exact h⟩⟩
 | succ d ih =>
  intro i hi h
  have h1 : 0 < P ^ i := Int.pow_pos (by omega)
  have h6 := mul_bd8 (a := P ^ i) (b := P) (by omega) h (by omega) hP2
  by_cases e : P ^ i * P > 256
  ·refine ⟨0, ev_succ (ev_now fun k => ?_), .inl ⟨rfl, fun hR => ?_⟩⟩
   ·rw [field_order.l0, if_pos (by omega), w64 (x := P ^ i * P) (by omega) (by omega), if_pos e]
   ·have e9 : P ^ (i + 1) = P ^ i * P := Int.pow_succ P i
    have := pow_mono (show 1 ≤ P by omega) (show i + 1 ≤ M.toNat by omega)
    have := hR.2.2.2
    omega
  ·obtain ⟨q, hq, hor⟩ := ih (i + 1) (by omega) (by rw [Int.pow_succ]; omega)
   refine ⟨q, Ev.step (fun k => ?_) hq, hor⟩
   rw [field_order.l0, if_pos (by omega), w64 (x := P ^ i * P) (by omega) (by omega), if_neg e, w64 (by omega) (by omega), Int.pow_succ]
   rfl
theorem porder (P M : Int) : ∃ q, Ev (fun k => field_order.f k P M) q ∧ ((q = 0 ∧ ¬ InR P M) ∨ (q = P ^ M.toNat ∧ InR P M)) := by
 have z : Ev (fun k => field_order.j0 k P M true) 0 := ev_succ (ev_now fun k => by rw [field_order.j0, if_pos rfl])
 by_cases e1 : P < 2
 ·exact ⟨0, Ev.congr (fun k => by unfold field_order.f; rw [if_pos e1]) z, .inl ⟨rfl, fun h => by have := h.1; omega⟩⟩
 ·by_cases e4 : P > 256
  ·refine ⟨0, Ev.congr (fun k => by unfold field_order.f; rw [if_neg e1, if_pos e4]) z, .inl ⟨rfl, fun h => ?_⟩⟩
   have h1 := pow_mono (show 1 ≤ P by omega) (show 1 ≤ M.toNat by have := h.2.1; omega)
   rw [Int.pow_succ, Int.pow_zero, Int.one_mul] at h1
   have := h.2.2.2
   omega
  ·by_cases e2 : M < 1
   ·exact ⟨0, Ev.congr (fun k => by unfold field_order.f; rw [if_neg e1, if_neg e4, if_pos e2]) z, .inl ⟨rfl, fun h => by have := h.2.1; omega⟩⟩
   ·by_cases e3 : M > 8
    ·exact ⟨0, Ev.congr (fun k => by unfold field_order.f; rw [if_neg e1, if_neg e4, if_neg e2, decide_eq_true e3]) z, .inl ⟨rfl, fun h => by have := h.2.2.1; omega⟩⟩
    ·obtain ⟨q, hq, hor⟩ := porder_l0 (P := P) (M := M) (by omega) (by omega) (by omega) (by omega) M.toNat 0 (by omega) (by rw [Int.pow_zero]; omega)
     rw [Int.pow_zero] at hq
     refine ⟨q, Ev.congr (fun k => by unfold field_order.f; rw [if_neg e1, if_neg e4, if_neg e2, decide_eq_false e3]) ?_, hor⟩
     exact Ev.step (fun k => by rw [field_order.j0, if_neg (by simp)]; rfl) hq
theorem pprime_l0 {n : Int} (hn : 2 ≤ n) (hn' : n ≤ 256) : ∀ (e : Nat) (d : Int), 2 ≤ d → d + e = 257 → (∀ c, 2 ≤ c → c < d → ¬ c ∣ n) →
  ∃ b, Ev (fun k => field_isPrime.l0 k n d) b ∧ (b = true ↔ ∀ c : Int, 2 ≤ c → c < n → ¬ c ∣ n) := by
 have hfin : ∀ d : Int, 2 ≤ d → d ≤ 257 → n < d * d → (∀ c, 2 ≤ c → c < d → ¬ c ∣ n) → ∀ c : Int, 2 ≤ c → c < n → ¬ c ∣ n := by
  intro d hd hd' hlt h c h1 h2 hdv
  obtain ⟨e, he⟩ := hdv
  have hc : d ≤ c := by
   apply Classical.byContradiction
   intro hc
   exact h c h1 (by omega) ⟨e, he⟩
  have he1 : 2 ≤ e := by
   apply Classical.byContradiction
   intro hc2
   have : e ≤ 1 := by omega
   have := Int.mul_le_mul_of_nonneg_left this (show 0 ≤ c by omega)
   omega
  have hed : d ≤ e := by
   apply Classical.byContradiction
   intro hc2
   exact h e he1 (by omega) ⟨c, by rw [Int.mul_comm]; exact he⟩
  have h3 := Int.mul_le_mul hc hed (by omega) (by omega)
  omega
 intro e
 induction e with
 | zero =>
  intro d hd he h
  have e2 : d = 257 := by omega
  subst e2
  refine ⟨true, ev_succ (ev_now fun k => ?_), ⟨fun _ => hfin 257 (by omega) (by omega) (by omega) h, fun _ => rfl⟩⟩
  rw [field_isPrime.l0, w64 (by omega) (by omega), if_neg (by omega), decide_eq_true (show n ≥ 2 by omega)]
 | succ e ih =>
  intro d hd he h
  have hdd := Int.mul_le_mul (show d ≤ 257 by omega) (show d ≤ 257 by omega) (by omega) (by omega)
  have hdd0 : 0 ≤ d * d := Int.mul_nonneg (by omega) (by omega)
  by_cases e1 : d * d ≤ n
  ·have hdn : d < n := by
    have := Int.mul_le_mul_of_nonneg_left (show 2 ≤ d by omega) (show 0 ≤ d by omega)
    omega
   by_cases e0 : n % d = 0
   ·exact ⟨false, ev_succ (ev_now fun k => by rw [field_isPrime.l0, w64 (x := d * d) (by omega) (by omega), if_pos e1, if_neg (by omega), tmod_nn (by omega), if_pos e0]), ⟨fun h => absurd h (by simp), fun h => absurd (Int.dvd_of_emod_eq_zero e0) (h d hd hdn)⟩⟩
   ·obtain ⟨b, hb, hq⟩ := ih (d + 1) (by omega) (by omega) (fun c h1 h2 => by
     by_cases e' : c = d
     ·subst e'; exact fun hdv => e0 (Int.emod_eq_zero_of_dvd hdv)
     ·exact h c h1 (by omega))
    exact ⟨b, Ev.step (fun k => by rw [field_isPrime.l0, w64 (x := d * d) (by omega) (by omega), if_pos e1, if_neg (by omega), tmod_nn (by omega), if_neg e0, w64 (by omega) (by omega)]) hb, hq⟩
  ·refine ⟨true, ev_succ (ev_now fun k => ?_), ⟨fun _ => hfin d hd (by omega) (by omega) h, fun _ => rfl⟩⟩
   rw [field_isPrime.l0, w64 (x := d * d) (by omega) (by omega), if_neg e1, decide_eq_true (show n ≥ 2 by omega)]
theorem pprime {n : Int} (hn : 2 ≤ n) (hn' : n ≤ 256) : ∃ b, Ev (fun k => field_isPrime.f k n) b ∧ (b = true ↔ ∀ c : Int, 2 ≤ c → c < n → ¬ c ∣ n) :=
 pprime_l0 hn hn' 255 2 (by omega) (by omega) (fun c h1 h2 => by omega)
theorem pshape_l0 {P M : Int} {Mod : List Int} (hl : Mod.length ≤ 1000) : ∀ (e : Nat) (i : Int), 0 ≤ i → i + e = Mod.length → (∀ t, 0 ≤ t → t < i → 0 ≤ rd Mod t ∧ rd Mod t < P) →
  ∃ b, Ev (fun k => field_shape.l0 k Mod (Mod.length : Int) i P M Mod) b ∧ (b = true ↔ DLn P Mod) := by
 intro e
 induction e with
 | zero =>
  intro i h0 hi h
  exact ⟨true, ev_succ (ev_now fun k => by rw [field_shape.l0, if_neg (by omega)]), ⟨fun _ t h1 h2 => h t h1 (by omega), fun _ => rfl⟩⟩
 | succ e ih =>
  intro i h0 hi h
  by_cases e1 : rd Mod i < 0
  ·exact ⟨false, ev_succ (ev_now fun k => by rw [field_shape.l0, if_pos (by omega), if_pos (by omega), if_pos (by omega), if_pos e1]), ⟨fun h => absurd h (by simp), fun h => by have := h i h0 (by omega); omega⟩⟩
  ·by_cases e2 : rd Mod i ≥ P
   ·exact ⟨false, ev_succ (ev_now fun k => by rw [field_shape.l0, if_pos (by omega), if_pos (by omega), if_pos (by omega), if_neg e1, if_pos e2]), ⟨fun h => absurd h (by simp), fun h => by have := h i h0 (by omega); omega⟩⟩
   ·obtain ⟨b, hb, hq⟩ := ih (i + 1) (by omega) (by omega) (fun t h1 h2 => by
     by_cases e' : t = i
     ·subst e'; omega
     ·exact h t h1 (by omega))
    exact ⟨b, Ev.step (fun k => by rw [field_shape.l0, if_pos (by omega), if_pos (by omega), if_pos (by omega), if_neg e1, if_neg e2, w64 (by omega) (by omega)]) hb, hq⟩
theorem pshape (P M : Int) (Mod : List Int) : ∃ b, Ev (fun k => field_shape.f k P M Mod) b ∧ (b = true ↔ Shp P M Mod) := by
 have z : Ev (fun k => field_shape.j0 k true P M Mod) false := ev_succ (ev_now fun k => by rw [field_shape.j0, if_pos rfl])
 obtain ⟨q, hq, hor⟩ := porder P M
 rcases hor with ⟨rfl, hR⟩ | ⟨hqe, hR⟩
 ·refine ⟨false, Ev.bind hq (Ev.congr (fun k => if_pos rfl) z), ⟨fun h => absurd h (by simp), fun h => absurd h.1 hR⟩⟩
 ·have hP1 := pow_mono (show 1 ≤ P by have := hR.1; omega) (show 1 ≤ M.toNat by have := hR.2.1; omega)
  rw [Int.pow_succ, Int.pow_zero, Int.one_mul] at hP1
  have h256 := hR.2.2.2
  have hP2 := hR.1
  have hM1 := hR.2.1
  have hM8 := hR.2.2.1
  have hq0 : q ≠ 0 := by omega
  obtain ⟨b, hb, hbq⟩ := pprime (n := P) hR.1 (by omega)
  by_cases eb : b = true
  ·subst eb
   have hprime := hbq.1 rfl
   by_cases e1 : M = 1
   ·refine ⟨((Mod.length : Int) == 0), Ev.bind hq (Ev.congr (fun k => if_neg hq0) (Ev.bind hb (Ev.step (fun k => by rw [field_shape.j0, if_neg (by simp), if_pos e1]) (Ev.now _)))), ?_⟩
    constructor
    ·intro h
     have : Mod = [] := List.eq_nil_of_length_eq_zero (by have := eq_of_beq h; omega)
     exact ⟨hR, hprime, fun _ => this, fun h1 => by omega⟩
    ·intro h
     rw [h.2.2.1 e1]
     rfl
   ·by_cases e2 : (Mod.length : Int) = M
    ·obtain ⟨b2, hb2, hq2⟩ := pshape_l0 (P := P) (M := M) (Mod := Mod) (by omega) Mod.length 0 (by omega) (by omega) (fun t h1 h2 => by omega)
     refine ⟨b2, Ev.bind hq (Ev.congr (fun k => if_neg hq0) (Ev.bind hb (Ev.step (fun k => by rw [field_shape.j0, if_neg (by simp), if_neg e1, if_pos e2]) hb2))), ?_⟩
     rw [hq2]
     exact ⟨fun h => ⟨hR, hprime, fun h1 => absurd h1 e1, fun _ => ⟨e2, h⟩⟩, fun h => (h.2.2.2 (by omega)).2⟩
    ·refine ⟨false, Ev.bind hq (Ev.congr (fun k => if_neg hq0) (Ev.bind hb (Ev.step (fun k => by rw [field_shape.j0, if_neg (by simp), if_neg e1, if_neg e2]) (Ev.now _)))), ⟨fun h => absurd h (by simp), fun h => absurd (h.2.2.2 (by omega)).1 e2⟩⟩
  ·rw [Bool.not_eq_true] at eb
   subst eb
   refine ⟨false, Ev.bind hq (Ev.congr (fun k => if_neg hq0) (Ev.bind hb z)), ⟨fun h => absurd h (by simp), fun h => absurd (hbq.2 h.2.1) (by simp)⟩⟩
section
variable {P M : Int} {Mod : List Int}
theorem RC.of_shp {Q : Pr} (hQ : Q.p = P) (h : Shp P M Mod) : RC Q M.toNat (Alg.mon Q M.toNat (lowOf M Mod)) P M Mod := by
 obtain ⟨⟨h1, h2, h3, h4⟩, h5, h6, h7⟩ := h
 have hP1 := pow_mono (show 1 ≤ P by omega) (show 1 ≤ M.toNat by omega)
 rw [Int.pow_succ, Int.pow_zero, Int.one_mul] at hP1
 refine ⟨hQ, by omega, by omega, h3, by omega, h4, mon_monic Q _ _, fun e => ?_, fun e => (h7 e).1, fun e i hi => ?_⟩
 ·unfold Alg.mon lowOf
  rw [if_pos (by omega), if_pos e]
  rfl
 ·unfold Alg.mon lowOf
  rw [if_pos hi, if_neg (by omega), of_val, hQ]
  have := (h7 e).2 i (by omega) (by have := (h7 e).1; omega)
  rw [Int.emod_eq_of_lt this.1 this.2]
theorem gen_none (h : Shp P M Mod) (hno : ¬ ∃ D, Desc D P M Mod) : Ev (fun k => field_generator.f k P M Mod (P ^ M.toNat)) [] := by
 let Q : Pr := ⟨P, h.1.1, h.2.1⟩
 have hrc : RC Q M.toNat (Alg.mon Q M.toNat (lowOf M Mod)) P M Mod := RC.of_shp (Q := Q) rfl h
 have h1 := hrc.res1.2
 rcases gen_l0 hrc ((P ^ M.toNat).toNat - 1) 1 (by omega) (by omega) with ⟨z, L, hz1, hz2, hg, _⟩ | ⟨_, he⟩
 ·exfalso
  have hir := hg.irr hrc ⟨by omega, hz2⟩
  apply hno
  refine ⟨{ Q with m := M.toNat, hm := hrc.m1, F := mon Q M.toNat (lowOf M Mod), monic := hrc.mon, irr := hir }, ?_⟩
  exact ⟨rfl, hrc.hm, hrc.hm8, hrc.hq, h.2.2.1, hrc.len, hrc.low⟩
 ·exact he
variable {D : FD}
def FofD (D : FD) (M : Int) : Pol (Zp D.toPr) := if M = 1 then monom 1 1 else D.F
theorem RC.of_desc (h : Desc D P M Mod) : RC D.toPr D.m (FofD D M) P M Mod := by
 have hm := h.hm
 have hq := h.hq
 have e : D.q = D.p ^ D.m := rfl
 refine ⟨h.hp, hm, D.hm, h.hm8, h.p256, by rw [← h.hp, ← e]; exact hq, ?_, fun e1 => ?_, h.len, fun e1 i hi => ?_⟩
 ·unfold FofD
  by_cases e1 : M = 1
  ·rw [if_pos e1, show D.m = 1 by omega]
   exact ⟨if_pos rfl, monom_deg 1 1⟩
  ·rw [if_neg e1]
   exact D.monic
 ·unfold FofD
  rw [if_pos e1]
  rfl
 ·unfold FofD
  rw [if_neg (by omega)]
  exact h.low e1 i hi
theorem res_inn (h : Desc D P M Mod) {x : Int} (hx : Res P D.m x) : (inn D x).1 = x := inn_of hx.1 (by rw [show D.q = D.p ^ D.m from rfl, h.hp]; exact hx.2)
theorem inn_res (h : Desc D P M Mod) (a : GF D) : Res P D.m a.1 := ⟨a.2.1, by rw [← h.hp]; exact a.2.2⟩
theorem rmul_FD (h : Desc D P M Mod) (a b : GF D) : rmul (FofD D M) D.m a.1 b.1 = (a * b).1 := by
 have hrc := RC.of_desc h
 have hm := h.hm
 obtain ⟨_, h1, h2⟩ := hrc.rmul (inn_res h a) (inn_res h b)
 refine hrc.eq h1 (inn_res h _) (h2.symm.trans ?_)
 have h3 := dg_mul a b
 unfold FofD
 by_cases e1 : M = 1
 ·rw [if_pos e1]
  have hd : D.m = 1 := by omega
  have hda : DegLt a.dg 1 := by have := a.deg; rwa [hd] at this
  have hdb : DegLt b.dg 1 := by have := b.deg; rwa [hd] at this
  have := h3.unique D.monic (by rw [hd]; exact DegLt.pmul (m := 0) hda hdb) (a * b).deg
  show Cong _ (pmul a.dg b.dg) (a * b).dg
  rw [this]
  exact Cong.refl _ _
 ·rw [if_neg e1]
  exact h3
theorem rpow_FD (h : Desc D P M Mod) (a : GF D) (n : Nat) : rpow (FofD D M) D.m a.1 n = (Alg.pow a n).1 := by
 induction n with
 | zero => rfl
 | succ n ih =>
  show rmul _ _ (rpow _ _ _ n) a.1 = _
  rw [ih, rmul_FD h, Alg.pow_succ, Alg.mul_comm]
theorem gen_FD (h : Desc D P M Mod) : ∃ g : GF D, IsOrd g (D.q - 1).toNat ∧ Ev (fun k => field_generator.f k P M Mod (P ^ M.toNat)) ((List.range (D.q - 1).toNat).map fun i => (Alg.pow g i).1) := by
 have hrc := RC.of_desc h
 have hm := h.hm
 have hq1 := hrc.res1.2
 have hqq : D.q = P ^ D.m := by rw [← h.hp]; rfl
 have hmm : D.m = M.toNat := by omega
 have hN : ((D.q - 1).toNat : Int) = P ^ D.m - 1 := by omega
 rw [show M.toNat = D.m by omega]
 rcases gen_l0 hrc ((P ^ D.m).toNat - 1) 1 (by omega) (by omega) with ⟨z, L, hz1, hz2, hg, he⟩ | ⟨hnone, _⟩
 ·have hzr : Res P D.m z := ⟨by omega, hz2⟩
  have hz : (inn D z).1 = z := res_inn h hzr
  obtain ⟨⟨n, hn, e, hnd, hmem, _⟩, hlen, hone⟩ := hg
  have hln : L.length = n := by rw [e, List.length_map, List.length_range]
  have hnN : n = (D.q - 1).toNat := by omega
  have hpow : ∀ i, rpow (FofD D M) D.m z i = (Alg.pow (inn D z) i).1 := fun i => by rw [← rpow_FD h, hz]
  have hlast : rpow (FofD D M) D.m z (n - 1 + 1) = 1 := by
   have e2 : rd L (P ^ D.m - 2) = rpow (FofD D M) D.m z (n - 1) := by
    have hr : rd ((List.range n).map (rpow (FofD D M) D.m z)) (P ^ D.m - 2) = rpow (FofD D M) D.m z (P ^ D.m - 2).toNat := rd_map_range (by omega) (by omega)
    rw [e, hr, show (P ^ D.m - 2).toNat = n - 1 by omega]
   rw [e2] at hone
   exact hone
  refine ⟨inn D z, ⟨by omega, ?_, fun j hj hj' hc => ?_⟩, ?_⟩
  ·rw [← hnN, show n = n - 1 + 1 by omega, ← GF.val_one, ← hpow]
   exact hlast
  ·have h1 := hpow j
   rw [hc] at h1
   have h2 : rpow (FofD D M) D.m z j = rpow (FofD D M) D.m z 0 := h1
   rw [e] at hnd
   have := range_inj hnd (by omega) (by omega) h2
   omega
  ·rw [e] at he
   rw [← hnN]
   have e3 : (List.range n).map (rpow (FofD D M) D.m z) = (List.range n).map fun i => (Alg.pow (inn D z) i).1 := List.map_congr_left fun i _ => hpow i
   rw [← e3]
   exact he
 ·exfalso
  obtain ⟨g, hg⟩ := (elems_full D).primitive
  have hel := elems_length D
  have hg' : IsOrd g (D.q - 1).toNat := by rw [show (D.q - 1).toNat = (elems D).length - 1 by omega]; exact hg
  have hg0 : g ≠ 0 := ord_ne_zero hg
  have hg1 : 1 ≤ g.1 := by
   have h1 := g.2.1
   have h2 : g.1 ≠ 0 := fun e => hg0 (GF.val_zero.1 e)
   omega
  have hgr := inn_res h g
  obtain ⟨L, _, hP⟩ := powers_eq hrc hgr
  refine hnone g.1 L hg1 hgr.2 ?_
  obtain ⟨n, hn, e, hnd, hmem, hl⟩ := id hP
  have hpow := rpow_FD h g
  have hln : L.length = n := by rw [e, List.length_map, List.length_range]
  have hle : n ≤ (D.q - 1).toNat := by
   apply Classical.byContradiction
   intro hc
   rw [e] at hnd
   have h2 : rpow (FofD D M) D.m g.1 (D.q - 1).toNat = rpow (FofD D M) D.m g.1 0 := by
    rw [hpow, hpow, hg'.2.1]; rfl
   have := range_inj hnd (by omega) (by omega) h2
   omega
  have hge : (D.q - 1).toNat ≤ n := by
   rcases hl with h3 | h3
   ·rw [hpow] at h3
    exact absurd (GF.val_zero.1 h3) (Alg.pow_ne_zero hg0 n)
   ·rw [e] at h3
    obtain ⟨i, hi, hie⟩ := List.mem_map.1 h3
    have hi' := List.mem_range.1 hi
    rw [hpow, hpow] at hie
    have h4 : Alg.pow g i = Alg.pow g n := GF.val_eq.1 hie
    have h5 : Alg.pow g (n - i) = 1 := by
     rw [show n = i + (n - i) by omega, Alg.pow_add] at h4
     have := Alg.mul_left_cancel (Alg.pow_ne_zero hg0 i) (show Alg.pow g i * Alg.pow g (n - i) = Alg.pow g i * 1 by rw [← h4, Alg.mul_one])
     exact this
    have := Nat.le_of_dvd (by omega) (hg'.dvd.1 h5)
    omega
  have hnN : n = (D.q - 1).toNat := by omega
  refine ⟨hP, by omega, ?_⟩
  have e2 : rd L (P ^ D.m - 2) = rpow (FofD D M) D.m g.1 (n - 1) := by
   have hr : rd ((List.range n).map (rpow (FofD D M) D.m g.1)) (P ^ D.m - 2) = rpow (FofD D M) D.m g.1 (P ^ D.m - 2).toNat := rd_map_range (by omega) (by omega)
   rw [e, hr, show (P ^ D.m - 2).toNat = n - 1 by omega]
  rw [e2]
  show rpow (FofD D M) D.m g.1 (n - 1 + 1) = 1
  rw [hpow, show n - 1 + 1 = (D.q - 1).toNat by omega, hg'.2.1]
  rfl
end
theorem ev_all {α : Type} {g : Nat → Nat → Option α} {r : Nat → α} : ∀ n : Nat, (∀ x, x < n → Ev (g x) (r x)) → ∃ K, ∀ k, K ≤ k → ∀ x, x < n → g x k = some (r x) := by
 intro n
 induction n with
 | zero => exact fun _ => ⟨0, fun k _ x hx => by omega⟩
 | succ n ih =>
  intro h
  obtain ⟨K, hK⟩ := ih fun x hx => h x (by omega)
  obtain ⟨K', hK'⟩ := h n (by omega)
  refine ⟨max K K', fun k hk x hx => ?_⟩
  by_cases e : x = n
  ·subst e; exact hK' k (by omega)
  ·exact hK k (by omega) x (by omega)
section
variable {D : FD} {P M : Int} {Mod : List Int}
open Classical in
noncomputable def ordn (a : GF D) : Nat := if h : ∃ n, IsOrd a n then h.choose else 0
theorem ordn_of {a : GF D} {n : Nat} (h : IsOrd a n) : ordn a = n := by
 have hex : ∃ n, IsOrd a n := ⟨n, h⟩
 unfold ordn
 rw [dif_pos hex]
 exact hex.choose_spec.unique h
theorem ordn_zero : ordn (0 : GF D) = 0 := by
 unfold ordn
 rw [dif_neg]
 rintro ⟨n, h⟩
 exact ord_ne_zero h rfl
theorem ordn_spec {a : GF D} (h : a ≠ 0) : IsOrd a (ordn a) := by
 obtain ⟨k, hk, _⟩ := (elems_full D).ord h
 rw [ordn_of hk]
 exact hk
noncomputable def expL (g : GF D) : List Int := (List.range (D.q - 1).toNat).map fun i => (Alg.pow g i).1
theorem expL_length (g : GF D) : (expL g).length = (D.q - 1).toNat := by rw [expL, List.length_map, List.length_range]
theorem expL_rd (g : GF D) {i : Nat} (hi : i < (D.q - 1).toNat) : rd (expL g) i = (Alg.pow g i).1 := by
 unfold expL
 exact rd_map_range (by omega) (by omega)
theorem expL_inj {g : GF D} (hg : IsOrd g (D.q - 1).toNat) {i j : Nat} (hi : i < (D.q - 1).toNat) (hj : j < (D.q - 1).toNat) (e : Alg.pow g i = Alg.pow g j) : i = j := by
 have hg0 := ord_ne_zero hg
 have key : ∀ i j : Nat, i < j → j < (D.q - 1).toNat → Alg.pow g i = Alg.pow g j → False := by
  intro i j hij hj e
  rw [show j = i + (j - i) by omega, Alg.pow_add] at e
  have := Alg.mul_left_cancel (Alg.pow_ne_zero hg0 i) (show Alg.pow g i * Alg.pow g (j - i) = Alg.pow g i * 1 by rw [← e, Alg.mul_one])
  exact hg.2.2 (j - i) (by omega) (by omega) this
 rcases Nat.lt_trichotomy i j with h | h | h
 ·exact (key i j h hj e).elim
 ·exact h
 ·exact (key j i h hi e.symm).elim
theorem logs_at {g : GF D} (hg : IsOrd g (D.q - 1).toNat) : ∀ (n i : Nat), i < n → n ≤ (D.q - 1).toNat → rd (logs (expL g) (List.replicate D.q.toNat 0) n) (Alg.pow g i).1 = i := by
 intro n
 induction n with
 | zero => intro i hi; omega
 | succ n ih =>
  intro i hi hn
  have hr : rd (expL g) (n : Int) = (Alg.pow g n).1 := expL_rd g (by omega)
  have hl : (logs (expL g) (List.replicate D.q.toNat 0) n).length = D.q.toNat := by rw [logs_length, List.length_replicate]
  have h1 := (Alg.pow g n).2
  have h2 := (Alg.pow g i).2
  rw [logs, hr]
  by_cases e : i = n
  ·subst e
   exact rd_set_self h1.1 (by rw [hl]; omega)
  ·rw [rd_set_ne h1.1 h2.1 (fun hc => e (expL_inj hg (by omega) (by omega) (GF.val_eq.1 hc.symm)))]
   exact ih i (by omega) (by omega)
theorem MO_l0 {q : Int} (hq : 2 ≤ q) (hq' : q ≤ 256) (ex lg : List Int) : ∀ (n : Nat) (a b : Int), b.toNat ≤ n → 0 ≤ a → 0 ≤ b → a ≤ 256 → b ≤ 256 → (0 < a ∨ 0 < b) →
  Ev (fun k => field_GF_MulOrder.l0 k a b P M Mod q ex lg) ((q - 1) / gc a b, 0, P, M, q) := by
 intro n
 induction n with
 | zero =>
  intro a b hn ha hb ha' hb' hor
  have e : b = 0 := by omega
  subst e
  refine ev_succ (ev_now fun k => ?_)
  have h0 : 0 ≤ (q - 1) / a := Int.ediv_nonneg (by omega) ha
  have h1 : (q - 1) / a ≤ q - 1 := Int.ediv_le_self _ (by omega)
  rw [field_GF_MulOrder.l0, if_neg (by omega), if_neg (by omega), w64 (x := q - 1) (by omega) (by omega), Int.tdiv_eq_ediv_of_nonneg (by omega), w64 (by omega) (by omega), gc_zero ha]
 | succ n ih =>
  intro a b hn ha hb ha' hb' hor
  by_cases e : b = 0
  ·exact ih a b (by omega) ha hb ha' hb' hor
  ·have h0 := Int.emod_nonneg a e
   have h1 := Int.emod_lt_of_pos a (show 0 < b by omega)
   have := ih b (a % b) (by omega) hb h0 hb' (by omega) (.inl (by omega))
   rw [gc_step ha hb] at this
   exact Ev.step (fun k => by rw [field_GF_MulOrder.l0, if_pos (by omega), if_neg e, tmod_nn ha]) this
theorem MulOrder_log (h : Desc D P M Mod) {g : GF D} (hg : IsOrd g (D.q - 1).toNat) (x : GF D) :
  Ev (fun k => field_GF_MulOrder.f k P M Mod D.q (expL g) (logs (expL g) (List.replicate D.q.toNat 0) (expL g).length) x.1) ((ordn x : Int), (if x.1 = 0 then 7 else 0), P, M, D.q) := by
 have hx := x.2
 have hq := h.hq
 have hq2 := D.two_q
 have hin : ∀ k : Nat, field_GF_in.f P M Mod D.q (expL g) (logs (expL g) (List.replicate D.q.toNat 0) (expL g).length) x.1 = some (x.1, P, M, D.q) := by
  intro k
  unfold field_GF_in.f field_GF_Is.f
  rw [if_pos (by omega)]
  simp only [Option.bind_some]
  rw [if_pos (by simpa using hx.2)]
 by_cases e : x.1 = 0
 ·refine ev_now fun k => ?_
  unfold field_GF_MulOrder.f
  rw [hin k]
  simp only [Option.bind_some]
  have e0 : x = 0 := GF.val_zero.1 e
  rw [if_pos e, if_pos e, e0, ordn_zero]
  rfl
 ·have hx0 : x ≠ 0 := fun hc => e (GF.val_zero.2 hc)
  have hel := elems_length D
  obtain ⟨i, hi, hxi⟩ := (elems_full D).powers (g := g) (by rw [show (elems D).length - 1 = (D.q - 1).toNat by omega]; exact hg) hx0
  have hi' : i < (D.q - 1).toNat := by omega
  have hlog : rd (logs (expL g) (List.replicate D.q.toNat 0) (expL g).length) x.1 = i := by
   rw [← hxi, expL_length]
   exact logs_at hg _ i hi' (Nat.le_refl _)
  have hl : (logs (expL g) (List.replicate D.q.toNat 0) (expL g).length).length = D.q.toNat := by rw [logs_length, List.length_replicate]
  have hord : IsOrd x ((D.q - 1).toNat / Nat.gcd (D.q - 1).toNat i) := by rw [← hxi]; exact hg.pow_pow i
  have hev := MO_l0 (P := P) (M := M) (Mod := Mod) hq2 hq (expL g) (logs (expL g) (List.replicate D.q.toNat 0) (expL g).length) i (D.q - 1) i (by omega) (by omega) (by omega) (by omega) (by omega) (.inl (by omega))
  have e3 : (D.q - 1) / gc (D.q - 1) i = (ordn x : Int) := by
   rw [ordn_of hord]
   unfold gc
   rw [show ((i : Int)).toNat = i by omega, Int.natCast_ediv, show (((D.q - 1).toNat : Nat) : Int) = D.q - 1 by omega]
  rw [e3] at hev
  rw [if_neg e]
  refine Ev.congr (fun k => ?_) hev
  unfold field_GF_MulOrder.f
  rw [hin k]
  simp only [Option.bind_some]
  rw [if_neg e, if_pos hx.1, if_pos (by rw [hl]; omega), w64 (x := D.q - 1) (by omega) (by omega), hlog]
theorem RootRef_l0 (h : Desc D P M Mod) (n : Int) : ∀ (d x : Nat), (x : Int) + d = D.q → 1 ≤ x →
  ∃ r, Ev (fun k => r17_Root.l0 k n x P M Mod) r ∧
   ((∃ z : Nat, x ≤ z ∧ (z : Int) < D.q ∧ (ordn (inn D z) : Int) = n ∧ (∀ y : Nat, x ≤ y → y < z → (ordn (inn D y) : Int) ≠ n) ∧ r = z) ∨ ((∀ y : Nat, x ≤ y → (y : Int) < D.q → (ordn (inn D y) : Int) ≠ n) ∧ r = 0)) := by
 have hq := h.hq
 intro d
 induction d with
 | zero =>
  intro x hx hx1
  refine ⟨0, Ev.step (f := fun k => (r4_Order.f k P M Mod).bind fun t213 => (if (x : Int) < t213 then ((r4_MulOrder.f k P M Mod x).bind fun t214 => (if t214 = n then (some (x : Int)) else (r17_Root.l0 k n (wrap64 ((x : Int) + 1)) P M Mod))) else (some 0))) (fun k => by rw [r17_Root.l0]) (Ev.bind (Order_eq h) (ev_now fun k => if_neg (by omega))), .inr ⟨fun y h1 h2 => by omega, rfl⟩⟩
 | succ d ih =>
  intro x hx hx1
  have hxv : (inn D (x : Int)).1 = x := inn_of (by omega) (by omega)
  have hx0 : inn D (x : Int) ≠ 0 := fun hc => by have := GF.val_zero.2 hc; omega
  have hm := MulOrder_eq h (inn D (x : Int)) hx0 _ (ordn_spec hx0)
  rw [hxv] at hm
  have hstep : ∀ r, Ev (fun k => if ((ordn (inn D (x : Int)) : Nat) : Int) = n then (some (x : Int)) else (r17_Root.l0 k n (wrap64 ((x : Int) + 1)) P M Mod)) r → Ev (fun k => r17_Root.l0 k n x P M Mod) r := by
   intro r hr
   refine Ev.step (f := fun k => (r4_Order.f k P M Mod).bind fun t213 => (if (x : Int) < t213 then ((r4_MulOrder.f k P M Mod x).bind fun t214 => (if t214 = n then (some (x : Int)) else (r17_Root.l0 k n (wrap64 ((x : Int) + 1)) P M Mod))) else (some 0))) (fun k => by rw [r17_Root.l0]) (Ev.bind (Order_eq h) (Ev.congr (fun k => if_pos (by omega)) (Ev.bind hm hr)))
  by_cases e : (ordn (inn D (x : Int)) : Int) = n
  ·exact ⟨x, hstep _ (ev_now fun k => if_pos e), .inl ⟨x, Nat.le_refl x, by omega, e, fun y h1 h2 => by omega, rfl⟩⟩
  ·obtain ⟨r, hr, hor⟩ := ih (x + 1) (by omega) (by omega)
   refine ⟨r, hstep _ (Ev.congr (fun k => by rw [if_neg e, w64 (by omega) (by omega)]; rfl) hr), ?_⟩
   rcases hor with ⟨z, h1, h2, h3, h4, h5⟩ | ⟨h1, h2⟩
   ·refine .inl ⟨z, by omega, h2, h3, fun y hy1 hy2 => ?_, h5⟩
    by_cases e' : y = x
    ·subst e'; exact e
    ·exact h4 y (by omega) hy2
   ·refine .inr ⟨fun y hy1 hy2 => ?_, h2⟩
    by_cases e' : y = x
    ·subst e'; exact e
    ·exact h1 y (by omega) hy2
theorem RootRef_eq (h : Desc D P M Mod) (n : Int) : ∃ r, Ev (fun k => r17_Root.f k P M Mod n) r ∧
   ((∃ z : Nat, 1 ≤ z ∧ (z : Int) < D.q ∧ (ordn (inn D z) : Int) = n ∧ (∀ y : Nat, 1 ≤ y → y < z → (ordn (inn D y) : Int) ≠ n) ∧ r = z) ∨ ((∀ y : Nat, 1 ≤ y → (y : Int) < D.q → (ordn (inn D y) : Int) ≠ n) ∧ r = 0)) := by
 have hq2 := D.two_q
 exact RootRef_l0 h n (D.q - 1).toNat 1 (by omega) (Nat.le_refl 1)
end
end Go.Proofs.Ytibbdjkboglepaa.MyQBchRoots
namespace Go.Proofs.Ytibbdjkboglepaa.MyQBchRoots
open Go Go.RowKit Go.Proofs.YtibbdjkboglepaaW.PrintWords Go.Proofs.YtibbdjkboglepaaW.PrintLast Go.Proofs.YtibbdjkboglepaaW.PrintMore Go.Proofs.Ytibbdjkboglepaa.My Go.Proofs.Ytibbdjkboglepaa.Alg Go.Proofs.Ytibbdjkboglepaa.QBchRoots
theorem ev_two {α β : Type} {f : Nat → Option α} {g : Nat → Option β} {a : α} {b : β} (h : Ev f a) (h' : Ev g b) : ∃ K, ∀ k, K ≤ k → f k = some a ∧ g k = some b := by
 obtain ⟨K, h⟩ := h
 obtain ⟨K', h'⟩ := h'
 exact ⟨max K K', fun k hk => ⟨h k (by omega), h' k (by omega)⟩⟩
def RootSays (P M n : Int) (A : Option Addr) (c : Nat) (Mod : List Int) (r s : Int) : Prop := ∀ w : World, Kd.C (Kd.int .i64) w A Mod.length Mod →
 Calls Try.prog 16 #[.agg #[.int .i64 P, .int .i64 M, .slice A Mod.length c], .int .i64 n] w fun e w' => e = .returned (.tuple #[.int .i64 r, .int .i64 s]) ∧ Below w.heap.size w w'
section
variable {P M n : Int} {A : Option Addr} {c : Nat} {Mod : List Int}
theorem new_refuses (hc : Mod.length ≤ c) (h : ¬ ∃ D, Desc D P M Mod) : NewSays1 P M A c Mod := by
 obtain ⟨b, hb, hbq⟩ := pshape P M Mod
 cases b with
 | false =>
  obtain ⟨k, hk⟩ := hb.rounds
  exact fun w hr => New_shape k P M A c Mod w hr hc hk
 | true =>
  have hs := hbq.1 rfl
  obtain ⟨q, hq, hor⟩ := porder P M
  rcases hor with ⟨_, hR⟩ | ⟨rfl, _⟩
  ·exact absurd hs.1 hR
  ·obtain ⟨K, hK⟩ := ev_two hb (Ev.congr (fun k => rfl) hq)
   obtain ⟨K', hK'⟩ := gen_none hs h
   exact fun w hr => New_gen (max K K') P M (P ^ M.toNat) A c Mod w hr hc (hK _ (Nat.le_max_left _ _)).1 (hK _ (Nat.le_max_left _ _)).2 (hK' _ (Nat.le_max_right _ _))
theorem new_makes {D : FD} (hc : Mod.length ≤ c) (h : Desc D P M Mod) : ∃ g : GF D, IsOrd g (D.q - 1).toNat ∧ NewSaysOk P M D.q A c Mod (expL g) (logs (expL g) (List.replicate D.q.toNat 0) (expL g).length) := by
 obtain ⟨g, hg, hge⟩ := gen_FD h
 have hs := h.shp
 have hm := h.hm
 have hm8 := h.hm8
 have hq2 := D.two_q
 have hqe : P ^ M.toNat = D.q := by rw [← h.hp, show M.toNat = D.m by omega]; rfl
 rw [hqe] at hge
 refine ⟨g, hg, ?_⟩
 obtain ⟨b, hb, hbq⟩ := pshape P M Mod
 rw [hbq.2 hs] at hb
 obtain ⟨q, hq, hor⟩ := porder P M
 rcases hor with ⟨_, hR⟩ | ⟨rfl, _⟩
 ·exact absurd hs.1 hR
 ·rw [hqe] at hq
  obtain ⟨K, hK⟩ := ev_two hb hq
  obtain ⟨K', hK'⟩ := hge
  have hml : Mod.length ≤ 8 := by
   by_cases e : M = 1
   ·rw [h.one e]; simp
   ·have := h.len (by have := h.m1; omega); omega
  exact fun w hr => New_ok (max K K') P M D.q A c Mod (expL g) w hr hc hml (hK _ (Nat.le_max_left _ _)).1 (hK _ (Nat.le_max_left _ _)).2 (hK' _ (Nat.le_max_right _ _)) (by rw [expL_length]; omega) (by omega) h.hq (by rw [expL_length]; have := h.hq; omega)
   (fun x hx => by
     obtain ⟨i, _, rfl⟩ := List.mem_map.1 hx
     exact (Alg.pow g i).2)
theorem root_in {D : FD} (hc : Mod.length ≤ c) (h : Desc D P M Mod) {n : Int} (hn1 : 1 ≤ n) (hn2 : n ≤ 64) {r : Int} (hr0 : Ev (fun k => r17_Root.f k P M Mod n) r) : RootSays P M n A c Mod r (if r = 0 then 11 else 0) := by
 obtain ⟨g, hg, hN⟩ := new_makes (A := A) hc h
 have hq2 := D.two_q
 obtain ⟨K, hK⟩ := ev_all (g := fun x k => field_GF_MulOrder.f k P M Mod D.q (expL g) (logs (expL g) (List.replicate D.q.toNat 0) (expL g).length) (x : Int)) (r := fun x => ((ordn (inn D (x : Int)) : Int), (if (x : Int) = 0 then 7 else 0), P, M, D.q)) D.q.toNat (fun x hx => by
  have := MulOrder_log h hg (inn D (x : Int))
  rw [inn_of (by omega) (by omega)] at this
  exact this)
 obtain ⟨r', hr', hor⟩ := RootRef_eq h n
 obtain rfl := ev_det hr0 hr'
 intro w hr
 refine (Root_ok K P M n D.q A c Mod _ _ w hr hN hn1 hn2 (by omega) h.hq (fun x => (ordn (inn D x) : Int)) (fun x => if x = 0 then 7 else 0) (fun x h0 h1 => ?_)).mono ?_
 ·have := hK K (Nat.le_refl K) x.toNat (by omega)
  rw [show ((x.toNat : Nat) : Int) = x by omega] at this
  exact this
 ·rintro e w' ⟨⟨r1, s1, rfl, hs⟩, hb⟩
  have hnz : (ordn (inn D (0 : Int)) : Int) ≠ n := by
   rw [inn_zero, ordn_zero]
   simp; omega
  have hrs : r1 = r ∧ s1 = if r = 0 then 11 else 0 := by
   rcases hs with ⟨x, hx1, hx2, hx3, hx4, rfl, rfl⟩ | ⟨hall, rfl, rfl⟩
   ·have hx0 : x ≠ 0 := fun e => by subst e; simp at hx2
    rcases hor with ⟨z, hz1, hz2, hz3, hz4, rfl⟩ | ⟨hno, _⟩
    ·have hxz : x = z := by
      rcases Nat.lt_trichotomy x z with hlt | heq | hgt
      ·exact absurd hx3 (hz4 x (by omega) hlt)
      ·exact heq
      ·exact absurd ⟨by rw [if_neg (by omega)], hz3⟩ (hx4 z hgt)
     subst hxz
     exact ⟨rfl, by rw [if_neg (by omega)]⟩
    ·exact absurd hx3 (hno x (by omega) hx1)
   ·rcases hor with ⟨z, hz1, hz2, hz3, hz4, rfl⟩ | ⟨hno, rfl⟩
    ·exact absurd ⟨by rw [if_neg (by omega)], hz3⟩ (hall z hz2)
    ·exact ⟨rfl, by rw [if_pos rfl]⟩
  exact ⟨by rw [hrs.1, hrs.2], hb⟩
end
end Go.Proofs.Ytibbdjkboglepaa.MyQBchRoots
namespace Go.Proofs.Ytibbdjkboglepaa.QBchZeros
open Go.RowKit Go.Proofs.YtibbdjkboglepaaW.PrintWords Go.Proofs.YtibbdjkboglepaaW.PrintLast Go.Proofs.YtibbdjkboglepaaW.PrintMore Go.Proofs.Ytibbdjkboglepaa.QBchRoots
attribute [local go_sem] max2_int min2_int max_two min_two max_three min_three max_four min_four
theorem info22 : (Try.prog.info? 22).map (fun i => (i.zero, i.size, i.bytes)) = some (some (.slice none 0 0), 1, 24) := by kernel_rfl
def rd_L1 (xs : List (List Int)) (i : Int) : (List Int) := xs.getD i.toNat ([] : List Int)
theorem at_L1 {w : World} {A : Option Addr} {n : Nat} {xs : List (List Int)} (h : Kd.C (Kd.slice 3 (Kd.int .i64)) w A n xs) (i : Int) (h0 : 0 ≤ i) (h1 : i < n) : ∃ ad A0 c0, A = some ad ∧ w.cell? (ad.add i.toNat) = some (.slice A0 (rd_L1 xs i).length c0) ∧ (rd_L1 xs i).length ≤ c0 ∧ (Kd.int .i64).C w A0 (rd_L1 xs i).length (rd_L1 xs i) := by
 obtain ⟨ad, c, e, _, hK, hc0⟩ := Kd.C_get h ([] : List Int) i h0 h1
 have hc : ∀ j u, c[j]? = some u → w.cell? (ad.add (i.toNat * 1 + j)) = some u := hc0
 obtain ⟨A0, c0, rfl, l0, g0⟩ := hK
 exact ⟨ad, A0, c0, e, by have hq := hc 0 _ rfl; rwa [Nat.mul_one, Nat.add_zero] at hq, l0, g0⟩
def r9_SameInts.l0 : Nat → List Int → List Int → Int → Option (Bool)
 | 0, _, _, _ => none
 | k + 1, x0, x1, x5 => if x5 < (x0.length : Int) then (if 0 ≤ x5 then (if x5 < (x1.length : Int) then (if (rd x0 x5) = (rd x1 x5) then (r9_SameInts.l0 k x0 x1 (wrap64 (x5 + 1))) else (some false)) else (none)) else (none)) else (some true)
def r9_SameInts.f (k : Nat) (l0 : List Int) (l1 : List Int) : Option (Bool) := if (l0.length : Int) = (l1.length : Int) then (r9_SameInts.l0 k l0 l1 0) else (some false)
theorem r9_SameInts.calls (k : Nat) (A0 : Option Addr) (c0 : Nat) (l0 : List Int) (A1 : Option Addr) (c1 : Nat) (l1 : List Int) (r : Bool) (w : World) (hr0 : Kd.C (Kd.int .i64) w A0 l0.length l0) (hc0 : l0.length ≤ c0) (hr1 : Kd.C (Kd.int .i64) w A1 l1.length l1) (hc1 : l1.length ≤ c1) (h : r9_SameInts.f k l0 l1 = some r) :
  Calls Try.prog 21 #[.slice A0 l0.length c0, .slice A1 l1.length c1] w fun e w' => e = .returned (.bool r) ∧ Drawn0 w w' := by
 have HR0 := Aside0.mk hr0
 have HC0 := Aside0.mk hc0
 clear hr0 hc0
 have HR1 := Aside0.mk hr1
 have HC1 := Aside0.mk hc1
 clear hr1 hc1
 have H := h
 clear h
 unfold r9_SameInts.f at H
 by_cases c3 : (l0.length : Int) = (l1.length : Int)
 ·rw [if_pos c3] at H
  have c3b0 := beq_iff_eq.mpr c3
  have c3b1 := bne_eq_false_iff_eq.mpr c3
  have c3b2 : (l0.length == l1.length) = true := by first | simpa using c3 | (simp at c3 ⊢; omega)
  clear c3
  have H' := Aside0.mk H
  clear H
  go_enter Try.func21, Try.ntmps21
  go_wp2
  repeat (go_quiet (fail); try go_wp2)
  go_loopg [5] k (fun kq v5 w' => ∃ (x5_1 : Int), v5 = .int .i64 x5_1 ∧ Aside0 (r9_SameInts.l0 kq l0 l1 x5_1 = some r) ∧ Aside0 (kq ≤ k) ∧ Drawn0 w w')
  case atStart => exact ⟨(0), rX, H', ⟨Nat.le_refl _⟩, by repeat (first | exact Drawn0.refl _ | apply Drawn0.step)⟩
  case round =>
   clear H' c3b0 c3b1 c3b2
   obtain ⟨x5_1, rfl, HA, HK1, ⟨m1, rfl⟩⟩ := hrel
   cases gk with
   | zero => exact absurd HA.out (by simp [r9_SameInts.l0])
   | succ k1 =>
    have H := HA.out
    clear HA
    simp only [r9_SameInts.l0] at H
    by_cases c4 : x5_1 < (l0.length : Int)
    ·rw [if_pos c4] at H
     have c4b0 := decide_eq_true c4
     clear c4
     obtain ⟨c5, H⟩ := iE H
     have c5b0 := decide_eq_true c5
     clear c5
     obtain ⟨c6, H⟩ := iE H
     have c6b0 := decide_eq_true c6
     clear c6
     by_cases c7 : (rd l0 x5_1) = (rd l1 x5_1)
     ·rw [if_pos c7] at H
      have c7b0 := beq_iff_eq.mpr c7
      have c7b1 := bne_eq_false_iff_eq.mpr c7
      clear c7
      have H' := Aside0.mk H
      clear H
      have p101 : 0 ≤ (x5_1 : Int) := dT
      have q101 : x5_1 < (l0.length : Int) := dT
      obtain ⟨ad101, e101, hx101_0⟩ := Kd.at_int HR0.out x5_1 p101 q101
      cases e101
      replace p101 := eq_true p101
      replace q101 := eq_true q101
      have p102 : 0 ≤ (x5_1 : Int) := dT
      have q102 : x5_1 < (l1.length : Int) := dT
      obtain ⟨ad102, e102, hx102_0⟩ := Kd.at_int HR1.out x5_1 p102 q102
      cases e102
      replace p102 := eq_true p102
      replace q102 := eq_true q102
      go_wp2
      repeat (go_quiet (fail); try go_wp2)
      go_roundg k1
      case measure => have := HK1.out; omega
      case rel => exact ⟨(wrap64 (x5_1 + 1)), rX, H', mK, by repeat (first | exact Drawn0.refl _ | apply Drawn0.step)⟩
     ·rw [if_neg c7] at H
      have c7b0 := beq_eq_false_iff_ne.mpr c7
      have c7b1 := bne_iff_ne.mpr c7
      obtain rfl := Option.some.inj H
      have p101 : 0 ≤ (x5_1 : Int) := dT
      have q101 : x5_1 < (l0.length : Int) := dT
      obtain ⟨ad101, e101, hx101_0⟩ := Kd.at_int HR0.out x5_1 p101 q101
      cases e101
      replace p101 := eq_true p101
      replace q101 := eq_true q101
      have p102 : 0 ≤ (x5_1 : Int) := dT
      have q102 : x5_1 < (l1.length : Int) := dT
      obtain ⟨ad102, e102, hx102_0⟩ := Kd.at_int HR1.out x5_1 p102 q102
      cases e102
      replace p102 := eq_true p102
      replace q102 := eq_true q102
      go_wp2
      repeat (go_quiet (fail); try go_wp2)
      go_ret
      exact ⟨by first | rfl | (simp; done) | (simp [*]; done), by repeat (first | exact Drawn0.refl _ | apply Drawn0.step)⟩
    ·rw [if_neg c4] at H
     have c4b0 := decide_eq_false c4
     clear c4
     obtain rfl := Option.some.inj H
     go_wp2
     repeat (go_quiet (fail); try go_wp2)
     go_ret
     exact ⟨by first | rfl | (simp; done) | (simp [*]; done), by repeat (first | exact Drawn0.refl _ | apply Drawn0.step)⟩
 ·rw [if_neg c3] at H
  have c3b0 := beq_eq_false_iff_ne.mpr c3
  have c3b1 := bne_iff_ne.mpr c3
  have c3b2 : (l0.length == l1.length) = false := by first | simpa using c3 | (simp at c3 ⊢; omega)
  obtain rfl := Option.some.inj H
  go_enter Try.func21, Try.ntmps21
  go_wp2
  repeat (go_quiet (fail); try go_wp2)
  go_ret
  exact ⟨by first | rfl | (simp; done) | (simp [*]; done), by repeat (first | exact Drawn0.refl _ | apply Drawn0.step)⟩
mutual
def r9_Few.j0 : Nat → Int → Bool → Int → List (List Int) → Option (Bool)
 | 0, _, _, _, _ => none
 | k + 1, x1, x16, x104000, x104001 => if x16 = true then (some false) else (r9_Few.l0 k (wrap64 (x1 - (x104001.length : Int))) 0 x104000 x104001)
def r9_Few.l0 : Nat → Int → Int → Int → List (List Int) → Option (Bool)
 | 0, _, _, _, _ => none
 | k + 1, x5, x6, x104000, x104001 => if x6 < (x104001.length : Int) then (if 0 ≤ x6 then (if ((rd_L1 x104001 x6).length : Int) > x5 then (some false) else (r9_Few.l0 k (wrap64 (x5 - ((rd_L1 x104001 x6).length : Int))) (wrap64 (x6 + 1)) x104000 x104001)) else (none)) else (some true)
end
def r9_Few.f (k : Nat) (a0_0 : Int) (l0_1 : List (List Int)) (a1 : Int) : Option (Bool) := if a0_0 > 260 then (r9_Few.j0 k a1 true a0_0 l0_1) else (r9_Few.j0 k a1 (decide ((l0_1.length : Int) > a1)) a0_0 l0_1)
theorem r9_Few.calls (k : Nat) (a0_0 : Int) (A0_1 : Option Addr) (c0_1 : Nat) (l0_1 : List (List Int)) (a1 : Int) (r : Bool) (w : World) (hr0_1 : Kd.C (Kd.slice 3 (Kd.int .i64)) w A0_1 l0_1.length l0_1) (hc0_1 : l0_1.length ≤ c0_1) (h : r9_Few.f k a0_0 l0_1 a1 = some r) :
  Calls Try.prog 74 #[.agg #[.int .i64 a0_0, .slice A0_1 l0_1.length c0_1], .int .i64 a1] w fun e w' => e = .returned (.bool r) ∧ Below w.heap.size w w' := by
 have hu101 := Try.underlying101
 have HR0_1 := Aside0.mk hr0_1
 have HC0_1 := Aside0.mk hc0_1
 clear hr0_1 hc0_1
 have HB := Aside0.mk (Below.refl w.heap.size w)
 have H := h
 clear h
 unfold r9_Few.f at H
 have HC3 := Aside0.mk H
 clear H
 go_enter Try.func74, Try.ntmps74
 go_upto_region 1 with (first | ((with_reducible refine gate_dst (N := 2) rfl ?_); (try (refine gate_guard (by rfl) ?_; dsimp only)); refine box_event ?hg (N := 2) ?hd (cs := #[.int .i64 a0_0, .slice A0_1 l0_1.length c0_1]) (t := 101) ?hr ?_; (case hd => rfl); (case hg => rfl); (case hr => first | (go_simp; done) | (go_simp; rfl)); intro gb103 hg w4 hbox hb; have BK103 := Aside0.mk (hbox); have GW103 := Aside0.mk ((by rw [hg]; exact (below_size bw) : w.heap.size ≤ gb103)); have GE103 := Aside0.mk ((by rw [hg]; exact (below_size bw) : w.heap.size ≤ gb103)); replace HB := Aside0.mk (below_step bw hb); clear hb hbox hg))
 (try simp only [Act.put, List.setIfInBounds_toArray, List.set_cons_zero, List.set_cons_succ])
 go_cut [16] (fun v16 wc => ∃ (kq : Nat) (x16_2 : Bool), v16 = .bool x16_2 ∧ Aside0 (r9_Few.j0 kq a1 x16_2 a0_0 l0_1 = some r) ∧ Aside0 (kq ≤ k) ∧ Aside0 (wc.heap[gb103]? = some (.cells #[.int .i64 a0_0, (.slice A0_1 l0_1.length c0_1)] 101 (0, 0))) ∧ Aside0 (Below w.heap.size w wc))
 case first =>
  have H := HC3.out
  clear HC3
  by_cases c5 : a0_0 > 260
  ·rw [if_pos c5] at H
   have c5b0 : decide (260 < a0_0) = true := decide_eq_true c5
   clear c5
   (first | rw [c5b0] | (simp only [i64_w, i32_w]; rw [c5b0]) | skip)
   have H' := Aside0.mk H
   clear H
   obtain ⟨hcz6_0, hcz6_1, hfz6_0, hfz6_1⟩ := bq2 BK103.out
   go_wp2
   go_meet
   case rel => exact ⟨_, (true), rX, H', ⟨by first | omega | exact Nat.le_refl _⟩, ⟨kk BK103⟩, ⟨bw⟩⟩
  ·rw [if_neg c5] at H
   have c5b0 : decide (260 < a0_0) = false := decide_eq_false c5
   clear c5
   (first | rw [c5b0] | (simp only [i64_w, i32_w]; rw [c5b0]) | skip)
   have H' := Aside0.mk H
   clear H
   obtain ⟨hcz7_0, hcz7_1, hfz7_0, hfz7_1⟩ := bq2 BK103.out
   go_wp2
   go_meet
   case rel => exact ⟨_, (decide ((l0_1.length : Int) > a1)), rX, H', ⟨by first | omega | exact Nat.le_refl _⟩, ⟨kk BK103⟩, ⟨bw⟩⟩
 case rest =>
  clear HC3
  obtain ⟨kq, x16_2, rfl, HA, HJ2, BK103, HB⟩ := hcut
  cases kq with
  | zero => exact absurd HA.out (by simp [r9_Few.j0])
  | succ kj2 =>
   have H := HA.out
   clear HA
   simp only [r9_Few.j0] at H
   by_cases c8 : x16_2 = true
   ·subst c8
    have H1 : (some false) = some r := by rw [if_pos rfl] at H; exact H
    clear H
    have H := H1
    clear H1
    obtain rfl := Option.some.inj H
    go_wp2
    go_ret
    exact ⟨rW, bw⟩
   ·replace c8 := Bool.eq_false_iff.mpr c8
    subst c8
    have H1 : (r9_Few.l0 kj2 (wrap64 (a1 - (l0_1.length : Int))) 0 a0_0 l0_1) = some r := by rw [if_neg (show ¬ (false = true) by decide)] at H; exact H
    clear H
    have H := H1
    clear H1
    have H' := Aside0.mk H
    clear H
    obtain ⟨hcz9_0, hcz9_1, hfz9_0, hfz9_1⟩ := bq2 BK103.out
    go_wp2
    go_loopg [5, 6] kj2 (fun kq v5 v6 w' => ∃ (x5_2 : Int) (x6_2 : Int), v5 = .int .i64 x5_2 ∧ v6 = .int .i64 x6_2 ∧ Aside0 (r9_Few.l0 kq x5_2 x6_2 a0_0 l0_1 = some r) ∧ Aside0 (kq ≤ kj2) ∧ Aside0 (w'.heap[gb103]? = some (.cells #[.int .i64 a0_0, (.slice A0_1 l0_1.length c0_1)] 101 (0, 0))) ∧ Aside0 (Below w.heap.size w w'))
    case atStart => exact ⟨(wrap64 (a1 - (l0_1.length : Int))), (0), rX, rX, H', ⟨Nat.le_refl _⟩, ⟨kk BK103⟩, ⟨bw⟩⟩
    case round =>
     clear H' hcz9_0 hcz9_1 hfz9_0 hfz9_1
     obtain ⟨x5_2, x6_2, rfl, rfl, HA, HK2, BK103, HB⟩ := hrel
     cases gk with
     | zero => exact absurd HA.out (by simp [r9_Few.l0])
     | succ k2 =>
      have H := HA.out
      clear HA
      simp only [r9_Few.l0] at H
      by_cases c10 : x6_2 < (l0_1.length : Int)
      ·rw [if_pos c10] at H
       have c10b0 := decide_eq_true c10
       clear c10
       obtain ⟨c11, H⟩ := iE H
       have c11b0 := decide_eq_true c11
       clear c11
       by_cases c12 : ((rd_L1 l0_1 x6_2).length : Int) > x5_2
       ·rw [if_pos c12] at H
        have c12b0 : decide (x5_2 < ((rd_L1 l0_1 x6_2).length : Int)) = true := decide_eq_true c12
        clear c12
        obtain rfl := Option.some.inj H
        obtain ⟨hcz13_0, hcz13_1, hfz13_0, hfz13_1⟩ := bq2 BK103.out
        have p104 : 0 ≤ (x6_2 : Int) := dT
        have q104 : x6_2 < (l0_1.length : Int) := dT
        obtain ⟨ad104, A104_0, c104_0, e104, hx104_0, hl104_0, hi104_0⟩ := at_L1 HR0_1.out x6_2 p104 q104
        cases e104
        replace hx104_0 := cw HB hx104_0
        have HR104_0 := Aside0.mk hi104_0
        have HC104_0 := Aside0.mk hl104_0
        clear hi104_0 hl104_0
        replace p104 := eq_true p104
        replace q104 := eq_true q104
        go_wp2
        go_ret
        exact ⟨rW, bw⟩
       ·rw [if_neg c12] at H
        have c12b0 : decide (x5_2 < ((rd_L1 l0_1 x6_2).length : Int)) = false := decide_eq_false c12
        clear c12
        have H' := Aside0.mk H
        clear H
        obtain ⟨hcz14_0, hcz14_1, hfz14_0, hfz14_1⟩ := bq2 BK103.out
        have p104 : 0 ≤ (x6_2 : Int) := dT
        have q104 : x6_2 < (l0_1.length : Int) := dT
        obtain ⟨ad104, A104_0, c104_0, e104, hx104_0, hl104_0, hi104_0⟩ := at_L1 HR0_1.out x6_2 p104 q104
        cases e104
        replace hx104_0 := cw HB hx104_0
        have HR104_0 := Aside0.mk hi104_0
        have HC104_0 := Aside0.mk hl104_0
        clear hi104_0 hl104_0
        replace p104 := eq_true p104
        replace q104 := eq_true q104
        have p105 : 0 ≤ (x6_2 : Int) := dT
        have q105 : x6_2 < (l0_1.length : Int) := dT
        obtain ⟨ad105, A105_0, c105_0, e105, hx105_0, hl105_0, hi105_0⟩ := at_L1 HR0_1.out x6_2 p105 q105
        obtain rfl : ad104 = ad105 := (by injection e105)
        replace hx105_0 := cw HB hx105_0
        have HR105_0 := Aside0.mk hi105_0
        have HC105_0 := Aside0.mk hl105_0
        clear hi105_0 hl105_0
        replace p105 := eq_true p105
        replace q105 := eq_true q105
        have ea_ := Option.some.inj (hx104_0.symm.trans hx105_0)
        injection ea_ with ea_ en_ ec_
        subst ea_
        subst ec_
        clear en_
        go_wp2
        go_roundg k2
        case measure => have := HJ2.out; have := HK2.out; omega
        case rel => exact ⟨(wrap64 (x5_2 - ((rd_L1 l0_1 x6_2).length : Int))), (wrap64 (x6_2 + 1)), rX, rX, H', ⟨by have := HJ2.out; have := HK2.out; omega⟩, ⟨kk BK103⟩, ⟨bw⟩⟩
      ·rw [if_neg c10] at H
       have c10b0 := decide_eq_false c10
       clear c10
       obtain rfl := Option.some.inj H
       obtain ⟨hcz15_0, hcz15_1, hfz15_0, hfz15_1⟩ := bq2 BK103.out
       go_wp2
       go_ret
       exact ⟨rW, bw⟩
def r12_Few.f (k : Nat) (a0_0 : Int) (a0_1 : Int) (l0_2 : List Int) (a0_3 : Int) (l0_4 : List (List Int)) (a1 : Int) : Option (Bool) := (r9_Few.f k 0 l0_4 a1).bind fun t107 => (some t107)
theorem r12_Few.calls (k : Nat) (a0_0 : Int) (a0_1 : Int) (A0_2 : Option Addr) (c0_2 : Nat) (l0_2 : List Int) (a0_3 : Int) (A0_4 : Option Addr) (c0_4 : Nat) (l0_4 : List (List Int)) (a1 : Int) (r : Bool) (w : World) (hr0_2 : Kd.C (Kd.int .i64) w A0_2 l0_2.length l0_2) (hc0_2 : l0_2.length ≤ c0_2) (hr0_4 : Kd.C (Kd.slice 3 (Kd.int .i64)) w A0_4 l0_4.length l0_4) (hc0_4 : l0_4.length ≤ c0_4) (h : r12_Few.f k a0_0 a0_1 l0_2 a0_3 l0_4 a1 = some r) :
  Calls Try.prog 48 #[.agg #[.int .i64 a0_0, .int .i64 a0_1, .slice A0_2 l0_2.length c0_2, .int .i64 a0_3, .slice A0_4 l0_4.length c0_4], .int .i64 a1] w fun e w' => e = .returned (.bool r) ∧ Below w.heap.size w w' := by
 have hu49 := Try.underlying49
 have hu101 := Try.underlying101
 have HR0_2 := Aside0.mk hr0_2
 have HC0_2 := Aside0.mk hc0_2
 clear hr0_2 hc0_2
 have HR0_4 := Aside0.mk hr0_4
 have HC0_4 := Aside0.mk hc0_4
 clear hr0_4 hc0_4
 have HB := Aside0.mk (Below.refl w.heap.size w)
 have H := h
 clear h
 unfold r12_Few.f at H
 obtain ⟨t107, A3, H⟩ := bE H
 obtain rfl := Option.some.inj H
 go_enter Try.func48, Try.ntmps48
 go_wp2_with (first | (refine bz 2 #[.int .i64 a0_0, .int .i64 a0_1, .slice A0_2 l0_2.length c0_2, .int .i64 a0_3, .slice A0_4 l0_4.length c0_4] 49 ?_; clear HB; intro gb106 w4 BK106 GW106 GE106 HB; obtain ⟨hcz5_0, hcz5_1, hcz5_2, hcz5_3, hcz5_4, hfz5_0, hfz5_1, hfz5_2, hfz5_3, hfz5_4⟩ := bq5 BK106.out) | (refine gL 9 Try.func74 #[.agg #[.int .i64 0, .slice A0_4 l0_4.length c0_4], .int .i64 a1] ?_; (with_reducible refine (r9_Few.calls k 0 _ _ l0_4 a1 t107 _ (Kd.C_below HR0_4.out bw) HC0_4.out A3.out).mono ?_); rintro e w6 ⟨rfl, hb⟩; refine ⟨_, rfl, ?_⟩; replace BK106 := Aside0.mk (bkb BK106 hb); replace HB := Aside0.mk (below_step bw hb); (try clear hb)))
 go_ret
 exact ⟨rW, bw⟩
def l17_few.f (k : Nat) (a0_0 : Int) (a0_1 : Int) (l0_2 : List Int) (a0_3 : Int) (l0_4 : List (List Int)) : Option (Bool) := if (l0_4.length : Int) ≤ 64 then ((r12_Few.f k a0_0 a0_1 l0_2 a0_3 l0_4 4200).bind fun t109 => (some t109)) else (some false)
theorem l17_few.calls (k : Nat) (a0_0 : Int) (a0_1 : Int) (A0_2 : Option Addr) (c0_2 : Nat) (l0_2 : List Int) (a0_3 : Int) (A0_4 : Option Addr) (c0_4 : Nat) (l0_4 : List (List Int)) (r : Bool) (w : World) (hr0_2 : Kd.C (Kd.int .i64) w A0_2 l0_2.length l0_2) (hc0_2 : l0_2.length ≤ c0_2) (hr0_4 : Kd.C (Kd.slice 3 (Kd.int .i64)) w A0_4 l0_4.length l0_4) (hc0_4 : l0_4.length ≤ c0_4) (h : l17_few.f k a0_0 a0_1 l0_2 a0_3 l0_4 = some r) :
  Calls Try.prog 23 #[.agg #[.int .i64 a0_0, .int .i64 a0_1, .slice A0_2 l0_2.length c0_2, .int .i64 a0_3, .slice A0_4 l0_4.length c0_4]] w fun e w' => e = .returned (.bool r) ∧ Below w.heap.size w w' := by
 have hu49 := Try.underlying49
 have HR0_2 := Aside0.mk hr0_2
 have HC0_2 := Aside0.mk hc0_2
 clear hr0_2 hc0_2
 have HR0_4 := Aside0.mk hr0_4
 have HC0_4 := Aside0.mk hc0_4
 clear hr0_4 hc0_4
 have HB := Aside0.mk (Below.refl w.heap.size w)
 have H := h
 clear h
 unfold l17_few.f at H
 by_cases c2 : (l0_4.length : Int) ≤ 64
 ·rw [if_pos c2] at H
  have c2b0 := decide_eq_true c2
  have c2b1 : decide (l0_4.length ≤ 64) = true := decide_eq_true (by omega)
  clear c2
  obtain ⟨t109, A3, H⟩ := bE H
  obtain rfl := Option.some.inj H
  go_enter Try.func23, Try.ntmps23
  go_wp2_with (first | (refine bz 1 #[.int .i64 a0_0, .int .i64 a0_1, .slice A0_2 l0_2.length c0_2, .int .i64 a0_3, .slice A0_4 l0_4.length c0_4] 49 ?_; clear HB; intro gb108 w4 BK108 GW108 GE108 HB; obtain ⟨hcz5_0, hcz5_1, hcz5_2, hcz5_3, hcz5_4, hfz5_0, hfz5_1, hfz5_2, hfz5_3, hfz5_4⟩ := bq5 BK108.out) | (go_at_call 48; (with_reducible refine (r12_Few.calls k a0_0 a0_1 _ _ l0_2 a0_3 _ _ l0_4 4200 t109 _ (Kd.C_below HR0_2.out bw) HC0_2.out (Kd.C_below HR0_4.out bw) HC0_4.out A3.out).mono ?_); rintro e w6 ⟨rfl, hb⟩; replace BK108 := Aside0.mk (bkb BK108 hb); replace HB := Aside0.mk (below_step bw hb); (try clear hb)))
  go_ret
  exact ⟨rW, bw⟩
 ·rw [if_neg c2] at H
  have c2b0 := decide_eq_false c2
  have c2b1 : decide (l0_4.length ≤ 64) = false := decide_eq_false (by omega)
  clear c2
  obtain rfl := Option.some.inj H
  go_enter Try.func23, Try.ntmps23
  go_wp2_with (refine bz 1 #[.int .i64 a0_0, .int .i64 a0_1, .slice A0_2 l0_2.length c0_2, .int .i64 a0_3, .slice A0_4 l0_4.length c0_4] 49 ?_; clear HB; intro gb108 w7 BK108 GW108 GE108 HB; obtain ⟨hcz8_0, hcz8_1, hcz8_2, hcz8_3, hcz8_4, hfz8_0, hfz8_1, hfz8_2, hfz8_3, hfz8_4⟩ := bq5 BK108.out)
  go_ret
  exact ⟨rW, bw⟩
def r9_Entries.l0 : Nat → List Int → Int → Int → Int → List Int → Option (Int)
 | 0, _, _, _, _, _ => none
 | k + 1, x1, x5, x181000, x181001, x181002 => if x5 < (x1.length : Int) then (if 0 ≤ x5 then ((r4_Is.f k x181000 x181001 x181002 (rd x1 x5)).bind fun t182 => (if t182 = true then (r9_Entries.l0 k x1 (wrap64 (x5 + 1)) x181000 x181001 x181002) else (some 2))) else (none)) else (some 0)
def r9_Entries.f (k : Nat) (a0_0 : Int) (a0_1 : Int) (l0_2 : List Int) (l1 : List Int) : Option (Int) := r9_Entries.l0 k l1 0 a0_0 a0_1 l0_2
theorem r9_Entries.calls (k : Nat) (a0_0 : Int) (a0_1 : Int) (A0_2 : Option Addr) (c0_2 : Nat) (l0_2 : List Int) (A1 : Option Addr) (c1 : Nat) (l1 : List Int) (r : Int) (w : World) (hr0_2 : Kd.C (Kd.int .i64) w A0_2 l0_2.length l0_2) (hc0_2 : l0_2.length ≤ c0_2) (hr1 : Kd.C (Kd.int .i64) w A1 l1.length l1) (hc1 : l1.length ≤ c1) (h : r9_Entries.f k a0_0 a0_1 l0_2 l1 = some r) :
  Calls Try.prog 130 #[.agg #[.int .i64 a0_0, .int .i64 a0_1, .slice A0_2 l0_2.length c0_2], .slice A1 l1.length c1] w fun e w' => e = .returned (.int .i64 r) ∧ Below w.heap.size w w' := by
 have hu36 := Try.underlying36
 have HR0_2 := Aside0.mk hr0_2
 have HC0_2 := Aside0.mk hc0_2
 clear hr0_2 hc0_2
 have HR1 := Aside0.mk hr1
 have HC1 := Aside0.mk hc1
 clear hr1 hc1
 have HB := Aside0.mk (Below.refl w.heap.size w)
 have H := h
 clear h
 unfold r9_Entries.f at H
 have H' := Aside0.mk H
 clear H
 go_enter Try.func130, Try.ntmps130
 go_wp2_with (refine bz 2 #[.int .i64 a0_0, .int .i64 a0_1, .slice A0_2 l0_2.length c0_2] 36 ?_; clear HB; intro gb180 w3 BK180 GW180 GE180 HB)
 go_loopg [5] k (fun kq v5 w' => ∃ (x5_1 : Int), v5 = .int .i64 x5_1 ∧ Aside0 (r9_Entries.l0 kq l1 x5_1 a0_0 a0_1 l0_2 = some r) ∧ Aside0 (kq ≤ k) ∧ Aside0 (w'.heap[gb180]? = some (.cells #[.int .i64 a0_0, .int .i64 a0_1, (.slice A0_2 l0_2.length c0_2)] 36 (0, 0))) ∧ Aside0 (Below w.heap.size w w'))
 case atStart => exact ⟨(0), rX, H', ⟨Nat.le_refl _⟩, ⟨kk BK180⟩, ⟨bw⟩⟩
 case round =>
  clear H'
  obtain ⟨x5_1, rfl, HA, HK1, BK180, HB⟩ := hrel
  cases gk with
  | zero => exact absurd HA.out (by simp [r9_Entries.l0])
  | succ k1 =>
   have H := HA.out
   clear HA
   simp only [r9_Entries.l0] at H
   by_cases c4 : x5_1 < (l1.length : Int)
   ·rw [if_pos c4] at H
    have c4b0 := decide_eq_true c4
    clear c4
    obtain ⟨c5, H⟩ := iE H
    have c5b0 := decide_eq_true c5
    clear c5
    obtain ⟨t182, A6, H⟩ := bE H
    by_cases c7 : t182 = true
    ·subst c7
     have H1 : (r9_Entries.l0 k1 l1 (wrap64 (x5_1 + 1)) a0_0 a0_1 l0_2) = some r := by rw [if_pos rfl] at H; exact H
     clear H
     have H := H1
     clear H1
     have H' := Aside0.mk H
     clear H
     try go_wp2
     replace BK180 := Aside0.mk (blk_drew BK180.out)
     replace HB := Aside0.mk (below_drew1 HB.out)
     have p181 : 0 ≤ (x5_1 : Int) := dT
     have q181 : x5_1 < (l1.length : Int) := dT
     obtain ⟨ad181, e181, hx181_0⟩ := Kd.at_int HR1.out x5_1 p181 q181
     have hw181_0 := hx181_0
     cases e181
     replace hx181_0 := cw HB hx181_0
     replace p181 := eq_true p181
     replace q181 := eq_true q181
     refine start_ (n := 7) (S := fun w' => w'.cell? ⟨gb180, 0, none⟩ = some (.int .i64 a0_0) ∧ w'.cell? ⟨gb180, 1, none⟩ = some (.int .i64 a0_1) ∧ w'.cell? ⟨gb180, 2, none⟩ = some (.slice A0_2 l0_2.length c0_2) ∧ w'.cell? (ad181.add (x5_1).toNat) = some (.int .i64 (rd l1 x5_1))) (ds := []) (bb 7 0) (by kernel_rfl) rfl rfl ⟨bc0 BK180.out, bc1 BK180.out, bc2 BK180.out, (cw HB hw181_0)⟩ (fun hHeld => ?_)
     generalize wr.drew = w8 at BK180 HB hx181_0 hHeld ⊢
     refine pure_ (i := 1) (N := some 13) (v := ?_) (a' := ?_) (bb 7 2) rfl rfl (by kernel_rfl) (fun _ _ _ h => h) (Or.inl ⟨by rfl, ?_⟩) ?_ ?_
     rotate_left
     ·intro w'
      go_simp
      with_reducible rfl
     rotate_left
     ·simp only [Act.put, List.setIfInBounds_toArray, List.set_cons_zero, List.set_cons_succ, i64_w, i32_w]
      rfl
     refine pure_ (i := 2) (N := some 14) (v := ?_) (a' := ?_) (bb 7 6) rfl rfl (by kernel_rfl) (fun _ _ _ h => h) (Or.inl ⟨by rfl, ?_⟩) ?_ ?_
     rotate_left
     ·intro w'
      go_simp
      with_reducible rfl
     rotate_left
     ·simp only [Act.put, List.setIfInBounds_toArray, List.set_cons_zero, List.set_cons_succ, i64_w, i32_w]
      rfl
     refine pure_ (i := 3) (N := some 15) (v := ?_) (a' := ?_) (bb 7 14) rfl rfl (by kernel_rfl) (fun _ _ _ h => h) (Or.inl ⟨by rfl, ?_⟩) ?_ ?_
     rotate_left
     ·intro w'
      go_simp
      with_reducible rfl
     rotate_left
     ·simp only [Act.put, List.setIfInBounds_toArray, List.set_cons_zero, List.set_cons_succ, i64_w, i32_w]
      rfl
     refine take_ (i := 0) (N := some 12) (v := ?_) (a' := ?_) (bb 7 15) rfl rfl (by kernel_rfl) (fun _ _ _ h => h) (Or.inl ⟨by rfl, ?_⟩) hHeld ?_ ?_
     rotate_left
     ·rintro w' ⟨s0, s1, s2, s3⟩
      go_simp
      with_reducible rfl
     rotate_left
     ·simp only [Act.put, List.setIfInBounds_toArray, List.set_cons_zero, List.set_cons_succ, i64_w, i32_w]
      rfl
     refine take_ (i := 4) (N := some 16) (v := ?_) (a' := ?_) (bb 7 31) rfl rfl (by kernel_rfl) (fun _ _ _ h => h) (Or.inl ⟨by rfl, ?_⟩) hHeld ?_ ?_
     rotate_left
     ·rintro w' ⟨s0, s1, s2, s3⟩
      go_simp
      with_reducible rfl
     rotate_left
     ·simp only [Act.put, List.setIfInBounds_toArray, List.set_cons_zero, List.set_cons_succ, i64_w, i32_w]
      rfl
     refine one_ (i := 5) (N := some 17) (bb 7 63) rfl rfl (by kernel_rfl) (by decide) (fun K hK => ?_)
     refine gq Try.func96 #[.agg #[.int .i64 a0_0, .int .i64 a0_1, .slice A0_2 l0_2.length c0_2], .int .i64 (rd l1 x5_1)] ?_
     with_reducible refine (r4_Is.calls k1 a0_0 a0_1 _ _ l0_2 (rd l1 x5_1) true _ (Kd.C_below HR0_2.out bw) HC0_2.out A6.out).mono ?_
     rintro e w9 ⟨rfl, hb⟩
     refine ⟨_, rfl, ?_⟩
     replace BK180 := Aside0.mk (bkb BK180 hb)
     replace HB := Aside0.mk (below_step bw hb)
     clear hb
     refine hK.out _ _ ⟨bc0 BK180.out, bc1 BK180.out, bc2 BK180.out, (cw HB hw181_0)⟩ (fun hHeld => ?_)
     clear hK K
     refine nq 17 ?_
     refine pure_ (i := 6) (N := some 18) (v := ?_) (a' := ?_) (bb 7 127) rfl rfl (by kernel_rfl) (fun _ _ _ h => h) (Or.inl ⟨by rfl, ?_⟩) ?_ ?_
     rotate_left
     ·intro w'
      go_simp
      with_reducible rfl
     rotate_left
     ·simp only [Act.put, List.setIfInBounds_toArray, List.set_cons_zero, List.set_cons_succ, i64_w, i32_w]
      rfl
     refine done_ (by kernel_rfl) ?_
     try go_wp2
     go_roundg k1
     case measure => have := HK1.out; omega
     case rel => exact ⟨(wrap64 (x5_1 + 1)), rX, H', mK, ⟨kk BK180⟩, ⟨bw⟩⟩
    ·replace c7 := Bool.eq_false_iff.mpr c7
     subst c7
     have H1 : (some 2) = some r := by rw [if_neg (show ¬ (false = true) by decide)] at H; exact H
     clear H
     have H := H1
     clear H1
     obtain rfl := Option.some.inj H
     try go_wp2
     replace BK180 := Aside0.mk (blk_drew BK180.out)
     replace HB := Aside0.mk (below_drew1 HB.out)
     have p181 : 0 ≤ (x5_1 : Int) := dT
     have q181 : x5_1 < (l1.length : Int) := dT
     obtain ⟨ad181, e181, hx181_0⟩ := Kd.at_int HR1.out x5_1 p181 q181
     have hw181_0 := hx181_0
     cases e181
     replace hx181_0 := cw HB hx181_0
     replace p181 := eq_true p181
     replace q181 := eq_true q181
     refine start_ (n := 7) (S := fun w' => w'.cell? ⟨gb180, 0, none⟩ = some (.int .i64 a0_0) ∧ w'.cell? ⟨gb180, 1, none⟩ = some (.int .i64 a0_1) ∧ w'.cell? ⟨gb180, 2, none⟩ = some (.slice A0_2 l0_2.length c0_2) ∧ w'.cell? (ad181.add (x5_1).toNat) = some (.int .i64 (rd l1 x5_1))) (ds := []) (bb 7 0) (by kernel_rfl) rfl rfl ⟨bc0 BK180.out, bc1 BK180.out, bc2 BK180.out, (cw HB hw181_0)⟩ (fun hHeld => ?_)
     generalize wr.drew = w10 at BK180 HB hx181_0 hHeld ⊢
     refine pure_ (i := 1) (N := some 13) (v := ?_) (a' := ?_) (bb 7 2) rfl rfl (by kernel_rfl) (fun _ _ _ h => h) (Or.inl ⟨by rfl, ?_⟩) ?_ ?_
     rotate_left
     ·intro w'
      go_simp
      with_reducible rfl
     rotate_left
     ·simp only [Act.put, List.setIfInBounds_toArray, List.set_cons_zero, List.set_cons_succ, i64_w, i32_w]
      rfl
     refine pure_ (i := 2) (N := some 14) (v := ?_) (a' := ?_) (bb 7 6) rfl rfl (by kernel_rfl) (fun _ _ _ h => h) (Or.inl ⟨by rfl, ?_⟩) ?_ ?_
     rotate_left
     ·intro w'
      go_simp
      with_reducible rfl
     rotate_left
     ·simp only [Act.put, List.setIfInBounds_toArray, List.set_cons_zero, List.set_cons_succ, i64_w, i32_w]
      rfl
     refine pure_ (i := 3) (N := some 15) (v := ?_) (a' := ?_) (bb 7 14) rfl rfl (by kernel_rfl) (fun _ _ _ h => h) (Or.inl ⟨by rfl, ?_⟩) ?_ ?_
     rotate_left
     ·intro w'
      go_simp
      with_reducible rfl
     rotate_left
     ·simp only [Act.put, List.setIfInBounds_toArray, List.set_cons_zero, List.set_cons_succ, i64_w, i32_w]
      rfl
     refine take_ (i := 0) (N := some 12) (v := ?_) (a' := ?_) (bb 7 15) rfl rfl (by kernel_rfl) (fun _ _ _ h => h) (Or.inl ⟨by rfl, ?_⟩) hHeld ?_ ?_
     rotate_left
     ·rintro w' ⟨s0, s1, s2, s3⟩
      go_simp
      with_reducible rfl
     rotate_left
     ·simp only [Act.put, List.setIfInBounds_toArray, List.set_cons_zero, List.set_cons_succ, i64_w, i32_w]
      rfl
     refine take_ (i := 4) (N := some 16) (v := ?_) (a' := ?_) (bb 7 31) rfl rfl (by kernel_rfl) (fun _ _ _ h => h) (Or.inl ⟨by rfl, ?_⟩) hHeld ?_ ?_
     rotate_left
     ·rintro w' ⟨s0, s1, s2, s3⟩
      go_simp
      with_reducible rfl
     rotate_left
     ·simp only [Act.put, List.setIfInBounds_toArray, List.set_cons_zero, List.set_cons_succ, i64_w, i32_w]
      rfl
     refine one_ (i := 5) (N := some 17) (bb 7 63) rfl rfl (by kernel_rfl) (by decide) (fun K hK => ?_)
     refine gq Try.func96 #[.agg #[.int .i64 a0_0, .int .i64 a0_1, .slice A0_2 l0_2.length c0_2], .int .i64 (rd l1 x5_1)] ?_
     with_reducible refine (r4_Is.calls k1 a0_0 a0_1 _ _ l0_2 (rd l1 x5_1) false _ (Kd.C_below HR0_2.out bw) HC0_2.out A6.out).mono ?_
     rintro e w11 ⟨rfl, hb⟩
     refine ⟨_, rfl, ?_⟩
     replace BK180 := Aside0.mk (bkb BK180 hb)
     replace HB := Aside0.mk (below_step bw hb)
     clear hb
     refine hK.out _ _ ⟨bc0 BK180.out, bc1 BK180.out, bc2 BK180.out, (cw HB hw181_0)⟩ (fun hHeld => ?_)
     clear hK K
     refine nq 17 ?_
     refine pure_ (i := 6) (N := some 18) (v := ?_) (a' := ?_) (bb 7 127) rfl rfl (by kernel_rfl) (fun _ _ _ h => h) (Or.inl ⟨by rfl, ?_⟩) ?_ ?_
     rotate_left
     ·intro w'
      go_simp
      with_reducible rfl
     rotate_left
     ·simp only [Act.put, List.setIfInBounds_toArray, List.set_cons_zero, List.set_cons_succ, i64_w, i32_w]
      rfl
     refine done_ (by kernel_rfl) ?_
     try go_wp2
     go_ret
     exact ⟨rW, bw⟩
   ·rw [if_neg c4] at H
    have c4b0 := decide_eq_false c4
    clear c4
    obtain rfl := Option.some.inj H
    go_wp2
    go_ret
    exact ⟨rW, bw⟩
mutual
def r9_Check.j0 : Nat → Bool → Int → Int → List Int → Int → List (List Int) → Option (Int)
 | 0, _, _, _, _, _, _ => none
 | k + 1, x26, x184000, x184001, x184002, x185000, x185001 => if x26 = true then (some 3) else (r9_Check.l0 k 0 x184000 x184001 x184002 x185000 x185001)
def r9_Check.l0 : Nat → Int → Int → Int → List Int → Int → List (List Int) → Option (Int)
 | 0, _, _, _, _, _, _ => none
 | k + 1, x6, x184000, x184001, x184002, x185000, x185001 => if x6 < (x185001.length : Int) then (if 0 ≤ x6 then (if ((rd_L1 x185001 x6).length : Int) = x185000 then (r9_Check.l0 k (wrap64 (x6 + 1)) x184000 x184001 x184002 x185000 x185001) else (some 3)) else (none)) else (r9_Check.l1 k 0 x184000 x184001 x184002 x185000 x185001)
def r9_Check.l1 : Nat → Int → Int → Int → List Int → Int → List (List Int) → Option (Int)
 | 0, _, _, _, _, _, _ => none
 | k + 1, x7, x184000, x184001, x184002, x185000, x185001 => if x7 < (x185001.length : Int) then (if 0 ≤ x7 then ((r9_Entries.f k x184000 x184001 x184002 (rd_L1 x185001 x7)).bind fun t188 => (if t188 = 0 then (r9_Check.l1 k (wrap64 (x7 + 1)) x184000 x184001 x184002 x185000 x185001) else (some t188))) else (none)) else (some 0)
end
def r9_Check.f (k : Nat) (a0_0 : Int) (a0_1 : Int) (l0_2 : List Int) (a1_0 : Int) (l1_1 : List (List Int)) : Option (Int) := (r4_Check.f k a0_0 a0_1 l0_2).bind fun t185 => (if t185 = 0 then (if a1_0 < 0 then (r9_Check.j0 k true a0_0 a0_1 l0_2 a1_0 l1_1) else (if a1_0 > 256 then (r9_Check.j0 k true a0_0 a0_1 l0_2 a1_0 l1_1) else (r9_Check.j0 k (decide ((l1_1.length : Int) > 256)) a0_0 a0_1 l0_2 a1_0 l1_1))) else (some t185))
def r9_Check.T9 : Bool × List (List Nat × List Nat) := (true, [([], []), ([0], [0]), ([], []), ([1, 2], [1, 2]), ([3], [3]), ([4], [4]), ([], []), ([6], [6]), ([5, 7], [5, 7])])
def r9_Check.B9 : List Nat := [0, 1, 0, 7, 15, 31, 0, 64, 255]
theorem r9_Check.tab9 : rtab .any (opsOf Try.f109 9) = r9_Check.T9 := by kernel_rfl
theorem r9_Check.bits9 : waitsOk r9_Check.T9.2 r9_Check.B9 = true := by kernel_rfl
def r9_Check.T14 : Bool × List (List Nat × List Nat) := (true, [([], []), ([], []), ([1], [1]), ([], []), ([2, 3], [2, 3]), ([4], [4]), ([0, 5], [0, 5]), ([6, 6, 0, 1, 2, 3, 4, 5, 6], [6])])
def r9_Check.B14 : List Nat := [0, 0, 2, 0, 14, 30, 63, 127]
theorem r9_Check.tab14 : rtab .any (opsOf Try.f109 14) = r9_Check.T14 := by kernel_rfl
theorem r9_Check.bits14 : waitsOk r9_Check.T14.2 r9_Check.B14 = true := by kernel_rfl
theorem r9_Check.calls (k : Nat) (a0_0 : Int) (a0_1 : Int) (A0_2 : Option Addr) (c0_2 : Nat) (l0_2 : List Int) (a1_0 : Int) (A1_1 : Option Addr) (c1_1 : Nat) (l1_1 : List (List Int)) (r : Int) (w : World) (hr0_2 : Kd.C (Kd.int .i64) w A0_2 l0_2.length l0_2) (hc0_2 : l0_2.length ≤ c0_2) (hr1_1 : Kd.C (Kd.slice 3 (Kd.int .i64)) w A1_1 l1_1.length l1_1) (hc1_1 : l1_1.length ≤ c1_1) (h : r9_Check.f k a0_0 a0_1 l0_2 a1_0 l1_1 = some r) :
  Calls Try.prog 109 #[.agg #[.int .i64 a0_0, .int .i64 a0_1, .slice A0_2 l0_2.length c0_2], .agg #[.int .i64 a1_0, .slice A1_1 l1_1.length c1_1]] w fun e w' => e = .returned (.int .i64 r) ∧ Below w.heap.size w w' := by
 have hu36 := Try.underlying36
 have hu101 := Try.underlying101
 have HR0_2 := Aside0.mk hr0_2
 have HC0_2 := Aside0.mk hc0_2
 clear hr0_2 hc0_2
 have HR1_1 := Aside0.mk hr1_1
 have HC1_1 := Aside0.mk hc1_1
 clear hr1_1 hc1_1
 have HB := Aside0.mk (Below.refl w.heap.size w)
 have H := h
 clear h
 unfold r9_Check.f at H
 obtain ⟨t185, A3, H⟩ := bE H
 by_cases c4 : t185 = 0
 ·rw [if_pos c4] at H
  have c4b0 := beq_iff_eq.mpr c4
  have c4b1 := bne_eq_false_iff_eq.mpr c4
  clear c4
  have HC5 := Aside0.mk H
  clear H
  go_enter Try.func109, Try.ntmps109
  go_upto_region 4 with (first | ((with_reducible refine gate_dst (N := 2) rfl ?_); (try (refine gate_guard (by rfl) ?_; dsimp only)); refine box_event ?hg (N := 2) ?hd (cs := #[.int .i64 a0_0, .int .i64 a0_1, .slice A0_2 l0_2.length c0_2]) (t := 36) ?hr ?_; (case hd => rfl); (case hg => rfl); (case hr => first | (go_simp; done) | (go_simp; rfl)); intro gb183 hg w6 hbox hb; have BK183 := Aside0.mk (hbox); have GW183 := Aside0.mk ((by rw [hg]; exact (below_size bw) : w.heap.size ≤ gb183)); have GE183 := Aside0.mk ((by rw [hg]; exact (below_size bw) : w.heap.size ≤ gb183)); replace HB := Aside0.mk (below_step bw hb); clear hb hbox hg) | ((with_reducible refine gate_dst (N := 3) rfl ?_); (try (refine gate_guard (by rfl) ?_; dsimp only)); refine box_event ?hg (N := 3) ?hd (cs := #[.int .i64 a1_0, .slice A1_1 l1_1.length c1_1]) (t := 101) ?hr ?_; (case hd => rfl); (case hg => rfl); (case hr => first | (go_simp; done) | (go_simp; rfl)); intro gb184 hg w7 hbox hb; have BK184 := Aside0.mk (hbox); have GW184 := Aside0.mk ((by rw [hg]; exact (below_size bw) : w.heap.size ≤ gb184)); have GE184 := Aside0.mk ((by rw [hg]; exact (below_size bw) : w.heap.size ≤ gb184)); replace HB := Aside0.mk (below_step bw hb); have NB183_184 := Aside0.mk ((by rw [hg]; exact Nat.ne_of_lt (blk_lt (g := gb183) (o := .cells #[.int .i64 a0_0, .int .i64 a0_1, .slice A0_2 l0_2.length c0_2] 36 (0, 0)) (kk BK183)) : gb183 ≠ gb184)); have NB184_183 := Aside0.mk ((by rw [hg]; exact Nat.ne_of_gt (blk_lt (g := gb183) (o := .cells #[.int .i64 a0_0, .int .i64 a0_1, .slice A0_2 l0_2.length c0_2] 36 (0, 0)) (kk BK183)) : gb184 ≠ gb183)); replace BK183 := Aside0.mk (bkb BK183 hb); clear hb hbox hg; have hnb8 := NB183_184.out; have hnc8 := NB184_183.out; obtain ⟨hcz9_0, hcz9_1, hcz9_2, hfz9_0, hfz9_1, hfz9_2⟩ := bq3 BK183.out) | (refine gL 9 Try.func40 #[.agg #[.int .i64 a0_0, .int .i64 a0_1, .slice A0_2 l0_2.length c0_2]] ?_; (with_reducible refine (r4_Check.calls k a0_0 a0_1 _ _ l0_2 t185 _ (Kd.C_below HR0_2.out bw) HC0_2.out A3.out).mono ?_); rintro e w10 ⟨rfl, hb⟩; refine ⟨_, rfl, ?_⟩; replace BK183 := Aside0.mk (bkb BK183 hb); replace BK184 := Aside0.mk (bkb BK184 hb); replace HB := Aside0.mk (below_step bw hb); (try clear hb)))
  (try simp only [Act.put, List.setIfInBounds_toArray, List.set_cons_zero, List.set_cons_succ])
  go_cut [26] (fun v26 wc => ∃ (kq : Nat) (x26_4 : Bool), v26 = .bool x26_4 ∧ Aside0 (r9_Check.j0 kq x26_4 a0_0 a0_1 l0_2 a1_0 l1_1 = some r) ∧ Aside0 (kq ≤ k) ∧ Aside0 (wc.heap[gb183]? = some (.cells #[.int .i64 a0_0, .int .i64 a0_1, (.slice A0_2 l0_2.length c0_2)] 36 (0, 0))) ∧ Aside0 (wc.heap[gb184]? = some (.cells #[.int .i64 a1_0, (.slice A1_1 l1_1.length c1_1)] 101 (0, 0))) ∧ Aside0 (Below w.heap.size w wc))
  case first =>
   have H := HC5.out
   clear HC5
   by_cases c11 : a1_0 < 0
   ·rw [if_pos c11] at H
    have c11b0 := decide_eq_true c11
    clear c11
    (first | rw [c11b0] | (simp only [i64_w, i32_w]; rw [c11b0]) | skip)
    have H' := Aside0.mk H
    clear H
    have hnb12 := NB184_183.out
    have hnc12 := NB183_184.out
    obtain ⟨hcz13_0, hcz13_1, hfz13_0, hfz13_1⟩ := bq2 BK184.out
    go_wp2
    go_meet
    case rel => exact ⟨_, (true), rX, H', ⟨by first | omega | exact Nat.le_refl _⟩, ⟨kk BK183⟩, ⟨kk BK184⟩, ⟨bw⟩⟩
   ·rw [if_neg c11] at H
    have c11b0 := decide_eq_false c11
    clear c11
    (first | rw [c11b0] | (simp only [i64_w, i32_w]; rw [c11b0]) | skip)
    by_cases c14 : a1_0 > 256
    ·rw [if_pos c14] at H
     have c14b0 : decide (256 < a1_0) = true := decide_eq_true c14
     clear c14
     have H' := Aside0.mk H
     clear H
     have hnb15 := NB184_183.out
     have hnc15 := NB183_184.out
     obtain ⟨hcz16_0, hcz16_1, hfz16_0, hfz16_1⟩ := bq2 BK184.out
     go_wp2
     go_meet
     case rel => exact ⟨_, (true), rX, H', ⟨by first | omega | exact Nat.le_refl _⟩, ⟨kk BK183⟩, ⟨kk BK184⟩, ⟨bw⟩⟩
    ·rw [if_neg c14] at H
     have c14b0 : decide (256 < a1_0) = false := decide_eq_false c14
     clear c14
     have H' := Aside0.mk H
     clear H
     have hnb17 := NB184_183.out
     have hnc17 := NB183_184.out
     obtain ⟨hcz18_0, hcz18_1, hfz18_0, hfz18_1⟩ := bq2 BK184.out
     go_wp2
     go_meet
     case rel => exact ⟨_, (decide ((l1_1.length : Int) > 256)), rX, H', ⟨by first | omega | exact Nat.le_refl _⟩, ⟨kk BK183⟩, ⟨kk BK184⟩, ⟨bw⟩⟩
  case rest =>
   clear HC5 c4b0 c4b1 hcz9_0 hcz9_1 hcz9_2 hfz9_0 hfz9_1 hfz9_2
   obtain ⟨kq, x26_4, rfl, HA, HJ4, BK183, BK184, HB⟩ := hcut
   cases kq with
   | zero => exact absurd HA.out (by simp [r9_Check.j0])
   | succ kj4 =>
    have H := HA.out
    clear HA
    simp only [r9_Check.j0] at H
    by_cases c19 : x26_4 = true
    ·subst c19
     have H1 : (some 3) = some r := by rw [if_pos rfl] at H; exact H
     clear H
     have H := H1
     clear H1
     obtain rfl := Option.some.inj H
     go_wp2
     go_ret
     exact ⟨rW, bw⟩
    ·replace c19 := Bool.eq_false_iff.mpr c19
     subst c19
     have H1 : (r9_Check.l0 kj4 0 a0_0 a0_1 l0_2 a1_0 l1_1) = some r := by rw [if_neg (show ¬ (false = true) by decide)] at H; exact H
     clear H
     have H := H1
     clear H1
     have H' := Aside0.mk H
     clear H
     go_wp2
     go_loopg [6] kj4 (fun kq v6 w' => ∃ (x6_2 : Int), v6 = .int .i64 x6_2 ∧ Aside0 (r9_Check.l0 kq x6_2 a0_0 a0_1 l0_2 a1_0 l1_1 = some r) ∧ Aside0 (kq ≤ kj4) ∧ Aside0 (w'.heap[gb183]? = some (.cells #[.int .i64 a0_0, .int .i64 a0_1, (.slice A0_2 l0_2.length c0_2)] 36 (0, 0))) ∧ Aside0 (w'.heap[gb184]? = some (.cells #[.int .i64 a1_0, (.slice A1_1 l1_1.length c1_1)] 101 (0, 0))) ∧ Aside0 (Below w.heap.size w w'))
     case atStart => exact ⟨(0), rX, H', ⟨Nat.le_refl _⟩, ⟨kk BK183⟩, ⟨kk BK184⟩, ⟨bw⟩⟩
     case round =>
      clear H'
      obtain ⟨x6_2, rfl, HA, HK2, BK183, BK184, HB⟩ := hrel
      cases gk with
      | zero => exact absurd HA.out (by simp [r9_Check.l0])
      | succ k2 =>
       have H := HA.out
       clear HA
       simp only [r9_Check.l0] at H
       by_cases c20 : x6_2 < (l1_1.length : Int)
       ·rw [if_pos c20] at H
        have c20b0 := decide_eq_true c20
        clear c20
        obtain ⟨c21, H⟩ := iE H
        have c21b0 := decide_eq_true c21
        clear c21
        by_cases c22 : ((rd_L1 l1_1 x6_2).length : Int) = a1_0
        ·rw [if_pos c22] at H
         have c22b0 := beq_iff_eq.mpr c22
         have c22b1 := bne_eq_false_iff_eq.mpr c22
         clear c22
         have H' := Aside0.mk H
         clear H
         have hnb23 := NB184_183.out
         have hnc23 := NB183_184.out
         obtain ⟨hcz24_0, hcz24_1, hfz24_0, hfz24_1⟩ := bq2 BK184.out
         try go_wp2
         replace BK183 := Aside0.mk (blk_drew BK183.out)
         replace BK184 := Aside0.mk (blk_drew BK184.out)
         replace HB := Aside0.mk (below_drew1 HB.out)
         have p186 : 0 ≤ (x6_2 : Int) := dT
         have q186 : x6_2 < (l1_1.length : Int) := dT
         obtain ⟨ad186, A186_0, c186_0, e186, hx186_0, hl186_0, hi186_0⟩ := at_L1 HR1_1.out x6_2 p186 q186
         have hw186_0 := hx186_0
         cases e186
         replace hx186_0 := cw HB hx186_0
         have HR186_0 := Aside0.mk hi186_0
         have HC186_0 := Aside0.mk hl186_0
         clear hi186_0 hl186_0
         replace p186 := eq_true p186
         replace q186 := eq_true q186
         refine start_ (n := 9) (S := fun w' => w'.cell? ⟨gb184, 0, none⟩ = some (.int .i64 a1_0) ∧ w'.cell? ⟨gb184, 1, none⟩ = some (.slice (some ad186) l1_1.length c1_1) ∧ w'.cell? (ad186.add (x6_2).toNat) = some (.slice A186_0 (rd_L1 l1_1 x6_2).length c186_0)) (ds := []) (bb 9 0) (by kernel_rfl) rfl rfl ⟨bc0 BK184.out, bc1 BK184.out, (cw HB hw186_0)⟩ (fun hHeld => ?_); refine with_tabW r9_Check.tab9 r9_Check.bits9 (fun HT_ HW_ => ?_)
         generalize wr.drew = w25 at BK183 BK184 HB HR186_0 hx186_0 hHeld ⊢
         refine pq HT_ 0 34 (bb 9 1) ?_
         refine pq HT_ 2 36 (bb 9 5) ?_
         refine pq HT_ 6 40 (bb 9 69) ?_
         refine tq HT_ HW_ hHeld 1 35 (bb 9 71) ?_
         refine pq HT_ 3 37 (bb 9 79) ?_
         refine tq HT_ HW_ hHeld 4 38 (bb 9 95) ?_
         refine pq HT_ 5 39 (bb 9 127) ?_
         refine tq HT_ HW_ hHeld 7 41 (bb 9 255) ?_
         refine pq HT_ 8 42 (bb 9 511) ?_
         refine dq HT_ ?_
         try go_wp2
         go_roundg k2
         case measure => have := HJ4.out; have := HK2.out; omega
         case rel => exact ⟨(wrap64 (x6_2 + 1)), rX, H', ⟨by have := HJ4.out; have := HK2.out; omega⟩, ⟨kk BK183⟩, ⟨kk BK184⟩, ⟨bw⟩⟩
        ·rw [if_neg c22] at H
         have c22b0 := beq_eq_false_iff_ne.mpr c22
         have c22b1 := bne_iff_ne.mpr c22
         obtain rfl := Option.some.inj H
         have hnb26 := NB184_183.out
         have hnc26 := NB183_184.out
         obtain ⟨hcz27_0, hcz27_1, hfz27_0, hfz27_1⟩ := bq2 BK184.out
         try go_wp2
         replace BK183 := Aside0.mk (blk_drew BK183.out)
         replace BK184 := Aside0.mk (blk_drew BK184.out)
         replace HB := Aside0.mk (below_drew1 HB.out)
         have p186 : 0 ≤ (x6_2 : Int) := dT
         have q186 : x6_2 < (l1_1.length : Int) := dT
         obtain ⟨ad186, A186_0, c186_0, e186, hx186_0, hl186_0, hi186_0⟩ := at_L1 HR1_1.out x6_2 p186 q186
         have hw186_0 := hx186_0
         cases e186
         replace hx186_0 := cw HB hx186_0
         have HR186_0 := Aside0.mk hi186_0
         have HC186_0 := Aside0.mk hl186_0
         clear hi186_0 hl186_0
         replace p186 := eq_true p186
         replace q186 := eq_true q186
         refine start_ (n := 9) (S := fun w' => w'.cell? ⟨gb184, 0, none⟩ = some (.int .i64 a1_0) ∧ w'.cell? ⟨gb184, 1, none⟩ = some (.slice (some ad186) l1_1.length c1_1) ∧ w'.cell? (ad186.add (x6_2).toNat) = some (.slice A186_0 (rd_L1 l1_1 x6_2).length c186_0)) (ds := []) (bb 9 0) (by kernel_rfl) rfl rfl ⟨bc0 BK184.out, bc1 BK184.out, (cw HB hw186_0)⟩ (fun hHeld => ?_); refine with_tabW r9_Check.tab9 r9_Check.bits9 (fun HT_ HW_ => ?_)
         generalize wr.drew = w28 at BK183 BK184 HB HR186_0 hx186_0 hHeld ⊢
         refine pq HT_ 0 34 (bb 9 1) ?_
         refine pq HT_ 2 36 (bb 9 5) ?_
         refine pq HT_ 6 40 (bb 9 69) ?_
         refine tq HT_ HW_ hHeld 1 35 (bb 9 71) ?_
         refine pq HT_ 3 37 (bb 9 79) ?_
         refine tq HT_ HW_ hHeld 4 38 (bb 9 95) ?_
         refine pq HT_ 5 39 (bb 9 127) ?_
         refine tq HT_ HW_ hHeld 7 41 (bb 9 255) ?_
         refine pq HT_ 8 42 (bb 9 511) ?_
         refine dq HT_ ?_
         try go_wp2
         go_ret
         exact ⟨rW, bw⟩
       ·rw [if_neg c20] at H
        have c20b0 := decide_eq_false c20
        clear c20
        have H' := Aside0.mk H
        clear H
        have hnb29 := NB184_183.out
        have hnc29 := NB183_184.out
        obtain ⟨hcz30_0, hcz30_1, hfz30_0, hfz30_1⟩ := bq2 BK184.out
        go_wp2
        go_loopg [7] k2 (fun kq v7 w' => ∃ (x7_3 : Int), v7 = .int .i64 x7_3 ∧ Aside0 (r9_Check.l1 kq x7_3 a0_0 a0_1 l0_2 a1_0 l1_1 = some r) ∧ Aside0 (kq ≤ k2) ∧ Aside0 (w'.heap[gb183]? = some (.cells #[.int .i64 a0_0, .int .i64 a0_1, (.slice A0_2 l0_2.length c0_2)] 36 (0, 0))) ∧ Aside0 (w'.heap[gb184]? = some (.cells #[.int .i64 a1_0, (.slice A1_1 l1_1.length c1_1)] 101 (0, 0))) ∧ Aside0 (Below w.heap.size w w'))
        case atStart => exact ⟨(0), rX, H', ⟨Nat.le_refl _⟩, ⟨kk BK183⟩, ⟨kk BK184⟩, ⟨bw⟩⟩
        case round =>
         clear H' c20b0 hcz30_0 hcz30_1 hfz30_0 hfz30_1
         obtain ⟨x7_3, rfl, HA, HK3, BK183, BK184, HB⟩ := hrel
         cases gk with
         | zero => exact absurd HA.out (by simp [r9_Check.l1])
         | succ k3 =>
          have H := HA.out
          clear HA
          simp only [r9_Check.l1] at H
          by_cases c31 : x7_3 < (l1_1.length : Int)
          ·rw [if_pos c31] at H
           have c31b0 := decide_eq_true c31
           clear c31
           obtain ⟨c32, H⟩ := iE H
           have c32b0 := decide_eq_true c32
           clear c32
           obtain ⟨t188, A33, H⟩ := bE H
           by_cases c34 : t188 = 0
           ·rw [if_pos c34] at H
            have c34b0 := beq_iff_eq.mpr c34
            have c34b1 := bne_eq_false_iff_eq.mpr c34
            clear c34
            have H' := Aside0.mk H
            clear H
            have hnb35 := NB184_183.out
            have hnc35 := NB183_184.out
            obtain ⟨hcz36_0, hcz36_1, hfz36_0, hfz36_1⟩ := bq2 BK184.out
            try go_wp2
            replace BK183 := Aside0.mk (blk_drew BK183.out)
            replace BK184 := Aside0.mk (blk_drew BK184.out)
            replace HB := Aside0.mk (below_drew1 HB.out)
            have p187 : 0 ≤ (x7_3 : Int) := dT
            have q187 : x7_3 < (l1_1.length : Int) := dT
            obtain ⟨ad187, A187_0, c187_0, e187, hx187_0, hl187_0, hi187_0⟩ := at_L1 HR1_1.out x7_3 p187 q187
            have hw187_0 := hx187_0
            cases e187
            replace hx187_0 := cw HB hx187_0
            have HR187_0 := Aside0.mk hi187_0
            have HC187_0 := Aside0.mk hl187_0
            clear hi187_0 hl187_0
            replace p187 := eq_true p187
            replace q187 := eq_true q187
            refine start_ (n := 8) (S := fun w' => w'.cell? ⟨gb183, 0, none⟩ = some (.int .i64 a0_0) ∧ w'.cell? ⟨gb183, 1, none⟩ = some (.int .i64 a0_1) ∧ w'.cell? ⟨gb183, 2, none⟩ = some (.slice A0_2 l0_2.length c0_2) ∧ w'.cell? ⟨gb184, 0, none⟩ = some (.int .i64 a1_0) ∧ w'.cell? ⟨gb184, 1, none⟩ = some (.slice (some ad187) l1_1.length c1_1) ∧ w'.cell? (ad187.add (x7_3).toNat) = some (.slice A187_0 (rd_L1 l1_1 x7_3).length c187_0)) (ds := []) (bb 8 0) (by kernel_rfl) rfl rfl ⟨bc0 BK183.out, bc1 BK183.out, bc2 BK183.out, bc0 BK184.out, bc1 BK184.out, (cw HB hw187_0)⟩ (fun hHeld => ?_); refine with_tabW r9_Check.tab14 r9_Check.bits14 (fun HT_ HW_ => ?_)
            generalize wr.drew = w37 at BK183 BK184 HB HR187_0 hx187_0 hHeld ⊢
            refine pq HT_ 1 51 (bb 8 2) ?_
            refine pq HT_ 3 53 (bb 8 10) ?_
            refine tq HT_ HW_ hHeld 0 50 (bb 8 11) ?_
            refine tq HT_ HW_ hHeld 2 52 (bb 8 15) ?_
            refine pq HT_ 4 54 (bb 8 31) ?_
            refine tq HT_ HW_ hHeld 5 55 (bb 8 63) ?_
            refine oq HT_ 6 (some 56) (bb 8 127) (fun K hK => ?_)
            refine gq Try.func130 #[.agg #[.int .i64 a0_0, .int .i64 a0_1, .slice A0_2 l0_2.length c0_2], .slice A187_0 (rd_L1 l1_1 x7_3).length c187_0] ?_
            with_reducible refine (r9_Entries.calls k3 a0_0 a0_1 _ _ l0_2 _ _ (rd_L1 l1_1 x7_3) t188 _ (Kd.C_below HR0_2.out bw) HC0_2.out (Kd.C_below HR187_0.out bw) HC187_0.out A33.out).mono ?_
            rintro e w38 ⟨rfl, hb⟩
            refine ⟨_, rfl, ?_⟩
            replace BK183 := Aside0.mk (bkb BK183 hb)
            replace BK184 := Aside0.mk (bkb BK184 hb)
            replace HB := Aside0.mk (below_step bw hb)
            clear hb
            refine hK.out _ _ ⟨bc0 BK183.out, bc1 BK183.out, bc2 BK183.out, bc0 BK184.out, bc1 BK184.out, (cw HB hw187_0)⟩ (fun hHeld => ?_)
            clear hK K
            refine nq 56 ?_
            refine pq HT_ 7 5 (bb 8 255) ?_
            refine dq HT_ ?_
            try go_wp2
            go_roundg k3
            case measure => have := HJ4.out; have := HK2.out; have := HK3.out; omega
            case rel => exact ⟨(wrap64 (x7_3 + 1)), rX, H', ⟨by have := HJ4.out; have := HK2.out; have := HK3.out; omega⟩, ⟨kk BK183⟩, ⟨kk BK184⟩, ⟨bw⟩⟩
           ·rw [if_neg c34] at H
            have c34b0 := beq_eq_false_iff_ne.mpr c34
            have c34b1 := bne_iff_ne.mpr c34
            obtain rfl := Option.some.inj H
            have hnb39 := NB184_183.out
            have hnc39 := NB183_184.out
            obtain ⟨hcz40_0, hcz40_1, hfz40_0, hfz40_1⟩ := bq2 BK184.out
            try go_wp2
            replace BK183 := Aside0.mk (blk_drew BK183.out)
            replace BK184 := Aside0.mk (blk_drew BK184.out)
            replace HB := Aside0.mk (below_drew1 HB.out)
            have p187 : 0 ≤ (x7_3 : Int) := dT
            have q187 : x7_3 < (l1_1.length : Int) := dT
            obtain ⟨ad187, A187_0, c187_0, e187, hx187_0, hl187_0, hi187_0⟩ := at_L1 HR1_1.out x7_3 p187 q187
            have hw187_0 := hx187_0
            cases e187
            replace hx187_0 := cw HB hx187_0
            have HR187_0 := Aside0.mk hi187_0
            have HC187_0 := Aside0.mk hl187_0
            clear hi187_0 hl187_0
            replace p187 := eq_true p187
            replace q187 := eq_true q187
            refine start_ (n := 8) (S := fun w' => w'.cell? ⟨gb183, 0, none⟩ = some (.int .i64 a0_0) ∧ w'.cell? ⟨gb183, 1, none⟩ = some (.int .i64 a0_1) ∧ w'.cell? ⟨gb183, 2, none⟩ = some (.slice A0_2 l0_2.length c0_2) ∧ w'.cell? ⟨gb184, 0, none⟩ = some (.int .i64 a1_0) ∧ w'.cell? ⟨gb184, 1, none⟩ = some (.slice (some ad187) l1_1.length c1_1) ∧ w'.cell? (ad187.add (x7_3).toNat) = some (.slice A187_0 (rd_L1 l1_1 x7_3).length c187_0)) (ds := []) (bb 8 0) (by kernel_rfl) rfl rfl ⟨bc0 BK183.out, bc1 BK183.out, bc2 BK183.out, bc0 BK184.out, bc1 BK184.out, (cw HB hw187_0)⟩ (fun hHeld => ?_); refine with_tabW r9_Check.tab14 r9_Check.bits14 (fun HT_ HW_ => ?_)
            generalize wr.drew = w41 at BK183 BK184 HB HR187_0 hx187_0 hHeld ⊢
            refine pq HT_ 1 51 (bb 8 2) ?_
            refine pq HT_ 3 53 (bb 8 10) ?_
            refine tq HT_ HW_ hHeld 0 50 (bb 8 11) ?_
            refine tq HT_ HW_ hHeld 2 52 (bb 8 15) ?_
            refine pq HT_ 4 54 (bb 8 31) ?_
            refine tq HT_ HW_ hHeld 5 55 (bb 8 63) ?_
            refine oq HT_ 6 (some 56) (bb 8 127) (fun K hK => ?_)
            refine gq Try.func130 #[.agg #[.int .i64 a0_0, .int .i64 a0_1, .slice A0_2 l0_2.length c0_2], .slice A187_0 (rd_L1 l1_1 x7_3).length c187_0] ?_
            with_reducible refine (r9_Entries.calls k3 a0_0 a0_1 _ _ l0_2 _ _ (rd_L1 l1_1 x7_3) t188 _ (Kd.C_below HR0_2.out bw) HC0_2.out (Kd.C_below HR187_0.out bw) HC187_0.out A33.out).mono ?_
            rintro e w42 ⟨rfl, hb⟩
            refine ⟨_, rfl, ?_⟩
            replace BK183 := Aside0.mk (bkb BK183 hb)
            replace BK184 := Aside0.mk (bkb BK184 hb)
            replace HB := Aside0.mk (below_step bw hb)
            clear hb
            refine hK.out _ _ ⟨bc0 BK183.out, bc1 BK183.out, bc2 BK183.out, bc0 BK184.out, bc1 BK184.out, (cw HB hw187_0)⟩ (fun hHeld => ?_)
            clear hK K
            refine nq 56 ?_
            refine pq HT_ 7 5 (bb 8 255) ?_
            refine dq HT_ ?_
            try go_wp2
            go_ret
            exact ⟨rW, bw⟩
          ·rw [if_neg c31] at H
           have c31b0 := decide_eq_false c31
           clear c31
           obtain rfl := Option.some.inj H
           have hnb43 := NB184_183.out
           have hnc43 := NB183_184.out
           obtain ⟨hcz44_0, hcz44_1, hfz44_0, hfz44_1⟩ := bq2 BK184.out
           go_wp2
           go_ret
           exact ⟨rW, bw⟩
 ·rw [if_neg c4] at H
  have c4b0 := beq_eq_false_iff_ne.mpr c4
  have c4b1 := bne_iff_ne.mpr c4
  obtain rfl := Option.some.inj H
  go_enter Try.func109, Try.ntmps109
  go_wp2_with (first | ((with_reducible refine gate_dst (N := 2) rfl ?_); (try (refine gate_guard (by rfl) ?_; dsimp only)); refine box_event ?hg (N := 2) ?hd (cs := #[.int .i64 a0_0, .int .i64 a0_1, .slice A0_2 l0_2.length c0_2]) (t := 36) ?hr ?_; (case hd => rfl); (case hg => rfl); (case hr => first | (go_simp; done) | (go_simp; rfl)); intro gb183 hg w45 hbox hb; have BK183 := Aside0.mk (hbox); have GW183 := Aside0.mk ((by rw [hg]; exact (below_size bw) : w.heap.size ≤ gb183)); have GE183 := Aside0.mk ((by rw [hg]; exact (below_size bw) : w.heap.size ≤ gb183)); replace HB := Aside0.mk (below_step bw hb); clear hb hbox hg) | ((with_reducible refine gate_dst (N := 3) rfl ?_); (try (refine gate_guard (by rfl) ?_; dsimp only)); refine box_event ?hg (N := 3) ?hd (cs := #[.int .i64 a1_0, .slice A1_1 l1_1.length c1_1]) (t := 101) ?hr ?_; (case hd => rfl); (case hg => rfl); (case hr => first | (go_simp; done) | (go_simp; rfl)); intro gb184 hg w46 hbox hb; have BK184 := Aside0.mk (hbox); have GW184 := Aside0.mk ((by rw [hg]; exact (below_size bw) : w.heap.size ≤ gb184)); have GE184 := Aside0.mk ((by rw [hg]; exact (below_size bw) : w.heap.size ≤ gb184)); replace HB := Aside0.mk (below_step bw hb); have NB183_184 := Aside0.mk ((by rw [hg]; exact Nat.ne_of_lt (blk_lt (g := gb183) (o := .cells #[.int .i64 a0_0, .int .i64 a0_1, .slice A0_2 l0_2.length c0_2] 36 (0, 0)) (kk BK183)) : gb183 ≠ gb184)); have NB184_183 := Aside0.mk ((by rw [hg]; exact Nat.ne_of_gt (blk_lt (g := gb183) (o := .cells #[.int .i64 a0_0, .int .i64 a0_1, .slice A0_2 l0_2.length c0_2] 36 (0, 0)) (kk BK183)) : gb184 ≠ gb183)); replace BK183 := Aside0.mk (bkb BK183 hb); clear hb hbox hg; have hnb47 := NB183_184.out; have hnc47 := NB184_183.out; obtain ⟨hcz48_0, hcz48_1, hcz48_2, hfz48_0, hfz48_1, hfz48_2⟩ := bq3 BK183.out) | (refine gL 9 Try.func40 #[.agg #[.int .i64 a0_0, .int .i64 a0_1, .slice A0_2 l0_2.length c0_2]] ?_; (with_reducible refine (r4_Check.calls k a0_0 a0_1 _ _ l0_2 t185 _ (Kd.C_below HR0_2.out bw) HC0_2.out A3.out).mono ?_); rintro e w49 ⟨rfl, hb⟩; refine ⟨_, rfl, ?_⟩; replace BK183 := Aside0.mk (bkb BK183 hb); replace BK184 := Aside0.mk (bkb BK184 hb); replace HB := Aside0.mk (below_step bw hb); (try clear hb)))
  go_ret
  exact ⟨rW, bw⟩
def r9_Copy.l0 : Nat → List (List Int) → List (List Int) → Int → Option ((List (List Int)))
 | 0, _, _, _ => none
 | k + 1, x0, x3, x4 => if x4 < (x0.length : Int) then ((some (([] : List Int) : List Int)).bind fun y189 => (if 0 ≤ x4 then (if y189.length + (rd_L1 x0 x4).length < 17592186044416 then (if x3.length < 5864062014805 then (r9_Copy.l0 k x0 (x3 ++ [(y189 ++ (rd_L1 x0 x4))]) (wrap64 (x4 + 1))) else (none)) else (none)) else (none))) else (some x3)
def r9_Copy.f (k : Nat) (l0 : List (List Int)) : Option ((List (List Int))) := r9_Copy.l0 k l0 ([] : List (List Int)) 0
theorem r9_Copy.calls (k : Nat) (A0 : Option Addr) (c0 : Nat) (l0 : List (List Int)) (r : List (List Int)) (w : World) (hr0 : Kd.C (Kd.slice 3 (Kd.int .i64)) w A0 l0.length l0) (hc0 : l0.length ≤ c0) (h : r9_Copy.f k l0 = some r) :
  Calls Try.prog 138 #[.slice A0 l0.length c0] w fun e w' => ∃ v0_ : Value, e = .returned (v0_) ∧ Kd.S (Kd.slice 3 (Kd.int .i64)) 22 w' w.heap.size (fun _ => True) v0_ r ∧ Below w.heap.size w w' := by
 have HR0 := Aside0.mk hr0
 have HC0 := Aside0.mk hc0
 clear hr0 hc0
 have HB := Aside0.mk (Below.refl w.heap.size w)
 have H := h
 clear h
 unfold r9_Copy.f at H
 have H' := Aside0.mk H
 clear H
 go_enter Try.func138, Try.ntmps138
 go_wp2
 go_loopg [3, 4] k (fun kq v3 v4 w' => ∃ (x3_1 : List (List Int)) (x4_1 : Int), v4 = .int .i64 x4_1 ∧ Aside0 (r9_Copy.l0 kq l0 x3_1 x4_1 = some r) ∧ Aside0 (kq ≤ k) ∧ Aside0 (Kd.S (Kd.slice 3 (Kd.int .i64)) 22 w' w.heap.size (fun _ => True) v3 x3_1) ∧ Aside0 (Below w.heap.size w w'))
 case atStart => exact ⟨(([] : List (List Int))), (0), rX, H', ⟨Nat.le_refl _⟩, ⟨by first | exact Kd.S_nil _ _ _ _ _ | exact Kd.N_nil _ _ _ _ _ | exact Kd.V_nil _ _ _ _ _ | exact Kd.Q_nil _ _ _ _ _ | exact Kd.R_nil _ _ _ _ _⟩, ⟨bw⟩⟩
 case round =>
  clear H'
  obtain ⟨x3_1, x4_1, rfl, HA, HK1, HO_3, HB⟩ := hrel
  cases gk with
  | zero => exact absurd HA.out (by simp [r9_Copy.l0])
  | succ k1 =>
   have H := HA.out
   clear HA
   simp only [r9_Copy.l0] at H
   by_cases c2 : x4_1 < (l0.length : Int)
   ·rw [if_pos c2] at H
    have c2b0 := decide_eq_true c2
    clear c2
    obtain ⟨y189, hy189⟩ : ∃ y_ : List Int, y_ = (([] : List Int)) := ⟨_, rfl⟩
    replace H : (if 0 ≤ x4_1 then (if y189.length + (rd_L1 l0 x4_1).length < 17592186044416 then (if x3_1.length < 5864062014805 then (r9_Copy.l0 k1 l0 (x3_1 ++ [(y189 ++ (rd_L1 l0 x4_1))]) (wrap64 (x4_1 + 1))) else (none)) else (none)) else (none)) = some r := by first | (rw [hy189]; with_reducible exact H) | (have H2_ := (Option.bind_some _ _).symm.trans H; rw [hy189]; with_reducible exact H2_) | (have H2_ := (Option.bind_some _ _).symm.trans H; with_reducible exact H2_) | with_reducible exact H | (rw [hy189]; exact H) | exact H
    have Ny189 := Aside0.mk hy189
    clear hy189
    obtain ⟨c3, H⟩ := iE H
    have c3b0 := decide_eq_true c3
    clear c3
    obtain ⟨c4, H⟩ := iE H
    have LMc4 := Aside0.mk c4
    clear c4
    obtain ⟨y193, hy193⟩ : ∃ y_ : List Int, y_ = (y189 ++ (rd_L1 l0 x4_1)) := ⟨_, rfl⟩
    replace H : (if x3_1.length < 5864062014805 then (r9_Copy.l0 k1 l0 (x3_1 ++ [y193]) (wrap64 (x4_1 + 1))) else (none)) = some r := by first | (rw [hy193]; with_reducible exact H) | (have H2_ := (Option.bind_some _ _).symm.trans H; rw [hy193]; with_reducible exact H2_) | (have H2_ := (Option.bind_some _ _).symm.trans H; with_reducible exact H2_) | with_reducible exact H | (rw [hy193]; exact H) | exact H
    have Ny193 := Aside0.mk hy193
    clear hy193
    obtain ⟨c5, H⟩ := iE H
    have LMc5 := Aside0.mk c5
    clear c5
    obtain ⟨y196, hy196⟩ : ∃ y_ : List (List Int), y_ = (x3_1 ++ [y193]) := ⟨_, rfl⟩
    replace H : (r9_Copy.l0 k1 l0 y196 (wrap64 (x4_1 + 1))) = some r := by first | (rw [hy196]; with_reducible exact H) | (have H2_ := (Option.bind_some _ _).symm.trans H; rw [hy196]; with_reducible exact H2_) | (have H2_ := (Option.bind_some _ _).symm.trans H; with_reducible exact H2_) | with_reducible exact H | (rw [hy196]; exact H) | exact H
    have Ny196 := Aside0.mk hy196
    clear hy196
    have H' := Aside0.mk H
    clear H
    go_wp2_with (first | ((with_reducible refine gate_dst (N := 12) rfl ?_); refine Kd.R_lit (Kd.int .i64) _ 3 ?hg (N := 12) ?hd (xs := ([] : List Int)) (inner := []) (ok := fun _ => True) (okp := fun _ => True) ?hr ?hp (fun _ hk => hk) trivial (Below.refl _ _) (Nat.le_refl _) (by simp) ?_; (case hd => rfl); (case hg => rfl); (case hr => first | (go_simp; done) | (go_simp; rfl)); (case hp => exact (Reps.none _ _)); intro v190 w6 ho7 hb hg_ hnew_; clear hg_ hnew_; (first | rw [← Ny189.out] at ho7 | (simp only [Int.reduceToNat] at ho7; rw [← Ny189.out] at ho7)); replace HO_3 := Aside0.mk (Kd.S_elder' (by (with_reducible repeat (first | apply Kd.S_alloc | apply Kd.S_drewN | apply Kd.S_drew)); exact HO_3.out) (Kd.R_base ho7) hb); have HO191 := Aside0.mk (Kd.R_lower ho7 (below_size bw)); replace HB := Aside0.mk (below_step bw hb); clear hb ho7; have p192 : 0 ≤ (x4_1 : Int) := dT; have q192 : x4_1 < (l0.length : Int) := dT; obtain ⟨ad192, A192_0, c192_0, e192, hx192_0, hl192_0, hi192_0⟩ := at_L1 HR0.out x4_1 p192 q192; cases e192; replace hx192_0 := cw HB hx192_0; have HR192_0 := Aside0.mk hi192_0; have HC192_0 := Aside0.mk hl192_0; clear hi192_0 hl192_0; replace p192 := eq_true p192; replace q192 := eq_true q192) | ((with_reducible refine gate_builtin (b := .append) (xs := #[.tmp 12, .tmp 16]) rfl ?_); at_builtin; refine Kd.R_append_rows (Kd.int .i64) (w0 := w) w.heap.size rfl (.tmp 12) (.tmp 16) 22 3 (.int .i64 0) 8 rfl Try.underlying22 info3 rfl (by decide) (by omega) v190 y189 (rd_L1 l0 x4_1) _ _ _ (fun _ => True) (fun _ => False) rfl rfl ?aO ?aR (fun _ _ h => h) (fun _ h => h.elim) ?aF ?aB ?aS ?aL ?_; (case aR => repeat (first | exact (Kd.C_below HR192_0.out HB.out) | (with_reducible refine Kd.C_alloc ?_ _) | (with_reducible refine Kd.C_drewN ?_ _) | (with_reducible refine Kd.C_drew ?_))); (case aB => exact bw); (case aF => exact (fun _ _ => trivial)); (case aO => exact (rR HO191)); (case aS => exact (below_size bw)); (case aL => have := LMc4.out; omega); intro v194 w8 ho hb hg hat; rw [← Ny193.out] at ho; replace HO_3 := Aside0.mk (Kd.S_after (ok := (fun _ => True)) (by (with_reducible repeat (first | apply Kd.S_alloc | apply Kd.S_drewN | apply Kd.S_drew)); exact HO_3.out) hg hat); replace HB := Aside0.mk hb; have HO195 := Aside0.mk (ho); clear HO191; clear ho hb hg hat; obtain ⟨Ao10, co10, eo10⟩ := Kd.R_slice HO195.out; subst eo10) | ((with_reducible refine gate_builtin (b := .append) (xs := #[.tmp 11, .tmp 18]) rfl ?_); at_builtin; refine Kd.S_append (Kd.slice 3 (Kd.int .i64)) (w0 := w) w.heap.size rfl (.tmp 11) (.tmp 18) 47 22 (.slice none 0 0) 24 rfl Try.underlying47 info22 rfl (by decide) (by omega) u3 x3_1 y193 [.slice Ao10 y193.length co10] (fun _ => True) (fun k_ => some k_ = (.slice Ao10 y193.length co10 : Value).ownBlock) rfl rfl ?aP (fun k_ hk_ => ((Kd.R_mono (ok' := fun k_ => ((fun _ => True)) k_ ∧ some k_ ≠ (u3 : Value).ownBlock) (Kd.R_apart' (HO195.out) (Kd.S_typed HO_3.out) (by decide)) (fun k_ hk => ⟨trivial, hk.2⟩))).1 k_ hk_.symm) ?aF ?aO ?aB ?aS ?aL ?_; (case aP => exact Kd.M_row (Kd.R_mono (Kd.R_tight rfl (Kd.R_mono (ok' := fun k_ => ((fun _ => True)) k_ ∧ some k_ ≠ (u3 : Value).ownBlock) (Kd.R_apart' (HO195.out) (Kd.S_typed HO_3.out) (by decide)) (fun k_ hk => ⟨trivial, hk.2⟩))) (fun _ h_ => h_))); (case aB => exact bw); (case aF => exact (fun _ _ => trivial)); (case aO => exact (by (with_reducible repeat (first | apply Kd.S_alloc | apply Kd.S_drewN | apply Kd.S_drew)); exact Kd.S_mono HO_3.out (fun k_ hk => ⟨trivial, fun e_ => hk.2 e_⟩))); (case aS => exact (below_size bw)); (case aL => have := LMc5.out; omega); intro v197 w9 ho hb hg hat; rw [← Ny196.out] at ho; replace HB := Aside0.mk hb; have HO198 := Aside0.mk (ho); clear HO_3 HO195; clear ho hb hg hat))
    go_roundg k1
    case measure => have := HK1.out; omega
    case rel => exact ⟨(y196), (wrap64 (x4_1 + 1)), rX, H', mK, ⟨by (with_reducible repeat (first | apply Kd.S_alloc | apply Kd.S_drewN | apply Kd.S_drew)); exact HO198.out⟩, ⟨bw⟩⟩
   ·rw [if_neg c2] at H
    have c2b0 := decide_eq_false c2
    clear c2
    obtain rfl := Option.some.inj H
    go_wp2
    go_ret
    exact ⟨_, rW, by (with_reducible repeat (first | apply Kd.S_alloc | apply Kd.S_drewN | apply Kd.S_drew)); exact HO_3.out, bw⟩
def r9_scale.l0 : Nat → Int → List Int → List Int → Int → Int → Int → List Int → Option (List Int)
 | 0, _, _, _, _, _, _, _ => none
 | k + 1, x1, x2, x7, x8, x200000, x200001, x200002 => if x8 < (x2.length : Int) then (if 0 ≤ x8 then ((r4_Mul.f k x200000 x200001 x200002 x1 (rd x2 x8)).bind fun t204 => (if x8 < (x7.length : Int) then (r9_scale.l0 k x1 x2 (x7.set (x8 : Int).toNat t204) (wrap64 (x8 + 1)) x200000 x200001 x200002) else (none))) else (none)) else (some x7)
def r9_scale.f (k : Nat) (a0_0 : Int) (a0_1 : Int) (l0_2 : List Int) (a1 : Int) (l2 : List Int) : Option (List Int) := if 0 ≤ (l2.length : Int) then (if ((l2.length : Int) : Int).toNat ≤ 35184372088832 then (r9_scale.l0 k a1 l2 (List.replicate ((l2.length : Int) : Int).toNat 0) 0 a0_0 a0_1 l0_2) else (none)) else (none)
def r9_scale.T5 : Bool × List (List Nat × List Nat) := (true, [([], []), ([], []), ([], []), ([], []), ([], []), ([], []), ([4, 5], [4, 5]), ([6], [6]), ([2, 3, 7], [2, 3, 7]), ([0, 1, 0, 1, 2, 3, 4, 5, 6, 7, 8], [0, 1]), ([9, 8, 8, 0, 1, 2, 3, 4, 5, 6, 7, 8], [8, 9])])
def r9_scale.B5 : List Nat := [0, 0, 0, 0, 0, 0, 48, 112, 252, 511, 1023]
theorem r9_scale.tab5 : rtab .any (opsOf Try.f139 5) = r9_scale.T5 := by kernel_rfl
theorem r9_scale.bits5 : waitsOk r9_scale.T5.2 r9_scale.B5 = true := by kernel_rfl
theorem r9_scale.calls (k : Nat) (a0_0 : Int) (a0_1 : Int) (A0_2 : Option Addr) (c0_2 : Nat) (l0_2 : List Int) (a1 : Int) (A2 : Option Addr) (c2 : Nat) (l2 : List Int) (r : List Int) (w : World) (hr0_2 : Kd.C (Kd.int .i64) w A0_2 l0_2.length l0_2) (hc0_2 : l0_2.length ≤ c0_2) (hr2 : Kd.C (Kd.int .i64) w A2 l2.length l2) (hc2 : l2.length ≤ c2) (h : r9_scale.f k a0_0 a0_1 l0_2 a1 l2 = some r) :
  Calls Try.prog 139 #[.agg #[.int .i64 a0_0, .int .i64 a0_1, .slice A0_2 l0_2.length c0_2], .int .i64 a1, .slice A2 l2.length c2] w fun e w' => ∃ v0_ : Value, e = .returned (v0_) ∧ Kd.R (Kd.int .i64) 3 w' w.heap.size (fun _ => True) v0_ r ∧ Below w.heap.size w w' := by
 have hu36 := Try.underlying36
 have HR0_2 := Aside0.mk hr0_2
 have HC0_2 := Aside0.mk hc0_2
 clear hr0_2 hc0_2
 have HR2 := Aside0.mk hr2
 have HC2 := Aside0.mk hc2
 clear hr2 hc2
 have HB := Aside0.mk (Below.refl w.heap.size w)
 have H := h
 clear h
 unfold r9_scale.f at H
 obtain ⟨c4, H⟩ := iE H
 have c4b0 := eq_true c4
 have c4b1 := decide_eq_true c4
 clear c4
 obtain ⟨c5, H⟩ := iE H
 have c5b0 := eq_true c5
 have c5b1 := decide_eq_true c5
 clear c5
 obtain ⟨y200, hy200⟩ : ∃ y_ : List Int, y_ = (List.replicate ((l2.length : Int) : Int).toNat 0) := ⟨_, rfl⟩
 (try rw [Option.bind_some] at H); (try rw [← hy200] at H)
 have Ny200 := Aside0.mk hy200
 clear hy200
 have H' := Aside0.mk H
 clear H
 go_enter Try.func139, Try.ntmps139
 go_wp2_with (first | (refine bz 3 #[.int .i64 a0_0, .int .i64 a0_1, .slice A0_2 l0_2.length c0_2] 36 ?_; clear HB; intro gb199 w6 BK199 GW199 GE199 HB) | ((with_reducible refine gate_dst (N := 11) rfl ?_); refine Kd.R_make (Kd.int .i64) _ 3 rfl (N := 11) rfl 22 _ _ rfl (l2.length : Int) rfl rfl Try.underlying22 (.int .i64 0) 8 info3 rfl (by decide) (by omega) 0 (ok := fun _ => True) (okp := fun _ => True) rfl (fun _ hk => hk) trivial (dT) (Nat.le_trans (Nat.mul_le_mul_right _ (dT : (l2.length : Int).toNat ≤ 35184372088832)) (by omega)) (Below.refl _ _) (Nat.le_refl _) ?_; intro v201 w7 ho8 hb hg_ hnew_; clear hg_ hnew_; (first | rw [← Ny200.out] at ho8 | (simp only [Int.reduceToNat] at ho8; rw [← Ny200.out] at ho8)); have HO202 := Aside0.mk (Kd.R_lower ho8 (below_size bw)); replace BK199 := Aside0.mk (bkb BK199 hb); replace HB := Aside0.mk (below_step bw hb); clear hb ho8))
 go_loopg [8] k (fun kq v8 w' => ∃ (x7_1 : List Int) (x8_1 : Int), v8 = .int .i64 x8_1 ∧ Aside0 (r9_scale.l0 kq a1 l2 x7_1 x8_1 a0_0 a0_1 l0_2 = some r) ∧ Aside0 (kq ≤ k) ∧ Aside0 (Kd.R (Kd.int .i64) 3 w' w.heap.size (fun _ => True) v201 x7_1) ∧ Aside0 (w'.heap[gb199]? = some (.cells #[.int .i64 a0_0, .int .i64 a0_1, (.slice A0_2 l0_2.length c0_2)] 36 (0, 0))) ∧ Aside0 (Below w.heap.size w w'))
 case atStart => exact ⟨(y200), (0), rX, H', ⟨Nat.le_refl _⟩, ⟨rR HO202⟩, ⟨kk BK199⟩, ⟨bw⟩⟩
 case round =>
  clear H' c4b0 c4b1 c5b0 c5b1
  obtain ⟨x7_1, x8_1, rfl, HA, HK1, HO_7, BK199, HB⟩ := hrel
  cases gk with
  | zero => exact absurd HA.out (by simp [r9_scale.l0])
  | succ k1 =>
   have H := HA.out
   clear HA
   simp only [r9_scale.l0] at H
   by_cases c9 : x8_1 < (l2.length : Int)
   ·rw [if_pos c9] at H
    have c9b0 := decide_eq_true c9
    clear c9
    obtain ⟨c10, H⟩ := iE H
    have c10b0 := decide_eq_true c10
    clear c10
    obtain ⟨t204, A11, H⟩ := bE H
    obtain ⟨c12, H⟩ := iE H
    have c12b0 := decide_eq_true c12
    clear c12
    obtain ⟨y205, hy205⟩ : ∃ y_ : List Int, y_ = (x7_1.set (x8_1 : Int).toNat t204) := ⟨_, rfl⟩
    (try rw [Option.bind_some] at H); (try rw [← hy205] at H)
    have Ny205 := Aside0.mk hy205
    clear hy205
    have H' := Aside0.mk H
    clear H
    try go_wp2
    replace HO_7 := Aside0.mk (Kd.R_drew HO_7.out)
    replace BK199 := Aside0.mk (blk_drew BK199.out)
    replace HB := Aside0.mk (below_drew1 HB.out)
    have p203 : 0 ≤ (x8_1 : Int) := dT
    have q203 : x8_1 < (l2.length : Int) := dT
    obtain ⟨ad203, e203, hx203_0⟩ := Kd.at_int HR2.out x8_1 p203 q203
    have hw203_0 := hx203_0
    cases e203
    replace hx203_0 := cw HB hx203_0
    replace p203 := eq_true p203
    replace q203 := eq_true q203
    refine start_ (n := 11) (S := fun w' => w'.cell? ⟨gb199, 0, none⟩ = some (.int .i64 a0_0) ∧ w'.cell? ⟨gb199, 1, none⟩ = some (.int .i64 a0_1) ∧ w'.cell? ⟨gb199, 2, none⟩ = some (.slice A0_2 l0_2.length c0_2) ∧ w'.cell? (ad203.add (x8_1).toNat) = some (.int .i64 (rd l2 x8_1))) (ds := [10]) (bb 11 0) (by kernel_rfl) rfl rfl ⟨bc0 BK199.out, bc1 BK199.out, bc2 BK199.out, (cw HB hw203_0)⟩ (fun hHeld => ?_); refine with_tabW r9_scale.tab5 r9_scale.bits5 (fun HT_ HW_ => ?_)
    generalize wr.drew = w14 at HO_7 BK199 HB hx203_0 hHeld ⊢
    refine pq HT_ 0 18 (bb 11 1) ?_
    refine pq HT_ 1 19 (bb 11 3) ?_
    refine pq HT_ 3 21 (bb 11 11) ?_
    refine pq HT_ 4 22 (bb 11 27) ?_
    refine pq HT_ 5 23 (bb 11 59) ?_
    refine pq HT_ 6 24 (bb 11 123) ?_
    refine tq HT_ HW_ hHeld 2 20 (bb 11 127) ?_
    refine tq HT_ HW_ hHeld 7 25 (bb 11 255) ?_
    refine oq HT_ 8 (some 26) (bb 11 511) (fun K hK => ?_)
    refine gq Try.func70 #[.agg #[.int .i64 a0_0, .int .i64 a0_1, .slice A0_2 l0_2.length c0_2], .int .i64 a1, .int .i64 (rd l2 x8_1)] ?_
    with_reducible refine (r4_Mul.calls k1 a0_0 a0_1 _ _ l0_2 a1 (rd l2 x8_1) t204 _ (Kd.C_below HR0_2.out bw) HC0_2.out A11.out).mono ?_
    rintro e w15 ⟨rfl, hb⟩
    refine ⟨_, rfl, ?_⟩
    replace HO_7 := Aside0.mk (Kd.R_below (rR HO_7) hb)
    replace BK199 := Aside0.mk (bkb BK199 hb)
    replace HB := Aside0.mk (below_step bw hb)
    clear hb
    have p13 : 0 ≤ (x8_1 : Int) := dT
    have q13 : (x8_1 : Int) < ((x7_1.length : Int) : Int) := dT
    obtain ⟨go13, co13, eo13, gb13, gl13, cl13, HG13⟩ := Kd.R_form HO_7.out (by omega)
    (first | cases eo13 | (injection eo13 with ea_ en_ ec_; (first | subst ea_ | (injection ea_ with ea_; subst ea_)); subst ec_; clear en_))
    have GB13 := Aside0.mk gb13
    have GG13 := Aside0.mk HG13
    clear gb13 gl13 HG13
    obtain ⟨hx13_0, hf13_0⟩ := Kd.R_celln 0 HO_7.out (x8_1 : Int) p13 q13
    replace p13 := eq_true p13
    replace q13 := eq_true q13
    have HP16 := Kd.R_putn HO_7.out (x8_1 : Int) t204
    rw [← Ny205.out] at HP16
    have HQ16 := Aside0.mk HP16
    clear HP16
    refine hK.out _ _ ⟨bc0 BK199.out, bc1 BK199.out, bc2 BK199.out, (cw HB hw203_0)⟩ (fun hHeld => ?_)
    clear hK K
    refine nq 26 ?_
    refine pq HT_ 9 27 (bb 11 1023) ?_
    refine lq HT_ 10 none (bb 11 2047) (fun K hK => ?_)
    refine skip_ (w1 := ?_) (by rfl) rfl ?_ ?_
    rotate_left
    ·go_simp
     rfl
    refine hK.out _ _ ?_
    clear hK K
    refine dq HT_ ?_
    try go_wp2
    go_roundg k1
    case measure => have := HK1.out; omega
    case rel => exact ⟨(y205), (wrap64 (x8_1 + 1)), rX, H', mK, ⟨rR HQ16⟩, ⟨by (with_reducible repeat (first | refine blk_drewN ?_ _ | refine blk_drew ?_ | refine blk_alloc ?_ _)); refine blk_far ?_ (by have h_ := Kd.R_ne HO_7.out BK199.out (by decide); intro e_; exact h_ (by rw [e_]; rfl)) _; (with_reducible repeat (first | refine blk_drewN ?_ _ | refine blk_drew ?_ | refine blk_alloc ?_ _)); exact BK199.out⟩, ⟨bw⟩⟩
   ·rw [if_neg c9] at H
    have c9b0 := decide_eq_false c9
    clear c9
    obtain rfl := Option.some.inj H
    go_wp2
    go_ret
    exact ⟨_, rW, rR HO_7, bw⟩
def r4_Inv.l0 : Nat → Int → Int → Int → Int → List Int → Option (Int)
 | 0, _, _, _, _, _ => none
 | k + 1, x1, x5, x207000, x207001, x207002 => (r4_Order.f k x207000 x207001 x207002).bind fun t207 => (if x5 < t207 then ((r4_Mul.f k x207000 x207001 x207002 x1 x5).bind fun t208 => (if t208 = 1 then (some x5) else (r4_Inv.l0 k x1 (wrap64 (x5 + 1)) x207000 x207001 x207002))) else (some 0))
def r4_Inv.f (k : Nat) (a0_0 : Int) (a0_1 : Int) (l0_2 : List Int) (a1 : Int) : Option (Int) := r4_Inv.l0 k a1 1 a0_0 a0_1 l0_2
theorem r4_Inv.calls (k : Nat) (a0_0 : Int) (a0_1 : Int) (A0_2 : Option Addr) (c0_2 : Nat) (l0_2 : List Int) (a1 : Int) (r : Int) (w : World) (hr0_2 : Kd.C (Kd.int .i64) w A0_2 l0_2.length l0_2) (hc0_2 : l0_2.length ≤ c0_2) (h : r4_Inv.f k a0_0 a0_1 l0_2 a1 = some r) :
  Calls Try.prog 140 #[.agg #[.int .i64 a0_0, .int .i64 a0_1, .slice A0_2 l0_2.length c0_2], .int .i64 a1] w fun e w' => e = .returned (.int .i64 r) ∧ Below w.heap.size w w' := by
 have hu36 := Try.underlying36
 have HR0_2 := Aside0.mk hr0_2
 have HC0_2 := Aside0.mk hc0_2
 clear hr0_2 hc0_2
 have HB := Aside0.mk (Below.refl w.heap.size w)
 have H := h
 clear h
 unfold r4_Inv.f at H
 have H' := Aside0.mk H
 clear H
 go_enter Try.func140, Try.ntmps140
 go_wp2_with (refine bz 2 #[.int .i64 a0_0, .int .i64 a0_1, .slice A0_2 l0_2.length c0_2] 36 ?_; clear HB; intro gb206 w3 BK206 GW206 GE206 HB)
 go_loopg [5] k (fun kq v5 w' => ∃ (x5_1 : Int), v5 = .int .i64 x5_1 ∧ Aside0 (r4_Inv.l0 kq a1 x5_1 a0_0 a0_1 l0_2 = some r) ∧ Aside0 (kq ≤ k) ∧ Aside0 (w'.heap[gb206]? = some (.cells #[.int .i64 a0_0, .int .i64 a0_1, (.slice A0_2 l0_2.length c0_2)] 36 (0, 0))) ∧ Aside0 (Below w.heap.size w w'))
 case atStart => exact ⟨(1), rX, H', ⟨Nat.le_refl _⟩, ⟨kk BK206⟩, ⟨bw⟩⟩
 case round =>
  clear H'
  obtain ⟨x5_1, rfl, HA, HK1, BK206, HB⟩ := hrel
  cases gk with
  | zero => exact absurd HA.out (by simp [r4_Inv.l0])
  | succ k1 =>
   have H := HA.out
   clear HA
   simp only [r4_Inv.l0] at H
   obtain ⟨t207, A4, H⟩ := bE H
   by_cases c5 : x5_1 < t207
   ·rw [if_pos c5] at H
    have c5b0 := decide_eq_true c5
    clear c5
    obtain ⟨t208, A6, H⟩ := bE H
    by_cases c7 : t208 = 1
    ·rw [if_pos c7] at H
     have c7b0 := beq_iff_eq.mpr c7
     have c7b1 := bne_eq_false_iff_eq.mpr c7
     clear c7
     obtain rfl := Option.some.inj H
     obtain ⟨hcz8_0, hcz8_1, hcz8_2, hfz8_0, hfz8_1, hfz8_2⟩ := bq3 BK206.out
     go_wp2_with (first | (refine gL 8 Try.func41 #[.agg #[.int .i64 a0_0, .int .i64 a0_1, .slice A0_2 l0_2.length c0_2]] ?_; (with_reducible refine (r4_Order.calls k1 a0_0 a0_1 _ _ l0_2 t207 _ (Kd.C_below HR0_2.out bw) HC0_2.out A4.out).mono ?_); rintro e w9 ⟨rfl, hb⟩; refine ⟨_, rfl, ?_⟩; replace BK206 := Aside0.mk (bkb BK206 hb); replace HB := Aside0.mk (below_step bw hb); (try clear hb); obtain ⟨hcz10_0, hcz10_1, hcz10_2, hfz10_0, hfz10_1, hfz10_2⟩ := bq3 BK206.out) | (refine gL 15 Try.func70 #[.agg #[.int .i64 a0_0, .int .i64 a0_1, .slice A0_2 l0_2.length c0_2], .int .i64 a1, .int .i64 x5_1] ?_; (with_reducible refine (r4_Mul.calls k1 a0_0 a0_1 _ _ l0_2 a1 x5_1 t208 _ (Kd.C_below HR0_2.out bw) HC0_2.out A6.out).mono ?_); rintro e w11 ⟨rfl, hb⟩; refine ⟨_, rfl, ?_⟩; replace BK206 := Aside0.mk (bkb BK206 hb); replace HB := Aside0.mk (below_step bw hb); (try clear hb)))
     go_ret
     exact ⟨rW, bw⟩
    ·rw [if_neg c7] at H
     have c7b0 := beq_eq_false_iff_ne.mpr c7
     have c7b1 := bne_iff_ne.mpr c7
     have H' := Aside0.mk H
     clear H
     obtain ⟨hcz12_0, hcz12_1, hcz12_2, hfz12_0, hfz12_1, hfz12_2⟩ := bq3 BK206.out
     go_wp2_with (first | (refine gL 8 Try.func41 #[.agg #[.int .i64 a0_0, .int .i64 a0_1, .slice A0_2 l0_2.length c0_2]] ?_; (with_reducible refine (r4_Order.calls k1 a0_0 a0_1 _ _ l0_2 t207 _ (Kd.C_below HR0_2.out bw) HC0_2.out A4.out).mono ?_); rintro e w13 ⟨rfl, hb⟩; refine ⟨_, rfl, ?_⟩; replace BK206 := Aside0.mk (bkb BK206 hb); replace HB := Aside0.mk (below_step bw hb); (try clear hb); obtain ⟨hcz14_0, hcz14_1, hcz14_2, hfz14_0, hfz14_1, hfz14_2⟩ := bq3 BK206.out) | (refine gL 15 Try.func70 #[.agg #[.int .i64 a0_0, .int .i64 a0_1, .slice A0_2 l0_2.length c0_2], .int .i64 a1, .int .i64 x5_1] ?_; (with_reducible refine (r4_Mul.calls k1 a0_0 a0_1 _ _ l0_2 a1 x5_1 t208 _ (Kd.C_below HR0_2.out bw) HC0_2.out A6.out).mono ?_); rintro e w15 ⟨rfl, hb⟩; refine ⟨_, rfl, ?_⟩; replace BK206 := Aside0.mk (bkb BK206 hb); replace HB := Aside0.mk (below_step bw hb); (try clear hb)))
     go_roundg k1
     case measure => have := HK1.out; omega
     case rel => exact ⟨(wrap64 (x5_1 + 1)), rX, H', mK, ⟨kk BK206⟩, ⟨bw⟩⟩
   ·rw [if_neg c5] at H
    have c5b0 := decide_eq_false c5
    clear c5
    obtain rfl := Option.some.inj H
    obtain ⟨hcz16_0, hcz16_1, hcz16_2, hfz16_0, hfz16_1, hfz16_2⟩ := bq3 BK206.out
    go_wp2_with (refine gL 8 Try.func41 #[.agg #[.int .i64 a0_0, .int .i64 a0_1, .slice A0_2 l0_2.length c0_2]] ?_; (with_reducible refine (r4_Order.calls k1 a0_0 a0_1 _ _ l0_2 t207 _ (Kd.C_below HR0_2.out bw) HC0_2.out A4.out).mono ?_); rintro e w17 ⟨rfl, hb⟩; refine ⟨_, rfl, ?_⟩; replace BK206 := Aside0.mk (bkb BK206 hb); replace HB := Aside0.mk (below_step bw hb); (try clear hb))
    go_ret
    exact ⟨rW, bw⟩
def r4_Add.l0 : Nat → List Int → List Int → Int → Int → Int → List Int → Option (Int)
 | 0, _, _, _, _, _, _ => none
 | k + 1, x7, x8, x9, x210000, x210001, x210002 => if x9 < (x7.length : Int) then (if 0 ≤ x9 then (if x9 < (x8.length : Int) then (if x210000 = 0 then (none) else (r4_Add.l0 k (x7.set (x9 : Int).toNat (Int.tmod (wrap64 ((rd x7 x9) + (rd x8 x9))) x210000)) x8 (wrap64 (x9 + 1)) x210000 x210001 x210002)) else (none)) else (none)) else ((r4_Value.f k x210000 x210001 x210002 x7).bind fun t219 => (some t219))
def r4_Add.f (k : Nat) (a0_0 : Int) (a0_1 : Int) (l0_2 : List Int) (a1 : Int) (a2 : Int) : Option (Int) := (r4_Digits.f k a0_0 a0_1 l0_2 a1).bind fun t210 => ((r4_Digits.f k a0_0 a0_1 l0_2 a2).bind fun t213 => (r4_Add.l0 k t210 t213 0 a0_0 a0_1 l0_2))
def r4_Add.T6 : Bool × List (List Nat × List Nat) := (true, [([], []), ([], []), ([], []), ([], []), ([2, 3], [2, 3]), ([4], [4]), ([], []), ([], []), ([6, 7], [6, 7]), ([8], [8]), ([5, 9], [5, 9]), ([], []), ([11], [11]), ([10, 12], [10, 12]), ([0, 1, 0, 1, 2, 3, 4, 5, 6, 7, 8, 9, 10, 11, 12, 13], [0, 1]), ([14, 13, 0, 1, 2, 3, 4, 5, 6, 7, 8, 9, 10, 11, 12, 13], [13, 14])])
def r4_Add.B6 : List Nat := [0, 0, 0, 0, 12, 28, 0, 0, 192, 448, 1020, 0, 2048, 8188, 16383, 32767]
theorem r4_Add.tab6 : rtab .any (opsOf Try.f86 6) = r4_Add.T6 := by kernel_rfl
theorem r4_Add.bits6 : waitsOk r4_Add.T6.2 r4_Add.B6 = true := by kernel_rfl
theorem r4_Add.calls (k : Nat) (a0_0 : Int) (a0_1 : Int) (A0_2 : Option Addr) (c0_2 : Nat) (l0_2 : List Int) (a1 : Int) (a2 : Int) (r : Int) (w : World) (hr0_2 : Kd.C (Kd.int .i64) w A0_2 l0_2.length l0_2) (hc0_2 : l0_2.length ≤ c0_2) (h : r4_Add.f k a0_0 a0_1 l0_2 a1 a2 = some r) :
  Calls Try.prog 86 #[.agg #[.int .i64 a0_0, .int .i64 a0_1, .slice A0_2 l0_2.length c0_2], .int .i64 a1, .int .i64 a2] w fun e w' => e = .returned (.int .i64 r) ∧ Below w.heap.size w w' := by
 have hu36 := Try.underlying36
 have HR0_2 := Aside0.mk hr0_2
 have HC0_2 := Aside0.mk hc0_2
 clear hr0_2 hc0_2
 have HB := Aside0.mk (Below.refl w.heap.size w)
 have H := h
 clear h
 unfold r4_Add.f at H
 obtain ⟨t210, A4, H⟩ := bE H
 obtain ⟨t213, A5, H⟩ := bE H
 have H' := Aside0.mk H
 clear H
 go_enter Try.func86, Try.ntmps86
 go_wp2_with (first | (refine bz 3 #[.int .i64 a0_0, .int .i64 a0_1, .slice A0_2 l0_2.length c0_2] 36 ?_; clear HB; intro gb209 w6 BK209 GW209 GE209 HB; obtain ⟨hcz7_0, hcz7_1, hcz7_2, hfz7_0, hfz7_1, hfz7_2⟩ := bq3 BK209.out) | (refine gL 12 Try.func84 #[.agg #[.int .i64 a0_0, .int .i64 a0_1, .slice A0_2 l0_2.length c0_2], .int .i64 a1] ?_; (with_reducible refine (r4_Digits.calls k a0_0 a0_1 _ _ l0_2 a1 t210 _ (Kd.C_below HR0_2.out bw) HC0_2.out A4.out).mono ?_); rintro e w8 ⟨v211, rfl, ho0, hb⟩; refine ⟨_, rfl, ?_⟩; have HO212 := Aside0.mk (Kd.R_lower ho0 (below_size bw)); replace BK209 := Aside0.mk (bkb BK209 hb); replace HB := Aside0.mk (below_step bw hb); (try clear hb); (try clear ho0); obtain ⟨hcz9_0, hcz9_1, hcz9_2, hfz9_0, hfz9_1, hfz9_2⟩ := bq3 BK209.out) | (refine gL 15 Try.func84 #[.agg #[.int .i64 a0_0, .int .i64 a0_1, .slice A0_2 l0_2.length c0_2], .int .i64 a2] ?_; (with_reducible refine (r4_Digits.calls k a0_0 a0_1 _ _ l0_2 a2 t213 _ (Kd.C_below HR0_2.out bw) HC0_2.out A5.out).mono ?_); rintro e w10 ⟨v214, rfl, ho0, hb⟩; refine ⟨_, rfl, ?_⟩; have HO215 := Aside0.mk (Kd.R_lower (Kd.R_new' ho0 (Kd.R_lt (rR HO212))) (below_size bw)); replace HO212 := Aside0.mk (Kd.R_elder' (rR HO212) (Kd.R_base ho0) hb); replace BK209 := Aside0.mk (bkb BK209 hb); replace HB := Aside0.mk (below_step bw hb); (try clear hb); (try clear ho0)))
 go_loopg [9] k (fun kq v9 w' => ∃ (x7_1 : List Int) (x9_1 : Int), v9 = .int .i64 x9_1 ∧ Aside0 (r4_Add.l0 kq x7_1 t213 x9_1 a0_0 a0_1 l0_2 = some r) ∧ Aside0 (kq ≤ k) ∧ Aside0 (Kd.R (Kd.int .i64) 3 w' w.heap.size (fun k_ => some k_ ≠ (v214 : Value).ownBlock) v211 x7_1) ∧ Aside0 (Kd.R (Kd.int .i64) 3 w' w.heap.size (fun k_ => some k_ ≠ (v211 : Value).ownBlock) v214 t213) ∧ Aside0 (w'.heap[gb209]? = some (.cells #[.int .i64 a0_0, .int .i64 a0_1, (.slice A0_2 l0_2.length c0_2)] 36 (0, 0))) ∧ Aside0 (Below w.heap.size w w'))
 case atStart => exact ⟨(t210), (0), rX, H', ⟨Nat.le_refl _⟩, ⟨by (with_reducible repeat (first | apply Kd.R_alloc | apply Kd.R_drewN | apply Kd.R_drew)); exact Kd.R_mono HO212.out (fun _ hk => hk.2)⟩, ⟨by (with_reducible repeat (first | apply Kd.R_alloc | apply Kd.R_drewN | apply Kd.R_drew)); exact Kd.R_mono HO215.out (fun _ hk => hk.2)⟩, ⟨kk BK209⟩, ⟨bw⟩⟩
 case round =>
  clear H' hcz7_0 hcz7_1 hcz7_2 hcz9_0 hcz9_1 hcz9_2 hfz7_0 hfz7_1 hfz7_2 hfz9_0 hfz9_1 hfz9_2
  obtain ⟨x7_1, x9_1, rfl, HA, HK1, HO_7, HO_8, BK209, HB⟩ := hrel
  cases gk with
  | zero => exact absurd HA.out (by simp [r4_Add.l0])
  | succ k1 =>
   have H := HA.out
   clear HA
   simp only [r4_Add.l0] at H
   by_cases c11 : x9_1 < (x7_1.length : Int)
   ·rw [if_pos c11] at H
    have c11b0 := decide_eq_true c11
    clear c11
    obtain ⟨c12, H⟩ := iE H
    have c12b0 := decide_eq_true c12
    clear c12
    obtain ⟨c13, H⟩ := iE H
    have c13b0 := decide_eq_true c13
    clear c13
    by_cases c14 : a0_0 = 0
    ·rw [if_pos c14] at H
     exact absurd H (by simp)
    ·rw [if_neg c14] at H
     have c14b0 := beq_eq_false_iff_ne.mpr c14
     have c14b1 := bne_iff_ne.mpr c14
     obtain ⟨y218, hy218⟩ : ∃ y_ : List Int, y_ = (x7_1.set (x9_1 : Int).toNat (Int.tmod (wrap64 ((rd x7_1 x9_1) + (rd t213 x9_1))) a0_0)) := ⟨_, rfl⟩
     (try rw [Option.bind_some] at H); (try rw [← hy218] at H)
     have Ny218 := Aside0.mk hy218
     clear hy218
     have H' := Aside0.mk H
     clear H
     obtain ⟨Ao16, co16, eo16⟩ := Kd.R_slice HO_7.out
     subst eo16
     try go_wp2
     replace HO_7 := Aside0.mk (Kd.R_drew HO_7.out)
     replace HO_8 := Aside0.mk (Kd.R_drew HO_8.out)
     replace BK209 := Aside0.mk (blk_drew BK209.out)
     replace HB := Aside0.mk (below_drew1 HB.out)
     have p216 : 0 ≤ (x9_1 : Int) := dT
     have q216 : x9_1 < (x7_1.length : Int) := dT
     obtain ⟨ad216, e216, hx216_0⟩ := Kd.at_int (Kd.R_reads' HO_7.out).2.2 x9_1 p216 q216
     cases e216
     replace p216 := eq_true p216
     replace q216 := eq_true q216
     obtain ⟨Ao18, co18, eo18⟩ := Kd.R_slice HO_8.out
     (first | subst eo18 | (injection eo18 with f1_ f2_ f3_; have f4_ := f1_.symm; have f5_ := f3_.symm; clear f1_ f2_ f3_; subst f4_; subst f5_))
     have p217 : 0 ≤ (x9_1 : Int) := dT
     have q217 : x9_1 < (t213.length : Int) := dT
     obtain ⟨ad217, e217, hx217_0⟩ := Kd.at_int (Kd.R_reads' HO_8.out).2.2 x9_1 p217 q217
     cases e217
     replace p217 := eq_true p217
     replace q217 := eq_true q217
     have p15 : 0 ≤ (x9_1 : Int) := dT
     have q15 : (x9_1 : Int) < ((x7_1.length : Int) : Int) := dT
     obtain ⟨go15, co15, eo15, gb15, gl15, cl15, HG15⟩ := Kd.R_form HO_7.out (by omega)
     (first | cases eo15 | (injection eo15 with ea_ en_ ec_; (first | subst ea_ | (injection ea_ with ea_; subst ea_)); subst ec_; clear en_))
     have GB15 := Aside0.mk gb15
     have GG15 := Aside0.mk HG15
     clear gb15 gl15 HG15
     (first | simp only [add_plain] at hx216_0 | skip)
     obtain ⟨hx15_0, hf15_0⟩ := Kd.R_celln 0 HO_7.out (x9_1 : Int) p15 q15
     replace p15 := eq_true p15
     replace q15 := eq_true q15
     have HP19 := Kd.R_putn HO_7.out (x9_1 : Int) (Int.tmod (wrap64 ((rd x7_1 x9_1) + (rd t213 x9_1))) a0_0)
     rw [← Ny218.out] at HP19
     have HQ19 := Aside0.mk HP19
     clear HP19
     refine start_ (n := 16) (S := fun w' => w'.cell? ⟨gb209, 0, none⟩ = some (.int .i64 a0_0) ∧ w'.cell? ⟨gb209, 1, none⟩ = some (.int .i64 a0_1) ∧ w'.cell? ⟨gb209, 2, none⟩ = some (.slice A0_2 l0_2.length c0_2) ∧ w'.cell? ⟨go15, (x9_1).toNat, none⟩ = some (.int .i64 (rd x7_1 x9_1)) ∧ w'.cell? (ad217.add (x9_1).toNat) = some (.int .i64 (rd t213 x9_1))) (ds := [15]) (bb 16 0) (by kernel_rfl) rfl rfl ⟨bc0 BK209.out, bc1 BK209.out, bc2 BK209.out, hx216_0, hx217_0⟩ (fun hHeld => ?_); refine with_tabW r4_Add.tab6 r4_Add.bits6 (fun HT_ HW_ => ?_)
     generalize wr.drew = w17 at HO_7 HO_8 BK209 HB GG15 HQ19 hf15_0 hx15_0 hx216_0 hx217_0 hHeld ⊢
     refine pq HT_ 0 22 (bb 16 1) ?_
     refine pq HT_ 1 23 (bb 16 3) ?_
     refine pq HT_ 2 24 (bb 16 7) ?_
     refine pq HT_ 3 25 (bb 16 15) ?_
     refine pq HT_ 4 26 (bb 16 31) ?_
     refine pq HT_ 6 28 (bb 16 95) ?_
     refine pq HT_ 7 29 (bb 16 223) ?_
     refine pq HT_ 8 30 (bb 16 479) ?_
     refine pq HT_ 11 33 (bb 16 2527) ?_
     refine tq HT_ HW_ hHeld 5 27 (bb 16 2559) ?_
     refine tq HT_ HW_ hHeld 9 31 (bb 16 3071) ?_
     refine pq HT_ 10 32 (bb 16 4095) ?_
     refine tq HT_ HW_ hHeld 12 34 (bb 16 8191) ?_
     refine pq HT_ 13 35 (bb 16 16383) ?_
     refine pq HT_ 14 36 (bb 16 32767) ?_
     refine lq HT_ 15 none (bb 16 65535) (fun K hK => ?_)
     refine skip_ (w1 := ?_) (by rfl) rfl ?_ ?_
     rotate_left
     ·go_simp
      rfl
     refine hK.out _ _ ?_
     clear hK K
     refine dq HT_ ?_
     try go_wp2
     go_roundg k1
     case measure => have := HK1.out; omega
     case rel => exact ⟨(y218), (wrap64 (x9_1 + 1)), rX, H', mK, ⟨rR HQ19⟩, ⟨by (with_reducible repeat (first | apply Kd.R_alloc | apply Kd.R_drewN | apply Kd.R_drew)); exact Kd.R_mono (Kd.R_far (p := ⟨go15, (x9_1 : Int).toNat, none⟩) (Kd.R_mono HO_8.out (fun k_ hk => (⟨hk, fun e_ => hk (by rw [e_]; rfl)⟩ : _ ∧ k_ ≠ go15))) (fun _ hk => hk.2) (.int .i64 (Int.tmod (wrap64 ((rd x7_1 x9_1) + (rd t213 x9_1))) a0_0))) (fun _ hk => hk.1)⟩, ⟨by (with_reducible repeat (first | refine blk_drewN ?_ _ | refine blk_drew ?_ | refine blk_alloc ?_ _)); refine blk_far ?_ (by have h_ := Kd.R_ne HO_7.out BK209.out (by decide); intro e_; exact h_ (by rw [e_]; rfl)) _; (with_reducible repeat (first | refine blk_drewN ?_ _ | refine blk_drew ?_ | refine blk_alloc ?_ _)); exact BK209.out⟩, ⟨bw⟩⟩
   ·rw [if_neg c11] at H
    have c11b0 := decide_eq_false c11
    clear c11
    obtain ⟨t219, A20, H⟩ := bE H
    obtain rfl := Option.some.inj H
    obtain ⟨Ao21, co21, eo21⟩ := Kd.R_slice HO_7.out
    subst eo21
    obtain ⟨hcz22_0, hcz22_1, hcz22_2, hfz22_0, hfz22_1, hfz22_2⟩ := bq3 BK209.out
    go_wp2_with (refine gL 39 Try.func97 #[.agg #[.int .i64 a0_0, .int .i64 a0_1, .slice A0_2 l0_2.length c0_2], .slice Ao21 x7_1.length co21] ?_; (with_reducible refine (r4_Value.calls k1 a0_0 a0_1 _ _ l0_2 _ _ x7_1 t219 _ (Kd.C_below HR0_2.out bw) HC0_2.out ?side3 ((Kd.R_reads' HO_7.out).2.1) A20.out).mono ?_); (case side3 => repeat (first | exact (Kd.R_reads' HO_7.out).2.2 | (with_reducible refine Kd.C_alloc ?_ _) | (with_reducible refine Kd.C_drewN ?_ _) | (with_reducible refine Kd.C_drew ?_))); rintro e w23 ⟨rfl, hb⟩; refine ⟨_, rfl, ?_⟩; replace HO_7 := Aside0.mk (Kd.R_below (rR HO_7) hb); replace HO_8 := Aside0.mk (Kd.R_below (rR HO_8) hb); replace BK209 := Aside0.mk (bkb BK209 hb); replace HB := Aside0.mk (below_step bw hb); (try clear hb))
    go_ret
    exact ⟨rW, bw⟩
def r9_AddTo.l0 : Nat → List Int → Int → List Int → List Int → Int → Int → Int → List Int → Option (List Int)
 | 0, _, _, _, _, _, _, _, _ => none
 | k + 1, x1, x2, x3, x9, x10, x221000, x221001, x221002 => if x10 < (x1.length : Int) then (if 0 ≤ x10 then (if x10 < (x9.length : Int) then ((some (x9.set (x10 : Int).toNat (rd x1 x10) : List Int)).bind fun y225 => (if x10 < (x3.length : Int) then (if (rd x3 x10) = 0 then (r9_AddTo.l0 k x1 x2 x3 y225 (wrap64 (x10 + 1)) x221000 x221001 x221002) else ((r4_Mul.f k x221000 x221001 x221002 x2 (rd x3 x10)).bind fun t229 => ((r4_Add.f k x221000 x221001 x221002 (rd x1 x10) t229).bind fun t230 => (r9_AddTo.l0 k x1 x2 x3 (y225.set (x10 : Int).toNat t230) (wrap64 (x10 + 1)) x221000 x221001 x221002)))) else (none))) else (none)) else (none)) else (some x9)
def r9_AddTo.f (k : Nat) (a0_0 : Int) (a0_1 : Int) (l0_2 : List Int) (l1 : List Int) (a2 : Int) (l3 : List Int) : Option (List Int) := if 0 ≤ (l1.length : Int) then (if ((l1.length : Int) : Int).toNat ≤ 35184372088832 then (r9_AddTo.l0 k l1 a2 l3 (List.replicate ((l1.length : Int) : Int).toNat 0) 0 a0_0 a0_1 l0_2) else (none)) else (none)
def r9_AddTo.T7 : Bool × List (List Nat × List Nat) := (true, [([], []), ([], []), ([], []), ([], []), ([], []), ([3, 4], [3, 4]), ([5], [5]), ([], []), ([], []), ([], []), ([], []), ([9, 10], [9, 10]), ([11], [11]), ([7, 8, 12], [7, 8, 12]), ([2, 6, 13, 13], [2, 6, 13]), ([0, 1, 0, 1, 2, 3, 4, 5, 6, 7, 8, 9, 10, 11, 12, 13, 14], [0, 1]), ([15, 14, 14, 0, 1, 2, 3, 4, 5, 6, 7, 8, 9, 10, 11, 12, 13, 14], [14, 15])])
def r9_AddTo.B7 : List Nat := [0, 0, 0, 0, 0, 24, 56, 0, 0, 0, 0, 1536, 3584, 8064, 16380, 32767, 65535]
theorem r9_AddTo.tab7 : rtab .any (opsOf Try.f141 7) = r9_AddTo.T7 := by kernel_rfl
theorem r9_AddTo.bits7 : waitsOk r9_AddTo.T7.2 r9_AddTo.B7 = true := by kernel_rfl
theorem r9_AddTo.calls (k : Nat) (a0_0 : Int) (a0_1 : Int) (A0_2 : Option Addr) (c0_2 : Nat) (l0_2 : List Int) (A1 : Option Addr) (c1 : Nat) (l1 : List Int) (a2 : Int) (A3 : Option Addr) (c3 : Nat) (l3 : List Int) (r : List Int) (w : World) (hr0_2 : Kd.C (Kd.int .i64) w A0_2 l0_2.length l0_2) (hc0_2 : l0_2.length ≤ c0_2) (hr1 : Kd.C (Kd.int .i64) w A1 l1.length l1) (hc1 : l1.length ≤ c1) (hr3 : Kd.C (Kd.int .i64) w A3 l3.length l3) (hc3 : l3.length ≤ c3) (h : r9_AddTo.f k a0_0 a0_1 l0_2 l1 a2 l3 = some r) :
  Calls Try.prog 141 #[.agg #[.int .i64 a0_0, .int .i64 a0_1, .slice A0_2 l0_2.length c0_2], .slice A1 l1.length c1, .int .i64 a2, .slice A3 l3.length c3] w fun e w' => ∃ v0_ : Value, e = .returned (v0_) ∧ Kd.R (Kd.int .i64) 3 w' w.heap.size (fun _ => True) v0_ r ∧ Below w.heap.size w w' := by
 have hu36 := Try.underlying36
 have HR0_2 := Aside0.mk hr0_2
 have HC0_2 := Aside0.mk hc0_2
 clear hr0_2 hc0_2
 have HR1 := Aside0.mk hr1
 have HC1 := Aside0.mk hc1
 clear hr1 hc1
 have HR3 := Aside0.mk hr3
 have HC3 := Aside0.mk hc3
 clear hr3 hc3
 have HB := Aside0.mk (Below.refl w.heap.size w)
 have H := h
 clear h
 unfold r9_AddTo.f at H
 obtain ⟨c5, H⟩ := iE H
 have c5b0 := eq_true c5
 have c5b1 := decide_eq_true c5
 clear c5
 obtain ⟨c6, H⟩ := iE H
 have c6b0 := eq_true c6
 have c6b1 := decide_eq_true c6
 clear c6
 obtain ⟨y221, hy221⟩ : ∃ y_ : List Int, y_ = (List.replicate ((l1.length : Int) : Int).toNat 0) := ⟨_, rfl⟩
 (try rw [Option.bind_some] at H); (try rw [← hy221] at H)
 have Ny221 := Aside0.mk hy221
 clear hy221
 have H' := Aside0.mk H
 clear H
 go_enter Try.func141, Try.ntmps141
 go_wp2_with (first | (refine bz 4 #[.int .i64 a0_0, .int .i64 a0_1, .slice A0_2 l0_2.length c0_2] 36 ?_; clear HB; intro gb220 w7 BK220 GW220 GE220 HB) | ((with_reducible refine gate_dst (N := 13) rfl ?_); refine Kd.R_make (Kd.int .i64) _ 3 rfl (N := 13) rfl 22 _ _ rfl (l1.length : Int) rfl rfl Try.underlying22 (.int .i64 0) 8 info3 rfl (by decide) (by omega) 0 (ok := fun _ => True) (okp := fun _ => True) rfl (fun _ hk => hk) trivial (dT) (Nat.le_trans (Nat.mul_le_mul_right _ (dT : (l1.length : Int).toNat ≤ 35184372088832)) (by omega)) (Below.refl _ _) (Nat.le_refl _) ?_; intro v222 w8 ho9 hb hg_ hnew_; clear hg_ hnew_; (first | rw [← Ny221.out] at ho9 | (simp only [Int.reduceToNat] at ho9; rw [← Ny221.out] at ho9)); have HO223 := Aside0.mk (Kd.R_lower ho9 (below_size bw)); replace BK220 := Aside0.mk (bkb BK220 hb); replace HB := Aside0.mk (below_step bw hb); clear hb ho9))
 go_loopg [10] k (fun kq v10 w' => ∃ (x9_1 : List Int) (x10_1 : Int), v10 = .int .i64 x10_1 ∧ Aside0 (r9_AddTo.l0 kq l1 a2 l3 x9_1 x10_1 a0_0 a0_1 l0_2 = some r) ∧ Aside0 (kq ≤ k) ∧ Aside0 (Kd.R (Kd.int .i64) 3 w' w.heap.size (fun _ => True) v222 x9_1) ∧ Aside0 (w'.heap[gb220]? = some (.cells #[.int .i64 a0_0, .int .i64 a0_1, (.slice A0_2 l0_2.length c0_2)] 36 (0, 0))) ∧ Aside0 (Below w.heap.size w w'))
 case atStart => exact ⟨(y221), (0), rX, H', ⟨Nat.le_refl _⟩, ⟨rR HO223⟩, ⟨kk BK220⟩, ⟨bw⟩⟩
 case round =>
  clear H' c5b0 c5b1 c6b0 c6b1
  obtain ⟨x9_1, x10_1, rfl, HA, HK1, HO_9, BK220, HB⟩ := hrel
  cases gk with
  | zero => exact absurd HA.out (by simp [r9_AddTo.l0])
  | succ k1 =>
   have H := HA.out
   clear HA
   simp only [r9_AddTo.l0] at H
   by_cases c10 : x10_1 < (l1.length : Int)
   ·rw [if_pos c10] at H
    have c10b0 := decide_eq_true c10
    clear c10
    obtain ⟨c11, H⟩ := iE H
    have c11b0 := decide_eq_true c11
    clear c11
    obtain ⟨c12, H⟩ := iE H
    have c12b0 := decide_eq_true c12
    clear c12
    obtain ⟨y225, hy225⟩ : ∃ y_ : List Int, y_ = (x9_1.set (x10_1 : Int).toNat (rd l1 x10_1)) := ⟨_, rfl⟩
    (try rw [Option.bind_some] at H); (try rw [← hy225] at H)
    have Ny225 := Aside0.mk hy225
    clear hy225
    obtain ⟨c14, H⟩ := iE H
    have c14b0 := decide_eq_true c14
    clear c14
    by_cases c15 : (rd l3 x10_1) = 0
    ·rw [if_pos c15] at H
     have c15b0 := beq_iff_eq.mpr c15
     have c15b1 := bne_eq_false_iff_eq.mpr c15
     clear c15
     have H' := Aside0.mk H
     clear H
     have p224 : 0 ≤ (x10_1 : Int) := dT
     have q224 : x10_1 < (l1.length : Int) := dT
     obtain ⟨ad224, e224, hx224_0⟩ := Kd.at_int HR1.out x10_1 p224 q224
     cases e224
     replace hx224_0 := cw HB hx224_0
     replace p224 := eq_true p224
     replace q224 := eq_true q224
     have p13 : 0 ≤ (x10_1 : Int) := dT
     have q13 : (x10_1 : Int) < ((x9_1.length : Int) : Int) := dT
     obtain ⟨go13, co13, eo13, gb13, gl13, cl13, HG13⟩ := Kd.R_form HO_9.out (by omega)
     (first | cases eo13 | (injection eo13 with ea_ en_ ec_; (first | subst ea_ | (injection ea_ with ea_; subst ea_)); subst ec_; clear en_))
     have GB13 := Aside0.mk gb13
     have GG13 := Aside0.mk HG13
     clear gb13 gl13 HG13
     obtain ⟨hx13_0, hf13_0⟩ := Kd.R_celln 0 HO_9.out (x10_1 : Int) p13 q13
     replace p13 := eq_true p13
     replace q13 := eq_true q13
     have HP16 := Kd.R_putg HO_9.out (x10_1 : Int) (rd l1 x10_1)
     go_wp2_with ((with_reducible refine gate_store (t := 3) (p := 26) rfl ?_); refine store_event (t := 3) (p := 26) (v := ?vo_w17) (w1 := (wr.setCell ⟨go13, (x10_1 : Int).toNat, none⟩ (.int .i64 (rd l1 x10_1)))) ?hg ?ho ?hn ?hr ?_; (case ho => rfl); (case hg => rfl); (case hn => rfl); (case hr => first | (go_simp; done) | (go_simp; rfl)); intro w17 hw; have hg : wr.grownBy w17 (some go13) := (by rw [hw]; exact HP16.2); have hp_ : Kd.R (Kd.int .i64) 3 w17 w.heap.size (fun _ => True) (.slice (some ⟨go13, 0, none⟩) x9_1.length co13) y225 := (by rw [hw, Ny225.out]; exact HP16.1); clear HP16; replace BK220 := Aside0.mk (blk_grown (g := gb220) (o := .cells #[.int .i64 a0_0, .int .i64 a0_1, .slice A0_2 l0_2.length c0_2] 36 (0, 0)) (kk BK220) hg (Kd.R_ne HO_9.out BK220.out (by decide))); replace HO_9 := Aside0.mk hp_; replace HB := Aside0.mk ((by rw [hw]; exact below_set (HB.out) GB13.out : Below w.heap.size w w17)); clear hg hw hp_; have p226 : 0 ≤ (x10_1 : Int) := dT; have q226 : x10_1 < (l3.length : Int) := dT; obtain ⟨ad226, e226, hx226_0⟩ := Kd.at_int HR3.out x10_1 p226 q226; cases e226; replace hx226_0 := cw HB hx226_0; replace p226 := eq_true p226; replace q226 := eq_true q226)
     go_roundg k1
     case measure => have := HK1.out; omega
     case rel => exact ⟨(y225), (wrap64 (x10_1 + 1)), rX, H', mK, ⟨rR HO_9⟩, ⟨kk BK220⟩, ⟨bw⟩⟩
    ·rw [if_neg c15] at H
     have c15b0 := beq_eq_false_iff_ne.mpr c15
     have c15b1 := bne_iff_ne.mpr c15
     obtain ⟨t229, A18, H⟩ := bE H
     obtain ⟨t230, A19, H⟩ := bE H
     obtain ⟨y231, hy231⟩ : ∃ y_ : List Int, y_ = (y225.set (x10_1 : Int).toNat t230) := ⟨_, rfl⟩
     (try rw [Option.bind_some] at H); (try rw [← hy231] at H)
     have Ny231 := Aside0.mk hy231
     clear hy231
     have H' := Aside0.mk H
     clear H
     have p224 : 0 ≤ (x10_1 : Int) := dT
     have q224 : x10_1 < (l1.length : Int) := dT
     obtain ⟨ad224, e224, hx224_0⟩ := Kd.at_int HR1.out x10_1 p224 q224
     cases e224
     replace hx224_0 := cw HB hx224_0
     replace p224 := eq_true p224
     replace q224 := eq_true q224
     have p13 : 0 ≤ (x10_1 : Int) := dT
     have q13 : (x10_1 : Int) < ((x9_1.length : Int) : Int) := dT
     obtain ⟨go13, co13, eo13, gb13, gl13, cl13, HG13⟩ := Kd.R_form HO_9.out (by omega)
     (first | cases eo13 | (injection eo13 with ea_ en_ ec_; (first | subst ea_ | (injection ea_ with ea_; subst ea_)); subst ec_; clear en_))
     have GB13 := Aside0.mk gb13
     have GG13 := Aside0.mk HG13
     clear gb13 gl13 HG13
     obtain ⟨hx13_0, hf13_0⟩ := Kd.R_celln 0 HO_9.out (x10_1 : Int) p13 q13
     replace p13 := eq_true p13
     replace q13 := eq_true q13
     have HP21 := Kd.R_putg HO_9.out (x10_1 : Int) (rd l1 x10_1)
     try go_wp2_with ((with_reducible refine gate_store (t := 3) (p := 26) rfl ?_); refine store_event (t := 3) (p := 26) (v := ?vo_w22) (w1 := (wr.setCell ⟨go13, (x10_1 : Int).toNat, none⟩ (.int .i64 (rd l1 x10_1)))) ?hg ?ho ?hn ?hr ?_; (case ho => rfl); (case hg => rfl); (case hn => rfl); (case hr => first | (go_simp; done) | (go_simp; rfl)); intro w22 hw; have hg : wr.grownBy w22 (some go13) := (by rw [hw]; exact HP21.2); have hp_ : Kd.R (Kd.int .i64) 3 w22 w.heap.size (fun _ => True) (.slice (some ⟨go13, 0, none⟩) x9_1.length co13) y225 := (by rw [hw, Ny225.out]; exact HP21.1); clear HP21; replace BK220 := Aside0.mk (blk_grown (g := gb220) (o := .cells #[.int .i64 a0_0, .int .i64 a0_1, .slice A0_2 l0_2.length c0_2] 36 (0, 0)) (kk BK220) hg (Kd.R_ne HO_9.out BK220.out (by decide))); replace HO_9 := Aside0.mk hp_; replace HB := Aside0.mk ((by rw [hw]; exact below_set (HB.out) GB13.out : Below w.heap.size w w22)); clear hg hw hp_; have p226 : 0 ≤ (x10_1 : Int) := dT; have q226 : x10_1 < (l3.length : Int) := dT; obtain ⟨ad226, e226, hx226_0⟩ := Kd.at_int HR3.out x10_1 p226 q226; cases e226; replace hx226_0 := cw HB hx226_0; replace p226 := eq_true p226; replace q226 := eq_true q226)
     replace HO_9 := Aside0.mk (Kd.R_drew HO_9.out)
     replace BK220 := Aside0.mk (blk_drew BK220.out)
     replace HB := Aside0.mk (below_drew1 HB.out)
     have p227 : 0 ≤ (x10_1 : Int) := dT
     have q227 : x10_1 < (l1.length : Int) := dT
     obtain ⟨ad227, e227, hx227_0⟩ := Kd.at_int HR1.out x10_1 p227 q227
     have hw227_0 := hx227_0
     obtain rfl : ad224 = ad227 := (by injection e227)
     replace hx227_0 := cw HB hx227_0
     replace p227 := eq_true p227
     replace q227 := eq_true q227
     have p228 : 0 ≤ (x10_1 : Int) := dT
     have q228 : x10_1 < (l3.length : Int) := dT
     obtain ⟨ad228, e228, hx228_0⟩ := Kd.at_int HR3.out x10_1 p228 q228
     have hw228_0 := hx228_0
     obtain rfl : ad226 = ad228 := (by injection e228)
     replace hx228_0 := cw HB hx228_0
     replace p228 := eq_true p228
     replace q228 := eq_true q228
     refine start_ (n := 17) (S := fun w' => w'.cell? ⟨gb220, 0, none⟩ = some (.int .i64 a0_0) ∧ w'.cell? ⟨gb220, 1, none⟩ = some (.int .i64 a0_1) ∧ w'.cell? ⟨gb220, 2, none⟩ = some (.slice A0_2 l0_2.length c0_2) ∧ w'.cell? (ad224.add (x10_1).toNat) = some (.int .i64 (rd l1 x10_1)) ∧ w'.cell? (ad226.add (x10_1).toNat) = some (.int .i64 (rd l3 x10_1))) (ds := [16]) (bb 17 0) (by kernel_rfl) rfl rfl ⟨bc0 BK220.out, bc1 BK220.out, bc2 BK220.out, (cw HB hw227_0), (cw HB hw228_0)⟩ (fun hHeld => ?_); refine with_tabW r9_AddTo.tab7 r9_AddTo.bits7 (fun HT_ HW_ => ?_)
     generalize w22.drew = w23 at HO_9 BK220 HB hx227_0 hx228_0 hHeld ⊢
     refine pq HT_ 0 32 (bb 17 1) ?_
     refine pq HT_ 1 33 (bb 17 3) ?_
     refine pq HT_ 3 35 (bb 17 11) ?_
     refine pq HT_ 4 36 (bb 17 27) ?_
     refine pq HT_ 5 37 (bb 17 59) ?_
     refine pq HT_ 8 40 (bb 17 315) ?_
     refine pq HT_ 9 41 (bb 17 827) ?_
     refine pq HT_ 10 42 (bb 17 1851) ?_
     refine pq HT_ 11 43 (bb 17 3899) ?_
     refine tq HT_ HW_ hHeld 2 34 (bb 17 3903) ?_
     refine tq HT_ HW_ hHeld 6 38 (bb 17 3967) ?_
     refine tq HT_ HW_ hHeld 7 39 (bb 17 4095) ?_
     refine tq HT_ HW_ hHeld 12 44 (bb 17 8191) ?_
     refine oq HT_ 13 (some 45) (bb 17 16383) (fun K hK => ?_)
     refine gq Try.func70 #[.agg #[.int .i64 a0_0, .int .i64 a0_1, .slice A0_2 l0_2.length c0_2], .int .i64 a2, .int .i64 (rd l3 x10_1)] ?_
     with_reducible refine (r4_Mul.calls k1 a0_0 a0_1 _ _ l0_2 a2 (rd l3 x10_1) t229 _ (Kd.C_below HR0_2.out bw) HC0_2.out A18.out).mono ?_
     rintro e w24 ⟨rfl, hb⟩
     refine ⟨_, rfl, ?_⟩
     replace HO_9 := Aside0.mk (Kd.R_below (rR HO_9) hb)
     replace BK220 := Aside0.mk (bkb BK220 hb)
     replace HB := Aside0.mk (below_step bw hb)
     clear hb
     refine hK.out _ _ ⟨bc0 BK220.out, bc1 BK220.out, bc2 BK220.out, (cw HB hw227_0), (cw HB hw228_0)⟩ (fun hHeld => ?_)
     clear hK K
     refine nq 45 ?_
     refine oq HT_ 14 (some 46) (bb 17 32767) (fun K hK => ?_)
     refine gq Try.func86 #[.agg #[.int .i64 a0_0, .int .i64 a0_1, .slice A0_2 l0_2.length c0_2], .int .i64 (rd l1 x10_1), .int .i64 t229] ?_
     with_reducible refine (r4_Add.calls k1 a0_0 a0_1 _ _ l0_2 (rd l1 x10_1) t229 t230 _ (Kd.C_below HR0_2.out bw) HC0_2.out A19.out).mono ?_
     rintro e w25 ⟨rfl, hb⟩
     refine ⟨_, rfl, ?_⟩
     replace HO_9 := Aside0.mk (Kd.R_below (rR HO_9) hb)
     replace BK220 := Aside0.mk (bkb BK220 hb)
     replace HB := Aside0.mk (below_step bw hb)
     clear hb
     have p20 : 0 ≤ (x10_1 : Int) := dT
     have q20 : (x10_1 : Int) < ((x9_1.length : Int) : Int) := dT
     obtain ⟨hx20_0, hf20_0⟩ := Kd.R_celln 0 HO_9.out (x10_1 : Int) p20 q20
     replace p20 := eq_true p20
     replace q20 := eq_true q20
     have HP26 := Kd.R_putn HO_9.out (x10_1 : Int) t230
     rw [← Ny231.out] at HP26
     have HQ26 := Aside0.mk HP26
     clear HP26
     refine hK.out _ _ ⟨bc0 BK220.out, bc1 BK220.out, bc2 BK220.out, (cw HB hw227_0), (cw HB hw228_0)⟩ (fun hHeld => ?_)
     clear hK K
     refine nq 46 ?_
     refine pq HT_ 15 47 (bb 17 65535) ?_
     refine lq HT_ 16 none (bb 17 131071) (fun K hK => ?_)
     refine skip_ (w1 := ?_) (by rfl) rfl ?_ ?_
     rotate_left
     ·go_simp
      rfl
     refine hK.out _ _ ?_
     clear hK K
     refine dq HT_ ?_
     try go_wp2
     go_roundg k1
     case measure => have := HK1.out; omega
     case rel => exact ⟨(y231), (wrap64 (x10_1 + 1)), rX, H', mK, ⟨rR HQ26⟩, ⟨by (with_reducible repeat (first | refine blk_drewN ?_ _ | refine blk_drew ?_ | refine blk_alloc ?_ _)); refine blk_far ?_ (by have h_ := Kd.R_ne HO_9.out BK220.out (by decide); intro e_; exact h_ (by rw [e_]; rfl)) _; (with_reducible repeat (first | refine blk_drewN ?_ _ | refine blk_drew ?_ | refine blk_alloc ?_ _)); exact BK220.out⟩, ⟨bw⟩⟩
   ·rw [if_neg c10] at H
    have c10b0 := decide_eq_false c10
    clear c10
    obtain rfl := Option.some.inj H
    go_wp2
    go_ret
    exact ⟨_, rW, rR HO_9, bw⟩
end Go.Proofs.Ytibbdjkboglepaa.QBchZeros

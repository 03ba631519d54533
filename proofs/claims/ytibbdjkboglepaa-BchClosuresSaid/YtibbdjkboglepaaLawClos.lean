/- The law BchClosures: the walk joined with the plain laws: it returns true at every input. -/
import Derived.Test.YtibbdjkboglepaaClosPlain2
set_option linter.unusedVariables false
set_option linter.unusedSimpArgs false
namespace Go.Proofs.Ytibbdjkboglepaa.MyQBchClosures
open Go Go.RowKit Go.Proofs.YtibbdjkboglepaaW.PrintWords Go.Proofs.YtibbdjkboglepaaW.PrintLast Go.Proofs.YtibbdjkboglepaaW.PrintMore Go.Proofs.Ytibbdjkboglepaa.My Go.Proofs.Ytibbdjkboglepaa.QBchClosures
section
variable {q n : Int} {A : Option Addr} {c : Nat} {zs : List Int}
set_option maxHeartbeats 4000000 in
set_option maxRecDepth 100000 in
theorem law_long (w : World) (h : 200 < zs.length) : Calls Try.prog 7 #[.int .i64 q, .int .i64 n, .slice A zs.length c] w fun e w' => e = .returned (.bool true) ∧ Below w.heap.size w w' := by
  have d1 : decide ((zs.length : Int) > 200) = true := decide_eq_true (by omega)
  have d2 : decide (200 < (zs.length : Int)) = true := decide_eq_true (by omega)
  go_enter Try.func7, Try.ntmps7
  go_wp2
  go_ret
  exact ⟨rfl, Below.refl _ _⟩
set_option maxHeartbeats 4000000 in
set_option maxRecDepth 100000 in
theorem law_err (k : Nat) (w : World) (ra : Int) (hl : zs.length ≤ 200) (hR : ∀ w, Calls Try.prog 20 #[.int .i64 q, .int .i64 n, .slice A zs.length c] w fun e w' => e = .returned (.tuple #[.slice none 0 0, .int .i64 ra]) ∧ Below w.heap.size w w')
    (ha : codewrightref17_ClosureArgs.f k q n = some ra) (h0 : ra ≠ 0) :
    Calls Try.prog 7 #[.int .i64 q, .int .i64 n, .slice A zs.length c] w fun e w' => e = .returned (.bool true) ∧ Below w.heap.size w w' := by
  have HRS := Aside0.mk hR
  have HA := Aside0.mk ha
  have d1 : (ra == 0) = false := by simpa using h0
  have d2 : (ra != 0) = true := by simpa using h0
  have d3 : decide ((zs.length : Int) > 200) = false := decide_eq_false (by omega)
  have d4 : decide (200 < (zs.length : Int)) = false := decide_eq_false (by omega)
  have hd : decide (300 < n) = true ∨ decide (300 < n) = false := by cases decide (300 < n) <;> simp
  clear hR ha
  have HB := Aside0.mk (Below.refl w.heap.size w)
  rcases hd with d5 | d5
  all_goals
    have d6 : decide (n > 300) = _ := d5
    go_enter Try.func7, Try.ntmps7
    go_wp2_with (first
      | (go_at_call 20; refine (HRS.out _).mono ?_; rintro e w1 ⟨rfl, hb⟩; have HB1 := Aside0.mk (below_step HB.out hb); clear hb HB; have HB := HB1; clear HB1)
      | (go_at_call 19; refine (codewrightref17_ClosureArgs.calls k q n ra _ HA.out).mono ?_; rintro e w2 ⟨rfl, hb0⟩; have hb := hb0.below; clear hb0; have HB1 := Aside0.mk (below_step HB.out hb); clear hb HB; have HB := HB1; clear HB1))
    go_ret
    exact ⟨by first | rfl | (simp; done), HB.out⟩
set_option maxHeartbeats 4000000 in
set_option maxRecDepth 100000 in
theorem law_ok (k : Nat) (w : World) (L : List Int) (hl : zs.length ≤ 200) (hL : L.length ≤ 64) (hn : n ≤ 64) (hr : Kd.C (Kd.int .i64) w A zs.length zs) (hc : zs.length ≤ c)
    (hR : ∀ w, Kd.C (Kd.int .i64) w A zs.length zs → Calls Try.prog 20 #[.int .i64 q, .int .i64 n, .slice A zs.length c] w fun e w' => ∃ v, e = .returned (.tuple #[v, .int .i64 0]) ∧ Kd.R (Kd.int .i64) 3 w' w.heap.size (fun _ => True) v L ∧ Below w.heap.size w w')
    (ha : codewrightref17_ClosureArgs.f k q n = some 0) (hf : codewrightref17_Closure.f k q n zs = some L) (hs : codewrightref09_SameInts.f k L L = some true) :
    Calls Try.prog 7 #[.int .i64 q, .int .i64 n, .slice A zs.length c] w fun e w' => e = .returned (.bool true) ∧ Below w.heap.size w w' := by
  have HRS := Aside0.mk hR
  have HA := Aside0.mk ha
  have HF := Aside0.mk hf
  have HS := Aside0.mk hs
  have HR := Aside0.mk hr
  have HC := Aside0.mk hc
  have d3 : decide ((zs.length : Int) > 200) = false := decide_eq_false (by omega)
  have d4 : decide (200 < (zs.length : Int)) = false := decide_eq_false (by omega)
  have d5 : decide (300 < n) = false := decide_eq_false (by omega)
  have d6 : decide (n > 300) = false := d5
  clear hR ha hf hs hr hc
  have HB := Aside0.mk (Below.refl w.heap.size w)
  go_enter Try.func7, Try.ntmps7
  go_wp2_with (first
    | (go_at_call 20; refine (HRS.out _ HR.out).mono ?_; rintro e w1 ⟨v, rfl, hrv, hb⟩; have HV := Aside0.mk hrv; have HB1 := Aside0.mk hb; clear hrv hb HB; have HB := HB1; clear HB1; obtain ⟨AL, cL, eL⟩ := Kd.R_slice HV.out; subst eL)
    | (go_at_call 19; refine (codewrightref17_ClosureArgs.calls k q n 0 _ HA.out).mono ?_; rintro e w2 ⟨rfl, hb0⟩; have hb := hb0.below; clear hb0; have HB1 := Aside0.mk (below_step HB.out hb); have HV1 := Aside0.mk (Kd.R_below HV.out hb); clear hb HB HV; have HB := HB1; have HV := HV1; clear HB1 HV1)
    | (go_at_call 22; refine (codewrightref17_Closure.calls k q n A c zs L _ (Kd.C_below HR.out HB.out) HC.out HF.out).mono ?_; rintro e w3 ⟨v3, rfl, hrv, hb⟩; have HV3 := Aside0.mk hrv; have HB1 := Aside0.mk (below_step HB.out hb); have HV1 := Aside0.mk (Kd.R_below HV.out hb); clear hrv hb HB HV; have HB := HB1; have HV := HV1; clear HB1 HV1; obtain ⟨AL3, cL3, eL3⟩ := Kd.R_slice HV3.out; subst eL3)
    | (go_at_call 21; refine (codewrightref09_SameInts.calls k AL cL L AL3 cL3 L true _ (Kd.R_reads' HV.out).2.2 (Kd.R_reads' HV.out).2.1 (Kd.R_reads' HV3.out).2.2 (Kd.R_reads' HV3.out).2.1 HS.out).mono ?_; rintro e w4 ⟨rfl, hb0⟩; have hb := hb0.below; clear hb0; have HB1 := Aside0.mk (below_step HB.out hb); clear hb HB; have HB := HB1; clear HB1))
  go_ret
  exact ⟨by first | rfl | (simp; done), HB.out⟩
theorem law_closures (w : World) (hr : Kd.C (Kd.int .i64) w A zs.length zs) (hc : zs.length ≤ c) : Calls Try.prog 7 #[.int .i64 q, .int .i64 n, .slice A zs.length c] w fun e w' => e = .returned (.bool true) ∧ Below w.heap.size w w' := by
  by_cases hl : 200 < zs.length
  · exact law_long w hl
  by_cases hq : q < 2 ∨ 256 < q
  · obtain ⟨k, hk⟩ := (args_range n hq).rounds
    exact law_err k w 6 (by omega) (fun w => Closure_range q n _ w hq) hk (by omega)
  by_cases hn : n < 1 ∨ 64 < n
  · obtain ⟨k, hk⟩ := (args_length (q := q) (by omega) (by omega) hn).rounds
    exact law_err k w 4 (by omega) (fun w => Closure_length q n _ w (by omega) (by omega) hn) hk (by omega)
  have ha := args_in (q := q) (n := n) (by omega) (by omega) (by omega) (by omega)
  by_cases hg : gc q n = 1
  · rw [if_pos hg] at ha
    have hz : Sz q n := ⟨by omega, by omega, by omega, by omega, (gc_one (by omega) (by omega)).1 hg⟩
    obtain ⟨cos, mk, h1, h2, h3, h4, h5, h6, h7⟩ := clos_plain hz zs (by omega)
    have hjl : (My.sorted (joined mk cos)).length ≤ 64 := by
      rw [My.sorted_length]
      exact Nat.le_trans (joined_le cos) h5
    have h8 := same_eq (My.sorted (joined mk cos)) (by omega)
    obtain ⟨K1, g1⟩ := h1
    obtain ⟨K2, g2⟩ := h2
    obtain ⟨K3, g3⟩ := h3
    obtain ⟨K4, g4⟩ := h8
    obtain ⟨K5, g5⟩ := ha
    have hK : ∃ K, K1 ≤ K ∧ K2 ≤ K ∧ K3 ≤ K ∧ K4 ≤ K ∧ K5 ≤ K := ⟨K1 + K2 + K3 + K4 + K5, by omega, by omega, by omega, by omega, by omega⟩
    obtain ⟨K, k1, k2, k3, k4, k5⟩ := hK
    exact law_ok K w _ (by omega) hjl (by omega) hr hc (fun w' hr' => Closure_ok K q n cos mk A c zs w' hr' hc (by omega) (by omega) (by omega) (by omega) (g1 K k1) (g2 K k2) h4 (by omega) (by omega) h7) (g5 K k5) (g3 K k3) (g4 K k4)
  · rw [if_neg hg] at ha
    obtain ⟨K1, g1⟩ := ha
    obtain ⟨K2, g2⟩ := cosets_10 (q := q) (n := n) (by omega) (by omega) (by omega) (by omega) hg
    exact law_err (K1 + K2) w 10 (by omega) (fun w => Closure_err (K1 + K2) q n 10 [] _ w (by omega) (by omega) (by omega) (by omega) (g2 _ (by omega)) (by omega)) (g1 _ (by omega)) (by omega)
end
end Go.Proofs.Ytibbdjkboglepaa.MyQBchClosures

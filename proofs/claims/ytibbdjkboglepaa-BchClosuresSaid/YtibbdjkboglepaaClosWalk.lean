/- The walk of bch.Closure: the refusals. -/
import Derived.Test.YtibbdjkboglepaaClosW
set_option linter.unusedVariables false
set_option linter.unusedSimpArgs false
namespace Go.Proofs.Ytibbdjkboglepaa.MyQBchClosures
open Go Go.RowKit Go.Proofs.YtibbdjkboglepaaW.PrintWords Go.Proofs.YtibbdjkboglepaaW.PrintLast Go.Proofs.YtibbdjkboglepaaW.PrintMore Go.Proofs.Ytibbdjkboglepaa.QBchClosures
set_option maxHeartbeats 4000000 in
set_option maxRecDepth 100000 in
theorem Closure_range (q n : Int) (v : Value) (w : World) (hq : q < 2 ∨ 256 < q) :
    Calls Try.prog 20 #[.int .i64 q, .int .i64 n, v] w fun e w' => e = .returned (.tuple #[.slice none 0 0, .int .i64 6]) ∧ Below w.heap.size w w' := by
  have hd : decide (q < 2) = true ∨ (decide (q < 2) = false ∧ decide (q > 256) = true) := by
    by_cases h : q < 2
    · exact .inl (decide_eq_true h)
    · exact .inr ⟨decide_eq_false h, decide_eq_true (by omega)⟩
  rcases hd with hd1 | ⟨hd1, hd3⟩
  all_goals
   go_enter Try.func20, Try.ntmps20
   go_wp2
   go_ret2
   exact ⟨rfl, Below.refl _ _⟩
set_option maxHeartbeats 4000000 in
set_option maxRecDepth 100000 in
theorem Closure_length (q n : Int) (v : Value) (w : World) (hq1 : 2 ≤ q) (hq2 : q ≤ 256) (hn : n < 1 ∨ 64 < n) :
    Calls Try.prog 20 #[.int .i64 q, .int .i64 n, v] w fun e w' => e = .returned (.tuple #[.slice none 0 0, .int .i64 4]) ∧ Below w.heap.size w w' := by
  have d1 : decide (q < 2) = false := decide_eq_false (by omega)
  have d2 : decide (q > 256) = false := decide_eq_false (by omega)
  have d3 : decide (256 < q) = false := decide_eq_false (by omega)
  have hd : decide (n < 1) = true ∨ (decide (n < 1) = false ∧ decide (n > 64) = true) := by
    by_cases h : n < 1
    · exact .inl (decide_eq_true h)
    · exact .inr ⟨decide_eq_false h, decide_eq_true (by omega)⟩
  rcases hd with hd1 | ⟨hd1, hd3⟩
  all_goals
   go_enter Try.func20, Try.ntmps20
   go_wp2
   go_ret2
   exact ⟨rfl, Below.refl _ _⟩
set_option maxHeartbeats 4000000 in
set_option maxRecDepth 100000 in
theorem Closure_err (k : Nat) (q n e : Int) (r1 : List (List Int)) (v : Value) (w : World) (hq1 : 2 ≤ q) (hq2 : q ≤ 256) (hn1 : 1 ≤ n) (hn2 : n ≤ 64) (hc : cyclic_Cosets.f k q n = some (r1, e)) (he : e ≠ 0) :
    Calls Try.prog 20 #[.int .i64 q, .int .i64 n, v] w fun ex w' => ex = .returned (.tuple #[.slice none 0 0, .int .i64 e]) ∧ Below w.heap.size w w' := by
  have d1 : decide (q < 2) = false := decide_eq_false (by omega)
  have d2 : decide (q > 256) = false := decide_eq_false (by omega)
  have d3 : decide (256 < q) = false := decide_eq_false (by omega)
  have d4 : decide (n < 1) = false := decide_eq_false (by omega)
  have d5 : decide (n > 64) = false := decide_eq_false (by omega)
  have d6 : decide (64 < n) = false := decide_eq_false (by omega)
  have d7 : (e != 0) = true := by simpa using he
  have d8 : (e == 0) = false := by simpa using he
  have HC := Aside0.mk hc
  clear hc
  go_enter Try.func20, Try.ntmps20
  go_wp2_with (go_at_call 43; refine (cyclic_Cosets.calls k q n r1 e _ HC.out).mono ?_; rintro ex w1 ⟨v0, rfl, hS, hb⟩)
  go_ret2
  exact ⟨rfl, hb⟩
end Go.Proofs.Ytibbdjkboglepaa.MyQBchClosures

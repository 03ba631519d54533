/- The iterator of GF.Elements: the numbers from 0 to q-1, in order. -/
import Derived.Test.YtibbdjkboglepaaNew2QBchRoots
import Derived.RangeFuncFrom
import Derived.RangeFuncBox
import Derived.RangeFuncBound
import Derived.RangeFuncLeaves
import Derived.Shelf.Abstract
import Derived.Shelf.RegionOpen
import Derived.WalkKit
import Derived.OwnWalkIn
import Derived.TacticsInMore
import Derived.LoopNIn
import Derived.LoopIn
set_option linter.unusedVariables false
set_option linter.unusedSimpArgs false
namespace Go.Proofs.Ytibbdjkboglepaa.MyQBchRoots
open Go Go.RowKit Go.Shelf Go.Proofs.YtibbdjkboglepaaW.PrintWords Go.Proofs.YtibbdjkboglepaaW.PrintLast Go.Proofs.YtibbdjkboglepaaW.PrintMore Go.Proofs.Ytibbdjkboglepaa.My Go.Proofs.Ytibbdjkboglepaa.QBchRoots
attribute [local go_sem] Oper.semAt_some

theorem fin_take {N k : Nat} (h : k < N) : (List.finRange N).take (k + 1) = (List.finRange N).take k ++ [⟨k, h⟩] := by
  rw [List.take_add_one]
  simp [h]

set_option maxRecDepth 100000 in
set_option maxHeartbeats 2000000 in
theorem elements1_in (F : Fence) (n : Nat) (h6 : F.fn 65) (hro : F.round = none) (hn : 1 ≤ n) (l Bn n₀ g : Nat) (q : Int) (J Jx : List (Fin q.toNat) → World → Prop) (hq : 0 ≤ q) (hqb : q < 4611686018427387904)
    (hY : ∀ pre x W, J pre W → pre.length < q.toNat → YieldAt F (n - 1) Try.prog l #[.int .i64 ((x.val : Nat) : Int)] W fun e W' =>
      (e = .returned (.bool true) ∧ J (pre ++ [x]) W' ∧ Below n₀ W W') ∨ (e = .returned (.bool false) ∧ Jx (pre ++ [x]) W'))
    (W : World) (hBn : W.cell? ⟨Bn, 0, none⟩ = some (.pointer (some ⟨g, 0, none⟩))) (hL : W.cell? ⟨g, 3, none⟩ = some (.int .i64 q)) (h0 : J [] W) :
    CallsIn F n Try.prog 65 #[.func (.yield l) #[] #[], .pointer (some ⟨Bn, 0, none⟩)] W fun e W' => (∃ v, e = .returned v) ∧
      ((∃ ys, ys = List.finRange q.toNat ∧ J ys W') ∨ (∃ pre, pre <+: List.finRange q.toNat ∧ Jx pre W')) := by
  refine callsIn_of_wp Try.func65 rfl h6 ?_ hro
  simp only [Try.ntmps65, List.size_toArray, List.length_cons, List.length_nil, Nat.reduceAdd, Nat.reduceSub, Array.replicate_succ, Array.replicate_zero, List.push_toArray, List.append_toArray, List.nil_append, List.cons_append]
  have hu92 := Try.underlying92
  gi_wp2
  gi_loopw [8] (fun i wr => ∃ k : Nat, k ≤ q.toNat ∧ i = .int .i64 k ∧ J ((List.finRange q.toNat).take k) wr)
    (fun i _ => q.toNat - (intOf i).toNat)
  case atStart => exact ⟨0, Nat.zero_le _, rfl, h0⟩
  case round =>
    obtain ⟨k, hk, rfl, hJs⟩ := hrel
    by_cases hlt : k < q.toNat
    · obtain ⟨fn, tmps, assign, body, hy, hR⟩ := hY _ ⟨k, hlt⟩ wr hJs (by simp; omega)
      dsimp only at hy
      have c1 : decide ((k : Int) < q) = true := decide_eq_true (by omega)
      have hwn : wrap64 ((k : Int) + 1) = ((k + 1 : Nat) : Int) := by rw [My.w64] <;> omega
      gi_wp2
      refine hR.mono ?_
      rintro e W3 (⟨rfl, hJ3, hk3⟩ | ⟨rfl, hJx3⟩)
      · gi_wp2
        go_roundw
        case rel => exact ⟨k + 1, by omega, by first | rfl | (simp; done) | (simp [hwn]; done), by rw [fin_take hlt]; exact hJ3⟩
        case measure => simp [intOf]; omega
      · gi_wp2
        refine bodyPost_ret (results_none rfl _ _ _) rfl ?_
        exact ⟨⟨_, rfl⟩, .inr ⟨_, by rw [← fin_take hlt]; exact List.take_prefix _ _, hJx3⟩⟩
    · obtain rfl : k = q.toNat := by omega
      have c1 : decide (((q.toNat : Nat) : Int) < q) = false := decide_eq_false (by omega)
      gi_wp2
      go_end0
      exact ⟨⟨_, rfl⟩, .inl ⟨_, by rw [List.take_of_length_le (by simp)], hJs⟩⟩

set_option maxHeartbeats 1000000 in
theorem elements_in (F : Fence) (n : Nat) (h5 : F.fn 38) (hro : F.round = none) (p0 : Option Addr) (w : World) :
    CallsIn F n Try.prog 38 #[.pointer p0] w fun e w' => e = .returned (.func (.func 65) #[] #[.pointer (some ⟨w.heap.size, 0, none⟩)]) ∧ w' = w.alloc (.cells #[.pointer p0] 63) := by
  refine callsIn_of_wp Try.func38 rfl h5 ?_ hro
  simp only [Try.ntmps38, List.size_toArray, List.length_cons, List.length_nil, Nat.reduceAdd, Nat.reduceSub, Array.replicate_succ, Array.replicate_zero, List.push_toArray, List.append_toArray, List.nil_append, List.cons_append]
  gi_wp2
  go_ret
  exact ⟨rfl, rfl⟩

theorem elements_stops (F : Fence) (n : Nat) (h6 : F.fn 65) (hro : F.round = none) (hn : 1 ≤ n) (Bn n₀ g : Nat) (q : Int) (hq : 0 ≤ q) (hqb : q < 4611686018427387904) (w : World) (hBn : Bn < w.heap.size) (hg : g < w.heap.size)
    (hc : w.cell? ⟨Bn, 0, none⟩ = some (.pointer (some ⟨g, 0, none⟩))) (hL : w.cell? ⟨g, 3, none⟩ = some (.int .i64 q)) :
    SeqStopsK F n Try.prog 65 #[.pointer (some ⟨Bn, 0, none⟩)] (fun x : Fin q.toNat => #[Value.int .i64 ((x.val : Nat) : Int)]) (Below n₀) (fun ys => ys = List.finRange q.toNat) (fun pre => pre <+: List.finRange q.toNat) q.toNat w := fun l J Jx W hW _ _ hY h0 =>
  elements1_in F n h6 hro hn l Bn n₀ g q J Jx hq hqb hY W ((hW.cell (p := ⟨Bn, 0, none⟩) hBn).trans hc) ((hW.cell (p := ⟨g, 3, none⟩) hg).trans hL) h0
end Go.Proofs.Ytibbdjkboglepaa.MyQBchRoots

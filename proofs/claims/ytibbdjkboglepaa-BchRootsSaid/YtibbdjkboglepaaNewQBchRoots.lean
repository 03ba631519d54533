/- The walk of field.New: a description that shape refuses or that has no generator gives nil and ErrField; else the field's record is made. -/
import Derived.Test.YtibbdjkboglepaaNewWQBchRoots
import Derived.Test.YtibbdjkboglepaaQBchRootsx3
import Derived.WalkSpells
set_option linter.unusedVariables false
set_option linter.unusedSimpArgs false
namespace Go.Proofs.Ytibbdjkboglepaa.MyQBchRoots
open Go Go.RowKit Go.Proofs.YtibbdjkboglepaaW.PrintWords Go.Proofs.YtibbdjkboglepaaW.PrintLast Go.Proofs.YtibbdjkboglepaaW.PrintMore Go.Proofs.Ytibbdjkboglepaa.My Go.Proofs.Ytibbdjkboglepaa.QBchRoots

set_option maxHeartbeats 4000000 in
set_option maxRecDepth 100000 in
/-- shape says no. -/
theorem New_shape (k : Nat) (P M : Int) (A : Option Addr) (c : Nat) (Mod : List Int) (w : World) (hr : Kd.C (Kd.int .i64) w A Mod.length Mod) (hc : Mod.length ≤ c) (hs : field_shape.f k P M Mod = some false) :
    Calls Try.prog 37 #[.agg #[.int .i64 P, .int .i64 M, .slice A Mod.length c]] w fun e w' => e = .returned (.tuple #[.pointer none, .int .i64 1]) ∧ Below w.heap.size w w' := by
  have HR := Aside0.mk hr
  have HC := Aside0.mk hc
  have HS := Aside0.mk hs
  have hu36 := Try.underlying36
  clear hr hc hs
  have HB := Aside0.mk (Below.refl w.heap.size w)
  go_enter Try.func37, Try.ntmps37
  go_wp2_with (first | (go_at_call 62; refine (field_shape.calls k P M _ _ Mod false _ (Kd.C_alloc HR.out _) HC.out HS.out).mono ?_; rintro e w1 ⟨rfl, hb⟩))
  go_ret2
  exact ⟨rfl, below_step (below_alloc HB.out _) hb⟩

set_option maxHeartbeats 4000000 in
set_option maxRecDepth 100000 in
/-- There is no generator. -/
theorem New_gen (k : Nat) (P M q : Int) (A : Option Addr) (c : Nat) (Mod : List Int) (w : World) (hr : Kd.C (Kd.int .i64) w A Mod.length Mod) (hc : Mod.length ≤ c) (hs : field_shape.f k P M Mod = some true)
    (ho : field_order.f k P M = some q) (hg : field_generator.f k P M Mod q = some []) :
    Calls Try.prog 37 #[.agg #[.int .i64 P, .int .i64 M, .slice A Mod.length c]] w fun e w' => e = .returned (.tuple #[.pointer none, .int .i64 1]) ∧ Below w.heap.size w w' := by
  have HR := Aside0.mk hr
  have HC := Aside0.mk hc
  have HS := Aside0.mk hs
  have HO := Aside0.mk ho
  have HG := Aside0.mk hg
  have hu36 := Try.underlying36
  have hnileq := fun W : World => Lib.run_eql_slice_nil (P := Try.prog) W 22 3 none 0 0 0 0 Try.underlying22
  clear hr hc hs ho hg
  have HB := Aside0.mk (Below.refl w.heap.size w)
  go_enter Try.func37, Try.ntmps37
  go_wp2_with (first
    | (go_at_call 62; refine (field_shape.calls k P M _ _ Mod true _ (Kd.C_alloc HR.out _) HC.out HS.out).mono ?_; rintro e w1 ⟨rfl, hb⟩
       have HB1 := Aside0.mk (below_step (below_alloc HB.out (.cells #[.int .i64 P, .int .i64 M, .slice A Mod.length c] 36)) hb)
       have BK := Aside0.mk (blk_below (blk_new w (.cells #[.int .i64 P, .int .i64 M, .slice A Mod.length c] 36)) hb)
       clear hb HB
       have hcz0 : w1.cell? ⟨w.heap.size, 0, none⟩ = some (.int .i64 P) := (blk_cell BK.out 0).trans rfl
       have hcz1 : w1.cell? ⟨w.heap.size, 1, none⟩ = some (.int .i64 M) := (blk_cell BK.out 1).trans rfl
       have hcz2 : w1.cell? ⟨w.heap.size, 2, none⟩ = some (.slice A Mod.length c) := (blk_cell BK.out 2).trans rfl)
    | (go_at_call 63; refine (field_order.calls k P M q _ HO.out).mono ?_; rintro e w2 ⟨rfl, ⟨nd, rfl⟩⟩)
    | (go_at_call 64; refine (field_generator.calls k P M _ _ Mod q [] _ (Kd.C_drewN (Kd.C_below HR.out HB1.out) _) HC.out HG.out).mono ?_; rintro e w3 ⟨v, rfl, hR3, hb3, hnil⟩; obtain rfl := hnil rfl))
  go_ret2
  exact ⟨rfl, below_step (pw_below_drewN HB1.out _) hb3⟩
end Go.Proofs.Ytibbdjkboglepaa.MyQBchRoots

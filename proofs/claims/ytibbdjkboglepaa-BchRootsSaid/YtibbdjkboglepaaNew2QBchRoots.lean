/- The walk of field.New: a description that shape refuses or that has no generator gives nil and ErrField; else the field's record is made. -/
import Derived.Test.YtibbdjkboglepaaNewWQBchRoots
import Derived.Test.YtibbdjkboglepaaQBchRootsx3
import Derived.WalkSpells
set_option linter.unusedVariables false
set_option linter.unusedSimpArgs false
namespace Go.Proofs.Ytibbdjkboglepaa.MyQBchRoots
open Go Go.RowKit Go.Proofs.YtibbdjkboglepaaW.PrintWords Go.Proofs.YtibbdjkboglepaaW.PrintLast Go.Proofs.YtibbdjkboglepaaW.PrintMore Go.Proofs.Ytibbdjkboglepaa.My Go.Proofs.Ytibbdjkboglepaa.QBchRoots

set_option maxHeartbeats 8000000 in
set_option maxRecDepth 100000 in
/-- The record is made. -/
theorem New_ok (k : Nat) (P M q : Int) (A : Option Addr) (c : Nat) (Mod ex : List Int) (w : World) (hr : Kd.C (Kd.int .i64) w A Mod.length Mod) (hc : Mod.length ≤ c) (hml : Mod.length ≤ 8) (hs : field_shape.f k P M Mod = some true)
    (ho : field_order.f k P M = some q) (hg : field_generator.f k P M Mod q = some ex) (hne : 0 < ex.length) (hq0 : 0 ≤ q) (hq1 : q ≤ 256) (hel : ex.length ≤ 256) (hex : ∀ x ∈ ex, 0 ≤ x ∧ x < q) :
    Calls Try.prog 37 #[.agg #[.int .i64 P, .int .i64 M, .slice A Mod.length c]] w fun e w' => ∃ (g : Nat) (w0 : World), e = .returned (.tuple #[.pointer (some ⟨g, 0, none⟩), .int .i64 0]) ∧ IsS92 w0 w' g P M Mod q ex (logs ex (List.replicate q.toNat 0) ex.length) ∧ Below w0.heap.size w0 w' ∧ w.heap.size ≤ w0.heap.size ∧ Below w.heap.size w w' := by
  have HR := Aside0.mk hr
  have HC := Aside0.mk hc
  have HS := Aside0.mk hs
  have HO := Aside0.mk ho
  have HG := Aside0.mk hg
  have hu36 := Try.underlying36
  have HX := Aside0.mk hex
  have HNE := Aside0.mk hne
  clear hr hc hs ho hg hex hne
  have HB := Aside0.mk (Below.refl w.heap.size w)
  go_enter Try.func37, Try.ntmps37
  go_wp2_with (first
    | (go_at_call 62; refine (field_shape.calls k P M _ _ Mod true _ (Kd.C_alloc HR.out _) HC.out HS.out).mono ?_; rintro e w1 ⟨rfl, hb⟩
       have HB1 := Aside0.mk (below_step (below_alloc HB.out (.cells #[.int .i64 P, .int .i64 M, .slice A Mod.length c] 36)) hb)
       have BK := Aside0.mk (blk_below (blk_new w (.cells #[.int .i64 P, .int .i64 M, .slice A Mod.length c] 36)) hb)
       clear hb HB
       have hcz0 : w1.cell? ⟨w.heap.size, 0, none⟩ = some (.int .i64 P) := (blk_cell BK.out 0).trans rfl
       have hcz1 : w1.cell? ⟨w.heap.size, 1, none⟩ = some (.int .i64 M) := (blk_cell BK.out 1).trans rfl
       have hcz2 : w1.cell? ⟨w.heap.size, 2, none⟩ = some (.slice A Mod.length c) := (blk_cell BK.out 2).trans rfl)
    | (go_at_call 63; refine (field_order.calls k P M q _ HO.out).mono ?_; rintro e w2 ⟨rfl, ⟨nd, rfl⟩⟩)
    | (go_at_call 64; refine (field_generator.calls k P M _ _ Mod q ex _ (Kd.C_drewN (Kd.C_below HR.out HB1.out) _) HC.out HG.out).mono ?_; rintro e w3 ⟨v, rfl, hR3, hb3, hnil⟩; clear hnil
       obtain ⟨ge, ce, rfl, hge1, hge2, hge3⟩ := Kd.R_form hR3 HNE.out
       have HGE1 := Aside0.mk hge1
       have HGE2 := Aside0.mk hge2
       clear hge1 hge2 hge3
       have hnileq := fun W : World => Lib.run_eql_slice_nil (P := Try.prog) W 22 3 (some ⟨ge, 0, none⟩) ex.length ce 0 0 Try.underlying22
       have HR3 := Aside0.mk hR3
       have HB3 := Aside0.mk (below_step (pw_below_drewN HB1.out nd) hb3)
       have BK3 := Aside0.mk (blk_below (blk_drewN BK.out nd) hb3)
       clear hR3 hb3))
  clear hnileq hcz0 hcz1 hcz2
  refine start_ (n := 16) (S := fun w' => w'.cell? ⟨w.heap.size, 0, none⟩ = some (.int .i64 P) ∧ w'.cell? ⟨w.heap.size, 1, none⟩ = some (.int .i64 M) ∧ w'.cell? ⟨w.heap.size, 2, none⟩ = some (.slice A Mod.length c)) (ds := [14]) #[false, false, false, false, false, false, false, false, false, false, false, false, false, false, false, false] (by kernel_rfl) rfl rfl ⟨(blk_cell (blk_drew BK3.out) 0).trans rfl, (blk_cell (blk_drew BK3.out) 1).trans rfl, (blk_cell (blk_drew BK3.out) 2).trans rfl⟩ (fun hHeld => ?_)
  refine pure_ (i := 0) (N := some 22) (v := ?_) (a' := ?_) #[true, false, false, false, false, false, false, false, false, false, false, false, false, false, false, false] rfl rfl (by kernel_rfl) (fun _ _ _ h => h) (Or.inl ⟨by rfl, ?_⟩) ?_ ?_
  rotate_left
  · intro w'
    go_simp
    with_reducible rfl
  rotate_left
  · simp only [Act.put, List.setIfInBounds_toArray, List.set_cons_zero, List.set_cons_succ, i64_w, i32_w]
    rfl
  refine take_ (i := 1) (N := some 23) (v := ?_) (a' := ?_) #[true, true, false, false, false, false, false, false, false, false, false, false, false, false, false, false] rfl rfl (by kernel_rfl) (fun _ _ _ h => h) (Or.inl ⟨by rfl, ?_⟩) hHeld ?_ ?_
  rotate_left
  · rintro w' ⟨s0, s1, s2⟩
    go_simp
    with_reducible rfl
  rotate_left
  · simp only [Act.put, List.setIfInBounds_toArray, List.set_cons_zero, List.set_cons_succ, i64_w, i32_w]
    rfl
  refine pure_ (i := 2) (N := some 24) (v := ?_) (a' := ?_) #[true, true, true, false, false, false, false, false, false, false, false, false, false, false, false, false] rfl rfl (by kernel_rfl) (fun _ _ _ h => h) (Or.inl ⟨by rfl, ?_⟩) ?_ ?_
  rotate_left
  · intro w'
    go_simp
    with_reducible rfl
  rotate_left
  · simp only [Act.put, List.setIfInBounds_toArray, List.set_cons_zero, List.set_cons_succ, i64_w, i32_w]
    rfl
  refine take_ (i := 3) (N := some 25) (v := ?_) (a' := ?_) #[true, true, true, true, false, false, false, false, false, false, false, false, false, false, false, false] rfl rfl (by kernel_rfl) (fun _ _ _ h => h) (Or.inl ⟨by rfl, ?_⟩) hHeld ?_ ?_
  rotate_left
  · rintro w' ⟨s0, s1, s2⟩
    go_simp
    with_reducible rfl
  rotate_left
  · simp only [Act.put, List.setIfInBounds_toArray, List.set_cons_zero, List.set_cons_succ, i64_w, i32_w]
    rfl
  refine pure_ (i := 5) (N := some 27) (v := ?_) (a' := ?_) #[true, true, true, true, false, true, false, false, false, false, false, false, false, false, false, false] rfl rfl (by kernel_rfl) (fun _ _ _ h => h) (Or.inl ⟨by rfl, ?_⟩) ?_ ?_
  rotate_left
  · intro w'
    go_simp
    with_reducible rfl
  rotate_left
  · simp only [Act.put, List.setIfInBounds_toArray, List.set_cons_zero, List.set_cons_succ, i64_w, i32_w]
    rfl
  refine take_ (i := 6) (N := some 28) (v := ?_) (a' := ?_) #[true, true, true, true, false, true, true, false, false, false, false, false, false, false, false, false] rfl rfl (by kernel_rfl) (fun _ _ _ h => h) (Or.inl ⟨by rfl, ?_⟩) hHeld ?_ ?_
  rotate_left
  · rintro w' ⟨s0, s1, s2⟩
    go_simp
    with_reducible rfl
  rotate_left
  · simp only [Act.put, List.setIfInBounds_toArray, List.set_cons_zero, List.set_cons_succ, i64_w, i32_w]
    rfl
  refine pure_ (i := 9) (N := some 31) (v := ?_) (a' := ?_) #[true, true, true, true, false, true, true, false, false, true, false, false, false, false, false, false] rfl rfl (by kernel_rfl) (fun _ _ _ h => h) (Or.inl ⟨by rfl, ?_⟩) ?_ ?_
  rotate_left
  · intro w'
    go_simp
    with_reducible rfl
  rotate_left
  · simp only [Act.put, List.setIfInBounds_toArray, List.set_cons_zero, List.set_cons_succ, i64_w, i32_w]
    rfl
  refine pure_ (i := 10) (N := some 32) (v := ?_) (a' := ?_) #[true, true, true, true, false, true, true, false, false, true, true, false, false, false, false, false] rfl rfl (by kernel_rfl) (fun _ _ _ h => h) (Or.inl ⟨by rfl, ?_⟩) ?_ ?_
  rotate_left
  · intro w'
    go_simp
    with_reducible rfl
  rotate_left
  · simp only [Act.put, List.setIfInBounds_toArray, List.set_cons_zero, List.set_cons_succ, i64_w, i32_w]
    rfl
  refine pure_ (i := 11) (N := some 33) (v := ?_) (a' := ?_) #[true, true, true, true, false, true, true, false, false, true, true, true, false, false, false, false] rfl rfl (by kernel_rfl) (fun _ _ _ h => h) (Or.inl ⟨by rfl, ?_⟩) ?_ ?_
  rotate_left
  · intro w'
    go_simp
    with_reducible rfl
  rotate_left
  · simp only [Act.put, List.setIfInBounds_toArray, List.set_cons_zero, List.set_cons_succ, i64_w, i32_w]
    rfl
  refine join_ (σ := Value × Value × Value) 3 #[true, true, true, true, true, true, true, true, true, true, true, true, true, false, false, false] (fun s => [(26, s.1), (29, s.2.1), (30, .agg #[.int .i64 P, .int .i64 M, s.2.1]), (34, s.2.2)]) (fun s w' => (Kd.int .i64).R 3 w' w.heap.size (fun k => some k ≠ s.2.2.ownBlock) s.2.1 Mod ∧ (Kd.int .i64).R 3 w' w.heap.size (fun _ => True) s.2.2 (List.replicate q.toNat 0) ∧ (Kd.int .i64).R 3 w' w.heap.size (fun k => some k ≠ s.2.2.ownBlock) (.slice (some ⟨ge, 0, none⟩) ex.length ce) ex ∧ Below w.heap.size w w' ∧ w'.heap[w.heap.size]? = some (.cells #[.int .i64 P, .int .i64 M, .slice A Mod.length c] 36 (0, 0))) ?_ ?_
  rotate_left
  · intro hCont
    have hB3 := below_drew HB3.out
    have hK3 := blk_drew BK3.out
    have hE3 := Ri_ok (Kd.R_lower (Kd.R_drew HR3.out) (below_size (pw_below_drewN HB1.out nd))) (ok' := fun _ => True) (fun _ _ => trivial)
    have hEl : ∀ k, (Value.slice (some ⟨ge, 0, none⟩) ex.length ce).ownBlock = some k → k < w3.drew.heap.size := fun k hk => by simp [Value.ownBlock] at hk; subst hk; exact HGE2.out
    have hKl : w.heap.size < w3.drew.heap.size := blk_lt hK3
    refine two_ (i := 4) (j := 12) (Ni := some 26) (Nj := some 34) #[true, true, true, true, true, true, true, false, false, true, true, true, false, false, false, false] #[true, true, true, true, false, true, true, false, false, true, true, true, true, false, false, false] rfl rfl rfl rfl (by kernel_rfl) (by decide) (by decide) (fun K hK => ?_) (fun K hK => ?_)
    · skip
      refine Kd.R_lit_step (Kd.int .i64) (w0 := w) w.heap.size 3 (by kernel_rfl) (N := 26) rfl (xs := []) (inner := []) (ok := fun _ => True) (okp := fun _ => True) (by first | (go_simp; done) | (go_simp; rfl)) (Reps.none _ _) (fun _ hk => hk) trivial hB3 hB3.size (by simp) ?_
      intro v26 wa h26 hBa hg26 hn26
      obtain ⟨b26, hb26, hl26⟩ := hn26
      have hEa := Ri_grown hE3 hg26 (fun _ _ => by simp)
      have hKa := blk_grown hK3 hg26 (by simp)
      have hsa := grownBy_size hg26
      refine hK.out _ _ ⟨(blk_cell hKa 0).trans rfl, (blk_cell hKa 1).trans rfl, (blk_cell hKa 2).trans rfl⟩ (fun hHeld => ?_)
      clear hK K
      refine norm_ (a' := ?_) ?_ ?_
      rotate_left
      · show Act.put _ (some 26) _ = _
        simp only [Act.put, List.setIfInBounds_toArray, List.set_cons_zero, List.set_cons_succ, i64_w, i32_w]
        rfl
      refine two_ (i := 7) (j := 12) (Ni := some 29) (Nj := some 34) #[true, true, true, true, true, true, true, true, false, true, true, true, false, false, false, false] #[true, true, true, true, true, true, true, false, false, true, true, true, true, false, false, false] rfl rfl rfl rfl (by kernel_rfl) (by decide) (by decide) (fun K hK => ?_) (fun K hK => ?_)
      · skip
        refine Kd.R_append_rows_step (Kd.int .i64) (w0 := w) w.heap.size (by kernel_rfl) _ _ 22 3 (.int .i64 0) 8 rfl Try.underlying22 info3 rfl (by decide) (by omega) v26 [] Mod A Mod.length c (fun _ => True) (fun _ => False) rfl rfl h26 (Kd.C_below HR.out hBa) (fun _ _ h => h) (fun _ h => h.elim) (fun _ _ => trivial) hBa hBa.size (by simp; omega) ?_
        intro v29 wb h29 hBb hg29 hn29
        rw [List.nil_append] at h29; obtain ⟨A29, c29, rfl⟩ := Kd.R_slice h29
        have hEb := Ri_grown hEa hg29 (fun k hk => by rw [hb26]; simp only [ne_eq, Option.some.injEq]; have := hEl k hk; omega)
        have hKb := blk_grown hKa hg29 (by rw [hb26]; simp only [ne_eq, Option.some.injEq]; omega)
        have hsb := grownBy_size hg29
        refine hK.out _ _ ⟨(blk_cell hKb 0).trans rfl, (blk_cell hKb 1).trans rfl, (blk_cell hKb 2).trans rfl⟩ (fun hHeld => ?_)
        clear hK K
        refine norm_ (a' := ?_) ?_ ?_
        rotate_left
        · show Act.put _ (some 29) _ = _
          simp only [Act.put, List.setIfInBounds_toArray, List.set_cons_zero, List.set_cons_succ, i64_w, i32_w]
          rfl
        refine pure_ (i := 8) (N := some 30) (v := ?_) (a' := ?_) #[true, true, true, true, true, true, true, true, true, true, true, true, false, false, false, false] rfl rfl (by kernel_rfl) (fun _ _ _ h => h) (Or.inl ⟨by rfl, ?_⟩) ?_ ?_
        rotate_left
        · intro w'
          go_simp
          with_reducible rfl
        rotate_left
        · simp only [Act.put, List.setIfInBounds_toArray, List.set_cons_zero, List.set_cons_succ, i64_w, i32_w]
          rfl
        refine one_ (i := 12) (N := some 34) #[true, true, true, true, true, true, true, true, true, true, true, true, true, false, false, false] rfl rfl (by kernel_rfl) (by decide) (fun K hK => ?_)
        refine Kd.R_make_step (Kd.int .i64) (w0 := w) w.heap.size 3 (by kernel_rfl) (N := 34) rfl 22 _ _ rfl q rfl rfl Try.underlying22 (.int .i64 0) 8 info3 rfl (by decide) (by omega) 0 (ok := fun _ => True) (okp := fun _ => True) rfl (fun _ hk => hk) trivial hq0 (by omega) hBb hBb.size ?_
        intro v34 wc h34 hBc hg34 hn34
        obtain ⟨b34, hb34, hl34⟩ := hn34
        have hKc := blk_grown hKb hg34 (by simp)
        refine hK.out _ _ ⟨(blk_cell hKc 0).trans rfl, (blk_cell hKc 1).trans rfl, (blk_cell hKc 2).trans rfl⟩ (fun hHeld => ?_)
        clear hK K
        refine norm_ (a' := ?_) ?_ ?_
        rotate_left
        · show Act.put _ (some 34) _ = _
          simp only [Act.put, List.setIfInBounds_toArray, List.set_cons_zero, List.set_cons_succ, i64_w, i32_w]
          rfl
        exact norm_ (by first | (simp only [putAll, Act.put, List.setIfInBounds_toArray, List.set_cons_zero, List.set_cons_succ]; done) | (simp only [putAll, Act.put, List.setIfInBounds_toArray, List.set_cons_zero, List.set_cons_succ]; rfl)) (hCont (v26, .slice A29 Mod.length c29, v34) _ ⟨Ri_ok (Ri_grown h29 hg34 (fun _ _ => by simp)) (fun k hk => by show some k ≠ v34.ownBlock; rw [hb34]; simp only [ne_eq, Option.some.injEq]; have := Kd.R_lt h29 k hk; omega), h34, Ri_ok (Ri_grown hEb hg34 (fun _ _ => by simp)) (fun k hk => by show some k ≠ v34.ownBlock; rw [hb34]; simp only [ne_eq, Option.some.injEq]; have := hEl k hk; omega), hBc, hKc⟩)
      · skip
        refine Kd.R_make_step (Kd.int .i64) (w0 := w) w.heap.size 3 (by kernel_rfl) (N := 34) rfl 22 _ _ rfl q rfl rfl Try.underlying22 (.int .i64 0) 8 info3 rfl (by decide) (by omega) 0 (ok := fun _ => True) (okp := fun _ => True) rfl (fun _ hk => hk) trivial hq0 (by omega) hBa hBa.size ?_
        intro v34 wb h34 hBb hg34 hn34
        obtain ⟨b34, hb34, hl34⟩ := hn34
        have hEb := Ri_grown hEa hg34 (fun _ _ => by simp)
        have h26b := Ri_grown h26 hg34 (fun _ _ => by simp)
        have hlt26 := Kd.R_lt h26 b26 hb26
        have hlt34 := Kd.R_lt h34 b34 hb34
        have hKb := blk_grown hKa hg34 (by simp)
        have hsb := grownBy_size hg34
        refine hK.out _ _ ⟨(blk_cell hKb 0).trans rfl, (blk_cell hKb 1).trans rfl, (blk_cell hKb 2).trans rfl⟩ (fun hHeld => ?_)
        clear hK K
        refine norm_ (a' := ?_) ?_ ?_
        rotate_left
        · show Act.put _ (some 34) _ = _
          simp only [Act.put, List.setIfInBounds_toArray, List.set_cons_zero, List.set_cons_succ, i64_w, i32_w]
          rfl
        have h34b := h34
        refine one_ (i := 7) (N := some 29) #[true, true, true, true, true, true, true, true, false, true, true, true, true, false, false, false] rfl rfl (by kernel_rfl) (by decide) (fun K hK => ?_)
        refine Kd.R_append_rows_step (Kd.int .i64) (w0 := w) w.heap.size (by kernel_rfl) _ _ 22 3 (.int .i64 0) 8 rfl Try.underlying22 info3 rfl (by decide) (by omega) v26 [] Mod A Mod.length c (fun _ => True) (fun _ => False) rfl rfl h26b (Kd.C_below HR.out hBb) (fun _ _ h => h) (fun _ h => h.elim) (fun _ _ => trivial) hBb hBb.size (by simp; omega) ?_
        intro v29 wc h29 hBc hg29 hn29
        rw [List.nil_append] at h29; obtain ⟨A29, c29, rfl⟩ := Kd.R_slice h29
        have hEc := Ri_grown hEb hg29 (fun k hk => by rw [hb26]; simp only [ne_eq, Option.some.injEq]; have := hEl k hk; omega)
        have h34c := Ri_grown h34b hg29 (fun k hk => by rw [hb26]; simp only [ne_eq, Option.some.injEq]; rw [hb34] at hk; injection hk with hk; omega)
        have hKc := blk_grown hKb hg29 (by rw [hb26]; simp only [ne_eq, Option.some.injEq]; omega)
        refine hK.out _ _ ⟨(blk_cell hKc 0).trans rfl, (blk_cell hKc 1).trans rfl, (blk_cell hKc 2).trans rfl⟩ (fun hHeld => ?_)
        clear hK K
        refine norm_ (a' := ?_) ?_ ?_
        rotate_left
        · show Act.put _ (some 29) _ = _
          simp only [Act.put, List.setIfInBounds_toArray, List.set_cons_zero, List.set_cons_succ, i64_w, i32_w]
          rfl
        refine pure_ (i := 8) (N := some 30) (v := ?_) (a' := ?_) #[true, true, true, true, true, true, true, true, true, true, true, true, true, false, false, false] rfl rfl (by kernel_rfl) (fun _ _ _ h => h) (Or.inl ⟨by rfl, ?_⟩) ?_ ?_
        rotate_left
        · intro w'
          go_simp
          with_reducible rfl
        rotate_left
        · simp only [Act.put, List.setIfInBounds_toArray, List.set_cons_zero, List.set_cons_succ, i64_w, i32_w]
          rfl
        exact norm_ (by first | (simp only [putAll, Act.put, List.setIfInBounds_toArray, List.set_cons_zero, List.set_cons_succ]; done) | (simp only [putAll, Act.put, List.setIfInBounds_toArray, List.set_cons_zero, List.set_cons_succ]; rfl)) (hCont (v26, .slice A29 Mod.length c29, v34) _ ⟨Ri_ok h29 (fun k hk => by show some k ≠ v34.ownBlock; rw [hb34]; simp only [ne_eq, Option.some.injEq]; rcases hn29 with e | ⟨b29, e, hl29⟩ <;> rw [hk] at e <;> (try rw [hb26] at e) <;> injection e with e <;> omega), h34c, Ri_ok hEc (fun k hk => by show some k ≠ v34.ownBlock; rw [hb34]; simp only [ne_eq, Option.some.injEq]; have := hEl k hk; omega), hBc, hKc⟩)
    · skip
      refine Kd.R_make_step (Kd.int .i64) (w0 := w) w.heap.size 3 (by kernel_rfl) (N := 34) rfl 22 _ _ rfl q rfl rfl Try.underlying22 (.int .i64 0) 8 info3 rfl (by decide) (by omega) 0 (ok := fun _ => True) (okp := fun _ => True) rfl (fun _ hk => hk) trivial hq0 (by omega) hB3 hB3.size ?_
      intro v34 wa h34 hBa hg34 hn34
      obtain ⟨b34, hb34, hl34⟩ := hn34
      have hEa := Ri_grown hE3 hg34 (fun _ _ => by simp)
      have hKa := blk_grown hK3 hg34 (by simp)
      have hsa := grownBy_size hg34
      have hlt34 := Kd.R_lt h34 b34 hb34
      refine hK.out _ _ ⟨(blk_cell hKa 0).trans rfl, (blk_cell hKa 1).trans rfl, (blk_cell hKa 2).trans rfl⟩ (fun hHeld => ?_)
      clear hK K
      refine norm_ (a' := ?_) ?_ ?_
      rotate_left
      · show Act.put _ (some 34) _ = _
        simp only [Act.put, List.setIfInBounds_toArray, List.set_cons_zero, List.set_cons_succ, i64_w, i32_w]
        rfl
      refine one_ (i := 4) (N := some 26) #[true, true, true, true, true, true, true, false, false, true, true, true, true, false, false, false] rfl rfl (by kernel_rfl) (by decide) (fun K hK => ?_)
      refine Kd.R_lit_step (Kd.int .i64) (w0 := w) w.heap.size 3 (by kernel_rfl) (N := 26) rfl (xs := []) (inner := []) (ok := fun _ => True) (okp := fun _ => True) (by first | (go_simp; done) | (go_simp; rfl)) (Reps.none _ _) (fun _ hk => hk) trivial hBa hBa.size (by simp) ?_
      intro v26 wb h26 hBb hg26 hn26
      obtain ⟨b26, hb26, hl26⟩ := hn26
      have hEb := Ri_grown hEa hg26 (fun _ _ => by simp)
      have h34b := Ri_grown h34 hg26 (fun _ _ => by simp)
      have h26b := h26
      have hlt26 := Kd.R_lt h26 b26 hb26
      have hKb := blk_grown hKa hg26 (by simp)
      have hsb := grownBy_size hg26
      refine hK.out _ _ ⟨(blk_cell hKb 0).trans rfl, (blk_cell hKb 1).trans rfl, (blk_cell hKb 2).trans rfl⟩ (fun hHeld => ?_)
      clear hK K
      refine norm_ (a' := ?_) ?_ ?_
      rotate_left
      · show Act.put _ (some 26) _ = _
        simp only [Act.put, List.setIfInBounds_toArray, List.set_cons_zero, List.set_cons_succ, i64_w, i32_w]
        rfl
      refine one_ (i := 7) (N := some 29) #[true, true, true, true, true, true, true, true, false, true, true, true, true, false, false, false] rfl rfl (by kernel_rfl) (by decide) (fun K hK => ?_)
      refine Kd.R_append_rows_step (Kd.int .i64) (w0 := w) w.heap.size (by kernel_rfl) _ _ 22 3 (.int .i64 0) 8 rfl Try.underlying22 info3 rfl (by decide) (by omega) v26 [] Mod A Mod.length c (fun _ => True) (fun _ => False) rfl rfl h26b (Kd.C_below HR.out hBb) (fun _ _ h => h) (fun _ h => h.elim) (fun _ _ => trivial) hBb hBb.size (by simp; omega) ?_
      intro v29 wc h29 hBc hg29 hn29
      rw [List.nil_append] at h29; obtain ⟨A29, c29, rfl⟩ := Kd.R_slice h29
      have hEc := Ri_grown hEb hg29 (fun k hk => by rw [hb26]; simp only [ne_eq, Option.some.injEq]; have := hEl k hk; omega)
      have h34c := Ri_grown h34b hg29 (fun k hk => by rw [hb26]; simp only [ne_eq, Option.some.injEq]; rw [hb34] at hk; injection hk with hk; omega)
      have hKc := blk_grown hKb hg29 (by rw [hb26]; simp only [ne_eq, Option.some.injEq]; omega)
      refine hK.out _ _ ⟨(blk_cell hKc 0).trans rfl, (blk_cell hKc 1).trans rfl, (blk_cell hKc 2).trans rfl⟩ (fun hHeld => ?_)
      clear hK K
      refine norm_ (a' := ?_) ?_ ?_
      rotate_left
      · show Act.put _ (some 29) _ = _
        simp only [Act.put, List.setIfInBounds_toArray, List.set_cons_zero, List.set_cons_succ, i64_w, i32_w]
        rfl
      refine pure_ (i := 8) (N := some 30) (v := ?_) (a' := ?_) #[true, true, true, true, true, true, true, true, true, true, true, true, true, false, false, false] rfl rfl (by kernel_rfl) (fun _ _ _ h => h) (Or.inl ⟨by rfl, ?_⟩) ?_ ?_
      rotate_left
      · intro w'
        go_simp
        with_reducible rfl
      rotate_left
      · simp only [Act.put, List.setIfInBounds_toArray, List.set_cons_zero, List.set_cons_succ, i64_w, i32_w]
        rfl
      exact norm_ (by first | (simp only [putAll, Act.put, List.setIfInBounds_toArray, List.set_cons_zero, List.set_cons_succ]; done) | (simp only [putAll, Act.put, List.setIfInBounds_toArray, List.set_cons_zero, List.set_cons_succ]; rfl)) (hCont (v26, .slice A29 Mod.length c29, v34) _ ⟨Ri_ok h29 (fun k hk => by show some k ≠ v34.ownBlock; rw [hb34]; simp only [ne_eq, Option.some.injEq]; rcases hn29 with e | ⟨b29, e, hl29⟩ <;> rw [hk] at e <;> (try rw [hb26] at e) <;> injection e with e <;> omega), h34c, Ri_ok hEc (fun k hk => by show some k ≠ v34.ownBlock; rw [hb34]; simp only [ne_eq, Option.some.injEq]; have := hEl k hk; omega), hBc, hKc⟩)
  rintro ⟨v26, v29, v34⟩ w4 ⟨hM4, hL4, hE4, hB4, hK4⟩
  simp only at hM4 hL4 hE4
  have hqp : 0 < q := by
    have h0 := HX.out (ex[0]'HNE.out) (List.getElem_mem _)
    omega
  obtain ⟨A29, c29, rfl⟩ := Kd.R_slice hM4
  obtain ⟨gl, cl, rfl, hgl1, hgl2, hgl3⟩ := Kd.R_form hL4 (by rw [List.length_replicate]; omega)
  rw [List.length_replicate] at hL4 hM4 hE4
  clear hgl3
  refine norm_ (a' := ?_) ?_ ?_
  rotate_left
  · simp only [putAll, Act.put, List.setIfInBounds_toArray, List.set_cons_zero, List.set_cons_succ, List.length_replicate]
    rfl
  have hu92 := Try.underlying92
  refine pure_ (i := 13) (N := some 35) (v := ?_) (a' := ?_) #[true, true, true, true, true, true, true, true, true, true, true, true, true, true, false, false] rfl rfl (by kernel_rfl) (fun _ _ _ h => h) (Or.inl ⟨by rfl, ?_⟩) ?_ ?_
  rotate_left
  · intro w'
    go_simp
    with_reducible rfl
  rotate_left
  · simp only [Act.put, List.setIfInBounds_toArray, List.set_cons_zero, List.set_cons_succ, i64_w, i32_w]
    rfl
  refine last_ (i := 14) (N := some 36) #[true, true, true, true, true, true, true, true, true, true, true, true, true, true, true, false] rfl rfl (by kernel_rfl) (by decide) (fun K hK => ?_)
  refine box_step (by kernel_rfl) (N := 36) rfl (cs := #[.int .i64 P, .int .i64 M, .slice A29 Mod.length c29, .int .i64 q, .slice (some ⟨ge, 0, none⟩) ex.length ce, .slice (some ⟨gl, 0, none⟩) q.toNat cl]) (t := 92) (by first | (go_simp; done) | (go_simp; rfl)) ?_
  intro g hg_ w5 hbox hb5
  have HGQ := Aside0.mk hg_
  clear hg_
  refine hK.out _ _ ?_
  clear hK K
  refine norm_ (a' := ?_) ?_ ?_
  rotate_left
  · show Act.put _ (some 36) _ = _
    simp only [Act.put, List.setIfInBounds_toArray, List.set_cons_zero, List.set_cons_succ, i64_w, i32_w]
    rfl
  refine pure_ (i := 15) (N := some 6) (v := ?_) (a' := ?_) #[true, true, true, true, true, true, true, true, true, true, true, true, true, true, true, true] rfl rfl (by kernel_rfl) (fun _ _ _ h => h) (Or.inl ⟨by rfl, ?_⟩) ?_ ?_
  rotate_left
  · intro w'
    go_simp
    with_reducible rfl
  rotate_left
  · simp only [Act.put, List.setIfInBounds_toArray, List.set_cons_zero, List.set_cons_succ, i64_w, i32_w]
    rfl
  refine done_ (by kernel_rfl) ?_
  have hg := HGQ.out
  clear HGQ
  have HB := Aside0.mk (below_step hB4 hb5)
  have HM := Aside0.mk (Ri_ok (Kd.R_below hM4 hb5) (ok' := fun k => k < g ∧ k ≠ gl) (fun k hk => ⟨by rw [hg]; exact Kd.R_lt hM4 k hk, fun e => hM4.1 k hk (by rw [e]; rfl)⟩))
  have HE := Aside0.mk (Ri_ok (Kd.R_below hE4 hb5) (ok' := fun k => k < g ∧ k ≠ gl) (fun k hk => ⟨by rw [hg]; exact Kd.R_lt hE4 k hk, fun e => hE4.1 k hk (by rw [e]; rfl)⟩))
  have HL := Aside0.mk (Ri_ok (Kd.R_below hL4 hb5) (ok' := fun k => k < g) (fun k hk => by rw [hg]; exact Kd.R_lt hL4 k hk))
  have BG := Aside0.mk hbox
  have HG0 := Aside0.mk ((by rw [hg]; exact hB4.size) : w.heap.size ≤ g)
  have HGL := Aside0.mk hgl1
  have HLG := Aside0.mk ((by rw [hg]; exact hgl2) : gl < g)
  clear hM4 hL4 hE4 hB4 hK4 hb5 hbox hg hgl1 hgl2
  try go_wp2
  go_loopg [39] (ex.length + 1) (fun kq v39 w' => ∃ n : Nat, v39 = .int .i64 (n : Int) ∧ Aside0 (n ≤ ex.length ∧ n + kq = ex.length + 1) ∧ Aside0 ((Kd.int .i64).R 3 w' w.heap.size (fun k => k < g) (.slice (some ⟨gl, 0, none⟩) q.toNat cl) (logs ex (List.replicate q.toNat 0) n)) ∧ Aside0 ((Kd.int .i64).R 3 w' w.heap.size (fun k => k < g ∧ k ≠ gl) (.slice A29 Mod.length c29) Mod) ∧ Aside0 ((Kd.int .i64).R 3 w' w.heap.size (fun k => k < g ∧ k ≠ gl) (.slice (some ⟨ge, 0, none⟩) ex.length ce) ex) ∧ Aside0 (w'.heap[g]? = some (.cells #[.int .i64 P, .int .i64 M, .slice A29 Mod.length c29, .int .i64 q, .slice (some ⟨ge, 0, none⟩) ex.length ce, .slice (some ⟨gl, 0, none⟩) q.toNat cl] 92 (0, 0))) ∧ Aside0 (Below w.heap.size w w'))
  case atStart => exact ⟨0, rfl, ⟨⟨by omega, by omega⟩⟩, ⟨(by (with_reducible repeat (first | apply Kd.R_alloc | apply Kd.R_drewN | apply Kd.R_drew)); exact HL.out)⟩, ⟨(by (with_reducible repeat (first | apply Kd.R_alloc | apply Kd.R_drewN | apply Kd.R_drew)); exact HM.out)⟩, ⟨(by (with_reducible repeat (first | apply Kd.R_alloc | apply Kd.R_drewN | apply Kd.R_drew)); exact HE.out)⟩, ⟨(by (with_reducible repeat (first | refine blk_drewN ?_ _ | refine blk_drew ?_ | refine blk_alloc ?_ _)); exact BG.out)⟩, ⟨(by repeat (first | (with_reducible first | exact HB.out | apply below_alloc | apply pw_below_drewN | apply below_drew1) | exact HB.out))⟩⟩
  case round =>
    clear HL HM HE BG HB
    obtain ⟨n, rfl, HN, HL, HM, HE, BG, HB⟩ := hrel
    cases gk with
    | zero => exact absurd HN.out (by omega)
    | succ k1 =>
      by_cases hn : n < ex.length
      · have c1 : decide ((n : Int) < (ex.length : Int)) = true := decide_eq_true (by omega)
        have hxm := HX.out (ex[n]'hn) (List.getElem_mem _)
        obtain ⟨ad1, e1, hx1⟩ := Kd.at_int (Kd.R_reads' HE.out).2.2 (n : Int) (by omega) (by omega)
        obtain rfl : (⟨ge, 0, none⟩ : Addr) = ad1 := (by injection e1)
        have hrx : rd ex (n : Int) = ex[n]'hn := by simp [rd, List.getD_eq_getElem?_getD, List.getElem?_eq_getElem hn]
        rw [hrx] at hx1
        have hlog : logs ex (List.replicate q.toNat 0) (n + 1) = (logs ex (List.replicate q.toNat 0) n).set (ex[n]'hn).toNat (n : Int) := by rw [logs, hrx]
        have LG := Aside0.mk hlog
        clear hrx hlog
        generalize hxe : ex[n]'hn = x at hx1 hxm LG
        clear hxe
        (first | simp only [add_plain] at hx1 | simp only [add_at] at hx1 | simp only [Addr.add, Nat.zero_add] at hx1 | skip)
        (try simp only [Int.toNat_natCast, Nat.zero_add] at hx1)
        obtain ⟨hx2, hf2⟩ := Kd.R_celln 0 HL.out x hxm.1 (by have := hxm.2; omega)
        have hcg3 : wr.cell? ⟨g, 3, none⟩ = some (.int .i64 q) := (blk_cell BG.out 3).trans rfl
        have hcg5 : wr.cell? ⟨g, 5, none⟩ = some (.slice (some ⟨gl, 0, none⟩) q.toNat cl) := (blk_cell BG.out 5).trans rfl
        have p1 : decide (0 ≤ (n : Int)) = true := decide_eq_true (by omega)
        have p2 : decide (0 ≤ x) = true := decide_eq_true hxm.1
        have p3 : decide (x < (q.toNat : Int)) = true := decide_eq_true (by have := hxm.2; omega)
        have p4 : (0 ≤ x) = True := eq_true hxm.1
        have p5 : (x < (q.toNat : Int)) = True := eq_true (by have := hxm.2; omega)
        have p6 : (0 ≤ (n : Int)) = True := eq_true (by omega)
        have p7 : ((n : Int) < (ex.length : Int)) = True := eq_true (by omega)
        have HP := Kd.R_putg HL.out x (n : Int)
        have hwn : wrap64 ((n : Int) + 1) = ((n + 1 : Nat) : Int) := by rw [My.w64] <;> omega
        go_wp2_with (first | ((with_reducible refine gate_store (t := 3) (p := 50) rfl ?_); refine store_event (t := 3) (p := 50) (v := .tmp 49) (w1 := (wr.setCell ⟨gl, x.toNat, none⟩ (.int .i64 (n : Int)))) ?hg ?ho ?hn ?hr ?_; (case ho => rfl); (case hg => rfl); (case hn => rfl); (case hr => first | (go_simp; done) | (go_simp; rfl)); intro w24 hw; have hg24 : wr.grownBy w24 (some gl) := (by rw [hw]; exact HP.2); have n0_ := Aside0.mk ((by rw [hw, LG.out]; exact HP.1) : (Kd.int .i64).R 3 w24 w.heap.size (fun k => k < g) (.slice (some ⟨gl, 0, none⟩) q.toNat cl) (logs ex (List.replicate q.toNat 0) (n + 1))); have n1_ := Aside0.mk (Ri_grown HM.out hg24 (fun k hk => by have := (HM.out.1 k hk).2; simpa using this)); have n2_ := Aside0.mk (Ri_grown HE.out hg24 (fun k hk => by have := (HE.out.1 k hk).2; simpa using this)); have n3_ := Aside0.mk (blk_grown BG.out hg24 (by have := HLG.out; simp only [ne_eq, Option.some.injEq]; omega)); have n4_ := Aside0.mk ((by rw [hw]; exact below_set HB.out HGL.out) : Below w.heap.size w w24); clear HL HM HE BG HB HP; have HL := n0_; have HM := n1_; have HE := n2_; have BG := n3_; have HB := n4_; clear n0_ n1_ n2_ n3_ n4_ hw hg24))
        go_roundg k1
        case measure => omega
        case rel => exact ⟨n + 1, (by first | rfl | (simp; done) | (simp [hwn]; done)), ⟨⟨by omega, by have := HN.out; omega⟩⟩, ⟨(by (with_reducible repeat (first | apply Kd.R_alloc | apply Kd.R_drewN | apply Kd.R_drew)); exact HL.out)⟩, ⟨(by (with_reducible repeat (first | apply Kd.R_alloc | apply Kd.R_drewN | apply Kd.R_drew)); exact HM.out)⟩, ⟨(by (with_reducible repeat (first | apply Kd.R_alloc | apply Kd.R_drewN | apply Kd.R_drew)); exact HE.out)⟩, ⟨(by (with_reducible repeat (first | refine blk_drewN ?_ _ | refine blk_drew ?_ | refine blk_alloc ?_ _)); exact BG.out)⟩, ⟨(by repeat (first | (with_reducible first | exact HB.out | apply below_alloc | apply pw_below_drewN | apply below_drew1) | exact HB.out))⟩⟩
      · have c1 : decide ((n : Int) < (ex.length : Int)) = false := decide_eq_false (by omega)
        have HN2 := HN.out
        obtain rfl : n = ex.length := by omega
        go_wp2
        go_ret2
        have hgw := blk_lt BG.out
        have hCM := cutW_R HM.out (fun k hk => (HM.out.1 k hk).1)
        have hCE := cutW_R HE.out (fun k hk => (HE.out.1 k hk).1)
        have hCL := cutW_R HL.out (fun k hk => HL.out.1 k hk)
        have hll : (logs ex (List.replicate q.toNat 0) ex.length).length = q.toNat := by rw [logs_length, List.length_replicate]
        refine ⟨g, cutW wr g, rfl, ⟨A29, c29, some ⟨ge, 0, none⟩, ce, some ⟨gl, 0, none⟩, cl, ?_, ?_, hCM, hCE, hCL⟩, ?_, ?_, ?_⟩
        · rw [hll]
          exact (by (with_reducible repeat (first | refine blk_drewN ?_ _ | refine blk_drew ?_ | refine blk_alloc ?_ _)); exact BG.out)
        · rw [cutW_size (by omega)]
          exact Nat.le_refl _
        · repeat (first | (with_reducible first | exact cutW_below (by omega) | apply pw_below_drewN | apply below_drew) | exact cutW_below (by omega))
        · rw [cutW_size (by omega)]
          exact HG0.out
        · exact (by repeat (first | (with_reducible first | exact HB.out | apply below_alloc | apply pw_below_drewN | apply below_drew1) | exact HB.out))
end Go.Proofs.Ytibbdjkboglepaa.MyQBchRoots

import Derived.Test.YtibbdjkboglepaaM1
import Derived.Laws.CopyOwn
set_option maxHeartbeats 8000000
set_option maxRecDepth 100000
set_option linter.unusedVariables false
set_option linter.unusedSimpArgs false
set_option linter.unusedSectionVars false
namespace Go.Proofs.Ytibbdjkboglepaa.QBchRoots
open Go.RowKit Go.Proofs.YtibbdjkboglepaaW.PrintWords Go.Proofs.YtibbdjkboglepaaW.PrintLast Go.Proofs.YtibbdjkboglepaaW.PrintMore
attribute [local go_sem] max2_int min2_int max_two min_two max_three min_three max_four min_four
def IsS92 (w0 W : World) (g : Nat) (f0 : Int) (f1 : Int) (f2 : List Int) (f3 : Int) (f4 : List Int) (f5 : List Int) : Prop := ∃ A2 c2, ∃ A4 c4, ∃ A5 c5, W.heap[g]? = some (.cells #[.int .i64 f0, .int .i64 f1, .slice A2 f2.length c2, .int .i64 f3, .slice A4 f4.length c4, .slice A5 f5.length c5] 92 (0, 0)) ∧ w0.heap.size ≤ g ∧ Kd.C (Kd.int .i64) w0 A2 f2.length f2 ∧ Kd.C (Kd.int .i64) w0 A4 f4.length f4 ∧ Kd.C (Kd.int .i64) w0 A5 f5.length f5
section
variable {w0 W : World} {g : Nat} {f0 : Int} {f1 : Int} {f2 : List Int} {f3 : Int} {f4 : List Int} {f5 : List Int} {A2 : Option Addr} {c2 : Nat} {A4 : Option Addr} {c4 : Nat} {A5 : Option Addr} {c5 : Nat}
theorem IsS92.grown {W1 : World} {row : Option Nat} (h : IsS92 w0 W g f0 f1 f2 f3 f4 f5) (hw : W.grownBy W1 row) (hne : some g ≠ row) : IsS92 w0 W1 g f0 f1 f2 f3 f4 f5 := by
 obtain ⟨A2, c2, A4, c4, A5, c5, hb, hg, hr2, hr4, hr5⟩ := h
 exact ⟨A2, c2, A4, c4, A5, c5, blk_grown hb hw hne, hg, hr2, hr4, hr5⟩
theorem IsS92.fresh (h : IsS92 w0 W g f0 f1 f2 f3 f4 f5) : ∀ k, W.heap.size ≤ k → k ≠ g := by
 obtain ⟨A2, c2, A4, c4, A5, c5, hb, hg, hr2, hr4, hr5⟩ := h
 exact Kd.freshB hb
theorem IsS92.kept {W1 : World} {S : Nat → Prop} (h : IsS92 w0 W g f0 f1 f2 f3 f4 f5) (hk : Kept W W1 S) (hne : ¬ S g) : IsS92 w0 W1 g f0 f1 f2 f3 f4 f5 := by
 obtain ⟨A2, c2, A4, c4, A5, c5, hb, hg, hr2, hr4, hr5⟩ := h
 exact ⟨A2, c2, A4, c4, A5, c5, blk_kept hb hk hne, hg, hr2, hr4, hr5⟩
theorem IsS92.below {W1 : World} (h : IsS92 w0 W g f0 f1 f2 f3 f4 f5) (hw : Below W.heap.size W W1) : IsS92 w0 W1 g f0 f1 f2 f3 f4 f5 := h.grown (grown_of_below hw none) (by simp)
theorem IsS92.alloc (h : IsS92 w0 W g f0 f1 f2 f3 f4 f5) (o : Obj) : IsS92 w0 (W.alloc o) g f0 f1 f2 f3 f4 f5 := h.below (below_alloc (Below.refl _ _) o)
theorem IsS92.drewN (h : IsS92 w0 W g f0 f1 f2 f3 f4 f5) (m : Nat) : IsS92 w0 (W.drewN m) g f0 f1 f2 f3 f4 f5 := h
theorem IsS92.drew (h : IsS92 w0 W g f0 f1 f2 f3 f4 f5) : IsS92 w0 W.drew g f0 f1 f2 f3 f4 f5 := h
theorem IsS92.apart {α : Type} {d : Kd α} {e : Nat} {base : Nat} {ok : Nat → Prop} {v : Value} {xs : List α} (h : IsS92 w0 W g f0 f1 f2 f3 f4 f5) (ho : d.R e W base ok v xs) (ht : ∀ q, q ∈ e :: d.E → q ≠ 92) : d.R e W base (fun k => ok k ∧ k ≠ g) v xs := by
 obtain ⟨A2, c2, A4, c4, A5, c5, hb, hg, hr2, hr4, hr5⟩ := h
 exact Kd.R_types ho hb ht
theorem IsS92.own_ne {α : Type} {d : Kd α} {e : Nat} {base : Nat} {ok : Nat → Prop} {v : Value} {xs : List α} (h : IsS92 w0 W g f0 f1 f2 f3 f4 f5) (ho : d.R e W base ok v xs) (ht : e ≠ 92) : some g ≠ v.ownBlock := by
 obtain ⟨A2, c2, A4, c4, A5, c5, hb, hg, hr2, hr4, hr5⟩ := h
 exact Kd.R_ne ho hb ht
theorem IsS92.lt (h : IsS92 w0 W g f0 f1 f2 f3 f4 f5) : g < W.heap.size := by
 obtain ⟨A2, c2, A4, c4, A5, c5, hb, hg, hr2, hr4, hr5⟩ := h
 exact blk_lt hb
theorem IsS92.ge (h : IsS92 w0 W g f0 f1 f2 f3 f4 f5) : w0.heap.size ≤ g := by
 obtain ⟨A2, c2, A4, c4, A5, c5, hb, hg, hr2, hr4, hr5⟩ := h
 exact hg
theorem IsS92.ne_blk {a : Nat} {cs : Array Value} {t : TypeId} {fr : Nat × Nat} (h : IsS92 w0 W g f0 f1 f2 f3 f4 f5) (hb2 : W.heap[a]? = some (.cells cs t fr)) (ht : t ≠ 92) : g ≠ a := by
 obtain ⟨A2, c2, A4, c4, A5, c5, hb, hg, hr2, hr4, hr5⟩ := h
 rintro rfl
 rw [hb] at hb2
 injection hb2 with hb2
 injection hb2 with _ ht2
 exact ht ht2.symm
theorem IsS92.far {p : Addr} (h : IsS92 w0 W g f0 f1 f2 f3 f4 f5) (hne : g ≠ p.block) (u : Value) : IsS92 w0 (W.setCell p u) g f0 f1 f2 f3 f4 f5 := by
 obtain ⟨A2, c2, A4, c4, A5, c5, hb, hg, hr2, hr4, hr5⟩ := h
 exact ⟨A2, c2, A4, c4, A5, c5, blk_far hb hne u, hg, hr2, hr4, hr5⟩
theorem cellS92_0 (h : W.heap[g]? = some (.cells #[.int .i64 f0, .int .i64 f1, .slice A2 f2.length c2, .int .i64 f3, .slice A4 f4.length c4, .slice A5 f5.length c5] 92 (0, 0))) : W.cell? ⟨g, 0, none⟩ = some (.int .i64 f0) := bc0 h
theorem IsS92.set_0 (h : IsS92 w0 W g f0 f1 f2 f3 f4 f5) (x : Int) : IsS92 w0 (W.setCell ⟨g, 0, none⟩ (.int .i64 x)) g x f1 f2 f3 f4 f5 := by
 obtain ⟨A2, c2, A4, c4, A5, c5, hb, hg, hr2, hr4, hr5⟩ := h
 exact ⟨A2, c2, A4, c4, A5, c5, by simpa using blk_set hb 0 (.int .i64 x), hg, hr2, hr4, hr5⟩
theorem cellS92_1 (h : W.heap[g]? = some (.cells #[.int .i64 f0, .int .i64 f1, .slice A2 f2.length c2, .int .i64 f3, .slice A4 f4.length c4, .slice A5 f5.length c5] 92 (0, 0))) : W.cell? ⟨g, 1, none⟩ = some (.int .i64 f1) := bc1 h
theorem IsS92.set_1 (h : IsS92 w0 W g f0 f1 f2 f3 f4 f5) (x : Int) : IsS92 w0 (W.setCell ⟨g, 1, none⟩ (.int .i64 x)) g f0 x f2 f3 f4 f5 := by
 obtain ⟨A2, c2, A4, c4, A5, c5, hb, hg, hr2, hr4, hr5⟩ := h
 exact ⟨A2, c2, A4, c4, A5, c5, by simpa using blk_set hb 1 (.int .i64 x), hg, hr2, hr4, hr5⟩
theorem cellS92_2 (h : W.heap[g]? = some (.cells #[.int .i64 f0, .int .i64 f1, .slice A2 f2.length c2, .int .i64 f3, .slice A4 f4.length c4, .slice A5 f5.length c5] 92 (0, 0))) : W.cell? ⟨g, 2, none⟩ = some (.slice A2 f2.length c2) := bc2 h
theorem cellS92_3 (h : W.heap[g]? = some (.cells #[.int .i64 f0, .int .i64 f1, .slice A2 f2.length c2, .int .i64 f3, .slice A4 f4.length c4, .slice A5 f5.length c5] 92 (0, 0))) : W.cell? ⟨g, 3, none⟩ = some (.int .i64 f3) := bc3 h
theorem IsS92.set_3 (h : IsS92 w0 W g f0 f1 f2 f3 f4 f5) (x : Int) : IsS92 w0 (W.setCell ⟨g, 3, none⟩ (.int .i64 x)) g f0 f1 f2 x f4 f5 := by
 obtain ⟨A2, c2, A4, c4, A5, c5, hb, hg, hr2, hr4, hr5⟩ := h
 exact ⟨A2, c2, A4, c4, A5, c5, by simpa using blk_set hb 3 (.int .i64 x), hg, hr2, hr4, hr5⟩
theorem cellS92_4 (h : W.heap[g]? = some (.cells #[.int .i64 f0, .int .i64 f1, .slice A2 f2.length c2, .int .i64 f3, .slice A4 f4.length c4, .slice A5 f5.length c5] 92 (0, 0))) : W.cell? ⟨g, 4, none⟩ = some (.slice A4 f4.length c4) := bc4 h
theorem cellS92_5 (h : W.heap[g]? = some (.cells #[.int .i64 f0, .int .i64 f1, .slice A2 f2.length c2, .int .i64 f3, .slice A4 f4.length c4, .slice A5 f5.length c5] 92 (0, 0))) : W.cell? ⟨g, 5, none⟩ = some (.slice A5 f5.length c5) := (blk_cell h 5).trans rfl
theorem bI (h : IsS92 w0 W g f0 f1 f2 f3 f4 f5 := by repeat (first | (with_reducible first | exact HI0.out | apply IsS92.alloc | apply IsS92.drewN | apply IsS92.drew | apply IsS92.set_0 | apply IsS92.set_1 | apply IsS92.set_3) | exact HI0.out)) : IsS92 w0 W g f0 f1 f2 f3 f4 f5 := h
theorem bH {b : Nat} {w : World} (h : Below b w W := by repeat (first | (with_reducible first | exact HB.out | apply below_alloc | apply pw_below_drewN | apply below_drew1 | refine below_set ?_ (IsS92.ge HI0.out)) | exact HB.out)) : Below b w W := h
theorem oI (h : IsS92 w0 W g f0 f1 f2 f3 f4 f5) : ∃ A2 c2, ∃ A4 c4, ∃ A5 c5, Kd.C (Kd.int .i64) w0 A2 f2.length f2 ∧ Kd.C (Kd.int .i64) w0 A4 f4.length f4 ∧ Kd.C (Kd.int .i64) w0 A5 f5.length f5 ∧ W.cell? ⟨g, 0, none⟩ = some (.int .i64 f0) ∧ W.cell? ⟨g, 1, none⟩ = some (.int .i64 f1) ∧ W.cell? ⟨g, 2, none⟩ = some (.slice A2 f2.length c2) ∧ W.cell? ⟨g, 3, none⟩ = some (.int .i64 f3) ∧ W.cell? ⟨g, 4, none⟩ = some (.slice A4 f4.length c4) ∧ W.cell? ⟨g, 5, none⟩ = some (.slice A5 f5.length c5) ∧ W.frozen? ⟨g, 0, none⟩ = false ∧ W.frozen? ⟨g, 1, none⟩ = false ∧ W.frozen? ⟨g, 3, none⟩ = false := by
 obtain ⟨A2, c2, A4, c4, A5, c5, hb, hg, h2, h4, h5⟩ := h
 exact ⟨A2, c2, A4, c4, A5, c5, h2, h4, h5, cellS92_0 hb, cellS92_1 hb, cellS92_2 hb, cellS92_3 hb, cellS92_4 hb, cellS92_5 hb, blk_frozen hb 0, blk_frozen hb 1, blk_frozen hb 3⟩
end
def field_GF_Is.f (s0_0 : Int) (s0_1 : Int) (s0_2 : List Int) (s0_3 : Int) (s0_4 : List Int) (s0_5 : List Int) (a1 : Int) : Option (Bool × Int × Int × Int) := if a1 ≥ 0 then (some (decide (a1 < s0_3), s0_0, s0_1, s0_3)) else (some (false, s0_0, s0_1, s0_3))
theorem field_GF_Is.calls (g : Nat) (s0_0 : Int) (s0_1 : Int) (s0_2 : List Int) (s0_3 : Int) (s0_4 : List Int) (s0_5 : List Int) (a1 : Int) (r1 : Bool) (r2 : Int) (r3 : Int) (r4 : Int) (w0 w : World) (hI : IsS92 w0 w g s0_0 s0_1 s0_2 s0_3 s0_4 s0_5) (hB : Below w0.heap.size w0 w) (h : field_GF_Is.f s0_0 s0_1 s0_2 s0_3 s0_4 s0_5 a1 = some (r1, r2, r3, r4)) :
  Calls Try.prog 93 #[.pointer (some ⟨g, 0, none⟩), .int .i64 a1] w fun e w' => e = .returned (.bool r1) ∧ IsS92 w0 w' g r2 r3 s0_2 r4 s0_4 s0_5 ∧ Below w0.heap.size w0 w' ∧ KeepBut w w' g none := by
 have HI0 := Aside0.mk hI
 have HK := Aside0.mk (KeepBut.refl w g none)
 have HL := Aside0.mk hB.size
 clear hI
 have HW0 := Aside0.mk hB.size
 have HB := Aside0.mk hB
 clear hB
 have H := h
 clear h
 unfold field_GF_Is.f at H
 by_cases c3 : a1 ≥ 0
 ·rw [if_pos c3] at H
  have c3b0 : decide (0 ≤ a1) = true := decide_eq_true c3
  clear c3
  simp only [Option.some.injEq, Prod.mk.injEq] at H
  obtain ⟨rfl, rfl, rfl, rfl⟩ := H
  obtain ⟨ASz4_2, cSz4_2, ASz4_4, cSz4_4, ASz4_5, cSz4_5, HSz4_2, HSz4_4, HSz4_5, hcz4_0, hcz4_1, hcz4_2, hcz4_3, hcz4_4, hcz4_5, hfz4_0, hfz4_1, hfz4_3⟩ := oI HI0.out
  go_enter Try.func93, Try.ntmps93
  go_wp2
  go_ret
  exact ⟨rW, bI, bH, bK⟩
 ·rw [if_neg c3] at H
  have c3b0 : decide (0 ≤ a1) = false := decide_eq_false c3
  clear c3
  simp only [Option.some.injEq, Prod.mk.injEq] at H
  obtain ⟨rfl, rfl, rfl, rfl⟩ := H
  go_enter Try.func93, Try.ntmps93
  go_wp2
  go_ret
  exact ⟨rW, bI, bH, bK⟩
def field_GF_in.f (s0_0 : Int) (s0_1 : Int) (s0_2 : List Int) (s0_3 : Int) (s0_4 : List Int) (s0_5 : List Int) (a1 : Int) : Option (Int × Int × Int × Int) := (field_GF_Is.f s0_0 s0_1 s0_2 s0_3 s0_4 s0_5 a1).bind fun bt160 => (if bt160.1 = true then (some (a1, bt160.2.1, bt160.2.2.1, bt160.2.2.2)) else (some (0, bt160.2.1, bt160.2.2.1, bt160.2.2.2)))
theorem field_GF_in.calls (g : Nat) (s0_0 : Int) (s0_1 : Int) (s0_2 : List Int) (s0_3 : Int) (s0_4 : List Int) (s0_5 : List Int) (a1 : Int) (r1 : Int) (r2 : Int) (r3 : Int) (r4 : Int) (w0 w : World) (hI : IsS92 w0 w g s0_0 s0_1 s0_2 s0_3 s0_4 s0_5) (hB : Below w0.heap.size w0 w) (h : field_GF_in.f s0_0 s0_1 s0_2 s0_3 s0_4 s0_5 a1 = some (r1, r2, r3, r4)) :
  Calls Try.prog 66 #[.pointer (some ⟨g, 0, none⟩), .int .i64 a1] w fun e w' => e = .returned (.int .i64 r1) ∧ IsS92 w0 w' g r2 r3 s0_2 r4 s0_4 s0_5 ∧ Below w0.heap.size w0 w' ∧ KeepBut w w' g none := by
 have HI0 := Aside0.mk hI
 have HK := Aside0.mk (KeepBut.refl w g none)
 have HL := Aside0.mk hB.size
 clear hI
 have HW0 := Aside0.mk hB.size
 have HB := Aside0.mk hB
 clear hB
 have H := h
 clear h
 unfold field_GF_in.f at H
 obtain ⟨⟨t160, t161, t162, t163⟩, A3, H⟩ := bE H
 (try dsimp only at H)
 by_cases c4 : t160 = true
 ·subst c4
  have H1 : (some (a1, t161, t162, t163)) = some (r1, r2, r3, r4) := by rw [if_pos rfl] at H; exact H
  clear H
  have H := H1
  clear H1
  simp only [Option.some.injEq, Prod.mk.injEq] at H
  obtain ⟨rfl, rfl, rfl, rfl⟩ := H
  go_enter Try.func66, Try.ntmps66
  go_wp2_with (refine gL 7 Try.func93 #[.pointer (some ⟨g, 0, none⟩), .int .i64 a1] ?_; (with_reducible refine (field_GF_Is.calls g s0_0 s0_1 s0_2 s0_3 s0_4 s0_5 a1 true t161 t162 t163 w0 _ ?side1 ?side2 A3.out).mono ?_); (case side1 => exact bI); (case side2 => exact bH); rintro e w5 ⟨rfl, hi, hb, hk⟩; refine ⟨_, rfl, ?_⟩; replace HK := Aside0.mk (KeepBut.trans bK hk (.inl rfl)); replace HB := Aside0.mk hb; replace HI0 := Aside0.mk hi; (try clear hb); (try clear hk); (try clear hi))
  go_ret
  exact ⟨rW, bI, bH, bK⟩
 ·replace c4 := Bool.eq_false_iff.mpr c4
  subst c4
  have H1 : (some (0, t161, t162, t163)) = some (r1, r2, r3, r4) := by rw [if_neg (show ¬ (false = true) by decide)] at H; exact H
  clear H
  have H := H1
  clear H1
  simp only [Option.some.injEq, Prod.mk.injEq] at H
  obtain ⟨rfl, rfl, rfl, rfl⟩ := H
  go_enter Try.func66, Try.ntmps66
  go_wp2_with (refine gL 7 Try.func93 #[.pointer (some ⟨g, 0, none⟩), .int .i64 a1] ?_; (with_reducible refine (field_GF_Is.calls g s0_0 s0_1 s0_2 s0_3 s0_4 s0_5 a1 false t161 t162 t163 w0 _ ?side1 ?side2 A3.out).mono ?_); (case side1 => exact bI); (case side2 => exact bH); rintro e w6 ⟨rfl, hi, hb, hk⟩; refine ⟨_, rfl, ?_⟩; replace HK := Aside0.mk (KeepBut.trans bK hk (.inl rfl)); replace HB := Aside0.mk hb; replace HI0 := Aside0.mk hi; (try clear hb); (try clear hk); (try clear hi))
  go_ret
  exact ⟨rW, bI, bH, bK⟩
def field_GF_MulOrder.l0 : Nat → Int → Int → Int → Int → List Int → Int → List Int → List Int → Option (Int × Int × Int × Int × Int)
 | 0, _, _, _, _, _, _, _, _ => none
 | k + 1, x6, x7, x1000, x1001, x1002, x1003, x1004, x1005 => if x7 > 0 then (if x7 = 0 then (none) else (field_GF_MulOrder.l0 k x7 (Int.tmod x6 x7) x1000 x1001 x1002 x1003 x1004 x1005)) else (if x6 = 0 then (none) else (some (wrap64 (Int.tdiv (wrap64 (x1003 - 1)) x6), 0, x1000, x1001, x1003)))
def field_GF_MulOrder.f (k : Nat) (s0_0 : Int) (s0_1 : Int) (s0_2 : List Int) (s0_3 : Int) (s0_4 : List Int) (s0_5 : List Int) (a1 : Int) : Option (Int × Int × Int × Int × Int) := (field_GF_in.f s0_0 s0_1 s0_2 s0_3 s0_4 s0_5 a1).bind fun bt164 => (if bt164.1 = 0 then (some (0, 7, bt164.2.1, bt164.2.2.1, bt164.2.2.2)) else (if 0 ≤ bt164.1 then (if bt164.1 < (s0_5.length : Int) then (field_GF_MulOrder.l0 k (wrap64 (bt164.2.2.2 - 1)) (rd s0_5 bt164.1) bt164.2.1 bt164.2.2.1 s0_2 bt164.2.2.2 s0_4 s0_5) else (none)) else (none)))
theorem field_GF_MulOrder.calls (k : Nat) (g : Nat) (s0_0 : Int) (s0_1 : Int) (s0_2 : List Int) (s0_3 : Int) (s0_4 : List Int) (s0_5 : List Int) (a1 : Int) (r1 : Int) (r2 : Int) (r3 : Int) (r4 : Int) (r5 : Int) (w0 w : World) (hI : IsS92 w0 w g s0_0 s0_1 s0_2 s0_3 s0_4 s0_5) (hB : Below w0.heap.size w0 w) (h : field_GF_MulOrder.f k s0_0 s0_1 s0_2 s0_3 s0_4 s0_5 a1 = some (r1, r2, r3, r4, r5)) :
  Calls Try.prog 39 #[.pointer (some ⟨g, 0, none⟩), .int .i64 a1] w fun e w' => e = .returned (.tuple #[.int .i64 r1, .int .i64 r2]) ∧ IsS92 w0 w' g r3 r4 s0_2 r5 s0_4 s0_5 ∧ Below w0.heap.size w0 w' ∧ KeepBut w w' g none := by
 have HI0 := Aside0.mk hI
 have HK := Aside0.mk (KeepBut.refl w g none)
 have HL := Aside0.mk hB.size
 clear hI
 have HW0 := Aside0.mk hB.size
 have HB := Aside0.mk hB
 clear hB
 have H := h
 clear h
 unfold field_GF_MulOrder.f at H
 obtain ⟨⟨t164, t165, t166, t167⟩, A3, H⟩ := bE H
 (try dsimp only at H)
 by_cases c4 : t164 = 0
 ·rw [if_pos c4] at H
  have c4b0 := beq_iff_eq.mpr c4
  have c4b1 := bne_eq_false_iff_eq.mpr c4
  clear c4
  simp only [Option.some.injEq, Prod.mk.injEq] at H
  obtain ⟨rfl, rfl, rfl, rfl, rfl⟩ := H
  go_enter Try.func39, Try.ntmps39
  go_wp2_with (go_at_call 66; (with_reducible refine (field_GF_in.calls g s0_0 s0_1 s0_2 s0_3 s0_4 s0_5 a1 t164 t165 t166 t167 w0 _ ?side1 ?side2 A3.out).mono ?_); (case side1 => exact bI); (case side2 => exact bH); rintro e w5 ⟨rfl, hi, hb, hk⟩; replace HK := Aside0.mk (KeepBut.trans bK hk (.inl rfl)); replace HB := Aside0.mk hb; replace HI0 := Aside0.mk hi; (try clear hb); (try clear hk); (try clear hi))
  repeat (go_quiet (fail); try go_wp2_with (fail))
  go_ret2
  exact ⟨rW, bI, bH, bK⟩
 ·rw [if_neg c4] at H
  have c4b0 := beq_eq_false_iff_ne.mpr c4
  have c4b1 := bne_iff_ne.mpr c4
  obtain ⟨c6, H⟩ := iE H
  have c6b0 := decide_eq_true c6
  clear c6
  obtain ⟨c7, H⟩ := iE H
  have c7b0 := decide_eq_true c7
  clear c7
  have H' := Aside0.mk H
  clear H
  go_enter Try.func39, Try.ntmps39
  go_wp2_with (go_at_call 66; (with_reducible refine (field_GF_in.calls g s0_0 s0_1 s0_2 s0_3 s0_4 s0_5 a1 t164 t165 t166 t167 w0 _ ?side1 ?side2 A3.out).mono ?_); (case side1 => exact bI); (case side2 => exact bH); rintro e w8 ⟨rfl, hi, hb, hk⟩; replace HK := Aside0.mk (KeepBut.trans bK hk (.inl rfl)); replace HB := Aside0.mk hb; replace HI0 := Aside0.mk hi; (try clear hb); (try clear hk); (try clear hi); obtain ⟨ASz9_2, cSz9_2, ASz9_4, cSz9_4, ASz9_5, cSz9_5, HSz9_2, HSz9_4, HSz9_5, hcz9_0, hcz9_1, hcz9_2, hcz9_3, hcz9_4, hcz9_5, hfz9_0, hfz9_1, hfz9_3⟩ := oI HI0.out; have p168 : 0 ≤ (t164 : Int) := dT; have q168 : t164 < (s0_5.length : Int) := dT; obtain ⟨ad168, e168, hx168_0⟩ := Kd.at_int HSz9_5 t164 p168 q168; cases e168; replace hx168_0 := pw_cell_below HB.out hx168_0; replace p168 := eq_true p168; replace q168 := eq_true q168)
  repeat (go_quiet (fail); try go_wp2_with (fail))
  go_loopg [6, 7] k (fun kq v6 v7 w' => ∃ (x6_1 : Int) (x7_1 : Int), v6 = .int .i64 x6_1 ∧ v7 = .int .i64 x7_1 ∧ Aside0 (field_GF_MulOrder.l0 kq x6_1 x7_1 t165 t166 s0_2 t167 s0_4 s0_5 = some (r1, r2, r3, r4, r5)) ∧ Aside0 (kq ≤ k) ∧ Aside0 (IsS92 w0 w' g t165 t166 s0_2 t167 s0_4 s0_5) ∧ Aside0 (KeepBut w w' g none) ∧ Aside0 (Below w0.heap.size w0 w'))
  case atStart => exact ⟨(wrap64 (t167 - 1)), (rd s0_5 t164), rX, rX, H', ⟨Nat.le_refl _⟩, ⟨bI⟩, ⟨bK⟩, ⟨bH⟩⟩
  case round =>
   clear H' c4 c4b0 c4b1 c6b0 c7b0 hcz9_0 hcz9_1 hcz9_2 hcz9_3 hcz9_4 hcz9_5 hfz9_0 hfz9_1 hfz9_3 hx168_0 p168 q168
   obtain ⟨x6_1, x7_1, rfl, rfl, HA, HK1, HI0, HK, HB⟩ := hrel
   cases gk with
   | zero => exact absurd HA.out (by simp [field_GF_MulOrder.l0])
   | succ k1 =>
    have H := HA.out
    clear HA
    simp only [field_GF_MulOrder.l0] at H
    by_cases c10 : x7_1 > 0
    ·rw [if_pos c10] at H
     have c10b0 : decide (0 < x7_1) = true := decide_eq_true c10
     clear c10
     by_cases c11 : x7_1 = 0
     ·rw [if_pos c11] at H
      exact absurd H (by simp)
     ·rw [if_neg c11] at H
      have c11b0 := beq_eq_false_iff_ne.mpr c11
      have c11b1 := bne_iff_ne.mpr c11
      have H' := Aside0.mk H
      clear H
      go_wp2
      repeat (go_quiet (fail); try go_wp2)
      go_roundg k1
      case measure => have := HK1.out; omega
      case rel => exact ⟨(x7_1), (Int.tmod x6_1 x7_1), rX, rX, H', mK, ⟨bI⟩, ⟨bK⟩, ⟨bH⟩⟩
    ·rw [if_neg c10] at H
     have c10b0 : decide (0 < x7_1) = false := decide_eq_false c10
     clear c10
     by_cases c12 : x6_1 = 0
     ·rw [if_pos c12] at H
      exact absurd H (by simp)
     ·rw [if_neg c12] at H
      have c12b0 := beq_eq_false_iff_ne.mpr c12
      have c12b1 := bne_iff_ne.mpr c12
      simp only [Option.some.injEq, Prod.mk.injEq] at H
      obtain ⟨rfl, rfl, rfl, rfl, rfl⟩ := H
      obtain ⟨ASz13_2, cSz13_2, ASz13_4, cSz13_4, ASz13_5, cSz13_5, HSz13_2, HSz13_4, HSz13_5, hcz13_0, hcz13_1, hcz13_2, hcz13_3, hcz13_4, hcz13_5, hfz13_0, hfz13_1, hfz13_3⟩ := oI HI0.out
      go_wp2
      repeat (go_quiet (fail); try go_wp2)
      go_ret2
      exact ⟨rW, bI, bH, bK⟩
mutual
def r4_Order.j0 : Nat → Bool → Int → Int → List Int → Option (Int)
 | 0, _, _, _, _ => none
 | k + 1, x17, x171000, x171001, x171002 => if x17 = true then (some 0) else (r4_Order.l0 k 1 0 x171000 x171001 x171002)
def r4_Order.l0 : Nat → Int → Int → Int → Int → List Int → Option (Int)
 | 0, _, _, _, _, _ => none
 | k + 1, x3, x4, x171000, x171001, x171002 => if x4 < x171001 then (if x171000 = 0 then (none) else (if x3 > (wrap64 (Int.tdiv (256 : Int) x171000)) then (some 0) else (r4_Order.l0 k (wrap64 (x3 * x171000)) (wrap64 (x4 + 1)) x171000 x171001 x171002))) else (some x3)
end
def r4_Order.f (k : Nat) (a0_0 : Int) (a0_1 : Int) (l0_2 : List Int) : Option (Int) := if a0_0 < 2 then (r4_Order.j0 k true a0_0 a0_1 l0_2) else (if a0_1 < 1 then (r4_Order.j0 k true a0_0 a0_1 l0_2) else (r4_Order.j0 k (decide (a0_1 > 8)) a0_0 a0_1 l0_2))
theorem r4_Order.calls (k : Nat) (a0_0 : Int) (a0_1 : Int) (A0_2 : Option Addr) (c0_2 : Nat) (l0_2 : List Int) (r : Int) (w : World) (hr0_2 : Kd.C (Kd.int .i64) w A0_2 l0_2.length l0_2) (hc0_2 : l0_2.length ≤ c0_2) (h : r4_Order.f k a0_0 a0_1 l0_2 = some r) :
  Calls Try.prog 41 #[.agg #[.int .i64 a0_0, .int .i64 a0_1, .slice A0_2 l0_2.length c0_2]] w fun e w' => e = .returned (.int .i64 r) ∧ Below w.heap.size w w' := by
 have hu36 := Try.underlying36
 have HR0_2 := Aside0.mk hr0_2
 have HC0_2 := Aside0.mk hc0_2
 clear hr0_2 hc0_2
 have HB := Aside0.mk (Below.refl w.heap.size w)
 have H := h
 clear h
 unfold r4_Order.f at H
 have HC2 := Aside0.mk H
 clear H
 go_enter Try.func41, Try.ntmps41
 go_upto_region 1 with (refine bz 1 #[.int .i64 a0_0, .int .i64 a0_1, .slice A0_2 l0_2.length c0_2] 36 ?_; clear HB; intro gb170 w3 BK170 GW170 GE170 HB)
 (try simp only [Act.put, List.setIfInBounds_toArray, List.set_cons_zero, List.set_cons_succ])
 go_cut [17] (fun v17 wc => ∃ (kq : Nat) (x17_1 : Bool), v17 = .bool x17_1 ∧ Aside0 (r4_Order.j0 kq x17_1 a0_0 a0_1 l0_2 = some r) ∧ Aside0 (kq ≤ k) ∧ Aside0 (wc.heap[gb170]? = some (.cells #[.int .i64 a0_0, .int .i64 a0_1, (.slice A0_2 l0_2.length c0_2)] 36 (0, 0))) ∧ Aside0 (Below w.heap.size w wc))
 case first =>
  have H := HC2.out
  clear HC2
  by_cases c4 : a0_0 < 2
  ·rw [if_pos c4] at H
   have c4b0 := decide_eq_true c4
   clear c4
   (first | rw [c4b0] | (simp only [i64_w, i32_w]; rw [c4b0]) | skip)
   have H' := Aside0.mk H
   clear H
   obtain ⟨hcz5_0, hcz5_1, hcz5_2, hfz5_0, hfz5_1, hfz5_2⟩ := bq3 BK170.out
   go_wp2
   go_meet
   case rel => exact ⟨_, (true), rX, H', ⟨by first | omega | exact Nat.le_refl _⟩, ⟨kk BK170⟩, ⟨bw⟩⟩
  ·rw [if_neg c4] at H
   have c4b0 := decide_eq_false c4
   clear c4
   (first | rw [c4b0] | (simp only [i64_w, i32_w]; rw [c4b0]) | skip)
   by_cases c6 : a0_1 < 1
   ·rw [if_pos c6] at H
    have c6b0 := decide_eq_true c6
    clear c6
    have H' := Aside0.mk H
    clear H
    obtain ⟨hcz7_0, hcz7_1, hcz7_2, hfz7_0, hfz7_1, hfz7_2⟩ := bq3 BK170.out
    go_wp2
    go_meet
    case rel => exact ⟨_, (true), rX, H', ⟨by first | omega | exact Nat.le_refl _⟩, ⟨kk BK170⟩, ⟨bw⟩⟩
   ·rw [if_neg c6] at H
    have c6b0 := decide_eq_false c6
    clear c6
    have H' := Aside0.mk H
    clear H
    obtain ⟨hcz8_0, hcz8_1, hcz8_2, hfz8_0, hfz8_1, hfz8_2⟩ := bq3 BK170.out
    go_wp2
    go_meet
    case rel => exact ⟨_, (decide (a0_1 > 8)), rX, H', ⟨by first | omega | exact Nat.le_refl _⟩, ⟨kk BK170⟩, ⟨bw⟩⟩
 case rest =>
  clear HC2
  obtain ⟨kq, x17_1, rfl, HA, HJ1, BK170, HB⟩ := hcut
  cases kq with
  | zero => exact absurd HA.out (by simp [r4_Order.j0])
  | succ kj1 =>
   have H := HA.out
   clear HA
   simp only [r4_Order.j0] at H
   by_cases c9 : x17_1 = true
   ·subst c9
    have H1 : (some 0) = some r := by rw [if_pos rfl] at H; exact H
    clear H
    have H := H1
    clear H1
    obtain rfl := Option.some.inj H
    go_wp2
    go_ret
    exact ⟨rW, bw⟩
   ·replace c9 := Bool.eq_false_iff.mpr c9
    subst c9
    have H1 : (r4_Order.l0 kj1 1 0 a0_0 a0_1 l0_2) = some r := by rw [if_neg (show ¬ (false = true) by decide)] at H; exact H
    clear H
    have H := H1
    clear H1
    have H' := Aside0.mk H
    clear H
    go_wp2
    go_loopg [3, 4] kj1 (fun kq v3 v4 w' => ∃ (x3_2 : Int) (x4_2 : Int), v3 = .int .i64 x3_2 ∧ v4 = .int .i64 x4_2 ∧ Aside0 (r4_Order.l0 kq x3_2 x4_2 a0_0 a0_1 l0_2 = some r) ∧ Aside0 (kq ≤ kj1) ∧ Aside0 (w'.heap[gb170]? = some (.cells #[.int .i64 a0_0, .int .i64 a0_1, (.slice A0_2 l0_2.length c0_2)] 36 (0, 0))) ∧ Aside0 (Below w.heap.size w w'))
    case atStart => exact ⟨(1), (0), rX, rX, H', ⟨Nat.le_refl _⟩, ⟨kk BK170⟩, ⟨bw⟩⟩
    case round =>
     clear H'
     obtain ⟨x3_2, x4_2, rfl, rfl, HA, HK2, BK170, HB⟩ := hrel
     cases gk with
     | zero => exact absurd HA.out (by simp [r4_Order.l0])
     | succ k2 =>
      have H := HA.out
      clear HA
      simp only [r4_Order.l0] at H
      by_cases c10 : x4_2 < a0_1
      ·rw [if_pos c10] at H
       have c10b0 := decide_eq_true c10
       clear c10
       by_cases c11 : a0_0 = 0
       ·rw [if_pos c11] at H
        exact absurd H (by simp)
       ·rw [if_neg c11] at H
        have c11b0 := beq_eq_false_iff_ne.mpr c11
        have c11b1 := bne_iff_ne.mpr c11
        by_cases c12 : x3_2 > (wrap64 (Int.tdiv (256 : Int) a0_0))
        ·rw [if_pos c12] at H
         have c12b0 : decide ((wrap64 (Int.tdiv (256 : Int) a0_0)) < x3_2) = true := decide_eq_true c12
         clear c12
         obtain rfl := Option.some.inj H
         obtain ⟨hcz13_0, hcz13_1, hcz13_2, hfz13_0, hfz13_1, hfz13_2⟩ := bq3 BK170.out
         go_wp2
         go_ret
         exact ⟨rW, bw⟩
        ·rw [if_neg c12] at H
         have c12b0 : decide ((wrap64 (Int.tdiv (256 : Int) a0_0)) < x3_2) = false := decide_eq_false c12
         clear c12
         have H' := Aside0.mk H
         clear H
         obtain ⟨hcz14_0, hcz14_1, hcz14_2, hfz14_0, hfz14_1, hfz14_2⟩ := bq3 BK170.out
         go_wp2
         go_roundg k2
         case measure => have := HJ1.out; have := HK2.out; omega
         case rel => exact ⟨(wrap64 (x3_2 * a0_0)), (wrap64 (x4_2 + 1)), rX, rX, H', ⟨by have := HJ1.out; have := HK2.out; omega⟩, ⟨kk BK170⟩, ⟨bw⟩⟩
      ·rw [if_neg c10] at H
       have c10b0 := decide_eq_false c10
       clear c10
       obtain rfl := Option.some.inj H
       obtain ⟨hcz15_0, hcz15_1, hcz15_2, hfz15_0, hfz15_1, hfz15_2⟩ := bq3 BK170.out
       go_wp2
       go_ret
       exact ⟨rW, bw⟩
def r4_Is.f (k : Nat) (a0_0 : Int) (a0_1 : Int) (l0_2 : List Int) (a1 : Int) : Option (Bool) := if a1 ≥ 0 then ((r4_Order.f k a0_0 a0_1 l0_2).bind fun t172 => (some (decide (a1 < t172)))) else (some false)
theorem r4_Is.calls (k : Nat) (a0_0 : Int) (a0_1 : Int) (A0_2 : Option Addr) (c0_2 : Nat) (l0_2 : List Int) (a1 : Int) (r : Bool) (w : World) (hr0_2 : Kd.C (Kd.int .i64) w A0_2 l0_2.length l0_2) (hc0_2 : l0_2.length ≤ c0_2) (h : r4_Is.f k a0_0 a0_1 l0_2 a1 = some r) :
  Calls Try.prog 96 #[.agg #[.int .i64 a0_0, .int .i64 a0_1, .slice A0_2 l0_2.length c0_2], .int .i64 a1] w fun e w' => e = .returned (.bool r) ∧ Below w.heap.size w w' := by
 have hu36 := Try.underlying36
 have HR0_2 := Aside0.mk hr0_2
 have HC0_2 := Aside0.mk hc0_2
 clear hr0_2 hc0_2
 have HB := Aside0.mk (Below.refl w.heap.size w)
 have H := h
 clear h
 unfold r4_Is.f at H
 by_cases c3 : a1 ≥ 0
 ·rw [if_pos c3] at H
  have c3b0 : decide (0 ≤ a1) = true := decide_eq_true c3
  clear c3
  obtain ⟨t172, A4, H⟩ := bE H
  obtain rfl := Option.some.inj H
  go_enter Try.func96, Try.ntmps96
  go_wp2_with (first | (refine bz 2 #[.int .i64 a0_0, .int .i64 a0_1, .slice A0_2 l0_2.length c0_2] 36 ?_; clear HB; intro gb171 w5 BK171 GW171 GE171 HB; obtain ⟨hcz6_0, hcz6_1, hcz6_2, hfz6_0, hfz6_1, hfz6_2⟩ := bq3 BK171.out) | (go_at_call 41; (with_reducible refine (r4_Order.calls k a0_0 a0_1 _ _ l0_2 t172 _ (Kd.C_below HR0_2.out bw) HC0_2.out A4.out).mono ?_); rintro e w7 ⟨rfl, hb⟩; replace BK171 := Aside0.mk (bkb BK171 hb); replace HB := Aside0.mk (below_step bw hb); (try clear hb)))
  go_ret
  exact ⟨rW, bw⟩
 ·rw [if_neg c3] at H
  have c3b0 : decide (0 ≤ a1) = false := decide_eq_false c3
  clear c3
  obtain rfl := Option.some.inj H
  go_enter Try.func96, Try.ntmps96
  go_wp2_with (refine bz 2 #[.int .i64 a0_0, .int .i64 a0_1, .slice A0_2 l0_2.length c0_2] 36 ?_; clear HB; intro gb171 w8 BK171 GW171 GE171 HB)
  go_ret
  exact ⟨rW, bw⟩
def r4_In.f (k : Nat) (a0_0 : Int) (a0_1 : Int) (l0_2 : List Int) (a1 : Int) : Option (Int) := (r4_Is.f k a0_0 a0_1 l0_2 a1).bind fun t174 => (if t174 = true then (some a1) else (some 0))
theorem r4_In.calls (k : Nat) (a0_0 : Int) (a0_1 : Int) (A0_2 : Option Addr) (c0_2 : Nat) (l0_2 : List Int) (a1 : Int) (r : Int) (w : World) (hr0_2 : Kd.C (Kd.int .i64) w A0_2 l0_2.length l0_2) (hc0_2 : l0_2.length ≤ c0_2) (h : r4_In.f k a0_0 a0_1 l0_2 a1 = some r) :
  Calls Try.prog 69 #[.agg #[.int .i64 a0_0, .int .i64 a0_1, .slice A0_2 l0_2.length c0_2], .int .i64 a1] w fun e w' => e = .returned (.int .i64 r) ∧ Below w.heap.size w w' := by
 have hu36 := Try.underlying36
 have HR0_2 := Aside0.mk hr0_2
 have HC0_2 := Aside0.mk hc0_2
 clear hr0_2 hc0_2
 have HB := Aside0.mk (Below.refl w.heap.size w)
 have H := h
 clear h
 unfold r4_In.f at H
 obtain ⟨t174, A3, H⟩ := bE H
 by_cases c4 : t174 = true
 ·subst c4
  have H1 : (some a1) = some r := by rw [if_pos rfl] at H; exact H
  clear H
  have H := H1
  clear H1
  obtain rfl := Option.some.inj H
  go_enter Try.func69, Try.ntmps69
  go_wp2_with (first | (refine bz 2 #[.int .i64 a0_0, .int .i64 a0_1, .slice A0_2 l0_2.length c0_2] 36 ?_; clear HB; intro gb173 w5 BK173 GW173 GE173 HB; obtain ⟨hcz6_0, hcz6_1, hcz6_2, hfz6_0, hfz6_1, hfz6_2⟩ := bq3 BK173.out) | (refine gL 7 Try.func96 #[.agg #[.int .i64 a0_0, .int .i64 a0_1, .slice A0_2 l0_2.length c0_2], .int .i64 a1] ?_; (with_reducible refine (r4_Is.calls k a0_0 a0_1 _ _ l0_2 a1 true _ (Kd.C_below HR0_2.out bw) HC0_2.out A3.out).mono ?_); rintro e w7 ⟨rfl, hb⟩; refine ⟨_, rfl, ?_⟩; replace BK173 := Aside0.mk (bkb BK173 hb); replace HB := Aside0.mk (below_step bw hb); (try clear hb)))
  go_ret
  exact ⟨rW, bw⟩
 ·replace c4 := Bool.eq_false_iff.mpr c4
  subst c4
  have H1 : (some 0) = some r := by rw [if_neg (show ¬ (false = true) by decide)] at H; exact H
  clear H
  have H := H1
  clear H1
  obtain rfl := Option.some.inj H
  go_enter Try.func69, Try.ntmps69
  go_wp2_with (first | (refine bz 2 #[.int .i64 a0_0, .int .i64 a0_1, .slice A0_2 l0_2.length c0_2] 36 ?_; clear HB; intro gb173 w8 BK173 GW173 GE173 HB; obtain ⟨hcz9_0, hcz9_1, hcz9_2, hfz9_0, hfz9_1, hfz9_2⟩ := bq3 BK173.out) | (refine gL 7 Try.func96 #[.agg #[.int .i64 a0_0, .int .i64 a0_1, .slice A0_2 l0_2.length c0_2], .int .i64 a1] ?_; (with_reducible refine (r4_Is.calls k a0_0 a0_1 _ _ l0_2 a1 false _ (Kd.C_below HR0_2.out bw) HC0_2.out A3.out).mono ?_); rintro e w10 ⟨rfl, hb⟩; refine ⟨_, rfl, ?_⟩; replace BK173 := Aside0.mk (bkb BK173 hb); replace HB := Aside0.mk (below_step bw hb); (try clear hb)))
  go_ret
  exact ⟨rW, bw⟩
def r4_digits.l0 : Nat → Int → Int → Int → List Int → Int → Option (List Int)
 | 0, _, _, _, _, _ => none
 | k + 1, x0, x1, x2, x7, x8 => if x8 < x2 then (if x1 = 0 then (none) else (if 0 ≤ x8 then (if x8 < (x7.length : Int) then (r4_digits.l0 k (wrap64 (Int.tdiv x0 x1)) x1 x2 (x7.set (x8 : Int).toNat (Int.tmod x0 x1)) (wrap64 (x8 + 1))) else (none)) else (none))) else (some x7)
def r4_digits.f (k : Nat) (a0 : Int) (a1 : Int) (a2 : Int) : Option (List Int) := if 0 ≤ a2 then (if (a2 : Int).toNat ≤ 35184372088832 then (r4_digits.l0 k a0 a1 a2 (List.replicate (a2 : Int).toNat 0) 0) else (none)) else (none)
theorem r4_digits.calls (k : Nat) (a0 : Int) (a1 : Int) (a2 : Int) (r : List Int) (w : World) (h : r4_digits.f k a0 a1 a2 = some r) :
  Calls Try.prog 95 #[.int .i64 a0, .int .i64 a1, .int .i64 a2] w fun e w' => ∃ v0_ : Value, e = .returned (v0_) ∧ Kd.R (Kd.int .i64) 3 w' w.heap.size (fun _ => True) v0_ r ∧ Below w.heap.size w w' := by
 have HB := Aside0.mk (Below.refl w.heap.size w)
 have H := h
 clear h
 unfold r4_digits.f at H
 obtain ⟨c4, H⟩ := iE H
 have c4b0 := eq_true c4
 have c4b1 := decide_eq_true c4
 clear c4
 obtain ⟨c5, H⟩ := iE H
 have c5b0 := eq_true c5
 have c5b1 := decide_eq_true c5
 clear c5
 obtain ⟨y175, hy175⟩ : ∃ y_ : List Int, y_ = (List.replicate (a2 : Int).toNat 0) := ⟨_, rfl⟩
 (try rw [Option.bind_some] at H); (try rw [← hy175] at H)
 have Ny175 := Aside0.mk hy175
 clear hy175
 have H' := Aside0.mk H
 clear H
 go_enter Try.func95, Try.ntmps95
 go_wp2_with ((with_reducible refine gate_dst (N := 10) rfl ?_); refine Kd.R_make (Kd.int .i64) _ 3 rfl (N := 10) rfl 22 _ _ rfl a2 rfl rfl Try.underlying22 (.int .i64 0) 8 info3 rfl (by decide) (by omega) 0 (ok := fun _ => True) (okp := fun _ => True) rfl (fun _ hk => hk) trivial (dT) (Nat.le_trans (Nat.mul_le_mul_right _ (dT : a2.toNat ≤ 35184372088832)) (by omega)) (Below.refl _ _) (Nat.le_refl _) ?_; intro v176 w6 ho7 hb hg_ hnew_; clear hg_ hnew_; (first | rw [← Ny175.out] at ho7 | (simp only [Int.reduceToNat] at ho7; rw [← Ny175.out] at ho7)); have HO177 := Aside0.mk (Kd.R_lower ho7 (below_size bw)); replace HB := Aside0.mk (below_step bw hb); clear hb ho7)
 go_loopg [0, 8] k (fun kq v0 v8 w' => ∃ (x0_1 : Int) (x7_1 : List Int) (x8_1 : Int), v0 = .int .i64 x0_1 ∧ v8 = .int .i64 x8_1 ∧ Aside0 (r4_digits.l0 kq x0_1 a1 a2 x7_1 x8_1 = some r) ∧ Aside0 (kq ≤ k) ∧ Aside0 (Kd.R (Kd.int .i64) 3 w' w.heap.size (fun _ => True) v176 x7_1) ∧ Aside0 (Below w.heap.size w w'))
 case atStart => exact ⟨(a0), (y175), (0), rX, rX, H', ⟨Nat.le_refl _⟩, ⟨rR HO177⟩, ⟨bw⟩⟩
 case round =>
  clear H' c4b0 c4b1 c5b0 c5b1
  obtain ⟨x0_1, x7_1, x8_1, rfl, rfl, HA, HK1, HO_7, HB⟩ := hrel
  cases gk with
  | zero => exact absurd HA.out (by simp [r4_digits.l0])
  | succ k1 =>
   have H := HA.out
   clear HA
   simp only [r4_digits.l0] at H
   by_cases c8 : x8_1 < a2
   ·rw [if_pos c8] at H
    have c8b0 := decide_eq_true c8
    clear c8
    by_cases c9 : a1 = 0
    ·rw [if_pos c9] at H
     exact absurd H (by simp)
    ·rw [if_neg c9] at H
     have c9b0 := beq_eq_false_iff_ne.mpr c9
     have c9b1 := bne_iff_ne.mpr c9
     obtain ⟨c10, H⟩ := iE H
     have c10b0 := decide_eq_true c10
     clear c10
     obtain ⟨c11, H⟩ := iE H
     have c11b0 := decide_eq_true c11
     clear c11
     obtain ⟨y178, hy178⟩ : ∃ y_ : List Int, y_ = (x7_1.set (x8_1 : Int).toNat (Int.tmod x0_1 a1)) := ⟨_, rfl⟩
     (try rw [Option.bind_some] at H); (try rw [← hy178] at H)
     have Ny178 := Aside0.mk hy178
     clear hy178
     have H' := Aside0.mk H
     clear H
     have p12 : 0 ≤ (x8_1 : Int) := dT
     have q12 : (x8_1 : Int) < ((x7_1.length : Int) : Int) := dT
     obtain ⟨go12, co12, eo12, gb12, gl12, cl12, HG12⟩ := Kd.R_form HO_7.out (by omega)
     (first | cases eo12 | (injection eo12 with ea_ en_ ec_; (first | subst ea_ | (injection ea_ with ea_; subst ea_)); subst ec_; clear en_))
     have GB12 := Aside0.mk gb12
     have GG12 := Aside0.mk HG12
     clear gb12 gl12 HG12
     obtain ⟨hx12_0, hf12_0⟩ := Kd.R_celln 0 HO_7.out (x8_1 : Int) p12 q12
     replace p12 := eq_true p12
     replace q12 := eq_true q12
     have HP13 := Kd.R_putg HO_7.out (x8_1 : Int) (Int.tmod x0_1 a1)
     go_wp2_with (first | ((with_reducible refine gate_store (t := 3) (p := 21) rfl ?_); refine store_event (t := 3) (p := 21) (v := ?vo_w14) (w1 := (wr.setCell ⟨go12, (x8_1 : Int).toNat, none⟩ (.int .i64 (Int.tmod x0_1 a1)))) ?hg ?ho ?hn ?hr ?_; (case ho => rfl); (case hg => rfl); (case hn => rfl); (case hr => first | (go_simp; done) | (go_simp; rfl)); intro w14 hw; have hg : wr.grownBy w14 (some go12) := (by rw [hw]; exact HP13.2); have hp_ : Kd.R (Kd.int .i64) 3 w14 w.heap.size (fun _ => True) (.slice (some ⟨go12, 0, none⟩) x7_1.length co12) y178 := (by rw [hw, Ny178.out]; exact HP13.1); clear HP13; replace HO_7 := Aside0.mk hp_; replace HB := Aside0.mk ((by rw [hw]; exact below_set (HB.out) GB12.out : Below w.heap.size w w14)); clear hg hw hp_))
     go_roundg k1
     case measure => have := HK1.out; omega
     case rel => exact ⟨(wrap64 (Int.tdiv x0_1 a1)), (y178), (wrap64 (x8_1 + 1)), rX, rX, H', mK, ⟨rR HO_7⟩, ⟨bw⟩⟩
   ·rw [if_neg c8] at H
    have c8b0 := decide_eq_false c8
    clear c8
    obtain rfl := Option.some.inj H
    go_wp2
    go_ret
    exact ⟨_, rW, rR HO_7, bw⟩
mutual
def field_order.j0 : Nat → Int → Int → Bool → Option (Int)
 | 0, _, _, _ => none
 | k + 1, x0, x1, x19 => if x19 = true then (some 0) else (field_order.l0 k x0 1 x1 0)
def field_order.l0 : Nat → Int → Int → Int → Int → Option (Int)
 | 0, _, _, _, _ => none
 | k + 1, x0, x5, x20, x21 => if x21 < x20 then (if (wrap64 (x5 * x0)) > 256 then (some 0) else (field_order.l0 k x0 (wrap64 (x5 * x0)) x20 (wrap64 (x21 + 1)))) else (some x5)
end
def field_order.f (k : Nat) (a0 : Int) (a1 : Int) : Option (Int) := if a0 < 2 then (field_order.j0 k a0 a1 true) else (if a0 > 256 then (field_order.j0 k a0 a1 true) else (if a1 < 1 then (field_order.j0 k a0 a1 true) else (field_order.j0 k a0 a1 (decide (a1 > 8)))))
theorem field_order.calls (k : Nat) (a0 : Int) (a1 : Int) (r : Int) (w : World) (h : field_order.f k a0 a1 = some r) :
  Calls Try.prog 63 #[.int .i64 a0, .int .i64 a1] w fun e w' => e = .returned (.int .i64 r) ∧ Drawn0 w w' := by
 have H := h
 clear h
 unfold field_order.f at H
 have HC3 := Aside0.mk H
 clear H
 go_enter Try.func63, Try.ntmps63
 go_upto_region 1 with (fail)
 go_cut [19] (fun v19 wc => ∃ (kq : Nat) (x19_2 : Bool), v19 = .bool x19_2 ∧ Aside0 (field_order.j0 kq a0 a1 x19_2 = some r) ∧ Aside0 (kq ≤ k) ∧ Drawn0 w wc)
 case first =>
  have H := HC3.out
  clear HC3
  by_cases c4 : a0 < 2
  ·rw [if_pos c4] at H
   have c4b0 := decide_eq_true c4
   clear c4
   (first | rw [c4b0] | (simp only [i64_w, i32_w]; rw [c4b0]) | skip)
   have H' := Aside0.mk H
   clear H
   go_wp2
   go_meet
   case rel => exact ⟨_, (true), rX, H', ⟨by first | omega | exact Nat.le_refl _⟩, by repeat (first | exact Drawn0.refl _ | apply Drawn0.step)⟩
  ·rw [if_neg c4] at H
   have c4b0 := decide_eq_false c4
   clear c4
   (first | rw [c4b0] | (simp only [i64_w, i32_w]; rw [c4b0]) | skip)
   by_cases c5 : a0 > 256
   ·rw [if_pos c5] at H
    have c5b0 : decide (256 < a0) = true := decide_eq_true c5
    clear c5
    have H' := Aside0.mk H
    clear H
    go_wp2
    go_meet
    case rel => exact ⟨_, (true), rX, H', ⟨by first | omega | exact Nat.le_refl _⟩, by repeat (first | exact Drawn0.refl _ | apply Drawn0.step)⟩
   ·rw [if_neg c5] at H
    have c5b0 : decide (256 < a0) = false := decide_eq_false c5
    clear c5
    by_cases c6 : a1 < 1
    ·rw [if_pos c6] at H
     have c6b0 := decide_eq_true c6
     clear c6
     have H' := Aside0.mk H
     clear H
     go_wp2
     go_meet
     case rel => exact ⟨_, (true), rX, H', ⟨by first | omega | exact Nat.le_refl _⟩, by repeat (first | exact Drawn0.refl _ | apply Drawn0.step)⟩
    ·rw [if_neg c6] at H
     have c6b0 := decide_eq_false c6
     clear c6
     have H' := Aside0.mk H
     clear H
     go_wp2
     go_meet
     case rel => exact ⟨_, (decide (a1 > 8)), rX, H', ⟨by first | omega | exact Nat.le_refl _⟩, by repeat (first | exact Drawn0.refl _ | apply Drawn0.step)⟩
 case rest =>
  clear HC3
  obtain ⟨kq, x19_2, rfl, HA, HJ2, ⟨mc2, rfl⟩⟩ := hcut
  cases kq with
  | zero => exact absurd HA.out (by simp [field_order.j0])
  | succ kj2 =>
   have H := HA.out
   clear HA
   simp only [field_order.j0] at H
   by_cases c7 : x19_2 = true
   ·subst c7
    have H1 : (some 0) = some r := by rw [if_pos rfl] at H; exact H
    clear H
    have H := H1
    clear H1
    obtain rfl := Option.some.inj H
    go_wp2
    go_ret
    exact ⟨by first | rfl | (simp; done) | (simp [*]; done), by repeat (first | exact Drawn0.refl _ | apply Drawn0.step)⟩
   ·replace c7 := Bool.eq_false_iff.mpr c7
    subst c7
    have H1 : (field_order.l0 kj2 a0 1 a1 0) = some r := by rw [if_neg (show ¬ (false = true) by decide)] at H; exact H
    clear H
    have H := H1
    clear H1
    have H' := Aside0.mk H
    clear H
    go_wp2
    go_loopg [5, 21] kj2 (fun kq v5 v21 w' => ∃ (x5_2 : Int) (x21_2 : Int), v5 = .int .i64 x5_2 ∧ v21 = .int .i64 x21_2 ∧ Aside0 (field_order.l0 kq a0 x5_2 a1 x21_2 = some r) ∧ Aside0 (kq ≤ kj2) ∧ Drawn0 w w')
    case atStart => exact ⟨(1), (0), rX, rX, H', ⟨Nat.le_refl _⟩, by repeat (first | exact Drawn0.refl _ | apply Drawn0.step)⟩
    case round =>
     clear H'
     obtain ⟨x5_2, x21_2, rfl, rfl, HA, HK2, ⟨m2, rfl⟩⟩ := hrel
     cases gk with
     | zero => exact absurd HA.out (by simp [field_order.l0])
     | succ k2 =>
      have H := HA.out
      clear HA
      simp only [field_order.l0] at H
      by_cases c8 : x21_2 < a1
      ·rw [if_pos c8] at H
       have c8b0 := decide_eq_true c8
       clear c8
       by_cases c9 : (wrap64 (x5_2 * a0)) > 256
       ·rw [if_pos c9] at H
        have c9b0 : decide (256 < (wrap64 (x5_2 * a0))) = true := decide_eq_true c9
        clear c9
        obtain rfl := Option.some.inj H
        go_wp2
        go_ret
        exact ⟨by first | rfl | (simp; done) | (simp [*]; done), by repeat (first | exact Drawn0.refl _ | apply Drawn0.step)⟩
       ·rw [if_neg c9] at H
        have c9b0 : decide (256 < (wrap64 (x5_2 * a0))) = false := decide_eq_false c9
        clear c9
        have H' := Aside0.mk H
        clear H
        go_wp2
        go_roundg k2
        case measure => have := HJ2.out; have := HK2.out; omega
        case rel => exact ⟨(wrap64 (x5_2 * a0)), (wrap64 (x21_2 + 1)), rX, rX, H', ⟨by have := HJ2.out; have := HK2.out; omega⟩, by repeat (first | exact Drawn0.refl _ | apply Drawn0.step)⟩
      ·rw [if_neg c8] at H
       have c8b0 := decide_eq_false c8
       clear c8
       obtain rfl := Option.some.inj H
       go_wp2
       go_ret
       exact ⟨by first | rfl | (simp; done) | (simp [*]; done), by repeat (first | exact Drawn0.refl _ | apply Drawn0.step)⟩
def field_isPrime.l0 : Nat → Int → Int → Option (Bool)
 | 0, _, _ => none
 | k + 1, x0, x3 => if (wrap64 (x3 * x3)) ≤ x0 then (if x3 = 0 then (none) else (if (Int.tmod x0 x3) = 0 then (some false) else (field_isPrime.l0 k x0 (wrap64 (x3 + 1))))) else (some (decide (x0 ≥ 2)))
def field_isPrime.f (k : Nat) (a0 : Int) : Option (Bool) := field_isPrime.l0 k a0 2
theorem field_isPrime.calls (k : Nat) (a0 : Int) (r : Bool) (w : World) (h : field_isPrime.f k a0 = some r) :
  Calls Try.prog 90 #[.int .i64 a0] w fun e w' => e = .returned (.bool r) ∧ Drawn0 w w' := by
 have H := h
 clear h
 unfold field_isPrime.f at H
 have H' := Aside0.mk H
 clear H
 go_enter Try.func90, Try.ntmps90
 go_wp2
 go_loopg [3] k (fun kq v3 w' => ∃ (x3_1 : Int), v3 = .int .i64 x3_1 ∧ Aside0 (field_isPrime.l0 kq a0 x3_1 = some r) ∧ Aside0 (kq ≤ k) ∧ Drawn0 w w')
 case atStart => exact ⟨(2), rX, H', ⟨Nat.le_refl _⟩, by repeat (first | exact Drawn0.refl _ | apply Drawn0.step)⟩
 case round =>
  clear H'
  obtain ⟨x3_1, rfl, HA, HK1, ⟨m1, rfl⟩⟩ := hrel
  cases gk with
  | zero => exact absurd HA.out (by simp [field_isPrime.l0])
  | succ k1 =>
   have H := HA.out
   clear HA
   simp only [field_isPrime.l0] at H
   by_cases c2 : (wrap64 (x3_1 * x3_1)) ≤ a0
   ·rw [if_pos c2] at H
    have c2b0 := decide_eq_true c2
    clear c2
    by_cases c3 : x3_1 = 0
    ·rw [if_pos c3] at H
     exact absurd H (by simp)
    ·rw [if_neg c3] at H
     have c3b0 := beq_eq_false_iff_ne.mpr c3
     have c3b1 := bne_iff_ne.mpr c3
     by_cases c4 : (Int.tmod a0 x3_1) = 0
     ·rw [if_pos c4] at H
      have c4b0 := beq_iff_eq.mpr c4
      have c4b1 := bne_eq_false_iff_eq.mpr c4
      clear c4
      obtain rfl := Option.some.inj H
      go_wp2
      go_ret
      exact ⟨by first | rfl | (simp; done) | (simp [*]; done), by repeat (first | exact Drawn0.refl _ | apply Drawn0.step)⟩
     ·rw [if_neg c4] at H
      have c4b0 := beq_eq_false_iff_ne.mpr c4
      have c4b1 := bne_iff_ne.mpr c4
      have H' := Aside0.mk H
      clear H
      go_wp2
      go_roundg k1
      case measure => have := HK1.out; omega
      case rel => exact ⟨(wrap64 (x3_1 + 1)), rX, H', mK, by repeat (first | exact Drawn0.refl _ | apply Drawn0.step)⟩
   ·rw [if_neg c2] at H
    have c2b0 := decide_eq_false c2
    clear c2
    obtain rfl := Option.some.inj H
    go_wp2
    go_ret
    exact ⟨by first | rfl | (simp; done) | (simp [*]; done), by repeat (first | exact Drawn0.refl _ | apply Drawn0.step)⟩
mutual
def field_shape.j0 : Nat → Bool → Int → Int → List Int → Option (Bool)
 | 0, _, _, _, _ => none
 | k + 1, x16, x102000, x102001, x102002 => if x16 = true then (some false) else (if x102001 = 1 then (some ((x102002.length : Int) == 0)) else (if (x102002.length : Int) = x102001 then (field_shape.l0 k x102002 (x102002.length : Int) 0 x102000 x102001 x102002) else (some false)))
def field_shape.l0 : Nat → List Int → Int → Int → Int → Int → List Int → Option (Bool)
 | 0, _, _, _, _, _, _ => none
 | k + 1, x31, x32, x33, x102000, x102001, x102002 => if x33 < x32 then (if 0 ≤ x33 then (if x33 < (x31.length : Int) then (if (rd x31 x33) < 0 then (some false) else (if (rd x31 x33) ≥ x102000 then (some false) else (field_shape.l0 k x31 x32 (wrap64 (x33 + 1)) x102000 x102001 x102002))) else (none)) else (none)) else (some true)
end
def field_shape.f (k : Nat) (a0_0 : Int) (a0_1 : Int) (l0_2 : List Int) : Option (Bool) := (field_order.f k a0_0 a0_1).bind fun t102 => (if t102 = 0 then (field_shape.j0 k true a0_0 a0_1 l0_2) else ((field_isPrime.f k a0_0).bind fun t103 => (field_shape.j0 k (!t103) a0_0 a0_1 l0_2)))
theorem field_shape.calls (k : Nat) (a0_0 : Int) (a0_1 : Int) (A0_2 : Option Addr) (c0_2 : Nat) (l0_2 : List Int) (r : Bool) (w : World) (hr0_2 : Kd.C (Kd.int .i64) w A0_2 l0_2.length l0_2) (hc0_2 : l0_2.length ≤ c0_2) (h : field_shape.f k a0_0 a0_1 l0_2 = some r) :
  Calls Try.prog 62 #[.agg #[.int .i64 a0_0, .int .i64 a0_1, .slice A0_2 l0_2.length c0_2]] w fun e w' => e = .returned (.bool r) ∧ Below w.heap.size w w' := by
 have hu36 := Try.underlying36
 have HR0_2 := Aside0.mk hr0_2
 have HC0_2 := Aside0.mk hc0_2
 clear hr0_2 hc0_2
 have HB := Aside0.mk (Below.refl w.heap.size w)
 have H := h
 clear h
 unfold field_shape.f at H
 have HC2 := Aside0.mk H
 clear H
 go_enter Try.func62, Try.ntmps62
 go_upto_region 1 with (refine bz 1 #[.int .i64 a0_0, .int .i64 a0_1, .slice A0_2 l0_2.length c0_2] 36 ?_; clear HB; intro gb101 w3 BK101 GW101 GE101 HB)
 (try simp only [Act.put, List.setIfInBounds_toArray, List.set_cons_zero, List.set_cons_succ])
 go_cut [16] (fun v16 wc => ∃ (kq : Nat) (x16_1 : Bool), v16 = .bool x16_1 ∧ Aside0 (field_shape.j0 kq x16_1 a0_0 a0_1 l0_2 = some r) ∧ Aside0 (kq ≤ k) ∧ Aside0 (wc.heap[gb101]? = some (.cells #[.int .i64 a0_0, .int .i64 a0_1, (.slice A0_2 l0_2.length c0_2)] 36 (0, 0))) ∧ Aside0 (Below w.heap.size w wc))
 case first =>
  have H := HC2.out
  clear HC2
  obtain ⟨t102, A4, H⟩ := bE H
  by_cases c5 : t102 = 0
  ·rw [if_pos c5] at H
   have c5b0 := beq_iff_eq.mpr c5
   have c5b1 := bne_eq_false_iff_eq.mpr c5
   clear c5
   (first | rw [c5b0] | (simp only [i64_w, i32_w]; rw [c5b0]) | skip)
   have H' := Aside0.mk H
   clear H
   obtain ⟨hcz6_0, hcz6_1, hcz6_2, hfz6_0, hfz6_1, hfz6_2⟩ := bq3 BK101.out
   go_wp2_with (refine gL 9 Try.func63 #[.int .i64 a0_0, .int .i64 a0_1] ?_; (with_reducible refine (field_order.calls k a0_0 a0_1 t102 _ A4.out).mono ?_); rintro e w' ⟨rfl, ⟨nd, rfl⟩⟩; refine ⟨_, rfl, ?_⟩)
   go_meet
   case rel => exact ⟨_, (true), rX, H', ⟨by first | omega | exact Nat.le_refl _⟩, ⟨kk BK101⟩, ⟨bw⟩⟩
  ·rw [if_neg c5] at H
   have c5b0 := beq_eq_false_iff_ne.mpr c5
   have c5b1 := bne_iff_ne.mpr c5
   (first | rw [c5b0] | (simp only [i64_w, i32_w]; rw [c5b0]) | skip)
   obtain ⟨t103, A7, H⟩ := bE H
   have H' := Aside0.mk H
   clear H
   obtain ⟨hcz8_0, hcz8_1, hcz8_2, hfz8_0, hfz8_1, hfz8_2⟩ := bq3 BK101.out
   go_wp2_with (first | (refine gL 9 Try.func63 #[.int .i64 a0_0, .int .i64 a0_1] ?_; (with_reducible refine (field_order.calls k a0_0 a0_1 t102 _ A4.out).mono ?_); rintro e w' ⟨rfl, ⟨nd, rfl⟩⟩; refine ⟨_, rfl, ?_⟩) | (go_at_call 90; (with_reducible refine (field_isPrime.calls k a0_0 t103 _ A7.out).mono ?_); rintro e w' ⟨rfl, ⟨nd, rfl⟩⟩))
   go_meet
   case rel => exact ⟨_, (!t103), rX, H', ⟨by first | omega | exact Nat.le_refl _⟩, ⟨kk BK101⟩, ⟨bw⟩⟩
 case rest =>
  clear HC2
  obtain ⟨kq, x16_1, rfl, HA, HJ1, BK101, HB⟩ := hcut
  cases kq with
  | zero => exact absurd HA.out (by simp [field_shape.j0])
  | succ kj1 =>
   have H := HA.out
   clear HA
   simp only [field_shape.j0] at H
   by_cases c9 : x16_1 = true
   ·subst c9
    have H1 : (some false) = some r := by rw [if_pos rfl] at H; exact H
    clear H
    have H := H1
    clear H1
    obtain rfl := Option.some.inj H
    go_wp2
    go_ret
    exact ⟨rW, bw⟩
   ·replace c9 := Bool.eq_false_iff.mpr c9
    subst c9
    have H1 : (if a0_1 = 1 then (some ((l0_2.length : Int) == 0)) else (if (l0_2.length : Int) = a0_1 then (field_shape.l0 kj1 l0_2 (l0_2.length : Int) 0 a0_0 a0_1 l0_2) else (some false))) = some r := by rw [if_neg (show ¬ (false = true) by decide)] at H; exact H
    clear H
    have H := H1
    clear H1
    by_cases c10 : a0_1 = 1
    ·rw [if_pos c10] at H
     have c10b0 := beq_iff_eq.mpr c10
     have c10b1 := bne_eq_false_iff_eq.mpr c10
     clear c10
     obtain rfl := Option.some.inj H
     obtain ⟨hcz11_0, hcz11_1, hcz11_2, hfz11_0, hfz11_1, hfz11_2⟩ := bq3 BK101.out
     go_wp2
     go_ret
     exact ⟨rW, bw⟩
    ·rw [if_neg c10] at H
     have c10b0 := beq_eq_false_iff_ne.mpr c10
     have c10b1 := bne_iff_ne.mpr c10
     by_cases c12 : (l0_2.length : Int) = a0_1
     ·rw [if_pos c12] at H
      have c12b0 := beq_iff_eq.mpr c12
      have c12b1 := bne_eq_false_iff_eq.mpr c12
      clear c12
      have H' := Aside0.mk H
      clear H
      obtain ⟨hcz13_0, hcz13_1, hcz13_2, hfz13_0, hfz13_1, hfz13_2⟩ := bq3 BK101.out
      go_wp2
      go_loopg [33] kj1 (fun kq v33 w' => ∃ (x33_2 : Int), v33 = .int .i64 x33_2 ∧ Aside0 (field_shape.l0 kq l0_2 (l0_2.length : Int) x33_2 a0_0 a0_1 l0_2 = some r) ∧ Aside0 (kq ≤ kj1) ∧ Aside0 (w'.heap[gb101]? = some (.cells #[.int .i64 a0_0, .int .i64 a0_1, (.slice A0_2 l0_2.length c0_2)] 36 (0, 0))) ∧ Aside0 (Below w.heap.size w w'))
      case atStart => exact ⟨(0), rX, H', ⟨Nat.le_refl _⟩, ⟨kk BK101⟩, ⟨bw⟩⟩
      case round =>
       clear H' c10 c10b0 c10b1 c12b0 c12b1 hcz13_0 hcz13_1 hcz13_2 hfz13_0 hfz13_1 hfz13_2
       obtain ⟨x33_2, rfl, HA, HK2, BK101, HB⟩ := hrel
       cases gk with
       | zero => exact absurd HA.out (by simp [field_shape.l0])
       | succ k2 =>
        have H := HA.out
        clear HA
        simp only [field_shape.l0] at H
        by_cases c14 : x33_2 < (l0_2.length : Int)
        ·rw [if_pos c14] at H
         have c14b0 := decide_eq_true c14
         clear c14
         obtain ⟨c15, H⟩ := iE H
         have c15b0 := decide_eq_true c15
         clear c15
         obtain ⟨c16, H⟩ := iE H
         have c16b0 := decide_eq_true c16
         clear c16
         by_cases c17 : (rd l0_2 x33_2) < 0
         ·rw [if_pos c17] at H
          have c17b0 := decide_eq_true c17
          clear c17
          obtain rfl := Option.some.inj H
          have p104 : 0 ≤ (x33_2 : Int) := dT
          have q104 : x33_2 < (l0_2.length : Int) := dT
          obtain ⟨ad104, e104, hx104_0⟩ := Kd.at_int HR0_2.out x33_2 p104 q104
          cases e104
          replace hx104_0 := cw HB hx104_0
          replace p104 := eq_true p104
          replace q104 := eq_true q104
          go_wp2
          go_ret
          exact ⟨rW, bw⟩
         ·rw [if_neg c17] at H
          have c17b0 := decide_eq_false c17
          clear c17
          by_cases c18 : (rd l0_2 x33_2) ≥ a0_0
          ·rw [if_pos c18] at H
           have c18b0 : decide (a0_0 ≤ (rd l0_2 x33_2)) = true := decide_eq_true c18
           clear c18
           obtain rfl := Option.some.inj H
           have p104 : 0 ≤ (x33_2 : Int) := dT
           have q104 : x33_2 < (l0_2.length : Int) := dT
           obtain ⟨ad104, e104, hx104_0⟩ := Kd.at_int HR0_2.out x33_2 p104 q104
           cases e104
           replace hx104_0 := cw HB hx104_0
           replace p104 := eq_true p104
           replace q104 := eq_true q104
           obtain ⟨hcz19_0, hcz19_1, hcz19_2, hfz19_0, hfz19_1, hfz19_2⟩ := bq3 BK101.out
           go_wp2
           go_ret
           exact ⟨rW, bw⟩
          ·rw [if_neg c18] at H
           have c18b0 : decide (a0_0 ≤ (rd l0_2 x33_2)) = false := decide_eq_false c18
           clear c18
           have H' := Aside0.mk H
           clear H
           have p104 : 0 ≤ (x33_2 : Int) := dT
           have q104 : x33_2 < (l0_2.length : Int) := dT
           obtain ⟨ad104, e104, hx104_0⟩ := Kd.at_int HR0_2.out x33_2 p104 q104
           cases e104
           replace hx104_0 := cw HB hx104_0
           replace p104 := eq_true p104
           replace q104 := eq_true q104
           obtain ⟨hcz20_0, hcz20_1, hcz20_2, hfz20_0, hfz20_1, hfz20_2⟩ := bq3 BK101.out
           go_wp2
           go_roundg k2
           case measure => have := HJ1.out; have := HK2.out; omega
           case rel => exact ⟨(wrap64 (x33_2 + 1)), rX, H', ⟨by have := HJ1.out; have := HK2.out; omega⟩, ⟨kk BK101⟩, ⟨bw⟩⟩
        ·rw [if_neg c14] at H
         have c14b0 := decide_eq_false c14
         clear c14
         obtain rfl := Option.some.inj H
         go_wp2
         go_ret
         exact ⟨rW, bw⟩
     ·rw [if_neg c12] at H
      have c12b0 := beq_eq_false_iff_ne.mpr c12
      have c12b1 := bne_iff_ne.mpr c12
      obtain rfl := Option.some.inj H
      obtain ⟨hcz21_0, hcz21_1, hcz21_2, hfz21_0, hfz21_1, hfz21_2⟩ := bq3 BK101.out
      go_wp2
      go_ret
      exact ⟨rW, bw⟩
def field_digitsOf.l0 : Nat → Int → Int → List Int → Int → Int → Option (List Int)
 | 0, _, _, _, _, _ => none
 | k + 1, x0, x1, x7, x12, x13 => if x13 < x12 then (if x1 = 0 then (none) else (if 0 ≤ x13 then (if x13 < (x7.length : Int) then (field_digitsOf.l0 k (wrap64 (Int.tdiv x0 x1)) x1 (x7.set (x13 : Int).toNat (Int.tmod x0 x1)) x12 (wrap64 (x13 + 1))) else (none)) else (none))) else (some x7)
def field_digitsOf.f (k : Nat) (a0 : Int) (a1 : Int) (a2 : Int) : Option (List Int) := if 0 ≤ a2 then (if (a2 : Int).toNat ≤ 35184372088832 then ((some (List.replicate (a2 : Int).toNat 0 : List Int)).bind fun y105 => (field_digitsOf.l0 k a0 a1 y105 (y105.length : Int) 0)) else (none)) else (none)
theorem field_digitsOf.calls (k : Nat) (a0 : Int) (a1 : Int) (a2 : Int) (r : List Int) (w : World) (h : field_digitsOf.f k a0 a1 a2 = some r) :
  Calls Try.prog 122 #[.int .i64 a0, .int .i64 a1, .int .i64 a2] w fun e w' => ∃ v0_ : Value, e = .returned (v0_) ∧ Kd.R (Kd.int .i64) 3 w' w.heap.size (fun _ => True) v0_ r ∧ Below w.heap.size w w' := by
 have HB := Aside0.mk (Below.refl w.heap.size w)
 have H := h
 clear h
 unfold field_digitsOf.f at H
 obtain ⟨c4, H⟩ := iE H
 have c4b0 := eq_true c4
 have c4b1 := decide_eq_true c4
 clear c4
 obtain ⟨c5, H⟩ := iE H
 have c5b0 := eq_true c5
 have c5b1 := decide_eq_true c5
 clear c5
 obtain ⟨y105, hy105⟩ : ∃ y_ : List Int, y_ = (List.replicate (a2 : Int).toNat 0) := ⟨_, rfl⟩
 (try rw [Option.bind_some] at H); (try rw [← hy105] at H)
 have Ny105 := Aside0.mk hy105
 clear hy105
 have H' := Aside0.mk H
 clear H
 go_enter Try.func122, Try.ntmps122
 go_wp2_with ((with_reducible refine gate_dst (N := 10) rfl ?_); refine Kd.R_make (Kd.int .i64) _ 3 rfl (N := 10) rfl 22 _ _ rfl a2 rfl rfl Try.underlying22 (.int .i64 0) 8 info3 rfl (by decide) (by omega) 0 (ok := fun _ => True) (okp := fun _ => True) rfl (fun _ hk => hk) trivial (dT) (Nat.le_trans (Nat.mul_le_mul_right _ (dT : a2.toNat ≤ 35184372088832)) (by omega)) (Below.refl _ _) (Nat.le_refl _) ?_; intro v106 w6 ho7 hb hg_ hnew_; clear hg_ hnew_; (first | rw [← Ny105.out] at ho7 | (simp only [Int.reduceToNat] at ho7; rw [← Ny105.out] at ho7)); have HO107 := Aside0.mk (Kd.R_lower ho7 (below_size bw)); replace HB := Aside0.mk (below_step bw hb); clear hb ho7; obtain ⟨Ao8, co8, eo8⟩ := Kd.R_slice HO107.out; subst eo8)
 go_loopg [0, 13] k (fun kq v0 v13 w' => ∃ (x0_1 : Int) (x7_1 : List Int) (x13_1 : Int), v0 = .int .i64 x0_1 ∧ v13 = .int .i64 x13_1 ∧ Aside0 (field_digitsOf.l0 kq x0_1 a1 x7_1 (y105.length : Int) x13_1 = some r) ∧ Aside0 (kq ≤ k) ∧ Aside0 (Kd.R (Kd.int .i64) 3 w' w.heap.size (fun _ => True) (.slice Ao8 y105.length co8) x7_1) ∧ Aside0 (Below w.heap.size w w'))
 case atStart => exact ⟨(a0), (y105), (0), rX, rX, H', ⟨Nat.le_refl _⟩, ⟨rR HO107⟩, ⟨bw⟩⟩
 case round =>
  clear H' c4b0 c4b1 c5b0 c5b1
  obtain ⟨x0_1, x7_1, x13_1, rfl, rfl, HA, HK1, HO_7, HB⟩ := hrel
  have hl7_1 := (Kd.R_reads' HO_7.out).1
  rw [hl7_1] at HO_7
  (try simp only [hl7_1])
  cases gk with
  | zero => exact absurd HA.out (by simp [field_digitsOf.l0])
  | succ k1 =>
   have H := HA.out
   clear HA
   simp only [field_digitsOf.l0] at H
   by_cases c9 : x13_1 < (y105.length : Int)
   ·rw [if_pos c9] at H
    have c9b0 := decide_eq_true c9
    clear c9
    by_cases c10 : a1 = 0
    ·rw [if_pos c10] at H
     exact absurd H (by simp)
    ·rw [if_neg c10] at H
     have c10b0 := beq_eq_false_iff_ne.mpr c10
     have c10b1 := bne_iff_ne.mpr c10
     obtain ⟨c11, H⟩ := iE H
     have c11b0 := decide_eq_true c11
     clear c11
     obtain ⟨c12, H⟩ := iE H
     have c12b0 := decide_eq_true c12
     clear c12
     obtain ⟨y108, hy108⟩ : ∃ y_ : List Int, y_ = (x7_1.set (x13_1 : Int).toNat (Int.tmod x0_1 a1)) := ⟨_, rfl⟩
     (try rw [Option.bind_some] at H); (try rw [← hy108] at H)
     have Ny108 := Aside0.mk hy108
     clear hy108
     have H' := Aside0.mk H
     clear H
     have p13 : 0 ≤ (x13_1 : Int) := dT
     have q13 : (x13_1 : Int) < ((x7_1.length : Int) : Int) := dT
     obtain ⟨go13, co13, eo13, gb13, gl13, cl13, HG13⟩ := Kd.R_form HO_7.out (by omega)
     (first | cases eo13 | (injection eo13 with ea_ en_ ec_; (first | subst ea_ | (injection ea_ with ea_; subst ea_)); subst ec_; clear en_))
     have GB13 := Aside0.mk gb13
     have GG13 := Aside0.mk HG13
     clear gb13 gl13 HG13
     obtain ⟨hx13_0, hf13_0⟩ := Kd.R_celln 0 HO_7.out (x13_1 : Int) p13 q13
     replace p13 := eq_true p13
     replace q13 := eq_true q13
     have HP14 := Kd.R_putg HO_7.out (x13_1 : Int) (Int.tmod x0_1 a1)
     go_wp2_with (first | ((with_reducible refine gate_store (t := 3) (p := 21) rfl ?_); refine store_event (t := 3) (p := 21) (v := ?vo_w15) (w1 := (wr.setCell ⟨go13, (x13_1 : Int).toNat, none⟩ (.int .i64 (Int.tmod x0_1 a1)))) ?hg ?ho ?hn ?hr ?_; (case ho => rfl); (case hg => rfl); (case hn => rfl); (case hr => first | (go_simp; done) | (go_simp; rfl)); intro w15 hw; have hg : wr.grownBy w15 (some go13) := (by rw [hw]; exact HP14.2); have hp_ : Kd.R (Kd.int .i64) 3 w15 w.heap.size (fun _ => True) (.slice (some ⟨go13, 0, none⟩) x7_1.length co8) y108 := (by rw [hw, Ny108.out]; exact HP14.1); clear HP14; replace HO_7 := Aside0.mk hp_; replace HB := Aside0.mk ((by rw [hw]; exact below_set (HB.out) GB13.out : Below w.heap.size w w15)); clear hg hw hp_))
     (try simp only [← hl7_1])
     go_roundg k1
     case measure => have := HK1.out; omega
     case rel => exact ⟨(wrap64 (Int.tdiv x0_1 a1)), (y108), (wrap64 (x13_1 + 1)), rX, rX, H', mK, ⟨by (try simp only [hl7_1]); (with_reducible repeat (first | apply Kd.R_alloc | apply Kd.R_drewN | apply Kd.R_drew)); exact HO_7.out⟩, ⟨bw⟩⟩
   ·rw [if_neg c9] at H
    have c9b0 := decide_eq_false c9
    clear c9
    obtain rfl := Option.some.inj H
    (try rw [hl7_1] at c9b0)
    go_wp2
    go_ret
    exact ⟨_, rW, rR HO_7, bw⟩
def field_valueOf.l0 : Nat → List Int → Int → Int → Int → Option (Int)
 | 0, _, _, _, _ => none
 | k + 1, x0, x1, x5, x6 => if x6 ≥ 0 then (if 0 ≤ x6 then (if x6 < (x0.length : Int) then (field_valueOf.l0 k x0 x1 (wrap64 ((wrap64 (x5 * x1)) + (rd x0 x6))) (wrap64 (x6 - 1))) else (none)) else (none)) else (some x5)
def field_valueOf.f (k : Nat) (l0 : List Int) (a1 : Int) : Option (Int) := field_valueOf.l0 k l0 a1 0 (wrap64 ((l0.length : Int) - 1))
theorem field_valueOf.calls (k : Nat) (A0 : Option Addr) (c0 : Nat) (l0 : List Int) (a1 : Int) (r : Int) (w : World) (hr0 : Kd.C (Kd.int .i64) w A0 l0.length l0) (hc0 : l0.length ≤ c0) (h : field_valueOf.f k l0 a1 = some r) :
  Calls Try.prog 123 #[.slice A0 l0.length c0, .int .i64 a1] w fun e w' => e = .returned (.int .i64 r) ∧ Drawn0 w w' := by
 have HR0 := Aside0.mk hr0
 have HC0 := Aside0.mk hc0
 clear hr0 hc0
 have H := h
 clear h
 unfold field_valueOf.f at H
 have H' := Aside0.mk H
 clear H
 go_enter Try.func123, Try.ntmps123
 go_wp2
 go_loopg [5, 6] k (fun kq v5 v6 w' => ∃ (x5_1 : Int) (x6_1 : Int), v5 = .int .i64 x5_1 ∧ v6 = .int .i64 x6_1 ∧ Aside0 (field_valueOf.l0 kq l0 a1 x5_1 x6_1 = some r) ∧ Aside0 (kq ≤ k) ∧ Drawn0 w w')
 case atStart => exact ⟨(0), (wrap64 ((l0.length : Int) - 1)), rX, rX, H', ⟨Nat.le_refl _⟩, by repeat (first | exact Drawn0.refl _ | apply Drawn0.step)⟩
 case round =>
  clear H'
  obtain ⟨x5_1, x6_1, rfl, rfl, HA, HK1, ⟨m1, rfl⟩⟩ := hrel
  cases gk with
  | zero => exact absurd HA.out (by simp [field_valueOf.l0])
  | succ k1 =>
   have H := HA.out
   clear HA
   simp only [field_valueOf.l0] at H
   by_cases c3 : x6_1 ≥ 0
   ·rw [if_pos c3] at H
    have c3b0 : decide (0 ≤ x6_1) = true := decide_eq_true c3
    clear c3
    obtain ⟨c4, H⟩ := iE H
    have c4b0 := decide_eq_true c4
    clear c4
    obtain ⟨c5, H⟩ := iE H
    have c5b0 := decide_eq_true c5
    clear c5
    have H' := Aside0.mk H
    clear H
    have p109 : 0 ≤ (x6_1 : Int) := dT
    have q109 : x6_1 < (l0.length : Int) := dT
    obtain ⟨ad109, e109, hx109_0⟩ := Kd.at_int HR0.out x6_1 p109 q109
    cases e109
    replace p109 := eq_true p109
    replace q109 := eq_true q109
    go_wp2
    go_roundg k1
    case measure => have := HK1.out; omega
    case rel => exact ⟨(wrap64 ((wrap64 (x5_1 * a1)) + (rd l0 x6_1))), (wrap64 (x6_1 - 1)), rX, rX, H', mK, by repeat (first | exact Drawn0.refl _ | apply Drawn0.step)⟩
   ·rw [if_neg c3] at H
    have c3b0 : decide (0 ≤ x6_1) = false := decide_eq_false c3
    clear c3
    obtain rfl := Option.some.inj H
    go_wp2
    go_ret
    exact ⟨by first | rfl | (simp; done) | (simp [*]; done), by repeat (first | exact Drawn0.refl _ | apply Drawn0.step)⟩
def r4_Digits.f (k : Nat) (a0_0 : Int) (a0_1 : Int) (l0_2 : List Int) (a1 : Int) : Option (List Int) := (r4_In.f k a0_0 a0_1 l0_2 a1).bind fun t180 => ((r4_digits.f k t180 a0_0 a0_1).bind fun t181 => (some t181))
def r4_Digits.T1 : Bool × List (List Nat × List Nat) := (true, [([], []), ([], []), ([0, 1], [0, 1]), ([], []), ([3], [3]), ([], []), ([5], [5]), ([2, 4, 6, 2], [2, 4, 6]), ([7, 7, 0, 1, 2, 3, 4, 5, 6, 7], [7])])
def r4_Digits.B1 : List Nat := [0, 0, 3, 0, 8, 0, 32, 127, 255]
theorem r4_Digits.tab1 : rtab .any (opsOf Try.f84 1) = r4_Digits.T1 := by kernel_rfl
theorem r4_Digits.bits1 : waitsOk r4_Digits.T1.2 r4_Digits.B1 = true := by kernel_rfl
theorem r4_Digits.calls (k : Nat) (a0_0 : Int) (a0_1 : Int) (A0_2 : Option Addr) (c0_2 : Nat) (l0_2 : List Int) (a1 : Int) (r : List Int) (w : World) (hr0_2 : Kd.C (Kd.int .i64) w A0_2 l0_2.length l0_2) (hc0_2 : l0_2.length ≤ c0_2) (h : r4_Digits.f k a0_0 a0_1 l0_2 a1 = some r) :
  Calls Try.prog 84 #[.agg #[.int .i64 a0_0, .int .i64 a0_1, .slice A0_2 l0_2.length c0_2], .int .i64 a1] w fun e w' => ∃ v0_ : Value, e = .returned (v0_) ∧ Kd.R (Kd.int .i64) 3 w' w.heap.size (fun _ => True) v0_ r ∧ Below w.heap.size w w' := by
 have hu36 := Try.underlying36
 have HR0_2 := Aside0.mk hr0_2
 have HC0_2 := Aside0.mk hc0_2
 clear hr0_2 hc0_2
 have HB := Aside0.mk (Below.refl w.heap.size w)
 have H := h
 clear h
 unfold r4_Digits.f at H
 obtain ⟨t180, A3, H⟩ := bE H
 obtain ⟨t181, A4, H⟩ := bE H
 obtain rfl := Option.some.inj H
 go_enter Try.func84, Try.ntmps84
 try go_wp2_with (refine bz 2 #[.int .i64 a0_0, .int .i64 a0_1, .slice A0_2 l0_2.length c0_2] 36 ?_; clear HB; intro gb179 w5 BK179 GW179 GE179 HB)
 replace BK179 := Aside0.mk (blk_drew BK179.out)
 replace HB := Aside0.mk (below_drew1 HB.out)
 refine start_ (n := 9) (S := fun w' => w'.cell? ⟨gb179, 0, none⟩ = some (.int .i64 a0_0) ∧ w'.cell? ⟨gb179, 1, none⟩ = some (.int .i64 a0_1) ∧ w'.cell? ⟨gb179, 2, none⟩ = some (.slice A0_2 l0_2.length c0_2)) (ds := []) (bb 9 0) (by kernel_rfl) rfl rfl ⟨bc0 BK179.out, bc1 BK179.out, bc2 BK179.out⟩ (fun hHeld => ?_); refine with_tabW r4_Digits.tab1 r4_Digits.bits1 (fun HT_ HW_ => ?_)
 generalize w5.drew = w6 at BK179 HB hHeld ⊢
 refine pq HT_ 1 6 (bb 9 2) ?_
 refine pq HT_ 3 8 (bb 9 10) ?_
 refine pq HT_ 5 10 (bb 9 42) ?_
 refine tq HT_ HW_ hHeld 0 5 (bb 9 43) ?_
 refine tq HT_ HW_ hHeld 4 9 (bb 9 59) ?_
 refine tq HT_ HW_ hHeld 6 11 (bb 9 123) ?_
 refine oq HT_ 2 (some 7) (bb 9 127) (fun K hK => ?_)
 refine gq Try.func69 #[.agg #[.int .i64 a0_0, .int .i64 a0_1, .slice A0_2 l0_2.length c0_2], .int .i64 a1] ?_
 with_reducible refine (r4_In.calls k a0_0 a0_1 _ _ l0_2 a1 t180 _ (Kd.C_below HR0_2.out bw) HC0_2.out A3.out).mono ?_
 rintro e w7 ⟨rfl, hb⟩
 refine ⟨_, rfl, ?_⟩
 replace BK179 := Aside0.mk (bkb BK179 hb)
 replace HB := Aside0.mk (below_step bw hb)
 clear hb
 refine hK.out _ _ ⟨bc0 BK179.out, bc1 BK179.out, bc2 BK179.out⟩ (fun hHeld => ?_)
 clear hK K
 refine nq 7 ?_
 refine oq HT_ 7 (some 12) (bb 9 255) (fun K hK => ?_)
 refine gq Try.func95 #[.int .i64 t180, .int .i64 a0_0, .int .i64 a0_1] ?_
 with_reducible refine (r4_digits.calls k t180 a0_0 a0_1 t181 _ A4.out).mono ?_
 rintro e w8 ⟨v182, rfl, ho0, hb⟩
 refine ⟨_, rfl, ?_⟩
 have HO183 := Aside0.mk (Kd.R_lower ho0 (below_size bw))
 replace BK179 := Aside0.mk (bkb BK179 hb)
 replace HB := Aside0.mk (below_step bw hb)
 clear hb ho0
 refine hK.out _ _ ⟨bc0 BK179.out, bc1 BK179.out, bc2 BK179.out⟩ (fun hHeld => ?_)
 clear hK K
 refine nq 12 ?_
 refine pq HT_ 8 4 (bb 9 511) ?_
 refine dq HT_ ?_
 try go_wp2
 go_ret
 exact ⟨_, rW, rR HO183, bw⟩
def r4_Value.l0 : Nat → List Int → Int → Int → Int → Int → List Int → Option (Int)
 | 0, _, _, _, _, _, _ => none
 | k + 1, x1, x5, x6, x185000, x185001, x185002 => if x6 ≥ 0 then (if 0 ≤ x6 then (if x6 < (x1.length : Int) then (r4_Value.l0 k x1 (wrap64 ((wrap64 (x5 * x185000)) + (rd x1 x6))) (wrap64 (x6 - 1)) x185000 x185001 x185002) else (none)) else (none)) else (some x5)
def r4_Value.f (k : Nat) (a0_0 : Int) (a0_1 : Int) (l0_2 : List Int) (l1 : List Int) : Option (Int) := r4_Value.l0 k l1 0 (wrap64 ((l1.length : Int) - 1)) a0_0 a0_1 l0_2
theorem r4_Value.calls (k : Nat) (a0_0 : Int) (a0_1 : Int) (A0_2 : Option Addr) (c0_2 : Nat) (l0_2 : List Int) (A1 : Option Addr) (c1 : Nat) (l1 : List Int) (r : Int) (w : World) (hr0_2 : Kd.C (Kd.int .i64) w A0_2 l0_2.length l0_2) (hc0_2 : l0_2.length ≤ c0_2) (hr1 : Kd.C (Kd.int .i64) w A1 l1.length l1) (hc1 : l1.length ≤ c1) (h : r4_Value.f k a0_0 a0_1 l0_2 l1 = some r) :
  Calls Try.prog 97 #[.agg #[.int .i64 a0_0, .int .i64 a0_1, .slice A0_2 l0_2.length c0_2], .slice A1 l1.length c1] w fun e w' => e = .returned (.int .i64 r) ∧ Below w.heap.size w w' := by
 have hu36 := Try.underlying36
 have HR0_2 := Aside0.mk hr0_2
 have HC0_2 := Aside0.mk hc0_2
 clear hr0_2 hc0_2
 have HR1 := Aside0.mk hr1
 have HC1 := Aside0.mk hc1
 clear hr1 hc1
 have HB := Aside0.mk (Below.refl w.heap.size w)
 have H := h
 clear h
 unfold r4_Value.f at H
 have H' := Aside0.mk H
 clear H
 go_enter Try.func97, Try.ntmps97
 go_wp2_with (refine bz 2 #[.int .i64 a0_0, .int .i64 a0_1, .slice A0_2 l0_2.length c0_2] 36 ?_; clear HB; intro gb184 w3 BK184 GW184 GE184 HB)
 repeat (go_quiet (fail); try go_wp2_with (fail))
 go_loopg [5, 6] k (fun kq v5 v6 w' => ∃ (x5_1 : Int) (x6_1 : Int), v5 = .int .i64 x5_1 ∧ v6 = .int .i64 x6_1 ∧ Aside0 (r4_Value.l0 kq l1 x5_1 x6_1 a0_0 a0_1 l0_2 = some r) ∧ Aside0 (kq ≤ k) ∧ Aside0 (w'.heap[gb184]? = some (.cells #[.int .i64 a0_0, .int .i64 a0_1, (.slice A0_2 l0_2.length c0_2)] 36 (0, 0))) ∧ Aside0 (Below w.heap.size w w'))
 case atStart => exact ⟨(0), (wrap64 ((l1.length : Int) - 1)), rX, rX, H', ⟨Nat.le_refl _⟩, ⟨kk BK184⟩, ⟨bw⟩⟩
 case round =>
  clear H'
  obtain ⟨x5_1, x6_1, rfl, rfl, HA, HK1, BK184, HB⟩ := hrel
  cases gk with
  | zero => exact absurd HA.out (by simp [r4_Value.l0])
  | succ k1 =>
   have H := HA.out
   clear HA
   simp only [r4_Value.l0] at H
   by_cases c4 : x6_1 ≥ 0
   ·rw [if_pos c4] at H
    have c4b0 : decide (0 ≤ x6_1) = true := decide_eq_true c4
    clear c4
    by_cases c5 : 0 ≤ x6_1
    ·rw [if_pos c5] at H
     have c5b0 := decide_eq_true c5
     clear c5
     by_cases c6 : x6_1 < (l1.length : Int)
     ·rw [if_pos c6] at H
      have c6b0 := decide_eq_true c6
      clear c6
      have H' := Aside0.mk H
      clear H
      obtain ⟨hcz7_0, hcz7_1, hcz7_2, hfz7_0, hfz7_1, hfz7_2⟩ := bq3 BK184.out
      have p185 : 0 ≤ (x6_1 : Int) := dT
      have q185 : x6_1 < (l1.length : Int) := dT
      obtain ⟨ad185, e185, hx185_0⟩ := Kd.at_int HR1.out x6_1 p185 q185
      cases e185
      replace hx185_0 := cw HB hx185_0
      replace p185 := eq_true p185
      replace q185 := eq_true q185
      go_wp2
      repeat (go_quiet (fail); try go_wp2)
      go_roundg k1
      case measure => have := HK1.out; omega
      case rel => exact ⟨(wrap64 ((wrap64 (x5_1 * a0_0)) + (rd l1 x6_1))), (wrap64 (x6_1 - 1)), rX, rX, H', mK, ⟨kk BK184⟩, ⟨bw⟩⟩
     ·rw [if_neg c6] at H
      exact absurd H (by simp)
    ·rw [if_neg c5] at H
     exact absurd H (by simp)
   ·rw [if_neg c4] at H
    have c4b0 : decide (0 ≤ x6_1) = false := decide_eq_false c4
    clear c4
    obtain rfl := Option.some.inj H
    go_wp2
    repeat (go_quiet (fail); try go_wp2)
    go_ret
    exact ⟨rW, bw⟩
mutual
def r4_Mul.l0 : Nat → List Int → List Int → List Int → Int → Int → Int → List Int → Option (Int)
 | 0, _, _, _, _, _, _, _ => none
 | k + 1, x7, x8, x9, x10, x187000, x187001, x187002 => if x10 < x187001 then (r4_Mul.l1 k x7 x8 x9 x10 0 x187000 x187001 x187002) else (r4_Mul.l2 k x9 (wrap64 ((wrap64 (2 * x187001)) - 2)) x187000 x187001 x187002)
def r4_Mul.l1 : Nat → List Int → List Int → List Int → Int → Int → Int → Int → List Int → Option (Int)
 | 0, _, _, _, _, _, _, _, _ => none
 | k + 1, x7, x8, x9, x10, x11, x187000, x187001, x187002 => if x11 < x187001 then (if 0 ≤ (wrap64 (x10 + x11)) then (if (wrap64 (x10 + x11)) < (x9.length : Int) then (if 0 ≤ x10 then (if x10 < (x7.length : Int) then (if 0 ≤ x11 then (if x11 < (x8.length : Int) then (if x187000 = 0 then (none) else (r4_Mul.l1 k x7 x8 (x9.set ((wrap64 (x10 + x11)) : Int).toNat (Int.tmod (wrap64 ((rd x9 (wrap64 (x10 + x11))) + (wrap64 ((rd x7 x10) * (rd x8 x11))))) x187000)) x10 (wrap64 (x11 + 1)) x187000 x187001 x187002)) else (none)) else (none)) else (none)) else (none)) else (none)) else (none)) else (r4_Mul.l0 k x7 x8 x9 (wrap64 (x10 + 1)) x187000 x187001 x187002)
def r4_Mul.l2 : Nat → List Int → Int → Int → Int → List Int → Option (Int)
 | 0, _, _, _, _, _ => none
 | k + 1, x9, x12, x187000, x187001, x187002 => if x12 ≥ x187001 then (r4_Mul.l3 k x9 x12 0 x187000 x187001 x187002) else (if 0 ≤ x187001 then (if x187001 ≤ (x9.length : Int) then ((r4_Value.f k x187000 x187001 x187002 (x9.take (x187001 : Int).toNat)).bind fun t204 => (some t204)) else (none)) else (none))
def r4_Mul.l3 : Nat → List Int → Int → Int → Int → Int → List Int → Option (Int)
 | 0, _, _, _, _, _, _ => none
 | k + 1, x9, x12, x13, x187000, x187001, x187002 => if x13 < x187001 then (if 0 ≤ (wrap64 ((wrap64 (x12 - x187001)) + x13)) then (if (wrap64 ((wrap64 (x12 - x187001)) + x13)) < (x9.length : Int) then (if 0 ≤ x12 then (if x12 < (x9.length : Int) then (if 0 ≤ x13 then (if x13 < (x187002.length : Int) then (if x187000 = 0 then (none) else (r4_Mul.l3 k (x9.set ((wrap64 ((wrap64 (x12 - x187001)) + x13)) : Int).toNat (Int.tmod (wrap64 ((rd x9 (wrap64 ((wrap64 (x12 - x187001)) + x13))) + (wrap64 ((wrap64 (x187000 - (rd x9 x12))) * (rd x187002 x13))))) x187000)) x12 (wrap64 (x13 + 1)) x187000 x187001 x187002)) else (none)) else (none)) else (none)) else (none)) else (none)) else (none)) else (r4_Mul.l2 k x9 (wrap64 (x12 - 1)) x187000 x187001 x187002)
end
def r4_Mul.f (k : Nat) (a0_0 : Int) (a0_1 : Int) (l0_2 : List Int) (a1 : Int) (a2 : Int) : Option (Int) := (r4_Digits.f k a0_0 a0_1 l0_2 a1).bind fun t187 => ((r4_Digits.f k a0_0 a0_1 l0_2 a2).bind fun t190 => (if 0 ≤ (wrap64 ((wrap64 (2 * a0_1)) - 1)) then (if (wrap64 ((wrap64 (2 * a0_1)) - 1) : Int).toNat ≤ 35184372088832 then (r4_Mul.l0 k t187 t190 (List.replicate (wrap64 ((wrap64 (2 * a0_1)) - 1) : Int).toNat 0) 0 a0_0 a0_1 l0_2) else (none)) else (none)))
def r4_Mul.T10 : Bool × List (List Nat × List Nat) := (true, [([], []), ([], []), ([], []), ([1, 2], [1, 2]), ([], []), ([], []), ([], []), ([5, 6], [5, 6]), ([4, 7], [4, 7]), ([8], [8]), ([], []), ([], []), ([10, 11], [10, 11]), ([12], [12]), ([], []), ([], []), ([14, 15], [14, 15]), ([16], [16]), ([13, 17], [13, 17]), ([9, 18], [9, 18]), ([], []), ([20], [20]), ([19, 21], [19, 21]), ([0, 3, 0, 1, 2, 3, 4, 5, 6, 7, 8, 9, 10, 11, 12, 13, 14, 15, 16, 17, 18, 19, 20, 21, 22], [0, 3]), ([23, 22, 0, 1, 2, 3, 4, 5, 6, 7, 8, 9, 10, 11, 12, 13, 14, 15, 16, 17, 18, 19, 20, 21, 22], [22, 23])])
def r4_Mul.B10 : List Nat := [0, 0, 0, 6, 0, 0, 0, 96, 240, 496, 0, 0, 3072, 7168, 0, 0, 49152, 114688, 261120, 524272, 0, 1048576, 4194288, 8388607, 16777215]
theorem r4_Mul.tab10 : rtab .any (opsOf Try.f70 10) = r4_Mul.T10 := by kernel_rfl
theorem r4_Mul.bits10 : waitsOk r4_Mul.T10.2 r4_Mul.B10 = true := by kernel_rfl
def r4_Mul.T17 : Bool × List (List Nat × List Nat) := (true, [([], []), ([], []), ([], []), ([2], [2]), ([1, 3], [1, 3]), ([], []), ([4, 5], [4, 5]), ([], []), ([], []), ([], []), ([9], [9]), ([8, 10], [8, 10]), ([], []), ([11, 12], [11, 12]), ([7, 13], [7, 13]), ([14], [14]), ([], []), ([16], [16]), ([], []), ([], []), ([18, 19], [18, 19]), ([20], [20]), ([17, 21], [17, 21]), ([], []), ([23], [23]), ([], []), ([24, 25], [24, 25]), ([26], [26]), ([22, 27], [22, 27]), ([15, 28], [15, 28]), ([], []), ([30], [30]), ([29, 31], [29, 31]), ([0, 6, 0, 1, 2, 3, 4, 5, 6, 7, 8, 9, 10, 11, 12, 13, 14, 15, 16, 17, 18, 19, 20, 21, 22, 23, 24, 25, 26, 27, 28, 29, 30, 31, 32], [0, 6]), ([33, 32, 0, 1, 2, 3, 4, 5, 6, 7, 8, 9, 10, 11, 12, 13, 14, 15, 16, 17, 18, 19, 20, 21, 22, 23, 24, 25, 26, 27, 28, 29, 30, 31, 32], [32, 33])])
def r4_Mul.B17 : List Nat := [0, 0, 0, 4, 14, 0, 62, 0, 0, 0, 512, 1792, 0, 7936, 16256, 32640, 0, 65536, 0, 0, 786432, 1835008, 4128768, 0, 8388608, 0, 58720256, 125829120, 268369920, 536870784, 0, 1073741824, 4294967168, 8589934591, 17179869183]
theorem r4_Mul.tab17 : rtab .any (opsOf Try.f70 17) = r4_Mul.T17 := by kernel_rfl
theorem r4_Mul.bits17 : waitsOk r4_Mul.T17.2 r4_Mul.B17 = true := by kernel_rfl
theorem r4_Mul.calls (k : Nat) (a0_0 : Int) (a0_1 : Int) (A0_2 : Option Addr) (c0_2 : Nat) (l0_2 : List Int) (a1 : Int) (a2 : Int) (r : Int) (w : World) (hr0_2 : Kd.C (Kd.int .i64) w A0_2 l0_2.length l0_2) (hc0_2 : l0_2.length ≤ c0_2) (h : r4_Mul.f k a0_0 a0_1 l0_2 a1 a2 = some r) :
  Calls Try.prog 70 #[.agg #[.int .i64 a0_0, .int .i64 a0_1, .slice A0_2 l0_2.length c0_2], .int .i64 a1, .int .i64 a2] w fun e w' => e = .returned (.int .i64 r) ∧ Below w.heap.size w w' := by
 have hu36 := Try.underlying36
 have HR0_2 := Aside0.mk hr0_2
 have HC0_2 := Aside0.mk hc0_2
 clear hr0_2 hc0_2
 have HB := Aside0.mk (Below.refl w.heap.size w)
 have H := h
 clear h
 unfold r4_Mul.f at H
 obtain ⟨t187, A4, H⟩ := bE H
 obtain ⟨t190, A5, H⟩ := bE H
 obtain ⟨ji6, hji6⟩ : ∃ j_ : Int, (wrap64 ((wrap64 (2 * a0_1)) - 1)) = j_ := ⟨_, rfl⟩
 replace H : (if 0 ≤ (ji6) then (if (ji6 : Int).toNat ≤ 35184372088832 then (r4_Mul.l0 k t187 t190 (List.replicate (ji6 : Int).toNat 0) 0 a0_0 a0_1 l0_2) else (none)) else (none)) = some r := by first | (rw [hji6] at H; exact H) | (simp only [hji6] at H ⊢; exact H)
 (try rw [hji6] at A4)
 (try rw [hji6] at A5)
 have hji6w : (IntKind.i64.wrap ((wrap64 (2 * a0_1)) - 1)) = ji6 := (i64_w _).trans hji6
 obtain ⟨c7, H⟩ := iE H
 have c7b0 := eq_true c7
 have c7b1 := decide_eq_true c7
 clear c7
 obtain ⟨c8, H⟩ := iE H
 have c8b0 := eq_true c8
 have c8b1 := decide_eq_true c8
 clear c8
 obtain ⟨y193, hy193⟩ : ∃ y_ : List Int, y_ = (List.replicate (ji6 : Int).toNat 0) := ⟨_, rfl⟩
 (try rw [Option.bind_some] at H); (try rw [← hy193] at H)
 have Ny193 := Aside0.mk hy193
 clear hy193
 have H' := Aside0.mk H
 clear H
 go_enter Try.func70, Try.ntmps70
 go_wp2_with (first | (refine bz 3 #[.int .i64 a0_0, .int .i64 a0_1, .slice A0_2 l0_2.length c0_2] 36 ?_; clear HB; intro gb186 w9 BK186 GW186 GE186 HB; obtain ⟨hcz10_0, hcz10_1, hcz10_2, hfz10_0, hfz10_1, hfz10_2⟩ := bq3 BK186.out) | (refine gL 16 Try.func84 #[.agg #[.int .i64 a0_0, .int .i64 a0_1, .slice A0_2 l0_2.length c0_2], .int .i64 a1] ?_; (with_reducible refine (r4_Digits.calls k a0_0 a0_1 _ _ l0_2 a1 t187 _ (Kd.C_below HR0_2.out bw) HC0_2.out A4.out).mono ?_); rintro e w11 ⟨v188, rfl, ho0, hb⟩; refine ⟨_, rfl, ?_⟩; have HO189 := Aside0.mk (Kd.R_lower ho0 (below_size bw)); replace BK186 := Aside0.mk (bkb BK186 hb); replace HB := Aside0.mk (below_step bw hb); (try clear hb); (try clear ho0); obtain ⟨hcz12_0, hcz12_1, hcz12_2, hfz12_0, hfz12_1, hfz12_2⟩ := bq3 BK186.out) | (refine gL 19 Try.func84 #[.agg #[.int .i64 a0_0, .int .i64 a0_1, .slice A0_2 l0_2.length c0_2], .int .i64 a2] ?_; (with_reducible refine (r4_Digits.calls k a0_0 a0_1 _ _ l0_2 a2 t190 _ (Kd.C_below HR0_2.out bw) HC0_2.out A5.out).mono ?_); rintro e w13 ⟨v191, rfl, ho0, hb⟩; refine ⟨_, rfl, ?_⟩; have HO192 := Aside0.mk (Kd.R_lower (Kd.R_new' ho0 (Kd.R_lt (rR HO189))) (below_size bw)); replace HO189 := Aside0.mk (Kd.R_elder' (rR HO189) (Kd.R_base ho0) hb); replace BK186 := Aside0.mk (bkb BK186 hb); replace HB := Aside0.mk (below_step bw hb); (try clear hb); (try clear ho0); obtain ⟨hcz14_0, hcz14_1, hcz14_2, hfz14_0, hfz14_1, hfz14_2⟩ := bq3 BK186.out) | ((with_reducible refine gate_dst (N := 24) rfl ?_); refine Kd.R_make (Kd.int .i64) _ 3 rfl (N := 24) rfl 22 _ _ rfl ji6 rfl rfl Try.underlying22 (.int .i64 0) 8 info3 rfl (by decide) (by omega) 0 (ok := fun _ => True) (okp := fun _ => True) rfl (fun _ hk => hk) trivial (dT) (Nat.le_trans (Nat.mul_le_mul_right _ (dT : ji6.toNat ≤ 35184372088832)) (by omega)) (Below.refl _ _) (Nat.le_refl _) ?_; intro v194 w15 ho16 hb hg_ hnew_; clear hg_ hnew_; (first | rw [← Ny193.out] at ho16 | (simp only [Int.reduceToNat] at ho16; rw [← Ny193.out] at ho16)); have HO195 := Aside0.mk (Kd.R_lower (Kd.R_new' (Kd.R_new' ho16 (Kd.R_lt (rR HO189))) (Kd.R_lt (rR HO192))) (below_size bw)); replace HO189 := Aside0.mk (Kd.R_elder' (rR HO189) (Kd.R_base ho16) hb); replace HO192 := Aside0.mk (Kd.R_elder' (rR HO192) (Kd.R_base ho16) hb); replace BK186 := Aside0.mk (bkb BK186 hb); replace HB := Aside0.mk (below_step bw hb); clear hb ho16))
 go_loopg [10] k (fun kq v10 w' => ∃ (x9_1 : List Int) (x10_1 : Int), v10 = .int .i64 x10_1 ∧ Aside0 (r4_Mul.l0 kq t187 t190 x9_1 x10_1 a0_0 a0_1 l0_2 = some r) ∧ Aside0 (kq ≤ k) ∧ Aside0 (Kd.R (Kd.int .i64) 3 w' w.heap.size (fun k_ => some k_ ≠ (v191 : Value).ownBlock ∧ some k_ ≠ (v194 : Value).ownBlock) v188 t187) ∧ Aside0 (Kd.R (Kd.int .i64) 3 w' w.heap.size (fun k_ => some k_ ≠ (v188 : Value).ownBlock ∧ some k_ ≠ (v194 : Value).ownBlock) v191 t190) ∧ Aside0 (Kd.R (Kd.int .i64) 3 w' w.heap.size (fun k_ => some k_ ≠ (v188 : Value).ownBlock ∧ some k_ ≠ (v191 : Value).ownBlock) v194 x9_1) ∧ Aside0 (w'.heap[gb186]? = some (.cells #[.int .i64 a0_0, .int .i64 a0_1, (.slice A0_2 l0_2.length c0_2)] 36 (0, 0))) ∧ Aside0 (Below w.heap.size w w'))
 case atStart => exact ⟨(y193), (0), rX, H', ⟨Nat.le_refl _⟩, ⟨by (with_reducible repeat (first | apply Kd.R_alloc | apply Kd.R_drewN | apply Kd.R_drew)); exact Kd.R_mono HO189.out (fun _ hk => ⟨hk.1.2, hk.2⟩)⟩, ⟨by (with_reducible repeat (first | apply Kd.R_alloc | apply Kd.R_drewN | apply Kd.R_drew)); exact Kd.R_mono HO192.out (fun _ hk => ⟨hk.1.2, hk.2⟩)⟩, ⟨by (with_reducible repeat (first | apply Kd.R_alloc | apply Kd.R_drewN | apply Kd.R_drew)); exact Kd.R_mono HO195.out (fun _ hk => ⟨hk.1.2, hk.2⟩)⟩, ⟨kk BK186⟩, ⟨bw⟩⟩
 case round =>
  clear H' c7b0 c7b1 c8b0 c8b1 hcz10_0 hcz10_1 hcz10_2 hcz12_0 hcz12_1 hcz12_2 hcz14_0 hcz14_1 hcz14_2 hfz10_0 hfz10_1 hfz10_2 hfz12_0 hfz12_1 hfz12_2 hfz14_0 hfz14_1 hfz14_2
  obtain ⟨x9_1, x10_1, rfl, HA, HK1, HO_7, HO_8, HO_9, BK186, HB⟩ := hrel
  cases gk with
  | zero => exact absurd HA.out (by simp [r4_Mul.l0])
  | succ k1 =>
   have H := HA.out
   clear HA
   simp only [r4_Mul.l0] at H
   by_cases c17 : x10_1 < a0_1
   ·rw [if_pos c17] at H
    have c17b0 := decide_eq_true c17
    clear c17
    have H' := Aside0.mk H
    clear H
    obtain ⟨hcz18_0, hcz18_1, hcz18_2, hfz18_0, hfz18_1, hfz18_2⟩ := bq3 BK186.out
    go_wp2
    go_loopg [11] k1 (fun kq v11 w' => ∃ (x9_2 : List Int) (x11_2 : Int), v11 = .int .i64 x11_2 ∧ Aside0 (r4_Mul.l1 kq t187 t190 x9_2 x10_1 x11_2 a0_0 a0_1 l0_2 = some r) ∧ Aside0 (kq ≤ k1) ∧ Aside0 (Kd.R (Kd.int .i64) 3 w' w.heap.size (fun k_ => some k_ ≠ (v191 : Value).ownBlock ∧ some k_ ≠ (v194 : Value).ownBlock) v188 t187) ∧ Aside0 (Kd.R (Kd.int .i64) 3 w' w.heap.size (fun k_ => some k_ ≠ (v188 : Value).ownBlock ∧ some k_ ≠ (v194 : Value).ownBlock) v191 t190) ∧ Aside0 (Kd.R (Kd.int .i64) 3 w' w.heap.size (fun k_ => some k_ ≠ (v188 : Value).ownBlock ∧ some k_ ≠ (v191 : Value).ownBlock) v194 x9_2) ∧ Aside0 (w'.heap[gb186]? = some (.cells #[.int .i64 a0_0, .int .i64 a0_1, (.slice A0_2 l0_2.length c0_2)] 36 (0, 0))) ∧ Aside0 (Below w.heap.size w w'))
    case atStart => exact ⟨(x9_1), (0), rX, H', ⟨Nat.le_refl _⟩, ⟨rR HO_7⟩, ⟨rR HO_8⟩, ⟨rR HO_9⟩, ⟨kk BK186⟩, ⟨bw⟩⟩
    case round =>
     clear H' c17b0 hcz18_0 hcz18_1 hcz18_2 hfz18_0 hfz18_1 hfz18_2
     obtain ⟨x9_2, x11_2, rfl, HA, HK2, HO_7, HO_8, HO_9, BK186, HB⟩ := hrel
     cases gk with
     | zero => exact absurd HA.out (by simp [r4_Mul.l1])
     | succ k2 =>
      have H := HA.out
      clear HA
      simp only [r4_Mul.l1] at H
      by_cases c19 : x11_2 < a0_1
      ·rw [if_pos c19] at H
       have c19b0 := decide_eq_true c19
       clear c19
       obtain ⟨ji20, hji20⟩ : ∃ j_ : Int, (wrap64 (x10_1 + x11_2)) = j_ := ⟨_, rfl⟩
       replace H : (if 0 ≤ (ji20) then (if (ji20) < (x9_2.length : Int) then (if 0 ≤ x10_1 then (if x10_1 < (t187.length : Int) then (if 0 ≤ x11_2 then (if x11_2 < (t190.length : Int) then (if a0_0 = 0 then (none) else (r4_Mul.l1 k2 t187 t190 (x9_2.set ((ji20) : Int).toNat (Int.tmod (wrap64 ((rd x9_2 (ji20)) + (wrap64 ((rd t187 x10_1) * (rd t190 x11_2))))) a0_0)) x10_1 (wrap64 (x11_2 + 1)) a0_0 a0_1 l0_2)) else (none)) else (none)) else (none)) else (none)) else (none)) else (none)) = some r := by first | (rw [hji20] at H; exact H) | (simp only [hji20] at H ⊢; exact H)
       have hji20w : (IntKind.i64.wrap (x10_1 + x11_2)) = ji20 := (i64_w _).trans hji20
       obtain ⟨c21, H⟩ := iE H
       have c21b0 := decide_eq_true c21
       clear c21
       obtain ⟨c22, H⟩ := iE H
       have c22b0 := decide_eq_true c22
       clear c22
       obtain ⟨c23, H⟩ := iE H
       have c23b0 := decide_eq_true c23
       clear c23
       obtain ⟨c24, H⟩ := iE H
       have c24b0 := decide_eq_true c24
       clear c24
       obtain ⟨c25, H⟩ := iE H
       have c25b0 := decide_eq_true c25
       clear c25
       obtain ⟨c26, H⟩ := iE H
       have c26b0 := decide_eq_true c26
       clear c26
       by_cases c27 : a0_0 = 0
       ·rw [if_pos c27] at H
        exact absurd H (by simp)
       ·rw [if_neg c27] at H
        have c27b0 := beq_eq_false_iff_ne.mpr c27
        have c27b1 := bne_iff_ne.mpr c27
        obtain ⟨y199, hy199⟩ : ∃ y_ : List Int, y_ = (x9_2.set ((ji20) : Int).toNat (Int.tmod (wrap64 ((rd x9_2 (ji20)) + (wrap64 ((rd t187 x10_1) * (rd t190 x11_2))))) a0_0)) := ⟨_, rfl⟩
        (try rw [Option.bind_some] at H); (try rw [← hy199] at H)
        have Ny199 := Aside0.mk hy199
        clear hy199
        have H' := Aside0.mk H
        clear H
        obtain ⟨hcz29_0, hcz29_1, hcz29_2, hfz29_0, hfz29_1, hfz29_2⟩ := bq3 BK186.out
        try go_wp2
        replace HO_7 := Aside0.mk (Kd.R_drew HO_7.out)
        replace HO_8 := Aside0.mk (Kd.R_drew HO_8.out)
        replace HO_9 := Aside0.mk (Kd.R_drew HO_9.out)
        replace BK186 := Aside0.mk (blk_drew BK186.out)
        replace HB := Aside0.mk (below_drew1 HB.out)
        obtain ⟨Ao31, co31, eo31⟩ := Kd.R_slice HO_9.out
        (first | subst eo31 | (injection eo31 with f1_ f2_ f3_; have f4_ := f1_.symm; have f5_ := f3_.symm; clear f1_ f2_ f3_; subst f4_; subst f5_))
        have p196 : 0 ≤ ((ji20) : Int) := dT
        have q196 : (ji20) < (x9_2.length : Int) := dT
        obtain ⟨ad196, e196, hx196_0⟩ := Kd.at_int (Kd.R_reads' HO_9.out).2.2 (ji20) p196 q196
        cases e196
        replace p196 := eq_true p196
        replace q196 := eq_true q196
        obtain ⟨Ao32, co32, eo32⟩ := Kd.R_slice HO_7.out
        (first | subst eo32 | (injection eo32 with f1_ f2_ f3_; have f4_ := f1_.symm; have f5_ := f3_.symm; clear f1_ f2_ f3_; subst f4_; subst f5_))
        have p197 : 0 ≤ (x10_1 : Int) := dT
        have q197 : x10_1 < (t187.length : Int) := dT
        obtain ⟨ad197, e197, hx197_0⟩ := Kd.at_int (Kd.R_reads' HO_7.out).2.2 x10_1 p197 q197
        cases e197
        replace p197 := eq_true p197
        replace q197 := eq_true q197
        obtain ⟨Ao33, co33, eo33⟩ := Kd.R_slice HO_8.out
        (first | subst eo33 | (injection eo33 with f1_ f2_ f3_; have f4_ := f1_.symm; have f5_ := f3_.symm; clear f1_ f2_ f3_; subst f4_; subst f5_))
        have p198 : 0 ≤ (x11_2 : Int) := dT
        have q198 : x11_2 < (t190.length : Int) := dT
        obtain ⟨ad198, e198, hx198_0⟩ := Kd.at_int (Kd.R_reads' HO_8.out).2.2 x11_2 p198 q198
        cases e198
        replace p198 := eq_true p198
        replace q198 := eq_true q198
        have p28 : 0 ≤ ((ji20) : Int) := dT
        have q28 : ((ji20) : Int) < ((x9_2.length : Int) : Int) := dT
        obtain ⟨go28, co28, eo28, gb28, gl28, cl28, HG28⟩ := Kd.R_form HO_9.out (by omega)
        (first | cases eo28 | (injection eo28 with ea_ en_ ec_; (first | subst ea_ | (injection ea_ with ea_; subst ea_)); subst ec_; clear en_))
        have GB28 := Aside0.mk gb28
        have GG28 := Aside0.mk HG28
        clear gb28 gl28 HG28
        (first | simp only [add_plain] at hx196_0 | skip)
        obtain ⟨hx28_0, hf28_0⟩ := Kd.R_celln 0 HO_9.out ((ji20) : Int) p28 q28
        replace p28 := eq_true p28
        replace q28 := eq_true q28
        have HP34 := Kd.R_putn HO_9.out ((ji20) : Int) (Int.tmod (wrap64 ((rd x9_2 (ji20)) + (wrap64 ((rd t187 x10_1) * (rd t190 x11_2))))) a0_0)
        rw [← Ny199.out] at HP34
        have HQ34 := Aside0.mk HP34
        clear HP34
        refine start_ (n := 25) (S := fun w' => w'.cell? ⟨gb186, 0, none⟩ = some (.int .i64 a0_0) ∧ w'.cell? ⟨gb186, 1, none⟩ = some (.int .i64 a0_1) ∧ w'.cell? ⟨gb186, 2, none⟩ = some (.slice A0_2 l0_2.length c0_2) ∧ w'.cell? ⟨go28, ((ji20)).toNat, none⟩ = some (.int .i64 (rd x9_2 (ji20))) ∧ w'.cell? (ad197.add (x10_1).toNat) = some (.int .i64 (rd t187 x10_1)) ∧ w'.cell? (ad198.add (x11_2).toNat) = some (.int .i64 (rd t190 x11_2))) (ds := [24]) (bb 25 0) (by kernel_rfl) rfl rfl ⟨bc0 BK186.out, bc1 BK186.out, bc2 BK186.out, hx196_0, hx197_0, hx198_0⟩ (fun hHeld => ?_); refine with_tabW r4_Mul.tab10 r4_Mul.bits10 (fun HT_ HW_ => ?_)
        generalize wr.drew = w30 at HO_7 HO_8 HO_9 BK186 HB GG28 HQ34 hf28_0 hx196_0 hx197_0 hx198_0 hx28_0 hHeld ⊢
        refine pq HT_ 0 37 (bb 25 1) ?_
        refine pq HT_ 1 38 (bb 25 3) ?_
        refine pq HT_ 2 39 (bb 25 7) ?_
        refine pq HT_ 3 40 (bb 25 15) ?_
        refine pq HT_ 4 41 (bb 25 31) ?_
        refine pq HT_ 5 42 (bb 25 63) ?_
        refine pq HT_ 6 43 (bb 25 127) ?_
        refine pq HT_ 7 44 (bb 25 255) ?_
        refine pq HT_ 8 45 (bb 25 511) ?_
        refine pq HT_ 10 47 (bb 25 1535) ?_
        refine pq HT_ 11 48 (bb 25 3583) ?_
        refine pq HT_ 12 49 (bb 25 7679) ?_
        refine pq HT_ 14 51 (bb 25 24063) ?_
        refine pq HT_ 15 52 (bb 25 56831) ?_
        refine pq HT_ 16 53 (bb 25 122367) ?_
        refine pq HT_ 20 57 (bb 25 1170943) ?_
        refine tq HT_ HW_ hHeld 9 46 (bb 25 1171455) ?_
        refine tq HT_ HW_ hHeld 13 50 (bb 25 1179647) ?_
        refine tq HT_ HW_ hHeld 17 54 (bb 25 1310719) ?_
        refine pq HT_ 18 55 (bb 25 1572863) ?_
        refine pq HT_ 19 56 (bb 25 2097151) ?_
        refine tq HT_ HW_ hHeld 21 58 (bb 25 4194303) ?_
        refine pq HT_ 22 59 (bb 25 8388607) ?_
        refine pq HT_ 23 60 (bb 25 16777215) ?_
        refine lq HT_ 24 none (bb 25 33554431) (fun K hK => ?_)
        refine skip_ (w1 := ?_) (by rfl) rfl ?_ ?_
        rotate_left
        ·go_simp
         rfl
        refine hK.out _ _ ?_
        clear hK K
        refine dq HT_ ?_
        try go_wp2
        go_roundg k2
        case measure => have := HK1.out; have := HK2.out; omega
        case rel => exact ⟨(y199), (wrap64 (x11_2 + 1)), rX, H', ⟨by have := HK1.out; have := HK2.out; omega⟩, ⟨by (with_reducible repeat (first | apply Kd.R_alloc | apply Kd.R_drewN | apply Kd.R_drew)); exact Kd.R_mono (Kd.R_far (p := ⟨go28, ((ji20) : Int).toNat, none⟩) (Kd.R_mono HO_7.out (fun k_ hk => (⟨hk, fun e_ => hk.2 (by rw [e_]; rfl)⟩ : _ ∧ k_ ≠ go28))) (fun _ hk => hk.2) (.int .i64 (Int.tmod (wrap64 ((rd x9_2 (ji20)) + (wrap64 ((rd t187 x10_1) * (rd t190 x11_2))))) a0_0))) (fun _ hk => ⟨hk.1.1, hk.1.2⟩)⟩, ⟨by (with_reducible repeat (first | apply Kd.R_alloc | apply Kd.R_drewN | apply Kd.R_drew)); exact Kd.R_mono (Kd.R_far (p := ⟨go28, ((ji20) : Int).toNat, none⟩) (Kd.R_mono HO_8.out (fun k_ hk => (⟨hk, fun e_ => hk.2 (by rw [e_]; rfl)⟩ : _ ∧ k_ ≠ go28))) (fun _ hk => hk.2) (.int .i64 (Int.tmod (wrap64 ((rd x9_2 (ji20)) + (wrap64 ((rd t187 x10_1) * (rd t190 x11_2))))) a0_0))) (fun _ hk => ⟨hk.1.1, hk.1.2⟩)⟩, ⟨rR HQ34⟩, ⟨by (with_reducible repeat (first | refine blk_drewN ?_ _ | refine blk_drew ?_ | refine blk_alloc ?_ _)); refine blk_far ?_ (by have h_ := Kd.R_ne HO_9.out BK186.out (by decide); intro e_; exact h_ (by rw [e_]; rfl)) _; (with_reducible repeat (first | refine blk_drewN ?_ _ | refine blk_drew ?_ | refine blk_alloc ?_ _)); exact BK186.out⟩, ⟨bw⟩⟩
      ·rw [if_neg c19] at H
       have c19b0 := decide_eq_false c19
       clear c19
       have H' := Aside0.mk H
       clear H
       obtain ⟨hcz35_0, hcz35_1, hcz35_2, hfz35_0, hfz35_1, hfz35_2⟩ := bq3 BK186.out
       go_wp2
       go_roundg k2
       case measure => have := HK1.out; have := HK2.out; omega
       case rel => exact ⟨(x9_2), (wrap64 (x10_1 + 1)), rX, H', ⟨by have := HK1.out; have := HK2.out; omega⟩, ⟨rR HO_7⟩, ⟨rR HO_8⟩, ⟨rR HO_9⟩, ⟨kk BK186⟩, ⟨bw⟩⟩
   ·rw [if_neg c17] at H
    have c17b0 := decide_eq_false c17
    clear c17
    have H' := Aside0.mk H
    clear H
    obtain ⟨hcz36_0, hcz36_1, hcz36_2, hfz36_0, hfz36_1, hfz36_2⟩ := bq3 BK186.out
    go_wp2
    go_loopg [12] k1 (fun kq v12 w' => ∃ (x9_2 : List Int) (x12_2 : Int), v12 = .int .i64 x12_2 ∧ Aside0 (r4_Mul.l2 kq x9_2 x12_2 a0_0 a0_1 l0_2 = some r) ∧ Aside0 (kq ≤ k1) ∧ Aside0 (Kd.R (Kd.int .i64) 3 w' w.heap.size (fun _ => True) v194 x9_2) ∧ Aside0 (w'.heap[gb186]? = some (.cells #[.int .i64 a0_0, .int .i64 a0_1, (.slice A0_2 l0_2.length c0_2)] 36 (0, 0))) ∧ Aside0 (Below w.heap.size w w'))
    case atStart => exact ⟨(x9_1), (wrap64 ((wrap64 (2 * a0_1)) - 2)), rX, H', ⟨Nat.le_refl _⟩, ⟨by (with_reducible repeat (first | apply Kd.R_alloc | apply Kd.R_drewN | apply Kd.R_drew)); exact Kd.R_mono HO_9.out (fun _ hk => trivial)⟩, ⟨kk BK186⟩, ⟨bw⟩⟩
    case round =>
     clear H' c17b0 hcz36_0 hcz36_1 hcz36_2 hfz36_0 hfz36_1 hfz36_2
     obtain ⟨x9_2, x12_2, rfl, HA, HK2, HO_9, BK186, HB⟩ := hrel
     cases gk with
     | zero => exact absurd HA.out (by simp [r4_Mul.l2])
     | succ k2 =>
      have H := HA.out
      clear HA
      simp only [r4_Mul.l2] at H
      by_cases c37 : x12_2 ≥ a0_1
      ·rw [if_pos c37] at H
       have c37b0 : decide (a0_1 ≤ x12_2) = true := decide_eq_true c37
       clear c37
       have H' := Aside0.mk H
       clear H
       obtain ⟨hcz38_0, hcz38_1, hcz38_2, hfz38_0, hfz38_1, hfz38_2⟩ := bq3 BK186.out
       go_wp2
       go_loopg [13] k2 (fun kq v13 w' => ∃ (x9_3 : List Int) (x13_3 : Int), v13 = .int .i64 x13_3 ∧ Aside0 (r4_Mul.l3 kq x9_3 x12_2 x13_3 a0_0 a0_1 l0_2 = some r) ∧ Aside0 (kq ≤ k2) ∧ Aside0 (Kd.R (Kd.int .i64) 3 w' w.heap.size (fun _ => True) v194 x9_3) ∧ Aside0 (w'.heap[gb186]? = some (.cells #[.int .i64 a0_0, .int .i64 a0_1, (.slice A0_2 l0_2.length c0_2)] 36 (0, 0))) ∧ Aside0 (Below w.heap.size w w'))
       case atStart => exact ⟨(x9_2), (0), rX, H', ⟨Nat.le_refl _⟩, ⟨rR HO_9⟩, ⟨kk BK186⟩, ⟨bw⟩⟩
       case round =>
        clear H' c37b0 hcz38_0 hcz38_1 hcz38_2 hfz38_0 hfz38_1 hfz38_2
        obtain ⟨x9_3, x13_3, rfl, HA, HK3, HO_9, BK186, HB⟩ := hrel
        cases gk with
        | zero => exact absurd HA.out (by simp [r4_Mul.l3])
        | succ k3 =>
         have H := HA.out
         clear HA
         simp only [r4_Mul.l3] at H
         by_cases c39 : x13_3 < a0_1
         ·rw [if_pos c39] at H
          have c39b0 := decide_eq_true c39
          clear c39
          obtain ⟨ji40, hji40⟩ : ∃ j_ : Int, (wrap64 ((wrap64 (x12_2 - a0_1)) + x13_3)) = j_ := ⟨_, rfl⟩
          replace H : (if 0 ≤ (ji40) then (if (ji40) < (x9_3.length : Int) then (if 0 ≤ x12_2 then (if x12_2 < (x9_3.length : Int) then (if 0 ≤ x13_3 then (if x13_3 < (l0_2.length : Int) then (if a0_0 = 0 then (none) else (r4_Mul.l3 k3 (x9_3.set ((ji40) : Int).toNat (Int.tmod (wrap64 ((rd x9_3 (ji40)) + (wrap64 ((wrap64 (a0_0 - (rd x9_3 x12_2))) * (rd l0_2 x13_3))))) a0_0)) x12_2 (wrap64 (x13_3 + 1)) a0_0 a0_1 l0_2)) else (none)) else (none)) else (none)) else (none)) else (none)) else (none)) = some r := by first | (rw [hji40] at H; exact H) | (simp only [hji40] at H ⊢; exact H)
          have hji40w : (IntKind.i64.wrap ((wrap64 (x12_2 - a0_1)) + x13_3)) = ji40 := (i64_w _).trans hji40
          obtain ⟨c41, H⟩ := iE H
          have c41b0 := decide_eq_true c41
          clear c41
          obtain ⟨c42, H⟩ := iE H
          have c42b0 := decide_eq_true c42
          clear c42
          obtain ⟨c43, H⟩ := iE H
          have c43b0 := decide_eq_true c43
          clear c43
          obtain ⟨c44, H⟩ := iE H
          have c44b0 := decide_eq_true c44
          clear c44
          obtain ⟨c45, H⟩ := iE H
          have c45b0 := decide_eq_true c45
          clear c45
          obtain ⟨c46, H⟩ := iE H
          have c46b0 := decide_eq_true c46
          clear c46
          by_cases c47 : a0_0 = 0
          ·rw [if_pos c47] at H
           exact absurd H (by simp)
          ·rw [if_neg c47] at H
           have c47b0 := beq_eq_false_iff_ne.mpr c47
           have c47b1 := bne_iff_ne.mpr c47
           obtain ⟨y208, hy208⟩ : ∃ y_ : List Int, y_ = (x9_3.set ((ji40) : Int).toNat (Int.tmod (wrap64 ((rd x9_3 (ji40)) + (wrap64 ((wrap64 (a0_0 - (rd x9_3 x12_2))) * (rd l0_2 x13_3))))) a0_0)) := ⟨_, rfl⟩
           (try rw [Option.bind_some] at H); (try rw [← hy208] at H)
           have Ny208 := Aside0.mk hy208
           clear hy208
           have H' := Aside0.mk H
           clear H
           obtain ⟨hcz49_0, hcz49_1, hcz49_2, hfz49_0, hfz49_1, hfz49_2⟩ := bq3 BK186.out
           try go_wp2
           replace HO_9 := Aside0.mk (Kd.R_drew HO_9.out)
           replace BK186 := Aside0.mk (blk_drew BK186.out)
           replace HB := Aside0.mk (below_drew1 HB.out)
           obtain ⟨Ao51, co51, eo51⟩ := Kd.R_slice HO_9.out
           (first | subst eo51 | (injection eo51 with f1_ f2_ f3_; have f4_ := f1_.symm; have f5_ := f3_.symm; clear f1_ f2_ f3_; subst f4_; subst f5_))
           have p205 : 0 ≤ ((ji40) : Int) := dT
           have q205 : (ji40) < (x9_3.length : Int) := dT
           obtain ⟨ad205, e205, hx205_0⟩ := Kd.at_int (Kd.R_reads' HO_9.out).2.2 (ji40) p205 q205
           cases e205
           replace p205 := eq_true p205
           replace q205 := eq_true q205
           have p206 : 0 ≤ (x12_2 : Int) := dT
           have q206 : x12_2 < (x9_3.length : Int) := dT
           obtain ⟨ad206, e206, hx206_0⟩ := Kd.at_int (Kd.R_reads' HO_9.out).2.2 x12_2 p206 q206
           obtain rfl : ad205 = ad206 := (by injection e206)
           replace p206 := eq_true p206
           replace q206 := eq_true q206
           have p207 : 0 ≤ (x13_3 : Int) := dT
           have q207 : x13_3 < (l0_2.length : Int) := dT
           obtain ⟨ad207, e207, hx207_0⟩ := Kd.at_int HR0_2.out x13_3 p207 q207
           have hw207_0 := hx207_0
           cases e207
           replace hx207_0 := cw HB hx207_0
           replace p207 := eq_true p207
           replace q207 := eq_true q207
           have p48 : 0 ≤ ((ji40) : Int) := dT
           have q48 : ((ji40) : Int) < ((x9_3.length : Int) : Int) := dT
           obtain ⟨go48, co48, eo48, gb48, gl48, cl48, HG48⟩ := Kd.R_form HO_9.out (by omega)
           (first | cases eo48 | (injection eo48 with ea_ en_ ec_; (first | subst ea_ | (injection ea_ with ea_; subst ea_)); subst ec_; clear en_))
           have GB48 := Aside0.mk gb48
           have GG48 := Aside0.mk HG48
           clear gb48 gl48 HG48
           (first | simp only [add_plain] at hx205_0 | skip)
           (first | simp only [add_plain] at hx206_0 | skip)
           obtain ⟨hx48_0, hf48_0⟩ := Kd.R_celln 0 HO_9.out ((ji40) : Int) p48 q48
           replace p48 := eq_true p48
           replace q48 := eq_true q48
           have HP52 := Kd.R_putn HO_9.out ((ji40) : Int) (Int.tmod (wrap64 ((rd x9_3 (ji40)) + (wrap64 ((wrap64 (a0_0 - (rd x9_3 x12_2))) * (rd l0_2 x13_3))))) a0_0)
           rw [← Ny208.out] at HP52
           have HQ52 := Aside0.mk HP52
           clear HP52
           refine start_ (n := 35) (S := fun w' => w'.cell? ⟨gb186, 0, none⟩ = some (.int .i64 a0_0) ∧ w'.cell? ⟨gb186, 1, none⟩ = some (.int .i64 a0_1) ∧ w'.cell? ⟨gb186, 2, none⟩ = some (.slice (some ad207) l0_2.length c0_2) ∧ w'.cell? ⟨go48, ((ji40)).toNat, none⟩ = some (.int .i64 (rd x9_3 (ji40))) ∧ w'.cell? ⟨go48, (x12_2).toNat, none⟩ = some (.int .i64 (rd x9_3 x12_2)) ∧ w'.cell? (ad207.add (x13_3).toNat) = some (.int .i64 (rd l0_2 x13_3))) (ds := [34]) (bb 35 0) (by kernel_rfl) rfl rfl ⟨bc0 BK186.out, bc1 BK186.out, bc2 BK186.out, hx205_0, hx206_0, (cw HB hw207_0)⟩ (fun hHeld => ?_); refine with_tabW r4_Mul.tab17 r4_Mul.bits17 (fun HT_ HW_ => ?_)
           generalize wr.drew = w50 at HO_9 BK186 HB GG48 HQ52 hf48_0 hx205_0 hx206_0 hx207_0 hx48_0 hHeld ⊢
           refine pq HT_ 0 77 (bb 35 1) ?_
           refine pq HT_ 1 78 (bb 35 3) ?_
           refine pq HT_ 2 79 (bb 35 7) ?_
           refine pq HT_ 5 82 (bb 35 39) ?_
           refine pq HT_ 7 84 (bb 35 167) ?_
           refine pq HT_ 8 85 (bb 35 423) ?_
           refine pq HT_ 9 86 (bb 35 935) ?_
           refine pq HT_ 12 89 (bb 35 5031) ?_
           refine pq HT_ 16 93 (bb 35 70567) ?_
           refine pq HT_ 18 95 (bb 35 332711) ?_
           refine pq HT_ 19 96 (bb 35 856999) ?_
           refine pq HT_ 20 97 (bb 35 1905575) ?_
           refine pq HT_ 23 100 (bb 35 10294183) ?_
           refine pq HT_ 25 102 (bb 35 43848615) ?_
           refine pq HT_ 30 107 (bb 35 1117590439) ?_
           refine tq HT_ HW_ hHeld 3 80 (bb 35 1117590447) ?_
           refine pq HT_ 4 81 (bb 35 1117590463) ?_
           refine pq HT_ 6 83 (bb 35 1117590527) ?_
           refine tq HT_ HW_ hHeld 10 87 (bb 35 1117591551) ?_
           refine pq HT_ 11 88 (bb 35 1117593599) ?_
           refine pq HT_ 13 90 (bb 35 1117601791) ?_
           refine pq HT_ 14 91 (bb 35 1117618175) ?_
           refine tq HT_ HW_ hHeld 15 92 (bb 35 1117650943) ?_
           refine tq HT_ HW_ hHeld 17 94 (bb 35 1117782015) ?_
           refine tq HT_ HW_ hHeld 21 98 (bb 35 1119879167) ?_
           refine pq HT_ 22 99 (bb 35 1124073471) ?_
           refine tq HT_ HW_ hHeld 24 101 (bb 35 1140850687) ?_
           refine pq HT_ 26 103 (bb 35 1207959551) ?_
           refine tq HT_ HW_ hHeld 27 104 (bb 35 1342177279) ?_
           refine pq HT_ 28 105 (bb 35 1610612735) ?_
           refine pq HT_ 29 106 (bb 35 2147483647) ?_
           refine tq HT_ HW_ hHeld 31 108 (bb 35 4294967295) ?_
           refine pq HT_ 32 109 (bb 35 8589934591) ?_
           refine pq HT_ 33 110 (bb 35 17179869183) ?_
           refine lq HT_ 34 none (bb 35 34359738367) (fun K hK => ?_)
           refine skip_ (w1 := ?_) (by rfl) rfl ?_ ?_
           rotate_left
           ·go_simp
            rfl
           refine hK.out _ _ ?_
           clear hK K
           refine dq HT_ ?_
           try go_wp2
           go_roundg k3
           case measure => have := HK1.out; have := HK2.out; have := HK3.out; omega
           case rel => exact ⟨(y208), (wrap64 (x13_3 + 1)), rX, H', ⟨by have := HK1.out; have := HK2.out; have := HK3.out; omega⟩, ⟨rR HQ52⟩, ⟨by (with_reducible repeat (first | refine blk_drewN ?_ _ | refine blk_drew ?_ | refine blk_alloc ?_ _)); refine blk_far ?_ (by have h_ := Kd.R_ne HO_9.out BK186.out (by decide); intro e_; exact h_ (by rw [e_]; rfl)) _; (with_reducible repeat (first | refine blk_drewN ?_ _ | refine blk_drew ?_ | refine blk_alloc ?_ _)); exact BK186.out⟩, ⟨bw⟩⟩
         ·rw [if_neg c39] at H
          have c39b0 := decide_eq_false c39
          clear c39
          have H' := Aside0.mk H
          clear H
          obtain ⟨hcz53_0, hcz53_1, hcz53_2, hfz53_0, hfz53_1, hfz53_2⟩ := bq3 BK186.out
          go_wp2
          go_roundg k3
          case measure => have := HK1.out; have := HK2.out; have := HK3.out; omega
          case rel => exact ⟨(x9_3), (wrap64 (x12_2 - 1)), rX, H', ⟨by have := HK1.out; have := HK2.out; have := HK3.out; omega⟩, ⟨rR HO_9⟩, ⟨kk BK186⟩, ⟨bw⟩⟩
      ·rw [if_neg c37] at H
       have c37b0 : decide (a0_1 ≤ x12_2) = false := decide_eq_false c37
       clear c37
       obtain ⟨c54, H⟩ := iE H
       have c54b0 := eq_true c54
       have c54b1 := decide_eq_true c54
       clear c54
       obtain ⟨c55, H⟩ := iE H
       have c55b0 := eq_true c55
       have c55b1 := decide_eq_true c55
       clear c55
       obtain ⟨y200, hy200⟩ : ∃ y_ : List Int, y_ = (x9_2.take (a0_1 : Int).toNat) := ⟨_, rfl⟩
       (try rw [Option.bind_some] at H); (try rw [← hy200] at H)
       have Ny200 := Aside0.mk hy200
       clear hy200
       obtain ⟨t204, A56, H⟩ := bE H
       obtain rfl := Option.some.inj H
       obtain ⟨hcz57_0, hcz57_1, hcz57_2, hfz57_0, hfz57_1, hfz57_2⟩ := bq3 BK186.out
       try go_wp2
       replace HO_9 := Aside0.mk (Kd.R_drew HO_9.out)
       replace BK186 := Aside0.mk (blk_drew BK186.out)
       replace HB := Aside0.mk (below_drew1 HB.out)
       obtain ⟨Ao60, co60, eo60⟩ := Kd.R_slice HO_9.out
       (first | subst eo60 | (injection eo60 with f1_ f2_ f3_; have f4_ := f1_.symm; have f5_ := f3_.symm; clear f1_ f2_ f3_; subst f4_; subst f5_))
       have q59 : (a0_1 : Int) ≤ ((x9_2.length : Int) : Int) := dT
       obtain ⟨i059, hi059, _, hsz59, _⟩ := info_parts info3
       have hroom59 : x9_2.length ≤ co60 := (Kd.R_reads' HO_9.out).2.1
       have hC59 : Kd.C (Kd.int .i64) _ Ao60 x9_2.length x9_2 := (Kd.R_reads' HO_9.out).2.2
       have hcut59 := cut_to (P := Try.prog) 22 3 .i64 Try.underlying22 hi059 Ao60 x9_2.length co60 a0_1 (dT) q59 hroom59
       have hr59 := Kd.C_take (m := (a0_1 : Int).toNat) hC59 (by omega)
       have hy59 : y200.length = (a0_1 : Int).toNat := (by rw [Ny200.out, List.length_take]; omega)
       rw [← Ny200.out] at hr59
       rw [← hy59] at hcut59
       have HR203 := Aside0.mk hr59
       have HC203 := Aside0.mk (show y200.length ≤ co60 from by omega)
       clear hr59 hC59 hroom59 hi059 hsz59
       have KY59 := Aside0.mk hy59
       clear hy59
       have KL59 := Aside0.mk (show (a0_1 : Int).toNat ≤ x9_2.length from by omega)
       replace q59 := eq_true q59
       refine start_ (n := 7) (S := fun w' => w'.cell? ⟨gb186, 0, none⟩ = some (.int .i64 a0_0) ∧ w'.cell? ⟨gb186, 1, none⟩ = some (.int .i64 a0_1) ∧ w'.cell? ⟨gb186, 2, none⟩ = some (.slice A0_2 l0_2.length c0_2)) (ds := []) (bb 7 0) (by kernel_rfl) rfl rfl ⟨bc0 BK186.out, bc1 BK186.out, bc2 BK186.out⟩ (fun hHeld => ?_)
       generalize wr.drew = w58 at HO_9 BK186 HB HR203 hHeld ⊢
       refine pure_ (i := 1) (N := some 112) (v := ?_) (a' := ?_) (bb 7 2) rfl rfl (by kernel_rfl) (fun _ _ _ h => h) (Or.inl ⟨by rfl, ?_⟩) ?_ ?_
       rotate_left
       ·intro w'
        go_simp
        with_reducible rfl
       rotate_left
       ·simp only [Act.put, List.setIfInBounds_toArray, List.set_cons_zero, List.set_cons_succ, i64_w, i32_w]
        rfl
       refine pure_ (i := 2) (N := some 113) (v := ?_) (a' := ?_) (bb 7 6) rfl rfl (by kernel_rfl) (fun _ _ _ h => h) (Or.inl ⟨by rfl, ?_⟩) ?_ ?_
       rotate_left
       ·intro w'
        go_simp
        with_reducible rfl
       rotate_left
       ·simp only [Act.put, List.setIfInBounds_toArray, List.set_cons_zero, List.set_cons_succ, i64_w, i32_w]
        rfl
       refine take_ (i := 0) (N := some 111) (v := ?_) (a' := ?_) (bb 7 7) rfl rfl (by kernel_rfl) (fun _ _ _ h => h) (Or.inl ⟨by rfl, ?_⟩) hHeld ?_ ?_
       rotate_left
       ·rintro w' ⟨s0, s1, s2⟩
        go_simp
        with_reducible rfl
       rotate_left
       ·simp only [Act.put, List.setIfInBounds_toArray, List.set_cons_zero, List.set_cons_succ, i64_w, i32_w]
        rfl
       refine take_ (i := 3) (N := some 114) (v := ?_) (a' := ?_) (bb 7 15) rfl rfl (by kernel_rfl) (fun _ _ _ h => h) (Or.inl ⟨by rfl, ?_⟩) hHeld ?_ ?_
       rotate_left
       ·rintro w' ⟨s0, s1, s2⟩
        go_simp
        with_reducible rfl
       rotate_left
       ·simp only [Act.put, List.setIfInBounds_toArray, List.set_cons_zero, List.set_cons_succ, i64_w, i32_w]
        rfl
       refine pure_ (i := 4) (N := some 115) (v := ?_) (a' := ?_) (bb 7 31) rfl rfl (by kernel_rfl) (fun _ _ _ h => h) (Or.inl ⟨by rfl, ?_⟩) ?_ ?_
       rotate_left
       ·intro w'
        go_simp
        with_reducible rfl
       rotate_left
       ·simp only [Act.put, List.setIfInBounds_toArray, List.set_cons_zero, List.set_cons_succ, i64_w, i32_w]
        rfl
       refine one_ (i := 5) (N := some 116) (bb 7 63) rfl rfl (by kernel_rfl) (by decide) (fun K hK => ?_)
       refine gq Try.func97 #[.agg #[.int .i64 a0_0, .int .i64 a0_1, .slice A0_2 l0_2.length c0_2], .slice Ao60 y200.length co60] ?_
       with_reducible refine (r4_Value.calls k2 a0_0 a0_1 _ _ l0_2 _ _ y200 t204 _ (Kd.C_below HR0_2.out bw) HC0_2.out ?side3 HC203.out A56.out).mono ?_
       (case side3 => repeat (first | exact (by repeat (first | (with_reducible exact HR203.out) | (with_reducible refine Kd.C_alloc ?_ _) | (with_reducible refine Kd.C_drewN ?_ _) | (with_reducible refine Kd.C_drew ?_) | exact HR203.out)) | (with_reducible refine Kd.C_alloc ?_ _) | (with_reducible refine Kd.C_drewN ?_ _) | (with_reducible refine Kd.C_drew ?_)))
       rintro e w61 ⟨rfl, hb⟩
       refine ⟨_, rfl, ?_⟩
       replace HO_9 := Aside0.mk (Kd.R_below (rR HO_9) hb)
       replace BK186 := Aside0.mk (bkb BK186 hb)
       replace HR203 := Aside0.mk (Kd.C_below (by repeat (first | (with_reducible exact HR203.out) | (with_reducible refine Kd.C_alloc ?_ _) | (with_reducible refine Kd.C_drewN ?_ _) | (with_reducible refine Kd.C_drew ?_) | exact HR203.out)) hb)
       replace HB := Aside0.mk (below_step bw hb)
       clear hb
       refine hK.out _ _ ⟨bc0 BK186.out, bc1 BK186.out, bc2 BK186.out⟩ (fun hHeld => ?_)
       clear hK K
       refine nq 116 ?_
       refine pure_ (i := 6) (N := some 6) (v := ?_) (a' := ?_) (bb 7 127) rfl rfl (by kernel_rfl) (fun _ _ _ h => h) (Or.inl ⟨by rfl, ?_⟩) ?_ ?_
       rotate_left
       ·intro w'
        go_simp
        with_reducible rfl
       rotate_left
       ·simp only [Act.put, List.setIfInBounds_toArray, List.set_cons_zero, List.set_cons_succ, i64_w, i32_w]
        rfl
       refine done_ (by kernel_rfl) ?_
       try go_wp2
       go_ret
       exact ⟨by first | rfl | (simp [errW_none, errW_some] <;> rfl) | (simp only [← hji6]; first | rfl | (simp [errW_none, errW_some] <;> rfl)) | (simp [*, errW_none, errW_some] <;> rfl), bw⟩
def r4_MulOrder.l0 : Nat → Int → Int → Int → Int → Int → List Int → Option (Int)
 | 0, _, _, _, _, _, _ => none
 | k + 1, x1, x5, x6, x210000, x210001, x210002 => if x6 = 1 then (some x5) else ((r4_Mul.f k x210000 x210001 x210002 x6 x1).bind fun t211 => (r4_MulOrder.l0 k x1 (wrap64 (x5 + 1)) t211 x210000 x210001 x210002))
def r4_MulOrder.f (k : Nat) (a0_0 : Int) (a0_1 : Int) (l0_2 : List Int) (a1 : Int) : Option (Int) := (r4_In.f k a0_0 a0_1 l0_2 a1).bind fun t210 => (if t210 = 0 then (some 0) else (r4_MulOrder.l0 k t210 1 t210 a0_0 a0_1 l0_2))
theorem r4_MulOrder.calls (k : Nat) (a0_0 : Int) (a0_1 : Int) (A0_2 : Option Addr) (c0_2 : Nat) (l0_2 : List Int) (a1 : Int) (r : Int) (w : World) (hr0_2 : Kd.C (Kd.int .i64) w A0_2 l0_2.length l0_2) (hc0_2 : l0_2.length ≤ c0_2) (h : r4_MulOrder.f k a0_0 a0_1 l0_2 a1 = some r) :
  Calls Try.prog 42 #[.agg #[.int .i64 a0_0, .int .i64 a0_1, .slice A0_2 l0_2.length c0_2], .int .i64 a1] w fun e w' => e = .returned (.int .i64 r) ∧ Below w.heap.size w w' := by
 have hu36 := Try.underlying36
 have HR0_2 := Aside0.mk hr0_2
 have HC0_2 := Aside0.mk hc0_2
 clear hr0_2 hc0_2
 have HB := Aside0.mk (Below.refl w.heap.size w)
 have H := h
 clear h
 unfold r4_MulOrder.f at H
 obtain ⟨t210, A3, H⟩ := bE H
 by_cases c4 : t210 = 0
 ·rw [if_pos c4] at H
  have c4b0 := beq_iff_eq.mpr c4
  have c4b1 := bne_eq_false_iff_eq.mpr c4
  clear c4
  obtain rfl := Option.some.inj H
  go_enter Try.func42, Try.ntmps42
  go_wp2_with (first | (refine bz 2 #[.int .i64 a0_0, .int .i64 a0_1, .slice A0_2 l0_2.length c0_2] 36 ?_; clear HB; intro gb209 w5 BK209 GW209 GE209 HB; obtain ⟨hcz6_0, hcz6_1, hcz6_2, hfz6_0, hfz6_1, hfz6_2⟩ := bq3 BK209.out) | (refine gL 9 Try.func69 #[.agg #[.int .i64 a0_0, .int .i64 a0_1, .slice A0_2 l0_2.length c0_2], .int .i64 a1] ?_; (with_reducible refine (r4_In.calls k a0_0 a0_1 _ _ l0_2 a1 t210 _ (Kd.C_below HR0_2.out bw) HC0_2.out A3.out).mono ?_); rintro e w7 ⟨rfl, hb⟩; refine ⟨_, rfl, ?_⟩; replace BK209 := Aside0.mk (bkb BK209 hb); replace HB := Aside0.mk (below_step bw hb); (try clear hb)))
  go_ret
  exact ⟨rW, bw⟩
 ·rw [if_neg c4] at H
  have c4b0 := beq_eq_false_iff_ne.mpr c4
  have c4b1 := bne_iff_ne.mpr c4
  have H' := Aside0.mk H
  clear H
  go_enter Try.func42, Try.ntmps42
  go_wp2_with (first | (refine bz 2 #[.int .i64 a0_0, .int .i64 a0_1, .slice A0_2 l0_2.length c0_2] 36 ?_; clear HB; intro gb209 w8 BK209 GW209 GE209 HB; obtain ⟨hcz9_0, hcz9_1, hcz9_2, hfz9_0, hfz9_1, hfz9_2⟩ := bq3 BK209.out) | (refine gL 9 Try.func69 #[.agg #[.int .i64 a0_0, .int .i64 a0_1, .slice A0_2 l0_2.length c0_2], .int .i64 a1] ?_; (with_reducible refine (r4_In.calls k a0_0 a0_1 _ _ l0_2 a1 t210 _ (Kd.C_below HR0_2.out bw) HC0_2.out A3.out).mono ?_); rintro e w10 ⟨rfl, hb⟩; refine ⟨_, rfl, ?_⟩; replace BK209 := Aside0.mk (bkb BK209 hb); replace HB := Aside0.mk (below_step bw hb); (try clear hb)))
  go_loopg [5, 6] k (fun kq v5 v6 w' => ∃ (x5_1 : Int) (x6_1 : Int), v5 = .int .i64 x5_1 ∧ v6 = .int .i64 x6_1 ∧ Aside0 (r4_MulOrder.l0 kq t210 x5_1 x6_1 a0_0 a0_1 l0_2 = some r) ∧ Aside0 (kq ≤ k) ∧ Aside0 (w'.heap[gb209]? = some (.cells #[.int .i64 a0_0, .int .i64 a0_1, (.slice A0_2 l0_2.length c0_2)] 36 (0, 0))) ∧ Aside0 (Below w.heap.size w w'))
  case atStart => exact ⟨(1), (t210), rX, rX, H', ⟨Nat.le_refl _⟩, ⟨kk BK209⟩, ⟨bw⟩⟩
  case round =>
   clear H' c4 c4b0 c4b1 hcz9_0 hcz9_1 hcz9_2 hfz9_0 hfz9_1 hfz9_2
   obtain ⟨x5_1, x6_1, rfl, rfl, HA, HK1, BK209, HB⟩ := hrel
   cases gk with
   | zero => exact absurd HA.out (by simp [r4_MulOrder.l0])
   | succ k1 =>
    have H := HA.out
    clear HA
    simp only [r4_MulOrder.l0] at H
    by_cases c11 : x6_1 = 1
    ·rw [if_pos c11] at H
     have c11b0 := beq_iff_eq.mpr c11
     have c11b1 := bne_eq_false_iff_eq.mpr c11
     clear c11
     obtain rfl := Option.some.inj H
     go_wp2
     go_ret
     exact ⟨rW, bw⟩
    ·rw [if_neg c11] at H
     have c11b0 := beq_eq_false_iff_ne.mpr c11
     have c11b1 := bne_iff_ne.mpr c11
     obtain ⟨t211, A12, H⟩ := bE H
     have H' := Aside0.mk H
     clear H
     obtain ⟨hcz13_0, hcz13_1, hcz13_2, hfz13_0, hfz13_1, hfz13_2⟩ := bq3 BK209.out
     go_wp2_with (refine gL 18 Try.func70 #[.agg #[.int .i64 a0_0, .int .i64 a0_1, .slice A0_2 l0_2.length c0_2], .int .i64 x6_1, .int .i64 t210] ?_; (with_reducible refine (r4_Mul.calls k1 a0_0 a0_1 _ _ l0_2 x6_1 t210 t211 _ (Kd.C_below HR0_2.out bw) HC0_2.out A12.out).mono ?_); rintro e w14 ⟨rfl, hb⟩; refine ⟨_, rfl, ?_⟩; replace BK209 := Aside0.mk (bkb BK209 hb); replace HB := Aside0.mk (below_step bw hb); (try clear hb))
     go_roundg k1
     case measure => have := HK1.out; omega
     case rel => exact ⟨(wrap64 (x5_1 + 1)), (t211), rX, rX, H', mK, ⟨kk BK209⟩, ⟨bw⟩⟩
def r17_Root.l0 : Nat → Int → Int → Int → Int → List Int → Option (Int)
 | 0, _, _, _, _, _ => none
 | k + 1, x1, x5, x213000, x213001, x213002 => (r4_Order.f k x213000 x213001 x213002).bind fun t213 => (if x5 < t213 then ((r4_MulOrder.f k x213000 x213001 x213002 x5).bind fun t214 => (if t214 = x1 then (some x5) else (r17_Root.l0 k x1 (wrap64 (x5 + 1)) x213000 x213001 x213002))) else (some 0))
def r17_Root.f (k : Nat) (a0_0 : Int) (a0_1 : Int) (l0_2 : List Int) (a1 : Int) : Option (Int) := r17_Root.l0 k a1 1 a0_0 a0_1 l0_2
theorem r17_Root.calls (k : Nat) (a0_0 : Int) (a0_1 : Int) (A0_2 : Option Addr) (c0_2 : Nat) (l0_2 : List Int) (a1 : Int) (r : Int) (w : World) (hr0_2 : Kd.C (Kd.int .i64) w A0_2 l0_2.length l0_2) (hc0_2 : l0_2.length ≤ c0_2) (h : r17_Root.f k a0_0 a0_1 l0_2 a1 = some r) :
  Calls Try.prog 18 #[.agg #[.int .i64 a0_0, .int .i64 a0_1, .slice A0_2 l0_2.length c0_2], .int .i64 a1] w fun e w' => e = .returned (.int .i64 r) ∧ Below w.heap.size w w' := by
 have hu36 := Try.underlying36
 have HR0_2 := Aside0.mk hr0_2
 have HC0_2 := Aside0.mk hc0_2
 clear hr0_2 hc0_2
 have HB := Aside0.mk (Below.refl w.heap.size w)
 have H := h
 clear h
 unfold r17_Root.f at H
 have H' := Aside0.mk H
 clear H
 go_enter Try.func18, Try.ntmps18
 go_wp2_with (refine bz 2 #[.int .i64 a0_0, .int .i64 a0_1, .slice A0_2 l0_2.length c0_2] 36 ?_; clear HB; intro gb212 w3 BK212 GW212 GE212 HB)
 go_loopg [5] k (fun kq v5 w' => ∃ (x5_1 : Int), v5 = .int .i64 x5_1 ∧ Aside0 (r17_Root.l0 kq a1 x5_1 a0_0 a0_1 l0_2 = some r) ∧ Aside0 (kq ≤ k) ∧ Aside0 (w'.heap[gb212]? = some (.cells #[.int .i64 a0_0, .int .i64 a0_1, (.slice A0_2 l0_2.length c0_2)] 36 (0, 0))) ∧ Aside0 (Below w.heap.size w w'))
 case atStart => exact ⟨(1), rX, H', ⟨Nat.le_refl _⟩, ⟨kk BK212⟩, ⟨bw⟩⟩
 case round =>
  clear H'
  obtain ⟨x5_1, rfl, HA, HK1, BK212, HB⟩ := hrel
  cases gk with
  | zero => exact absurd HA.out (by simp [r17_Root.l0])
  | succ k1 =>
   have H := HA.out
   clear HA
   simp only [r17_Root.l0] at H
   obtain ⟨t213, A4, H⟩ := bE H
   by_cases c5 : x5_1 < t213
   ·rw [if_pos c5] at H
    have c5b0 := decide_eq_true c5
    clear c5
    obtain ⟨t214, A6, H⟩ := bE H
    by_cases c7 : t214 = a1
    ·rw [if_pos c7] at H
     have c7b0 := beq_iff_eq.mpr c7
     have c7b1 := bne_eq_false_iff_eq.mpr c7
     clear c7
     obtain rfl := Option.some.inj H
     obtain ⟨hcz8_0, hcz8_1, hcz8_2, hfz8_0, hfz8_1, hfz8_2⟩ := bq3 BK212.out
     go_wp2_with (first | (refine gL 8 Try.func41 #[.agg #[.int .i64 a0_0, .int .i64 a0_1, .slice A0_2 l0_2.length c0_2]] ?_; (with_reducible refine (r4_Order.calls k1 a0_0 a0_1 _ _ l0_2 t213 _ (Kd.C_below HR0_2.out bw) HC0_2.out A4.out).mono ?_); rintro e w9 ⟨rfl, hb⟩; refine ⟨_, rfl, ?_⟩; replace BK212 := Aside0.mk (bkb BK212 hb); replace HB := Aside0.mk (below_step bw hb); (try clear hb); obtain ⟨hcz10_0, hcz10_1, hcz10_2, hfz10_0, hfz10_1, hfz10_2⟩ := bq3 BK212.out) | (refine gL 14 Try.func42 #[.agg #[.int .i64 a0_0, .int .i64 a0_1, .slice A0_2 l0_2.length c0_2], .int .i64 x5_1] ?_; (with_reducible refine (r4_MulOrder.calls k1 a0_0 a0_1 _ _ l0_2 x5_1 t214 _ (Kd.C_below HR0_2.out bw) HC0_2.out A6.out).mono ?_); rintro e w11 ⟨rfl, hb⟩; refine ⟨_, rfl, ?_⟩; replace BK212 := Aside0.mk (bkb BK212 hb); replace HB := Aside0.mk (below_step bw hb); (try clear hb)))
     go_ret
     exact ⟨rW, bw⟩
    ·rw [if_neg c7] at H
     have c7b0 := beq_eq_false_iff_ne.mpr c7
     have c7b1 := bne_iff_ne.mpr c7
     have H' := Aside0.mk H
     clear H
     obtain ⟨hcz12_0, hcz12_1, hcz12_2, hfz12_0, hfz12_1, hfz12_2⟩ := bq3 BK212.out
     go_wp2_with (first | (refine gL 8 Try.func41 #[.agg #[.int .i64 a0_0, .int .i64 a0_1, .slice A0_2 l0_2.length c0_2]] ?_; (with_reducible refine (r4_Order.calls k1 a0_0 a0_1 _ _ l0_2 t213 _ (Kd.C_below HR0_2.out bw) HC0_2.out A4.out).mono ?_); rintro e w13 ⟨rfl, hb⟩; refine ⟨_, rfl, ?_⟩; replace BK212 := Aside0.mk (bkb BK212 hb); replace HB := Aside0.mk (below_step bw hb); (try clear hb); obtain ⟨hcz14_0, hcz14_1, hcz14_2, hfz14_0, hfz14_1, hfz14_2⟩ := bq3 BK212.out) | (refine gL 14 Try.func42 #[.agg #[.int .i64 a0_0, .int .i64 a0_1, .slice A0_2 l0_2.length c0_2], .int .i64 x5_1] ?_; (with_reducible refine (r4_MulOrder.calls k1 a0_0 a0_1 _ _ l0_2 x5_1 t214 _ (Kd.C_below HR0_2.out bw) HC0_2.out A6.out).mono ?_); rintro e w15 ⟨rfl, hb⟩; refine ⟨_, rfl, ?_⟩; replace BK212 := Aside0.mk (bkb BK212 hb); replace HB := Aside0.mk (below_step bw hb); (try clear hb)))
     go_roundg k1
     case measure => have := HK1.out; omega
     case rel => exact ⟨(wrap64 (x5_1 + 1)), rX, H', mK, ⟨kk BK212⟩, ⟨bw⟩⟩
   ·rw [if_neg c5] at H
    have c5b0 := decide_eq_false c5
    clear c5
    obtain rfl := Option.some.inj H
    obtain ⟨hcz16_0, hcz16_1, hcz16_2, hfz16_0, hfz16_1, hfz16_2⟩ := bq3 BK212.out
    go_wp2_with (refine gL 8 Try.func41 #[.agg #[.int .i64 a0_0, .int .i64 a0_1, .slice A0_2 l0_2.length c0_2]] ?_; (with_reducible refine (r4_Order.calls k1 a0_0 a0_1 _ _ l0_2 t213 _ (Kd.C_below HR0_2.out bw) HC0_2.out A4.out).mono ?_); rintro e w17 ⟨rfl, hb⟩; refine ⟨_, rfl, ?_⟩; replace BK212 := Aside0.mk (bkb BK212 hb); replace HB := Aside0.mk (below_step bw hb); (try clear hb))
    go_ret
    exact ⟨rW, bw⟩
def r4_prime.l0 : Nat → Int → Int → Option (Bool)
 | 0, _, _ => none
 | k + 1, x0, x3 => if x3 < x0 then (if x3 = 0 then (none) else (if (Int.tmod x0 x3) = 0 then (some false) else (r4_prime.l0 k x0 (wrap64 (x3 + 1))))) else (some true)
def r4_prime.f (k : Nat) (a0 : Int) : Option (Bool) := r4_prime.l0 k a0 2
theorem r4_prime.calls (k : Nat) (a0 : Int) (r : Bool) (w : World) (h : r4_prime.f k a0 = some r) :
  Calls Try.prog 67 #[.int .i64 a0] w fun e w' => e = .returned (.bool r) ∧ Drawn0 w w' := by
 have H := h
 clear h
 unfold r4_prime.f at H
 have H' := Aside0.mk H
 clear H
 go_enter Try.func67, Try.ntmps67
 go_wp2
 go_loopg [3] k (fun kq v3 w' => ∃ (x3_1 : Int), v3 = .int .i64 x3_1 ∧ Aside0 (r4_prime.l0 kq a0 x3_1 = some r) ∧ Aside0 (kq ≤ k) ∧ Drawn0 w w')
 case atStart => exact ⟨(2), rX, H', ⟨Nat.le_refl _⟩, by repeat (first | exact Drawn0.refl _ | apply Drawn0.step)⟩
 case round =>
  clear H'
  obtain ⟨x3_1, rfl, HA, HK1, ⟨m1, rfl⟩⟩ := hrel
  cases gk with
  | zero => exact absurd HA.out (by simp [r4_prime.l0])
  | succ k1 =>
   have H := HA.out
   clear HA
   simp only [r4_prime.l0] at H
   by_cases c2 : x3_1 < a0
   ·rw [if_pos c2] at H
    have c2b0 := decide_eq_true c2
    clear c2
    by_cases c3 : x3_1 = 0
    ·rw [if_pos c3] at H
     exact absurd H (by simp)
    ·rw [if_neg c3] at H
     have c3b0 := beq_eq_false_iff_ne.mpr c3
     have c3b1 := bne_iff_ne.mpr c3
     by_cases c4 : (Int.tmod a0 x3_1) = 0
     ·rw [if_pos c4] at H
      have c4b0 := beq_iff_eq.mpr c4
      have c4b1 := bne_eq_false_iff_eq.mpr c4
      clear c4
      obtain rfl := Option.some.inj H
      go_wp2
      go_ret
      exact ⟨by first | rfl | (simp; done) | (simp [*]; done), by repeat (first | exact Drawn0.refl _ | apply Drawn0.step)⟩
     ·rw [if_neg c4] at H
      have c4b0 := beq_eq_false_iff_ne.mpr c4
      have c4b1 := bne_iff_ne.mpr c4
      have H' := Aside0.mk H
      clear H
      go_wp2
      go_roundg k1
      case measure => have := HK1.out; omega
      case rel => exact ⟨(wrap64 (x3_1 + 1)), rX, H', mK, by repeat (first | exact Drawn0.refl _ | apply Drawn0.step)⟩
   ·rw [if_neg c2] at H
    have c2b0 := decide_eq_false c2
    clear c2
    obtain rfl := Option.some.inj H
    go_wp2
    go_ret
    exact ⟨by first | rfl | (simp; done) | (simp [*]; done), by repeat (first | exact Drawn0.refl _ | apply Drawn0.step)⟩
mutual
def r4_divides.l0 : Nat → List Int → Int → Int → List Int → Int → Option (Bool)
 | 0, _, _, _, _, _ => none
 | k + 1, x0, x2, x7, x8, x9 => if x9 ≥ x7 then (if 0 ≤ x9 then (if x9 < (x8.length : Int) then (r4_divides.l1 k x0 x2 x7 x8 x9 (rd x8 x9) 0) else (none)) else (none)) else (r4_divides.l2 k x8 0)
def r4_divides.l1 : Nat → List Int → Int → Int → List Int → Int → Int → Int → Option (Bool)
 | 0, _, _, _, _, _, _, _ => none
 | k + 1, x0, x2, x7, x8, x9, x10, x11 => if x11 < x7 then (if 0 ≤ (wrap64 ((wrap64 (x9 - x7)) + x11)) then (if (wrap64 ((wrap64 (x9 - x7)) + x11)) < (x8.length : Int) then (if 0 ≤ x11 then (if x11 < (x0.length : Int) then (if x2 = 0 then (none) else (r4_divides.l1 k x0 x2 x7 (x8.set ((wrap64 ((wrap64 (x9 - x7)) + x11)) : Int).toNat (Int.tmod (wrap64 ((rd x8 (wrap64 ((wrap64 (x9 - x7)) + x11))) + (wrap64 ((wrap64 (x2 - x10)) * (rd x0 x11))))) x2)) x9 x10 (wrap64 (x11 + 1)))) else (none)) else (none)) else (none)) else (none)) else (if 0 ≤ x9 then (if x9 < (x8.length : Int) then (r4_divides.l0 k x0 x2 x7 (x8.set (x9 : Int).toNat 0) (wrap64 (x9 - 1))) else (none)) else (none))
def r4_divides.l2 : Nat → List Int → Int → Option (Bool)
 | 0, _, _ => none
 | k + 1, x8, x12 => if x12 < (x8.length : Int) then (if 0 ≤ x12 then (if (rd x8 x12) = 0 then (r4_divides.l2 k x8 (wrap64 (x12 + 1))) else (some false)) else (none)) else (some true)
end
def r4_divides.f (k : Nat) (l0 : List Int) (l1 : List Int) (a2 : Int) : Option (Bool) := (some (([] : List Int) : List Int)).bind fun y215 => (if y215.length + l1.length < 17592186044416 then ((some (y215 ++ l1 : List Int)).bind fun y218 => (if y218.length < 17592186044416 then ((some (y218 ++ [1] : List Int)).bind fun y221 => (r4_divides.l0 k l0 a2 (l0.length : Int) y221 (wrap64 ((y221.length : Int) - 1)))) else (none))) else (none))
def r4_divides.T11 : Bool × List (List Nat × List Nat) := (true, [([], []), ([], []), ([], []), ([1, 2], [1, 2]), ([], []), ([3, 4], [3, 4]), ([], []), ([], []), ([], []), ([7, 8], [7, 8]), ([], []), ([9, 10], [9, 10]), ([6, 11], [6, 11]), ([12], [12]), ([], []), ([], []), ([14, 15], [14, 15]), ([], []), ([], []), ([17, 18], [17, 18]), ([19], [19]), ([16, 20], [16, 20]), ([13, 21], [13, 21]), ([], []), ([22, 23], [22, 23]), ([0, 5, 0, 1, 2, 3, 4, 5, 6, 7, 8, 9, 10, 11, 12, 13, 14, 15, 16, 17, 18, 19, 20, 21, 22, 23, 24], [0, 5]), ([25, 24, 0, 1, 2, 3, 4, 5, 6, 7, 8, 9, 10, 11, 12, 13, 14, 15, 16, 17, 18, 19, 20, 21, 22, 23, 24], [24, 25])])
def r4_divides.B11 : List Nat := [0, 0, 0, 6, 0, 30, 0, 0, 0, 384, 0, 1920, 4032, 8128, 0, 0, 49152, 0, 0, 393216, 917504, 2080768, 4194240, 0, 16777152, 33554431, 67108863]
theorem r4_divides.tab11 : rtab .any (opsOf Try.f94 11) = r4_divides.T11 := by kernel_rfl
theorem r4_divides.bits11 : waitsOk r4_divides.T11.2 r4_divides.B11 = true := by kernel_rfl
theorem r4_divides.calls (k : Nat) (A0 : Option Addr) (c0 : Nat) (l0 : List Int) (A1 : Option Addr) (c1 : Nat) (l1 : List Int) (a2 : Int) (r : Bool) (w : World) (hr0 : Kd.C (Kd.int .i64) w A0 l0.length l0) (hc0 : l0.length ≤ c0) (hr1 : Kd.C (Kd.int .i64) w A1 l1.length l1) (hc1 : l1.length ≤ c1) (h : r4_divides.f k l0 l1 a2 = some r) :
  Calls Try.prog 94 #[.slice A0 l0.length c0, .slice A1 l1.length c1, .int .i64 a2] w fun e w' => e = .returned (.bool r) ∧ Below w.heap.size w w' := by
 have HR0 := Aside0.mk hr0
 have HC0 := Aside0.mk hc0
 clear hr0 hc0
 have HR1 := Aside0.mk hr1
 have HC1 := Aside0.mk hc1
 clear hr1 hc1
 have HB := Aside0.mk (Below.refl w.heap.size w)
 have H := h
 clear h
 unfold r4_divides.f at H
 obtain ⟨y215, hy215⟩ : ∃ y_ : List Int, y_ = (([] : List Int)) := ⟨_, rfl⟩
 replace H : (if y215.length + l1.length < 17592186044416 then ((some (y215 ++ l1 : List Int)).bind fun y218 => (if y218.length < 17592186044416 then ((some (y218 ++ [1] : List Int)).bind fun y221 => (r4_divides.l0 k l0 a2 (l0.length : Int) y221 (wrap64 ((y221.length : Int) - 1)))) else (none))) else (none)) = some r := by first | (rw [hy215]; with_reducible exact H) | (have H2_ := (Option.bind_some _ _).symm.trans H; rw [hy215]; with_reducible exact H2_) | (have H2_ := (Option.bind_some _ _).symm.trans H; with_reducible exact H2_) | with_reducible exact H | (rw [hy215]; exact H) | exact H
 have Ny215 := Aside0.mk hy215
 clear hy215
 obtain ⟨c4, H⟩ := iE H
 have LMc4 := Aside0.mk c4
 clear c4
 obtain ⟨y218, hy218⟩ : ∃ y_ : List Int, y_ = (y215 ++ l1) := ⟨_, rfl⟩
 replace H : (if y218.length < 17592186044416 then ((some (y218 ++ [1] : List Int)).bind fun y221 => (r4_divides.l0 k l0 a2 (l0.length : Int) y221 (wrap64 ((y221.length : Int) - 1)))) else (none)) = some r := by first | (rw [hy218]; with_reducible exact H) | (have H2_ := (Option.bind_some _ _).symm.trans H; rw [hy218]; with_reducible exact H2_) | (have H2_ := (Option.bind_some _ _).symm.trans H; with_reducible exact H2_) | with_reducible exact H | (rw [hy218]; exact H) | exact H
 have Ny218 := Aside0.mk hy218
 clear hy218
 obtain ⟨c5, H⟩ := iE H
 have LMc5 := Aside0.mk c5
 clear c5
 obtain ⟨y221, hy221⟩ : ∃ y_ : List Int, y_ = (y218 ++ [1]) := ⟨_, rfl⟩
 replace H : (r4_divides.l0 k l0 a2 (l0.length : Int) y221 (wrap64 ((y221.length : Int) - 1))) = some r := by first | (rw [hy221]; with_reducible exact H) | (have H2_ := (Option.bind_some _ _).symm.trans H; rw [hy221]; with_reducible exact H2_) | (have H2_ := (Option.bind_some _ _).symm.trans H; with_reducible exact H2_) | with_reducible exact H | (rw [hy221]; exact H) | exact H
 have Ny221 := Aside0.mk hy221
 clear hy221
 have H' := Aside0.mk H
 clear H
 go_enter Try.func94, Try.ntmps94
 go_wp2_with (first | ((with_reducible refine gate_dst (N := 15) rfl ?_); refine Kd.R_lit (Kd.int .i64) _ 3 ?hg (N := 15) ?hd (xs := ([] : List Int)) (inner := []) (ok := fun _ => True) (okp := fun _ => True) ?hr ?hp (fun _ hk => hk) trivial (Below.refl _ _) (Nat.le_refl _) (by simp) ?_; (case hd => rfl); (case hg => rfl); (case hr => first | (go_simp; done) | (go_simp; rfl)); (case hp => exact (Reps.none _ _)); intro v216 w6 ho7 hb hg_ hnew_; clear hg_ hnew_; (first | rw [← Ny215.out] at ho7 | (simp only [Int.reduceToNat] at ho7; rw [← Ny215.out] at ho7)); have HO217 := Aside0.mk (Kd.R_lower ho7 (below_size bw)); replace HB := Aside0.mk (below_step bw hb); clear hb ho7) | ((with_reducible refine gate_builtin (b := .append) (xs := #[.tmp 15, .tmp 16]) rfl ?_); at_builtin; refine Kd.R_append_rows (Kd.int .i64) (w0 := w) w.heap.size rfl (.tmp 15) (.tmp 16) 22 3 (.int .i64 0) 8 rfl Try.underlying22 info3 rfl (by decide) (by omega) v216 y215 l1 _ _ _ (fun _ => True) (fun _ => False) rfl rfl ?aO ?aR (fun _ _ h => h) (fun _ h => h.elim) ?aF ?aB ?aS ?aL ?_; (case aR => repeat (first | exact (Kd.C_below HR1.out HB.out) | (with_reducible refine Kd.C_alloc ?_ _) | (with_reducible refine Kd.C_drewN ?_ _) | (with_reducible refine Kd.C_drew ?_))); (case aB => exact bw); (case aF => exact (fun _ _ => trivial)); (case aO => exact (rR HO217)); (case aS => exact (below_size bw)); (case aL => have := LMc4.out; omega); intro v219 w8 ho hb hg hat; rw [← Ny218.out] at ho; replace HB := Aside0.mk hb; have HO220 := Aside0.mk (ho); clear HO217; clear ho hb hg hat) | ((with_reducible refine gate_builtin (b := .append) (xs := #[.tmp 18, .tmp 19]) rfl ?_); at_builtin; refine Kd.R_append (Kd.int .i64) (w0 := w) w.heap.size rfl (.tmp 18) (.tmp 19) 22 3 (.int .i64 0) 8 rfl Try.underlying22 info3 rfl (by decide) (by omega) v219 y218 1 [.int .i64 1] (fun _ => True) (fun _ => False) rfl rfl ?aP (fun _ hk => hk.elim) ?aF ?aO ?aB ?aS ?aL ?_; (case aP => exact rfl); (case aB => exact bw); (case aF => exact (fun _ _ => trivial)); (case aO => exact (rR HO220)); (case aS => exact (below_size bw)); (case aL => have := LMc5.out; omega); intro v222 w9 ho hb hg hat; rw [← Ny221.out] at ho; replace HB := Aside0.mk hb; have HO223 := Aside0.mk (ho); clear HO220; clear ho hb hg hat; obtain ⟨Ao10, co10, eo10⟩ := Kd.R_slice HO223.out; subst eo10))
 go_loopg [9] k (fun kq v9 w' => ∃ (x8_1 : List Int) (x9_1 : Int), v9 = .int .i64 x9_1 ∧ Aside0 (r4_divides.l0 kq l0 a2 (l0.length : Int) x8_1 x9_1 = some r) ∧ Aside0 (kq ≤ k) ∧ Aside0 (Kd.R (Kd.int .i64) 3 w' w.heap.size (fun _ => True) (.slice Ao10 y221.length co10) x8_1) ∧ Aside0 (Below w.heap.size w w'))
 case atStart => exact ⟨(y221), (wrap64 ((y221.length : Int) - 1)), rX, H', ⟨Nat.le_refl _⟩, ⟨rR HO223⟩, ⟨bw⟩⟩
 case round =>
  clear H'
  obtain ⟨x8_1, x9_1, rfl, HA, HK1, HO_8, HB⟩ := hrel
  have hl8_1 := (Kd.R_reads' HO_8.out).1
  rw [hl8_1] at HO_8
  (try simp only [hl8_1])
  cases gk with
  | zero => exact absurd HA.out (by simp [r4_divides.l0])
  | succ k1 =>
   have H := HA.out
   clear HA
   simp only [r4_divides.l0] at H
   by_cases c11 : x9_1 ≥ (l0.length : Int)
   ·rw [if_pos c11] at H
    have c11b0 : decide ((l0.length : Int) ≤ x9_1) = true := decide_eq_true c11
    clear c11
    obtain ⟨c12, H⟩ := iE H
    have c12b0 := decide_eq_true c12
    clear c12
    obtain ⟨c13, H⟩ := iE H
    have c13b0 := decide_eq_true c13
    clear c13
    have H' := Aside0.mk H
    clear H
    have p224 : 0 ≤ (x9_1 : Int) := dT
    have q224 : x9_1 < (x8_1.length : Int) := dT
    obtain ⟨ad224, e224, hx224_0⟩ := Kd.at_int (Kd.R_reads' HO_8.out).2.2 x9_1 p224 q224
    cases e224
    replace p224 := eq_true p224
    replace q224 := eq_true q224
    go_wp2
    go_loopg [11] k1 (fun kq v11 w' => ∃ (x8_2 : List Int) (x11_2 : Int), v11 = .int .i64 x11_2 ∧ Aside0 (r4_divides.l1 kq l0 a2 (l0.length : Int) x8_2 x9_1 (rd x8_1 x9_1) x11_2 = some r) ∧ Aside0 (kq ≤ k1) ∧ Aside0 (Kd.R (Kd.int .i64) 3 w' w.heap.size (fun _ => True) (.slice (some ad224) x8_1.length co10) x8_2) ∧ Aside0 (Below w.heap.size w w'))
    case atStart => exact ⟨(x8_1), (0), rX, H', ⟨Nat.le_refl _⟩, ⟨by (try simp only [hl8_1]); (with_reducible repeat (first | apply Kd.R_alloc | apply Kd.R_drewN | apply Kd.R_drew)); exact HO_8.out⟩, ⟨bw⟩⟩
    case round =>
     clear H' c11b0 c12b0 c13b0 hx224_0 p224 q224
     obtain ⟨x8_2, x11_2, rfl, HA, HK2, HO_8, HB⟩ := hrel
     have hl8_2 := (Kd.R_reads' HO_8.out).1
     rw [hl8_2] at HO_8
     (try simp only [hl8_2])
     cases gk with
     | zero => exact absurd HA.out (by simp [r4_divides.l1])
     | succ k2 =>
      have H := HA.out
      clear HA
      simp only [r4_divides.l1] at H
      by_cases c14 : x11_2 < (l0.length : Int)
      ·rw [if_pos c14] at H
       have c14b0 := decide_eq_true c14
       clear c14
       obtain ⟨ji15, hji15⟩ : ∃ j_ : Int, (wrap64 ((wrap64 (x9_1 - (l0.length : Int))) + x11_2)) = j_ := ⟨_, rfl⟩
       replace H : (if 0 ≤ (ji15) then (if (ji15) < (x8_2.length : Int) then (if 0 ≤ x11_2 then (if x11_2 < (l0.length : Int) then (if a2 = 0 then (none) else (r4_divides.l1 k2 l0 a2 (l0.length : Int) (x8_2.set ((ji15) : Int).toNat (Int.tmod (wrap64 ((rd x8_2 (ji15)) + (wrap64 ((wrap64 (a2 - (rd x8_1 x9_1))) * (rd l0 x11_2))))) a2)) x9_1 (rd x8_1 x9_1) (wrap64 (x11_2 + 1)))) else (none)) else (none)) else (none)) else (none)) = some r := by first | (rw [hji15] at H; exact H) | (simp only [hji15] at H ⊢; exact H)
       have hji15w : (IntKind.i64.wrap ((wrap64 (x9_1 - (l0.length : Int))) + x11_2)) = ji15 := (i64_w _).trans hji15
       obtain ⟨c16, H⟩ := iE H
       have c16b0 := decide_eq_true c16
       clear c16
       obtain ⟨c17, H⟩ := iE H
       have c17b0 := decide_eq_true c17
       clear c17
       obtain ⟨c18, H⟩ := iE H
       have c18b0 := decide_eq_true c18
       clear c18
       obtain ⟨c19, H⟩ := iE H
       have c19b0 := decide_eq_true c19
       clear c19
       by_cases c20 : a2 = 0
       ·rw [if_pos c20] at H
        exact absurd H (by simp)
       ·rw [if_neg c20] at H
        have c20b0 := beq_eq_false_iff_ne.mpr c20
        have c20b1 := bne_iff_ne.mpr c20
        obtain ⟨y227, hy227⟩ : ∃ y_ : List Int, y_ = (x8_2.set ((ji15) : Int).toNat (Int.tmod (wrap64 ((rd x8_2 (ji15)) + (wrap64 ((wrap64 (a2 - (rd x8_1 x9_1))) * (rd l0 x11_2))))) a2)) := ⟨_, rfl⟩
        (try rw [Option.bind_some] at H); (try rw [← hy227] at H)
        have Ny227 := Aside0.mk hy227
        clear hy227
        have H' := Aside0.mk H
        clear H
        try go_wp2
        replace HO_8 := Aside0.mk (Kd.R_drew HO_8.out)
        replace HB := Aside0.mk (below_drew1 HB.out)
        have p225 : 0 ≤ ((ji15) : Int) := dT
        have q225 : (ji15) < (x8_2.length : Int) := dT
        obtain ⟨ad225, e225, hx225_0⟩ := Kd.at_int (Kd.R_reads' HO_8.out).2.2 (ji15) p225 q225
        obtain rfl : ad224 = ad225 := (by injection e225)
        replace p225 := eq_true p225
        replace q225 := eq_true q225
        have p226 : 0 ≤ (x11_2 : Int) := dT
        have q226 : x11_2 < (l0.length : Int) := dT
        obtain ⟨ad226, e226, hx226_0⟩ := Kd.at_int HR0.out x11_2 p226 q226
        have hw226_0 := hx226_0
        cases e226
        replace hx226_0 := cw HB hx226_0
        replace p226 := eq_true p226
        replace q226 := eq_true q226
        have p21 : 0 ≤ ((ji15) : Int) := dT
        have q21 : ((ji15) : Int) < ((x8_2.length : Int) : Int) := dT
        obtain ⟨go21, co21, eo21, gb21, gl21, cl21, HG21⟩ := Kd.R_form HO_8.out (by omega)
        (first | cases eo21 | (injection eo21 with ea_ en_ ec_; (first | subst ea_ | (injection ea_ with ea_; subst ea_)); subst ec_; clear en_))
        have GB21 := Aside0.mk gb21
        have GG21 := Aside0.mk HG21
        clear gb21 gl21 HG21
        (first | simp only [add_plain] at hx224_0 | skip)
        (first | simp only [add_plain] at hx225_0 | skip)
        obtain ⟨hx21_0, hf21_0⟩ := Kd.R_celln 0 HO_8.out ((ji15) : Int) p21 q21
        replace p21 := eq_true p21
        replace q21 := eq_true q21
        have HP23 := Kd.R_putn HO_8.out ((ji15) : Int) (Int.tmod (wrap64 ((rd x8_2 (ji15)) + (wrap64 ((wrap64 (a2 - (rd x8_1 x9_1))) * (rd l0 x11_2))))) a2)
        rw [← Ny227.out] at HP23
        have HQ23 := Aside0.mk HP23
        clear HP23
        refine start_ (n := 27) (S := fun w' => w'.cell? ⟨go21, ((ji15)).toNat, none⟩ = some (.int .i64 (rd x8_2 (ji15))) ∧ w'.cell? (ad226.add (x11_2).toNat) = some (.int .i64 (rd l0 x11_2))) (ds := [26]) (bb 27 0) (by kernel_rfl) rfl rfl ⟨hx225_0, (cw HB hw226_0)⟩ (fun hHeld => ?_); refine with_tabW r4_divides.tab11 r4_divides.bits11 (fun HT_ HW_ => ?_)
        generalize wr.drew = w22 at HO_8 HB GG21 HQ23 hf21_0 hx21_0 hx225_0 hx226_0 hHeld ⊢
        refine pq HT_ 0 38 (bb 27 1) ?_
        refine pq HT_ 1 39 (bb 27 3) ?_
        refine pq HT_ 2 40 (bb 27 7) ?_
        refine pq HT_ 3 41 (bb 27 15) ?_
        refine pq HT_ 4 42 (bb 27 31) ?_
        refine pq HT_ 5 43 (bb 27 63) ?_
        refine pq HT_ 6 44 (bb 27 127) ?_
        refine pq HT_ 7 45 (bb 27 255) ?_
        refine pq HT_ 8 46 (bb 27 511) ?_
        refine pq HT_ 9 47 (bb 27 1023) ?_
        refine pq HT_ 10 48 (bb 27 2047) ?_
        refine pq HT_ 11 49 (bb 27 4095) ?_
        refine pq HT_ 12 50 (bb 27 8191) ?_
        refine pq HT_ 14 52 (bb 27 24575) ?_
        refine pq HT_ 15 53 (bb 27 57343) ?_
        refine pq HT_ 16 54 (bb 27 122879) ?_
        refine pq HT_ 17 55 (bb 27 253951) ?_
        refine pq HT_ 18 56 (bb 27 516095) ?_
        refine pq HT_ 19 57 (bb 27 1040383) ?_
        refine pq HT_ 23 61 (bb 27 9428991) ?_
        refine tq HT_ HW_ hHeld 13 51 (bb 27 9437183) ?_
        refine tq HT_ HW_ hHeld 20 58 (bb 27 10485759) ?_
        refine pq HT_ 21 59 (bb 27 12582911) ?_
        refine pq HT_ 22 60 (bb 27 16777215) ?_
        refine pq HT_ 24 62 (bb 27 33554431) ?_
        refine pq HT_ 25 63 (bb 27 67108863) ?_
        refine lq HT_ 26 none (bb 27 134217727) (fun K hK => ?_)
        refine skip_ (w1 := ?_) (by rfl) rfl ?_ ?_
        rotate_left
        ·go_simp
         rfl
        refine hK.out _ _ ?_
        clear hK K
        refine dq HT_ ?_
        try go_wp2
        (try simp only [← hl8_2])
        refine Handed.intro k2 ?measure ?_
        rotate_left
        go_step
        (repeat apply Exists.intro)
        refine ⟨?rel, (by first | rfl | (rw [add_plain]; done) | (rw [add_plain]; rfl))⟩
        case measure => have := HK1.out; have := HK2.out; omega
        case rel => exact ⟨(y227), (wrap64 (x11_2 + 1)), rX, H', ⟨by have := HK1.out; have := HK2.out; omega⟩, ⟨by (try simp only [hl8_1]); (try simp only [hl8_2]); (with_reducible repeat (first | apply Kd.R_alloc | apply Kd.R_drewN | apply Kd.R_drew)); exact HQ23.out⟩, ⟨bw⟩⟩
      ·rw [if_neg c14] at H
       have c14b0 := decide_eq_false c14
       clear c14
       obtain ⟨c24, H⟩ := iE H
       have c24b0 := decide_eq_true c24
       clear c24
       obtain ⟨c25, H⟩ := iE H
       have c25b0 := decide_eq_true c25
       clear c25
       obtain ⟨y228, hy228⟩ : ∃ y_ : List Int, y_ = (x8_2.set (x9_1 : Int).toNat 0) := ⟨_, rfl⟩
       (try rw [Option.bind_some] at H); (try rw [← hy228] at H)
       have Ny228 := Aside0.mk hy228
       clear hy228
       have H' := Aside0.mk H
       clear H
       have p26 : 0 ≤ (x9_1 : Int) := dT
       have q26 : (x9_1 : Int) < ((x8_2.length : Int) : Int) := dT
       obtain ⟨go26, co26, eo26, gb26, gl26, cl26, HG26⟩ := Kd.R_form HO_8.out (by omega)
       (first | cases eo26 | (injection eo26 with ea_ en_ ec_; (first | subst ea_ | (injection ea_ with ea_; subst ea_)); subst ec_; clear en_))
       have GB26 := Aside0.mk gb26
       have GG26 := Aside0.mk HG26
       clear gb26 gl26 HG26
       obtain ⟨hx26_0, hf26_0⟩ := Kd.R_celln 0 HO_8.out (x9_1 : Int) p26 q26
       replace p26 := eq_true p26
       replace q26 := eq_true q26
       have HP27 := Kd.R_putg HO_8.out (x9_1 : Int) 0
       go_wp2_with ((with_reducible refine gate_store (t := 3) (p := 66) rfl ?_); refine store_event (t := 3) (p := 66) (v := ?vo_w28) (w1 := (wr.setCell ⟨go26, (x9_1 : Int).toNat, none⟩ (.int .i64 0))) ?hg ?ho ?hn ?hr ?_; (case ho => rfl); (case hg => rfl); (case hn => rfl); (case hr => first | (go_simp; done) | (go_simp; rfl)); intro w28 hw; have hg : wr.grownBy w28 (some go26) := (by rw [hw]; exact HP27.2); have hp_ : Kd.R (Kd.int .i64) 3 w28 w.heap.size (fun _ => True) (.slice (some ⟨go26, 0, none⟩) x8_2.length co10) y228 := (by rw [hw, Ny228.out]; exact HP27.1); clear HP27; replace HO_8 := Aside0.mk hp_; replace HB := Aside0.mk ((by rw [hw]; exact below_set (HB.out) GB26.out : Below w.heap.size w w28)); clear hg hw hp_)
       (try simp only [← hl8_1, ← hl8_2])
       go_roundg k2
       case measure => have := HK1.out; have := HK2.out; omega
       case rel => exact ⟨(y228), (wrap64 (x9_1 - 1)), rX, H', ⟨by have := HK1.out; have := HK2.out; omega⟩, ⟨by (try simp only [hl8_1]); (try simp only [hl8_2]); (with_reducible repeat (first | apply Kd.R_alloc | apply Kd.R_drewN | apply Kd.R_drew)); exact HO_8.out⟩, ⟨bw⟩⟩
   ·rw [if_neg c11] at H
    have c11b0 : decide ((l0.length : Int) ≤ x9_1) = false := decide_eq_false c11
    clear c11
    have H' := Aside0.mk H
    clear H
    go_wp2
    go_loopg [12] k1 (fun kq v12 w' => ∃ (x12_2 : Int), v12 = .int .i64 x12_2 ∧ Aside0 (r4_divides.l2 kq x8_1 x12_2 = some r) ∧ Aside0 (kq ≤ k1) ∧ Aside0 (Kd.R (Kd.int .i64) 3 w' w.heap.size (fun _ => True) (.slice Ao10 x8_1.length co10) x8_1) ∧ Aside0 (Below w.heap.size w w'))
    case atStart => exact ⟨(0), rX, H', ⟨Nat.le_refl _⟩, ⟨by (try simp only [hl8_1]); (with_reducible repeat (first | apply Kd.R_alloc | apply Kd.R_drewN | apply Kd.R_drew)); exact HO_8.out⟩, ⟨bw⟩⟩
    case round =>
     clear H' c11b0
     obtain ⟨x12_2, rfl, HA, HK2, HO_8, HB⟩ := hrel
     cases gk with
     | zero => exact absurd HA.out (by simp [r4_divides.l2])
     | succ k2 =>
      have H := HA.out
      clear HA
      simp only [r4_divides.l2] at H
      by_cases c29 : x12_2 < (x8_1.length : Int)
      ·rw [if_pos c29] at H
       have c29b0 := decide_eq_true c29
       clear c29
       obtain ⟨c30, H⟩ := iE H
       have c30b0 := decide_eq_true c30
       clear c30
       by_cases c31 : (rd x8_1 x12_2) = 0
       ·rw [if_pos c31] at H
        have c31b0 := beq_iff_eq.mpr c31
        have c31b1 := bne_eq_false_iff_eq.mpr c31
        clear c31
        have H' := Aside0.mk H
        clear H
        have p229 : 0 ≤ (x12_2 : Int) := dT
        have q229 : x12_2 < (x8_1.length : Int) := dT
        obtain ⟨ad229, e229, hx229_0⟩ := Kd.at_int (Kd.R_reads' HO_8.out).2.2 x12_2 p229 q229
        cases e229
        replace p229 := eq_true p229
        replace q229 := eq_true q229
        go_wp2
        go_roundg k2
        case measure => have := HK1.out; have := HK2.out; omega
        case rel => exact ⟨(wrap64 (x12_2 + 1)), rX, H', ⟨by have := HK1.out; have := HK2.out; omega⟩, ⟨by (try simp only [hl8_1]); (with_reducible repeat (first | apply Kd.R_alloc | apply Kd.R_drewN | apply Kd.R_drew)); exact HO_8.out⟩, ⟨bw⟩⟩
       ·rw [if_neg c31] at H
        have c31b0 := beq_eq_false_iff_ne.mpr c31
        have c31b1 := bne_iff_ne.mpr c31
        obtain rfl := Option.some.inj H
        have p229 : 0 ≤ (x12_2 : Int) := dT
        have q229 : x12_2 < (x8_1.length : Int) := dT
        obtain ⟨ad229, e229, hx229_0⟩ := Kd.at_int (Kd.R_reads' HO_8.out).2.2 x12_2 p229 q229
        cases e229
        replace p229 := eq_true p229
        replace q229 := eq_true q229
        go_wp2
        go_ret
        exact ⟨rW, bw⟩
      ·rw [if_neg c29] at H
       have c29b0 := decide_eq_false c29
       clear c29
       obtain rfl := Option.some.inj H
       go_wp2
       go_ret
       exact ⟨rW, bw⟩
mutual
def r4_irreducible.l0 : Nat → List Int → Int → Int → Int → Option (Bool)
 | 0, _, _, _, _ => none
 | k + 1, x0, x1, x5, x6 => if (wrap64 (2 * x6)) ≤ (x0.length : Int) then (r4_irreducible.l1 k x0 x1 (wrap64 (x5 * x1)) x6 0) else (some true)
def r4_irreducible.l1 : Nat → List Int → Int → Int → Int → Int → Option (Bool)
 | 0, _, _, _, _, _ => none
 | k + 1, x0, x1, x5, x6, x7 => if x7 < x5 then ((r4_digits.f k x7 x1 x6).bind fun t230 => ((r4_divides.f k t230 x0 x1).bind fun t233 => (if t233 = true then (some false) else (r4_irreducible.l1 k x0 x1 x5 x6 (wrap64 (x7 + 1)))))) else (r4_irreducible.l0 k x0 x1 x5 (wrap64 (x6 + 1)))
end
def r4_irreducible.f (k : Nat) (l0 : List Int) (a1 : Int) : Option (Bool) := r4_irreducible.l0 k l0 a1 1 1
theorem r4_irreducible.calls (k : Nat) (A0 : Option Addr) (c0 : Nat) (l0 : List Int) (a1 : Int) (r : Bool) (w : World) (hr0 : Kd.C (Kd.int .i64) w A0 l0.length l0) (hc0 : l0.length ≤ c0) (h : r4_irreducible.f k l0 a1 = some r) :
  Calls Try.prog 68 #[.slice A0 l0.length c0, .int .i64 a1] w fun e w' => e = .returned (.bool r) ∧ Below w.heap.size w w' := by
 have HR0 := Aside0.mk hr0
 have HC0 := Aside0.mk hc0
 clear hr0 hc0
 have HB := Aside0.mk (Below.refl w.heap.size w)
 have H := h
 clear h
 unfold r4_irreducible.f at H
 have H' := Aside0.mk H
 clear H
 go_enter Try.func68, Try.ntmps68
 go_wp2
 go_loopg [5, 6] k (fun kq v5 v6 w' => ∃ (x5_1 : Int) (x6_1 : Int), v5 = .int .i64 x5_1 ∧ v6 = .int .i64 x6_1 ∧ Aside0 (r4_irreducible.l0 kq l0 a1 x5_1 x6_1 = some r) ∧ Aside0 (kq ≤ k) ∧ Aside0 (Below w.heap.size w w'))
 case atStart => exact ⟨(1), (1), rX, rX, H', ⟨Nat.le_refl _⟩, ⟨bw⟩⟩
 case round =>
  clear H'
  obtain ⟨x5_1, x6_1, rfl, rfl, HA, HK1, HB⟩ := hrel
  cases gk with
  | zero => exact absurd HA.out (by simp [r4_irreducible.l0])
  | succ k1 =>
   have H := HA.out
   clear HA
   simp only [r4_irreducible.l0] at H
   by_cases c3 : (wrap64 (2 * x6_1)) ≤ (l0.length : Int)
   ·rw [if_pos c3] at H
    have c3b0 := decide_eq_true c3
    clear c3
    have H' := Aside0.mk H
    clear H
    go_wp2
    go_loopg [7] k1 (fun kq v7 w' => ∃ (x7_2 : Int), v7 = .int .i64 x7_2 ∧ Aside0 (r4_irreducible.l1 kq l0 a1 (wrap64 (x5_1 * a1)) x6_1 x7_2 = some r) ∧ Aside0 (kq ≤ k1) ∧ Aside0 (Below w.heap.size w w'))
    case atStart => exact ⟨(0), rX, H', ⟨Nat.le_refl _⟩, ⟨bw⟩⟩
    case round =>
     clear H' c3b0
     obtain ⟨x7_2, rfl, HA, HK2, HB⟩ := hrel
     cases gk with
     | zero => exact absurd HA.out (by simp [r4_irreducible.l1])
     | succ k2 =>
      have H := HA.out
      clear HA
      simp only [r4_irreducible.l1] at H
      by_cases c4 : x7_2 < (wrap64 (x5_1 * a1))
      ·rw [if_pos c4] at H
       have c4b0 := decide_eq_true c4
       clear c4
       obtain ⟨t230, A5, H⟩ := bE H
       obtain ⟨t233, A6, H⟩ := bE H
       by_cases c7 : t233 = true
       ·subst c7
        have H1 : (some false) = some r := by rw [if_pos rfl] at H; exact H
        clear H
        have H := H1
        clear H1
        obtain rfl := Option.some.inj H
        go_wp2_with (first | (refine gL 26 Try.func95 #[.int .i64 x7_2, .int .i64 a1, .int .i64 x6_1] ?_; (with_reducible refine (r4_digits.calls k2 x7_2 a1 x6_1 t230 _ A5.out).mono ?_); rintro e w8 ⟨v231, rfl, ho0, hb⟩; refine ⟨_, rfl, ?_⟩; have HO232 := Aside0.mk (Kd.R_lower ho0 (below_size bw)); replace HB := Aside0.mk (below_step bw hb); (try clear hb); (try clear ho0); obtain ⟨Ao9, co9, eo9⟩ := Kd.R_slice HO232.out; subst eo9) | (refine gL 29 Try.func94 #[.slice Ao9 t230.length co9, .slice A0 l0.length c0, .int .i64 a1] ?_; (with_reducible refine (r4_divides.calls k2 _ _ t230 _ _ l0 a1 true _ ?side1 ((Kd.R_reads' HO232.out).2.1) (Kd.C_below HR0.out bw) HC0.out A6.out).mono ?_); (case side1 => repeat (first | exact (Kd.R_reads' HO232.out).2.2 | (with_reducible refine Kd.C_alloc ?_ _) | (with_reducible refine Kd.C_drewN ?_ _) | (with_reducible refine Kd.C_drew ?_))); rintro e w10 ⟨rfl, hb⟩; refine ⟨_, rfl, ?_⟩; replace HO232 := Aside0.mk (Kd.R_below (rR HO232) hb); replace HB := Aside0.mk (below_step bw hb); (try clear hb)))
        go_ret
        exact ⟨rW, bw⟩
       ·replace c7 := Bool.eq_false_iff.mpr c7
        subst c7
        have H1 : (r4_irreducible.l1 k2 l0 a1 (wrap64 (x5_1 * a1)) x6_1 (wrap64 (x7_2 + 1))) = some r := by rw [if_neg (show ¬ (false = true) by decide)] at H; exact H
        clear H
        have H := H1
        clear H1
        have H' := Aside0.mk H
        clear H
        go_wp2_with (first | (refine gL 26 Try.func95 #[.int .i64 x7_2, .int .i64 a1, .int .i64 x6_1] ?_; (with_reducible refine (r4_digits.calls k2 x7_2 a1 x6_1 t230 _ A5.out).mono ?_); rintro e w11 ⟨v231, rfl, ho0, hb⟩; refine ⟨_, rfl, ?_⟩; have HO232 := Aside0.mk (Kd.R_lower ho0 (below_size bw)); replace HB := Aside0.mk (below_step bw hb); (try clear hb); (try clear ho0); obtain ⟨Ao12, co12, eo12⟩ := Kd.R_slice HO232.out; subst eo12) | (refine gL 29 Try.func94 #[.slice Ao12 t230.length co12, .slice A0 l0.length c0, .int .i64 a1] ?_; (with_reducible refine (r4_divides.calls k2 _ _ t230 _ _ l0 a1 false _ ?side1 ((Kd.R_reads' HO232.out).2.1) (Kd.C_below HR0.out bw) HC0.out A6.out).mono ?_); (case side1 => repeat (first | exact (Kd.R_reads' HO232.out).2.2 | (with_reducible refine Kd.C_alloc ?_ _) | (with_reducible refine Kd.C_drewN ?_ _) | (with_reducible refine Kd.C_drew ?_))); rintro e w13 ⟨rfl, hb⟩; refine ⟨_, rfl, ?_⟩; replace HO232 := Aside0.mk (Kd.R_below (rR HO232) hb); replace HB := Aside0.mk (below_step bw hb); (try clear hb)))
        go_roundg k2
        case measure => have := HK1.out; have := HK2.out; omega
        case rel => exact ⟨(wrap64 (x7_2 + 1)), rX, H', ⟨by have := HK1.out; have := HK2.out; omega⟩, ⟨bw⟩⟩
      ·rw [if_neg c4] at H
       have c4b0 := decide_eq_false c4
       clear c4
       have H' := Aside0.mk H
       clear H
       go_wp2
       go_roundg k2
       case measure => have := HK1.out; have := HK2.out; omega
       case rel => exact ⟨((wrap64 (x5_1 * a1))), (wrap64 (x6_1 + 1)), rX, rX, H', ⟨by have := HK1.out; have := HK2.out; omega⟩, ⟨bw⟩⟩
   ·rw [if_neg c3] at H
    have c3b0 := decide_eq_false c3
    clear c3
    obtain rfl := Option.some.inj H
    go_wp2
    go_ret
    exact ⟨rW, bw⟩
mutual
def r4_Check.j0 : Nat → Bool → Int → Int → List Int → Option (Int)
 | 0, _, _, _, _ => none
 | k + 1, x12, x235000, x235001, x235002 => if x12 = true then (some 1) else (if x235001 = 1 then (if (x235002.length : Int) = 0 then (some 0) else (some 1)) else (if (x235002.length : Int) = x235001 then (r4_Check.l0 k 0 x235000 x235001 x235002) else (some 1)))
def r4_Check.l0 : Nat → Int → Int → Int → List Int → Option (Int)
 | 0, _, _, _, _ => none
 | k + 1, x3, x235000, x235001, x235002 => if x3 < x235001 then (if 0 ≤ x3 then (if x3 < (x235002.length : Int) then (if (rd x235002 x3) < 0 then (some 1) else (if (rd x235002 x3) ≥ x235000 then (some 1) else (r4_Check.l0 k (wrap64 (x3 + 1)) x235000 x235001 x235002))) else (none)) else (none)) else ((r4_irreducible.f k x235002 x235000).bind fun t239 => (if t239 = true then (some 0) else (some 1)))
end
def r4_Check.f (k : Nat) (a0_0 : Int) (a0_1 : Int) (l0_2 : List Int) : Option (Int) := (r4_Order.f k a0_0 a0_1 l0_2).bind fun t235 => (if t235 = 0 then (r4_Check.j0 k true a0_0 a0_1 l0_2) else ((r4_prime.f k a0_0).bind fun t236 => (r4_Check.j0 k (!t236) a0_0 a0_1 l0_2)))
theorem r4_Check.calls (k : Nat) (a0_0 : Int) (a0_1 : Int) (A0_2 : Option Addr) (c0_2 : Nat) (l0_2 : List Int) (r : Int) (w : World) (hr0_2 : Kd.C (Kd.int .i64) w A0_2 l0_2.length l0_2) (hc0_2 : l0_2.length ≤ c0_2) (h : r4_Check.f k a0_0 a0_1 l0_2 = some r) :
  Calls Try.prog 40 #[.agg #[.int .i64 a0_0, .int .i64 a0_1, .slice A0_2 l0_2.length c0_2]] w fun e w' => e = .returned (.int .i64 r) ∧ Below w.heap.size w w' := by
 have hu36 := Try.underlying36
 have HR0_2 := Aside0.mk hr0_2
 have HC0_2 := Aside0.mk hc0_2
 clear hr0_2 hc0_2
 have HB := Aside0.mk (Below.refl w.heap.size w)
 have H := h
 clear h
 unfold r4_Check.f at H
 have HC2 := Aside0.mk H
 clear H
 go_enter Try.func40, Try.ntmps40
 go_upto_region 1 with (refine bz 1 #[.int .i64 a0_0, .int .i64 a0_1, .slice A0_2 l0_2.length c0_2] 36 ?_; clear HB; intro gb234 w3 BK234 GW234 GE234 HB)
 repeat (go_quiet (fail); go_upto_region 1 with (refine bz 1 #[.int .i64 a0_0, .int .i64 a0_1, .slice A0_2 l0_2.length c0_2] 36 ?_; clear HB; intro gb234 w3 BK234 GW234 GE234 HB))
 (try simp only [Act.put, List.setIfInBounds_toArray, List.set_cons_zero, List.set_cons_succ])
 go_cut [12] (fun v12 wc => ∃ (kq : Nat) (x12_1 : Bool), v12 = .bool x12_1 ∧ Aside0 (r4_Check.j0 kq x12_1 a0_0 a0_1 l0_2 = some r) ∧ Aside0 (kq ≤ k) ∧ Aside0 (wc.heap[gb234]? = some (.cells #[.int .i64 a0_0, .int .i64 a0_1, (.slice A0_2 l0_2.length c0_2)] 36 (0, 0))) ∧ Aside0 (Below w.heap.size w wc))
 case first =>
  have H := HC2.out
  clear HC2
  obtain ⟨t235, A4, H⟩ := bE H
  by_cases c5 : t235 = 0
  ·rw [if_pos c5] at H
   have c5b0 := beq_iff_eq.mpr c5
   have c5b1 := bne_eq_false_iff_eq.mpr c5
   clear c5
   (first | rw [c5b0] | (simp only [i64_w, i32_w]; rw [c5b0]) | skip)
   have H' := Aside0.mk H
   clear H
   obtain ⟨hcz6_0, hcz6_1, hcz6_2, hfz6_0, hfz6_1, hfz6_2⟩ := bq3 BK234.out
   go_wp2_with (go_at_call 41; (with_reducible refine (r4_Order.calls k a0_0 a0_1 _ _ l0_2 t235 _ (Kd.C_below HR0_2.out bw) HC0_2.out A4.out).mono ?_); rintro e w7 ⟨rfl, hb⟩; replace BK234 := Aside0.mk (bkb BK234 hb); replace HB := Aside0.mk (below_step bw hb); (try clear hb))
   repeat (go_quiet (fail); try go_wp2_with (fail))
   go_meet
   case rel => exact ⟨_, (true), rX, H', ⟨by first | omega | exact Nat.le_refl _⟩, ⟨kk BK234⟩, ⟨bw⟩⟩
  ·rw [if_neg c5] at H
   have c5b0 := beq_eq_false_iff_ne.mpr c5
   have c5b1 := bne_iff_ne.mpr c5
   (first | rw [c5b0] | (simp only [i64_w, i32_w]; rw [c5b0]) | skip)
   obtain ⟨t236, A8, H⟩ := bE H
   have H' := Aside0.mk H
   clear H
   obtain ⟨hcz9_0, hcz9_1, hcz9_2, hfz9_0, hfz9_1, hfz9_2⟩ := bq3 BK234.out
   go_wp2_with (first | (go_at_call 41; (with_reducible refine (r4_Order.calls k a0_0 a0_1 _ _ l0_2 t235 _ (Kd.C_below HR0_2.out bw) HC0_2.out A4.out).mono ?_); rintro e w10 ⟨rfl, hb⟩; replace BK234 := Aside0.mk (bkb BK234 hb); replace HB := Aside0.mk (below_step bw hb); (try clear hb); obtain ⟨hcz11_0, hcz11_1, hcz11_2, hfz11_0, hfz11_1, hfz11_2⟩ := bq3 BK234.out) | (go_at_call 67; (with_reducible refine (r4_prime.calls k a0_0 t236 _ A8.out).mono ?_); rintro e w' ⟨rfl, ⟨nd, rfl⟩⟩; (try first | exact ⟨rfl, _, World.drewN_drewN _ _ _⟩ | exact ⟨rfl, _, Eq.trans (World.drewN_drewN _ _ _) (congrArg (World.drewN _) (Nat.add_assoc _ _ _))⟩)))
   repeat (go_quiet (fail); try go_wp2_with (fail))
   go_meet
   case rel => exact ⟨_, (!t236), rX, H', ⟨by first | omega | exact Nat.le_refl _⟩, ⟨kk BK234⟩, ⟨bw⟩⟩
 case rest =>
  clear HC2
  obtain ⟨kq, x12_1, rfl, HA, HJ1, BK234, HB⟩ := hcut
  cases kq with
  | zero => exact absurd HA.out (by simp [r4_Check.j0])
  | succ kj1 =>
   have H := HA.out
   clear HA
   simp only [r4_Check.j0] at H
   by_cases c12 : x12_1 = true
   ·subst c12
    have H1 : (some 1) = some r := by rw [if_pos rfl] at H; exact H
    clear H
    have H := H1
    clear H1
    obtain rfl := Option.some.inj H
    go_wp2
    repeat (go_quiet (fail); try go_wp2)
    go_ret
    exact ⟨rW, bw⟩
   ·replace c12 := Bool.eq_false_iff.mpr c12
    subst c12
    have H1 : (if a0_1 = 1 then (if (l0_2.length : Int) = 0 then (some 0) else (some 1)) else (if (l0_2.length : Int) = a0_1 then (r4_Check.l0 kj1 0 a0_0 a0_1 l0_2) else (some 1))) = some r := by rw [if_neg (show ¬ (false = true) by decide)] at H; exact H
    clear H
    have H := H1
    clear H1
    by_cases c13 : a0_1 = 1
    ·rw [if_pos c13] at H
     have c13b0 := beq_iff_eq.mpr c13
     have c13b1 := bne_eq_false_iff_eq.mpr c13
     clear c13
     by_cases c14 : (l0_2.length : Int) = 0
     ·rw [if_pos c14] at H
      have c14b0 := beq_iff_eq.mpr c14
      have c14b1 := bne_eq_false_iff_eq.mpr c14
      clear c14
      obtain rfl := Option.some.inj H
      obtain ⟨hcz15_0, hcz15_1, hcz15_2, hfz15_0, hfz15_1, hfz15_2⟩ := bq3 BK234.out
      go_wp2
      repeat (go_quiet (fail); try go_wp2)
      go_ret
      exact ⟨rW, bw⟩
     ·rw [if_neg c14] at H
      have c14b0 := beq_eq_false_iff_ne.mpr c14
      have c14b1 := bne_iff_ne.mpr c14
      have c14b2 : ¬ (l0_2 = []) := fun h_ => c14 (by rw [h_]; rfl)
      obtain rfl := Option.some.inj H
      obtain ⟨hcz16_0, hcz16_1, hcz16_2, hfz16_0, hfz16_1, hfz16_2⟩ := bq3 BK234.out
      go_wp2
      repeat (go_quiet (fail); try go_wp2)
      go_ret
      exact ⟨rW, bw⟩
    ·rw [if_neg c13] at H
     have c13b0 := beq_eq_false_iff_ne.mpr c13
     have c13b1 := bne_iff_ne.mpr c13
     by_cases c17 : (l0_2.length : Int) = a0_1
     ·rw [if_pos c17] at H
      have c17b0 := beq_iff_eq.mpr c17
      have c17b1 := bne_eq_false_iff_eq.mpr c17
      clear c17
      have H' := Aside0.mk H
      clear H
      obtain ⟨hcz18_0, hcz18_1, hcz18_2, hfz18_0, hfz18_1, hfz18_2⟩ := bq3 BK234.out
      go_wp2
      repeat (go_quiet (fail); try go_wp2)
      go_loopg [3] kj1 (fun kq v3 w' => ∃ (x3_2 : Int), v3 = .int .i64 x3_2 ∧ Aside0 (r4_Check.l0 kq x3_2 a0_0 a0_1 l0_2 = some r) ∧ Aside0 (kq ≤ kj1) ∧ Aside0 (w'.heap[gb234]? = some (.cells #[.int .i64 a0_0, .int .i64 a0_1, (.slice A0_2 l0_2.length c0_2)] 36 (0, 0))) ∧ Aside0 (Below w.heap.size w w'))
      case atStart => exact ⟨(0), rX, H', ⟨Nat.le_refl _⟩, ⟨kk BK234⟩, ⟨bw⟩⟩
      case round =>
       clear H' c13 c13b0 c13b1 c17b0 c17b1 hcz18_0 hcz18_1 hcz18_2 hfz18_0 hfz18_1 hfz18_2
       obtain ⟨x3_2, rfl, HA, HK2, BK234, HB⟩ := hrel
       cases gk with
       | zero => exact absurd HA.out (by simp [r4_Check.l0])
       | succ k2 =>
        have H := HA.out
        clear HA
        simp only [r4_Check.l0] at H
        by_cases c19 : x3_2 < a0_1
        ·rw [if_pos c19] at H
         have c19b0 := decide_eq_true c19
         clear c19
         obtain ⟨c20, H⟩ := iE H
         have c20b0 := decide_eq_true c20
         clear c20
         obtain ⟨c21, H⟩ := iE H
         have c21b0 := decide_eq_true c21
         clear c21
         by_cases c22 : (rd l0_2 x3_2) < 0
         ·rw [if_pos c22] at H
          have c22b0 := decide_eq_true c22
          clear c22
          obtain rfl := Option.some.inj H
          obtain ⟨hcz23_0, hcz23_1, hcz23_2, hfz23_0, hfz23_1, hfz23_2⟩ := bq3 BK234.out
          have p237 : 0 ≤ (x3_2 : Int) := dT
          have q237 : x3_2 < (l0_2.length : Int) := dT
          obtain ⟨ad237, e237, hx237_0⟩ := Kd.at_int HR0_2.out x3_2 p237 q237
          cases e237
          replace hx237_0 := cw HB hx237_0
          replace p237 := eq_true p237
          replace q237 := eq_true q237
          go_wp2
          repeat (go_quiet (fail); try go_wp2)
          go_ret
          exact ⟨rW, bw⟩
         ·rw [if_neg c22] at H
          have c22b0 := decide_eq_false c22
          clear c22
          by_cases c24 : (rd l0_2 x3_2) ≥ a0_0
          ·rw [if_pos c24] at H
           have c24b0 : decide (a0_0 ≤ (rd l0_2 x3_2)) = true := decide_eq_true c24
           clear c24
           obtain rfl := Option.some.inj H
           obtain ⟨hcz25_0, hcz25_1, hcz25_2, hfz25_0, hfz25_1, hfz25_2⟩ := bq3 BK234.out
           have p237 : 0 ≤ (x3_2 : Int) := dT
           have q237 : x3_2 < (l0_2.length : Int) := dT
           obtain ⟨ad237, e237, hx237_0⟩ := Kd.at_int HR0_2.out x3_2 p237 q237
           cases e237
           replace hx237_0 := cw HB hx237_0
           replace p237 := eq_true p237
           replace q237 := eq_true q237
           have p238 : 0 ≤ (x3_2 : Int) := dT
           have q238 : x3_2 < (l0_2.length : Int) := dT
           obtain ⟨ad238, e238, hx238_0⟩ := Kd.at_int HR0_2.out x3_2 p238 q238
           obtain rfl : ad237 = ad238 := (by injection e238)
           replace hx238_0 := cw HB hx238_0
           replace p238 := eq_true p238
           replace q238 := eq_true q238
           go_wp2
           repeat (go_quiet (fail); try go_wp2)
           go_ret
           exact ⟨rW, bw⟩
          ·rw [if_neg c24] at H
           have c24b0 : decide (a0_0 ≤ (rd l0_2 x3_2)) = false := decide_eq_false c24
           clear c24
           have H' := Aside0.mk H
           clear H
           obtain ⟨hcz26_0, hcz26_1, hcz26_2, hfz26_0, hfz26_1, hfz26_2⟩ := bq3 BK234.out
           have p237 : 0 ≤ (x3_2 : Int) := dT
           have q237 : x3_2 < (l0_2.length : Int) := dT
           obtain ⟨ad237, e237, hx237_0⟩ := Kd.at_int HR0_2.out x3_2 p237 q237
           cases e237
           replace hx237_0 := cw HB hx237_0
           replace p237 := eq_true p237
           replace q237 := eq_true q237
           have p238 : 0 ≤ (x3_2 : Int) := dT
           have q238 : x3_2 < (l0_2.length : Int) := dT
           obtain ⟨ad238, e238, hx238_0⟩ := Kd.at_int HR0_2.out x3_2 p238 q238
           obtain rfl : ad237 = ad238 := (by injection e238)
           replace hx238_0 := cw HB hx238_0
           replace p238 := eq_true p238
           replace q238 := eq_true q238
           go_wp2
           repeat (go_quiet (fail); try go_wp2)
           go_roundg k2
           case measure => have := HJ1.out; have := HK2.out; omega
           case rel => exact ⟨(wrap64 (x3_2 + 1)), rX, H', ⟨by have := HJ1.out; have := HK2.out; omega⟩, ⟨kk BK234⟩, ⟨bw⟩⟩
        ·rw [if_neg c19] at H
         have c19b0 := decide_eq_false c19
         clear c19
         obtain ⟨t239, A27, H⟩ := bE H
         by_cases c28 : t239 = true
         ·subst c28
          have H1 : (some 0) = some r := by rw [if_pos rfl] at H; exact H
          clear H
          have H := H1
          clear H1
          obtain rfl := Option.some.inj H
          obtain ⟨hcz29_0, hcz29_1, hcz29_2, hfz29_0, hfz29_1, hfz29_2⟩ := bq3 BK234.out
          go_wp2_with (go_at_call 68; (with_reducible refine (r4_irreducible.calls k2 _ _ l0_2 a0_0 true _ (Kd.C_below HR0_2.out bw) HC0_2.out A27.out).mono ?_); rintro e w30 ⟨rfl, hb⟩; replace BK234 := Aside0.mk (bkb BK234 hb); replace HB := Aside0.mk (below_step bw hb); (try clear hb))
          repeat (go_quiet (fail); try go_wp2_with (fail))
          go_ret
          exact ⟨rW, bw⟩
         ·replace c28 := Bool.eq_false_iff.mpr c28
          subst c28
          have H1 : (some 1) = some r := by rw [if_neg (show ¬ (false = true) by decide)] at H; exact H
          clear H
          have H := H1
          clear H1
          obtain rfl := Option.some.inj H
          obtain ⟨hcz31_0, hcz31_1, hcz31_2, hfz31_0, hfz31_1, hfz31_2⟩ := bq3 BK234.out
          go_wp2_with (go_at_call 68; (with_reducible refine (r4_irreducible.calls k2 _ _ l0_2 a0_0 false _ (Kd.C_below HR0_2.out bw) HC0_2.out A27.out).mono ?_); rintro e w32 ⟨rfl, hb⟩; replace BK234 := Aside0.mk (bkb BK234 hb); replace HB := Aside0.mk (below_step bw hb); (try clear hb))
          repeat (go_quiet (fail); try go_wp2_with (fail))
          go_ret
          exact ⟨rW, bw⟩
     ·rw [if_neg c17] at H
      have c17b0 := beq_eq_false_iff_ne.mpr c17
      have c17b1 := bne_iff_ne.mpr c17
      obtain rfl := Option.some.inj H
      obtain ⟨hcz33_0, hcz33_1, hcz33_2, hfz33_0, hfz33_1, hfz33_2⟩ := bq3 BK234.out
      go_wp2
      repeat (go_quiet (fail); try go_wp2)
      go_ret
      exact ⟨rW, bw⟩
def r17_RootArgs.j0 : Nat → Int → Bool → Int → Int → List Int → Option (Int)
 | 0, _, _, _, _, _ => none
 | k + 1, x1, x13, x241000, x241001, x241002 => if x13 = true then (some 4) else ((r17_Root.f k x241000 x241001 x241002 x1).bind fun t242 => (if t242 = 0 then (some 11) else (some 0)))
def r17_RootArgs.f (k : Nat) (a0_0 : Int) (a0_1 : Int) (l0_2 : List Int) (a1 : Int) : Option (Int) := (r4_Check.f k a0_0 a0_1 l0_2).bind fun t241 => (if t241 = 0 then (if a1 < 1 then (r17_RootArgs.j0 k a1 true a0_0 a0_1 l0_2) else (r17_RootArgs.j0 k a1 (decide (a1 > 64)) a0_0 a0_1 l0_2)) else (some 1))
end Go.Proofs.Ytibbdjkboglepaa.QBchRoots
namespace Go.Proofs.Ytibbdjkboglepaa.MyQBchRoots
open Go Go.RowKit Go.Proofs.YtibbdjkboglepaaW.PrintWords Go.Proofs.YtibbdjkboglepaaW.PrintLast Go.Proofs.Ytibbdjkboglepaa.My Go.Proofs.Ytibbdjkboglepaa.QBchRoots
def cutW (W : World) (g : Nat) : World := { W with heap := W.heap.extract 0 g }
theorem cutW_size {W : World} {g : Nat} (h : g ≤ W.heap.size) : (cutW W g).heap.size = g := by simp [cutW]; omega
theorem cutW_at {W : World} {g k : Nat} (h : k < g) : (cutW W g).heap[k]? = W.heap[k]? := by
 simp [cutW, Array.getElem?_extract]
 intro hk
 omega
theorem cutW_below {W : World} {g : Nat} (h : g ≤ W.heap.size) : Below (cutW W g).heap.size (cutW W g) W :=
 ⟨rfl, rfl, rfl, by rw [cutW_size h]; exact h, fun k hk => (cutW_at (by rw [cutW_size h] at hk; exact hk)).symm⟩
theorem cutW_C {W : World} {g n : Nat} {A : Option Addr} {xs : List Int} (h : (Kd.int .i64).C W A n xs) (hb : ∀ ad, A = some ad → 0 < n → ad.block < g) : (Kd.int .i64).C (cutW W g) A n xs := by
 have hr := Kd.reads_of_C (enc := Value.int .i64) (d := (0 : Int)) (h1 := fun _ => rfl) h
 refine Kd.C_of_reads (enc := Value.int .i64) (d := (0 : Int)) (h1 := fun _ => rfl) ?_
 refine ⟨hr.1, hr.2.1, fun hn => ?_⟩
 obtain ⟨ad, e, hc⟩ := hr.2.2 hn
 refine ⟨ad, e, fun j hj => ?_⟩
 have := hc j hj
 rw [← this]
 have hblk : (ad.add j).block = ad.block := by unfold Addr.add; split <;> rfl
 exact World.cell?_of_block (by rw [hblk]; exact cutW_at (hb ad e hn))
theorem cutW_R {W : World} {e base g : Nat} {ok : Nat → Prop} {A : Option Addr} {n c : Nat} {xs : List Int} (h : (Kd.int .i64).R e W base ok (.slice A n c) xs) (hb : ∀ k, (Value.slice A n c).ownBlock = some k → k < g) : (Kd.int .i64).C (cutW W g) A xs.length xs :=
 cutW_C (Kd.R_reads' h).2.2 (fun ad e _ => hb ad.block (by rw [e]; rfl))
def logs (ex : List Int) (lg : List Int) : Nat → List Int
 | 0 => lg
 | n + 1 => (logs ex lg n).set (rd ex n).toNat n
theorem logs_length (ex lg : List Int) (n : Nat) : (logs ex lg n).length = lg.length := by
 induction n with
 | zero => rfl
 | succ n ih => rw [logs, List.length_set, ih]
theorem Ri_ok {e base : Nat} {w : World} {ok ok' : Nat → Prop} {v : Value} {xs : List Int} (h : (Kd.int .i64).R e w base ok v xs) (h' : ∀ k, v.ownBlock = some k → ok' k) : (Kd.int .i64).R e w base ok' v xs :=
 ⟨h', h.2.imp_ (fun _ _ hp => hp)⟩
theorem Ri_grown {e base : Nat} {w w1 : World} {ok : Nat → Prop} {v : Value} {xs : List Int} {row : Option Nat} (h : (Kd.int .i64).R e w base ok v xs) (hg : w.grownBy w1 row) (hne : ∀ k, v.ownBlock = some k → some k ≠ row) : (Kd.int .i64).R e w1 base ok v xs :=
 Ri_ok (Kd.R_grown (Ri_ok h (ok' := fun k => some k ≠ row) hne) hg (fun k hk => hk)) h.1
theorem grownBy_size {w w1 : World} {row : Option Nat} (hg : w.grownBy w1 row) : w.heap.size ≤ w1.heap.size := hg.size
end Go.Proofs.Ytibbdjkboglepaa.MyQBchRoots
namespace Go.Proofs.Ytibbdjkboglepaa.MyQBchRoots
open Go.RowKit Go.Proofs.YtibbdjkboglepaaW.PrintWords Go.Proofs.YtibbdjkboglepaaW.PrintMore Go.Proofs.Ytibbdjkboglepaa.My Go.Proofs.Ytibbdjkboglepaa.Alg Go.Proofs.Ytibbdjkboglepaa.QBchRoots
section
variable {D : FD} {P M : Int} {Mod : List Int}
theorem Order_l0 (h : Desc D P M Mod) : ∀ (d : Nat) (i : Nat), i + d = D.m → Ev (fun k => r4_Order.l0 k (P ^ i) i P M Mod) D.q := by
 have hp2 := h.p2
 have hp := h.hp
 have hm := h.hm
 have hm8 := h.hm8
 have hq := h.hq
 have hp256 := h.p256
 have hqd : D.q = P ^ D.m := by rw [← hp]; rfl
 intro d
 induction d with
 | zero =>
  intro i hi
  refine ev_succ (ev_now fun k => ?_)
  rw [r4_Order.l0, if_neg (by omega), hqd, show i = D.m by omega]
 | succ d ih =>
  intro i hi
  have h1 : 0 < P ^ i := Int.pow_pos (by omega)
  have h2 : P ^ i * P ≤ 256 := by
   have h3 := pow_le D.toPr (show i + 1 ≤ D.m by omega)
   rw [hp, Int.pow_succ] at h3
   omega
  have h4 : P ^ i ≤ 256 / P := (Int.le_ediv_iff_mul_le (by omega)).2 h2
  have h5 : 256 / P ≤ 256 := Int.ediv_le_self _ (by omega)
  have h6 : 0 < P ^ i * P := Int.mul_pos h1 (by omega)
  have h7 : 0 ≤ 256 / P := Int.ediv_nonneg (by omega) (by omega)
  refine Ev.step (fun k => ?_) (ih (i + 1) (by omega))
  rw [r4_Order.l0, if_pos (by omega), if_neg (by omega), Int.tdiv_eq_ediv_of_nonneg (a := (256 : Int)) (by omega), w64 (x := 256 / P) (by omega) (by omega), if_neg (by omega), w64 (x := P ^ i * P) (by omega) (by omega), w64 (by omega) (by omega), Int.pow_succ]
  rfl
theorem Order_eq (h : Desc D P M Mod) : Ev (fun k => r4_Order.f k P M Mod) D.q := by
 have hp2 := h.p2
 have hm1 := h.m1
 have hm8 := h.hm8
 refine Ev.congr (fun k => by unfold r4_Order.f; rw [if_neg (by omega), if_neg (by omega), decide_eq_false (by omega)]) ?_
 refine Ev.step (fun k => by rw [r4_Order.j0, if_neg (by simp)]) ?_
 have := Order_l0 h D.m 0 (by omega)
 rwa [Int.pow_zero] at this
theorem Is_eq (h : Desc D P M Mod) (x : Int) : Ev (fun k => r4_Is.f k P M Mod x) (decide (0 ≤ x ∧ x < D.q)) := by
 unfold r4_Is.f
 by_cases e : x ≥ 0
 ·refine Ev.congr (fun k => by rw [if_pos e]) (Ev.bind (Order_eq h) (ev_now fun k => ?_))
  congr 1
  rw [decide_eq_decide]
  exact ⟨fun h => ⟨e, h⟩, fun h => h.2⟩
 ·refine ev_now fun k => ?_
  rw [if_neg e]
  congr 1
  symm
  rw [decide_eq_false_iff_not]
  omega
theorem In_eq (h : Desc D P M Mod) (x : Int) : Ev (fun k => r4_In.f k P M Mod x) (inn D x).1 := by
 unfold r4_In.f
 refine Ev.bind (Is_eq h x) (ev_now fun k => ?_)
 rw [inn_val]
 by_cases e : 0 ≤ x ∧ x < D.q
 ·rw [if_pos (by simpa using e), if_pos e]
 ·rw [if_neg (by simpa using e), if_neg e]
theorem digits_l0 {p : Int} (hp : 2 ≤ p) {n : Int} (hn : n ≤ 1000) {x : Int} (hx : 0 ≤ x) (hx' : x < 9223372036854775808) : ∀ (d : Nat) (i : Nat) (out : List Int), (i : Int) + d = n → (out.length : Int) = n → (∀ j : Int, 0 ≤ j → j < i → rd out j = x / p ^ j.toNat % p) →
  ∃ r, Ev (fun k => r4_digits.l0 k (x / p ^ i) p n out i) r ∧ ((r.length : Int) = n ∧ ∀ j : Int, 0 ≤ j → j < n → rd r j = x / p ^ j.toNat % p) := by
 intro d
 induction d with
 | zero =>
  intro i out hi hl h
  exact ⟨out, ev_succ (ev_now fun k => by rw [r4_digits.l0, if_neg (by omega)]), hl, fun j h1 h2 => h j h1 (by omega)⟩
 | succ d ih =>
  intro i out hi hl h
  have hpi : 0 < p ^ i := Int.pow_pos (by omega)
  have h0 : 0 ≤ x / p ^ i := Int.ediv_nonneg hx (by omega)
  have h1 : x / p ^ i ≤ x := Int.ediv_le_self _ hx
  have h2 : 0 ≤ x / p ^ i / p := Int.ediv_nonneg h0 (by omega)
  have h3 : x / p ^ i / p ≤ x / p ^ i := Int.ediv_le_self _ h0
  have h4 := Int.emod_lt_of_pos (x / p ^ i) (show 0 < p by omega)
  obtain ⟨r, hr, hq⟩ := ih (i + 1) (out.set i (x / p ^ i % p)) (by omega) (by rw [List.length_set]; exact hl) (by
   intro j h1 h2
   by_cases e : j = i
   ·subst e
    rw [show out.set i (x / p ^ i % p) = out.set ((i : Int)).toNat (x / p ^ i % p) from rfl, rd_set_self (by omega) (by omega)]
    rfl
   ·rw [show out.set i (x / p ^ i % p) = out.set ((i : Int)).toNat (x / p ^ i % p) from rfl, rd_set_ne (by omega) h1 (by omega)]
    exact h j h1 (by omega))
  refine ⟨r, Ev.step (fun k => ?_) hr, hq⟩
  rw [r4_digits.l0, if_pos (by omega), if_neg (by omega), if_pos (by omega), if_pos (by omega), tmod_nn h0, Int.tdiv_eq_ediv_of_nonneg h0, w64 (by omega) (by omega), w64 (by omega) (by omega), Int.ediv_ediv, if_neg (by omega), Int.sub_zero, ← Int.pow_succ]
  rfl
theorem digits_eq {p : Int} (hp : 2 ≤ p) {n : Int} (hn0 : 0 ≤ n) (hn : n ≤ 1000) {x : Int} (hx : 0 ≤ x) (hx' : x < 9223372036854775808) :
  ∃ r, Ev (fun k => r4_digits.f k x p n) r ∧ ((r.length : Int) = n ∧ ∀ j : Int, 0 ≤ j → j < n → rd r j = x / p ^ j.toNat % p) := by
 obtain ⟨r, hr, hq⟩ := digits_l0 hp hn hx hx' n.toNat 0 (List.replicate n.toNat 0) (by omega) (by simp; omega) (fun j h1 h2 => by omega)
 rw [show x / p ^ 0 = x by rw [Int.pow_zero, Int.ediv_one]] at hr
 exact ⟨r, Ev.congr (fun k => by unfold r4_digits.f; rw [if_pos hn0, if_pos (by omega)]; rfl) hr, hq⟩
theorem digits_elem (h : Desc D P M Mod) (a : GF D) : Ev (fun k => r4_digits.f k a.1 P M) (digL a) := by
 have hp2 := h.p2
 have hm := h.hm
 have hm8 := h.hm8
 have hlt := a.lt h
 obtain ⟨r, hr, h1, h2⟩ := digits_eq (p := P) (n := M) (x := a.1) hp2 (by omega) (by omega) hlt.1 (by omega)
 have e : r = digL a := by
  apply list_ext_rd
  ·rw [digL_length]; omega
  ·intro i hi hi'
   rw [h2 i hi (by omega), digL_div a hi (by omega), h.hp]
 rwa [e] at hr
theorem Digits_eq (h : Desc D P M Mod) (x : Int) : Ev (fun k => r4_Digits.f k P M Mod x) (digL (inn D x)) := by
 unfold r4_Digits.f
 exact Ev.bind (In_eq h x) (Ev.bind (digits_elem h _) (ev_now fun k => rfl))
theorem drop_rd {l : List Int} {i : Nat} (h : i < l.length) : l.drop i = rd l i :: l.drop (i + 1) := by
 rw [List.drop_eq_getElem_cons h]
 unfold rd
 rw [List.getD_eq_getElem?_getD, show ((i : Int)).toNat = i from rfl, List.getElem?_eq_getElem h]
 rfl
theorem Value_l0 {p : Int} (hp : 2 ≤ p) {l : List Int} (hl : ∀ d ∈ l, 0 ≤ d ∧ d < p) (hb : p ^ l.length ≤ 1000000) (hll : l.length ≤ 1000) : ∀ (i : Nat), i ≤ l.length →
  Ev (fun k => r4_Value.l0 k l (lval p (l.drop i)) ((i : Int) - 1) p M Mod) (lval p l) := by
 intro i
 induction i with
 | zero => intro _; exact ev_succ (ev_now fun k => by rw [r4_Value.l0, if_neg (by omega)]; rfl)
 | succ i ih =>
  intro hi
  have e : lval p (l.drop i) = lval p (l.drop (i + 1)) * p + rd l i := by
   rw [drop_rd (by omega), lval_cons, Int.mul_comm, Int.add_comm]
  have hd := hl _ (rd_mem (i := (i : Int)) (by omega) (by omega))
  have hpl : p ≤ p ^ l.length := by
   obtain ⟨k, hk⟩ : ∃ k, l.length = k + 1 := ⟨l.length - 1, by omega⟩
   have h1 : 0 < p ^ k := Int.pow_pos (by omega)
   have := Int.mul_le_mul_of_nonneg_right (show 1 ≤ p ^ k by omega) (show 0 ≤ p by omega)
   rw [hk, Int.pow_succ]; omega
  have hbd : ∀ j, 0 ≤ lval p (l.drop j) ∧ lval p (l.drop j) < 1000000 := by
   intro j
   have h1 := lval_bd hp (l := l.drop j) (fun d hd => hl d (List.mem_of_mem_drop hd))
   have h2 : p ^ (l.drop j).length ≤ p ^ l.length := by
    rw [List.length_drop]
    obtain ⟨k, hk⟩ : ∃ k, l.length = (l.length - j) + k := ⟨l.length - (l.length - j), by omega⟩
    conv => rhs; rw [hk, Int.pow_add]
    have h3 : 0 < p ^ (l.length - j) := Int.pow_pos (by omega)
    have h4 : 0 < p ^ k := Int.pow_pos (by omega)
    have := Int.mul_le_mul_of_nonneg_left (show 1 ≤ p ^ k by omega) (show 0 ≤ p ^ (l.length - j) by omega)
    omega
   omega
  have b1 := hbd (i + 1)
  have b2 := hbd i
  refine Ev.step (fun k => ?_) (ih (by omega))
  rw [r4_Value.l0, if_pos (by omega), if_pos (by omega), if_pos (by omega), show ((i + 1 : Nat) : Int) - 1 = (i : Int) by omega, w64 (x := lval p (l.drop (i + 1)) * p) (by omega) (by omega), ← e, w64 (x := lval p (l.drop i)) (by omega) (by omega), w64 (by omega) (by omega)]
theorem Value_eq {p : Int} (hp : 2 ≤ p) {l : List Int} (hl : ∀ d ∈ l, 0 ≤ d ∧ d < p) (hb : p ^ l.length ≤ 1000000) (hl' : l.length ≤ 1000) : Ev (fun k => r4_Value.f k p M Mod l) (lval p l) := by
 have := Value_l0 (M := M) (Mod := Mod) hp hl hb hl' l.length (Nat.le_refl _)
 rw [List.drop_length] at this
 refine Ev.congr (fun k => ?_) this
 unfold r4_Value.f
 rw [w64 (by omega) (by omega)]
 rfl
theorem Value_elem (h : Desc D P M Mod) {l : List Int} (hl : l.length = D.m) (hd : ∀ d ∈ l, 0 ≤ d ∧ d < D.p) : Ev (fun k => r4_Value.f k P M Mod l) (gval D (lp D.toPr l)).1 := by
 have hq := h.hq
 have e : D.p ^ l.length = D.q := by rw [hl]; rfl
 have := Value_eq (M := M) (Mod := Mod) (p := P) h.p2 (l := l) (by rw [← h.hp]; exact hd) (by rw [← h.hp, e]; omega) (by have := h.hm; have := h.hm8; omega)
 rwa [← h.hp, lval_elem hl hd, h.hp] at this
end
section
variable {D : FD} {P M : Int} {Mod : List Int}
def DL (p : Int) (n : Int) (c : List Int) : Prop := (c.length : Int) = n ∧ ∀ t : Int, 0 ≤ t → t < n → 0 ≤ rd c t ∧ rd c t < p
theorem DL.set {p n : Int} {c : List Int} (h : DL p n c) {t v : Int} (ht : 0 ≤ t) (ht' : t < n) (h0 : 0 ≤ v) (hv : v < p) : DL p n (c.set t.toNat v) := by
 refine ⟨by rw [List.length_set]; exact h.1, fun s hs hs' => ?_⟩
 by_cases e : t = s
 ·subst e; rw [rd_set_self ht (by have := h.1; omega)]; exact ⟨h0, hv⟩
 ·rw [rd_set_ne ht hs e]; exact h.2 s hs hs'
theorem DL.mem {p n : Int} {c : List Int} (h : DL p n c) : ∀ d ∈ c, 0 ≤ d ∧ d < p := by
 intro d hd
 obtain ⟨i, h0, h1, rfl⟩ := mem_rd hd
 exact h.2 i h0 (by have := h.1; omega)
theorem DL_digL (h : Desc D P M Mod) (a : GF D) : DL P M (digL a) :=
 ⟨by rw [digL_length]; exact h.hm, fun t h0 h1 => by
   have := digL_mem a _ (rd_mem (xs := digL a) h0 (by rw [digL_length]; have := h.hm; omega))
   rw [h.hp] at this; exact this⟩
theorem mul_bd8 {a b : Int} (h1 : 0 ≤ a) (h2 : a ≤ 256) (h3 : 0 ≤ b) (h4 : b ≤ 256) : 0 ≤ a * b ∧ a * b ≤ 65536 :=
 ⟨Int.mul_nonneg h1 h3, Int.mul_le_mul h2 h4 h3 (by omega)⟩
theorem Mul_l1 (h : Desc D P M Mod) (a b : GF D) (i : Nat) (hi : i < D.m) (R : Int)
  (hk : ∀ c, DL P (2 * M - 1) c → (∀ t : Nat, (t : Int) < 2 * M - 1 → of D.toPr (rd c t) = sum (i + 1) (fun i' => cf a.dg b.dg i' t)) → Ev (fun k => r4_Mul.l0 k (digL a) (digL b) c ((i : Int) + 1) P M Mod) R) :
  ∀ (d : Nat) (j : Nat) (c : List Int), j + d = D.m → DL P (2 * M - 1) c →
   (∀ t : Nat, (t : Int) < 2 * M - 1 → of D.toPr (rd c t) = sum i (fun i' => cf a.dg b.dg i' t) + (if i ≤ t ∧ t - i < j then cf a.dg b.dg i t else 0)) →
   Ev (fun k => r4_Mul.l1 k (digL a) (digL b) c i j P M Mod) R := by
 have hm := h.hm
 have hm8 := h.hm8
 have hp2 := h.p2
 have hp256 := h.p256
 have hp := h.hp
 intro d
 induction d with
 | zero =>
  intro j c hj hc hs
  refine Ev.step (fun k => by rw [r4_Mul.l1, if_neg (by omega), w64 (by omega) (by omega)]) (hk c hc ?_)
  intro t ht
  rw [hs t ht, sum_succ]
  congr 1
  by_cases e : i ≤ t ∧ t - i < j
  ·rw [if_pos e]
  ·rw [if_neg e]
   unfold cf
   split
   ·rw [b.deg _ (by omega), mul_zero]
   ·rfl
 | succ d ih =>
  intro j c hj hc hs
  have ha := (DL_digL h a).2 i (by omega) (by omega)
  have hb := (DL_digL h b).2 j (by omega) (by omega)
  have hcc := hc.2 (i + j) (by omega) (by omega)
  have hab := mul_bd8 (a := rd (digL a) i) (b := rd (digL b) j) ha.1 (by omega) hb.1 (by omega)
  have he0 := Int.emod_nonneg (rd c (i + j) + rd (digL a) i * rd (digL b) j) (show P ≠ 0 by omega)
  have he1 := Int.emod_lt_of_pos (rd c (i + j) + rd (digL a) i * rd (digL b) j) (show 0 < P by omega)
  have hcl := hc.1
  refine Ev.step (fun k => ?_) (ih (j + 1) (c.set ((i : Int) + j).toNat ((rd c (i + j) + rd (digL a) i * rd (digL b) j) % P)) (by omega) (hc.set (by omega) (by omega) he0 he1) ?_)
  ·rw [r4_Mul.l1, if_pos (by omega), w64 (x := (i : Int) + j) (by omega) (by omega), if_pos (by omega), if_pos (by omega), if_pos (by omega), if_pos (by rw [digL_length]; omega), if_pos (by omega), if_pos (by rw [digL_length]; omega), if_neg (by omega),
    w64 (x := rd (digL a) i * rd (digL b) j) (by omega) (by omega), w64 (x := rd c (i + j) + rd (digL a) i * rd (digL b) j) (by omega) (by omega), tmod_nn (by omega), w64 (x := (j : Int) + 1) (by omega) (by omega)]
   rfl
  ·intro t ht
   by_cases e : (t : Int) = i + j
   ·rw [e, rd_set_self (by omega) (by omega), show of D.toPr ((rd c (i + j) + rd (digL a) i * rd (digL b) j) % P) = of D.toPr (rd c (i + j) + rd (digL a) i * rd (digL b) j) from of_eq.2 (by rw [hp]; exact Int.emod_emod_of_dvd _ (Int.dvd_refl P))]
    rw [← of_add, ← of_mul, show of D.toPr (rd c (i + j)) = of D.toPr (rd c t) by rw [e], hs t ht, if_neg (by omega), add_zero, if_pos (by omega)]
    congr 1
    unfold cf
    rw [if_pos (by omega), digL_rd a (by omega) (by omega), digL_rd b (by omega) (by omega), of_self, of_self, show t - i = j by omega]
    rfl
   ·rw [rd_set_ne (by omega) (by omega) (by omega), hs t ht]
    congr 1
    by_cases e2 : i ≤ t ∧ t - i < j
    ·rw [if_pos e2, if_pos (by omega)]
    ·rw [if_neg e2, if_neg (by omega)]
theorem Mul_l0 (h : Desc D P M Mod) (a b : GF D) (R : Int)
  (hk : ∀ c, DL P (2 * M - 1) c → (∀ t : Nat, (t : Int) < 2 * M - 1 → of D.toPr (rd c t) = pmul a.dg b.dg t) → Ev (fun k => r4_Mul.l2 k c (2 * M - 2) P M Mod) R) :
  ∀ (d : Nat) (i : Nat) (c : List Int), i + d = D.m → DL P (2 * M - 1) c → (∀ t : Nat, (t : Int) < 2 * M - 1 → of D.toPr (rd c t) = sum i (fun i' => cf a.dg b.dg i' t)) →
   Ev (fun k => r4_Mul.l0 k (digL a) (digL b) c i P M Mod) R := by
 have hm := h.hm
 have hm8 := h.hm8
 intro d
 induction d with
 | zero =>
  intro i c hi hc hs
  refine Ev.step (fun k => by rw [r4_Mul.l0, if_neg (by omega), w64 (x := 2 * M) (by omega) (by omega), w64 (by omega) (by omega)]) (hk c hc ?_)
  intro t ht
  rw [hs t ht]
  exact (conv_cf _ _ i (by rw [show i = D.m by omega]; exact a.deg) t).symm
 | succ d ih =>
  intro i c hi hc hs
  refine Ev.step (fun k => by rw [r4_Mul.l0, if_pos (by omega)]) ?_
  refine Mul_l1 h a b i (by omega) R (fun c' hc' hs' => ih (i + 1) c' (by omega) hc' hs') D.m 0 c (by omega) hc ?_
  intro t ht
  rw [hs t ht, if_neg (by omega), add_zero]
theorem Mul_l3 (h : Desc D P M Mod) (h1M : 1 < M) (i : Nat) (hi : (D.m : Int) ≤ i) (hi' : (i : Int) < 2 * M - 1) (c0 : List Int) (R : Int)
  (hk : ∀ c, DL P (2 * M - 1) c → (∀ t : Nat, t < i → of D.toPr (rd c t) = of D.toPr (rd c0 t) + (if i - D.m ≤ t then -(of D.toPr (rd c0 i) * D.F (t - (i - D.m))) else 0)) → Ev (fun k => r4_Mul.l2 k c ((i : Int) - 1) P M Mod) R) :
  ∀ (d : Nat) (j : Nat) (c : List Int), j + d = D.m → DL P (2 * M - 1) c → rd c i = rd c0 i →
   (∀ t : Nat, t < i → of D.toPr (rd c t) = of D.toPr (rd c0 t) + (if i - D.m ≤ t ∧ t < i - D.m + j then -(of D.toPr (rd c0 i) * D.F (t - (i - D.m))) else 0)) →
   Ev (fun k => r4_Mul.l3 k c i j P M Mod) R := by
 have hm := h.hm
 have hm8 := h.hm8
 have hp2 := h.p2
 have hp256 := h.p256
 have hp := h.hp
 have hlen := h.len h1M
 intro d
 induction d with
 | zero =>
  intro j c hj hc hci hs
  refine Ev.step (fun k => by rw [r4_Mul.l3, if_neg (by omega), w64 (by omega) (by omega)]) (hk c hc ?_)
  intro t ht
  rw [hs t ht]
  congr 1
  by_cases e : i - D.m ≤ t
  ·rw [if_pos e, if_pos (by omega)]
  ·rw [if_neg e, if_neg (by omega)]
 | succ d ih =>
  intro j c hj hc hci hs
  have hcl := hc.1
  have hlow := h.low h1M j (by omega)
  have hF := (D.F j).2
  rw [← hlow, hp] at hF
  have h1 := hc.2 i (by omega) hi'
  have h2 := hc.2 ((i : Int) - M + j) (by omega) (by omega)
  have h3 := mul_bd8 (a := P - rd c i) (b := rd Mod j) (by omega) (by omega) hF.1 (by omega)
  have he0 := Int.emod_nonneg (rd c ((i : Int) - M + j) + (P - rd c i) * rd Mod j) (show P ≠ 0 by omega)
  have he1 := Int.emod_lt_of_pos (rd c ((i : Int) - M + j) + (P - rd c i) * rd Mod j) (show 0 < P by omega)
  refine Ev.step (fun k => ?_) (ih (j + 1) (c.set ((i : Int) - M + j).toNat ((rd c ((i : Int) - M + j) + (P - rd c i) * rd Mod j) % P)) (by omega) (hc.set (by omega) (by omega) he0 he1) ?_ ?_)
  ·rw [r4_Mul.l3, if_pos (by omega), w64 (x := (i : Int) - M) (by omega) (by omega), w64 (x := (i : Int) - M + j) (by omega) (by omega), if_pos (by omega), if_pos (by omega), if_pos (by omega), if_pos (by omega), if_pos (by omega), if_pos (by omega), if_neg (by omega),
    w64 (x := P - rd c i) (by omega) (by omega), w64 (x := (P - rd c i) * rd Mod j) (by omega) (by omega), w64 (x := rd c ((i : Int) - M + j) + (P - rd c i) * rd Mod j) (by omega) (by omega), tmod_nn (by omega), w64 (x := (j : Int) + 1) (by omega) (by omega)]
   rfl
  ·rw [rd_set_ne (by omega) (by omega) (by omega), hci]
  ·intro t ht
   by_cases e : (t : Int) = i - M + j
   ·rw [e, rd_set_self (by omega) (by omega), show of D.toPr ((rd c ((i : Int) - M + j) + (P - rd c i) * rd Mod j) % P) = of D.toPr (rd c ((i : Int) - M + j) + (P - rd c i) * rd Mod j) from of_eq.2 (by rw [hp]; exact Int.emod_emod_of_dvd _ (Int.dvd_refl P))]
    rw [← of_add, ← of_mul, show of D.toPr (rd c ((i : Int) - M + j)) = of D.toPr (rd c t) by rw [e], hs t ht, if_neg (by omega), add_zero, if_pos (by omega), ← e]
    congr 1
    have e3 : of D.toPr (P - rd c i) = -of D.toPr (rd c0 i) := by
     rw [of_neg, hci, of_eq, hp, show P - rd c0 i = -rd c0 i + P * 1 by omega, Int.add_mul_emod_self_left]
    rw [e3, hlow, of_self, neg_mul, show t - (i - D.m) = j by omega]
   ·rw [rd_set_ne (by omega) (by omega) (by omega), hs t ht]
    congr 1
    by_cases e2 : i - D.m ≤ t ∧ t < i - D.m + j
    ·rw [if_pos e2, if_pos (by omega)]
    ·rw [if_neg e2, if_neg (by omega)]
theorem Mul_l2 (h : Desc D P M Mod) (a b : GF D) : ∀ (i : Nat) (c : List Int), (D.m : Int) ≤ i + 1 → (i : Int) < 2 * M - 1 → DL P (2 * M - 1) c → Cong D.F (pmul a.dg b.dg) (cut D.toPr (i + 1) c) →
  Ev (fun k => r4_Mul.l2 k c i P M Mod) (a * b).1 := by
 have hm := h.hm
 have hm8 := h.hm8
 have hp2 := h.p2
 have hp := h.hp
 have hm1 := h.m1
 intro i
 induction i with
 | zero =>
  intro c hi hi' hc hcong
  have hcl := hc.1
  have hm1' : D.m = 1 := by have := D.hm; omega
  have e : cut D.toPr (0 + 1) c = (a * b).dg := (hcong.symm.trans (dg_mul a b)).unique D.monic (by rw [hm1']; exact cut_deg _ _ _) (a * b).deg
  have hv := Value_elem h (l := c.take M.toNat) (by rw [List.length_take]; omega) (fun d hd => by
   rw [hp]; exact hc.mem d (List.mem_of_mem_take hd))
  rw [cut_take (by omega), show M.toNat = 0 + 1 by omega, e] at hv
  have e2 : gval D (a * b).dg = a * b := GF.ext (dg_gval (a * b).deg)
  rw [e2] at hv
  refine Ev.step (fun k => by rw [r4_Mul.l2, if_neg (by omega), if_pos (by omega), if_pos (by omega)]) ?_
  refine Ev.bind (a := (a * b).1) ?_ (ev_now fun k => rfl)
  rwa [show M.toNat = 0 + 1 by omega]
 | succ i ih =>
  intro c hi hi' hc hcong
  have hcl := hc.1
  by_cases hge : (D.m : Int) ≤ i + 1
  ·refine Ev.step (fun k => by rw [r4_Mul.l2, if_pos (by omega)]) ?_
   refine Mul_l3 h (by omega) (i + 1) (by omega) hi' c _ (fun c' hc' hs' => ?_) D.m 0 c (by omega) hc rfl (fun t ht => by rw [if_neg (by omega), add_zero])
   rw [show ((i + 1 : Nat) : Int) - 1 = (i : Int) by omega]
   refine ih c' (by omega) (by omega) hc' (hcong.trans ?_)
   refine ⟨monom (i + 1 - D.m) (of D.toPr (rd c ((i + 1 : Nat) : Int))), _, monom_deg _ _, ?_⟩
   funext t
   show cut D.toPr (i + 1 + 1) c t = cut D.toPr (i + 1) c' t + pmul _ D.F t
   rw [monom_pmul]
   unfold cut
   by_cases e1 : t < i + 1
   ·rw [if_pos (by omega), if_pos e1, hs' t e1]
    by_cases e2 : i + 1 - D.m ≤ t
    ·rw [if_pos e2, if_pos e2, add_assoc, neg_add, add_zero]
    ·rw [if_neg e2, if_neg e2, add_zero, add_zero]
   ·rw [if_neg e1, zero_add]
    by_cases e2 : t = i + 1
    ·subst e2
     rw [if_pos (by omega), if_pos (by omega), show i + 1 - (i + 1 - D.m) = D.m by omega, D.monic.1, mul_one]
    ·rw [if_neg (by omega)]
     split
     ·rw [D.monic.2 _ (by omega), mul_zero]
     ·rfl
  ·have hmi : D.m = i + 1 + 1 := by omega
   have e : cut D.toPr (i + 1 + 1) c = (a * b).dg := (hcong.symm.trans (dg_mul a b)).unique D.monic (by rw [hmi]; exact cut_deg _ _ _) (a * b).deg
   have hv := Value_elem h (l := c.take M.toNat) (by rw [List.length_take]; omega) (fun d hd => by
    rw [hp]; exact hc.mem d (List.mem_of_mem_take hd))
   rw [cut_take (by omega), show M.toNat = i + 1 + 1 by omega, e] at hv
   have e2 : gval D (a * b).dg = a * b := GF.ext (dg_gval (a * b).deg)
   rw [e2] at hv
   refine Ev.step (fun k => by rw [r4_Mul.l2, if_neg (by omega), if_pos (by omega), if_pos (by omega)]) ?_
   refine Ev.bind (a := (a * b).1) ?_ (ev_now fun k => rfl)
   rwa [show M.toNat = i + 1 + 1 by omega]
theorem Mul_eq (h : Desc D P M Mod) (x y : Int) : Ev (fun k => r4_Mul.f k P M Mod x y) (inn D x * inn D y).1 := by
 have hm := h.hm
 have hm8 := h.hm8
 have hm1 := h.m1
 have hp2 := h.p2
 unfold r4_Mul.f
 refine Ev.bind (Digits_eq h x) (Ev.bind (Digits_eq h y) ?_)
 refine Ev.congr (fun k => by rw [w64 (x := 2 * M) (by omega) (by omega), w64 (x := 2 * M - 1) (by omega) (by omega), if_pos (by omega), if_pos (by omega)]) ?_
 refine Mul_l0 h _ _ _ (fun c hc hs => ?_) D.m 0 (List.replicate (2 * M - 1).toNat 0) (by omega) ⟨by simp; omega, fun t _ _ => by rw [rd_replicate]; omega⟩ (fun t ht => by rw [rd_replicate]; rfl)
 have := Mul_l2 h (inn D x) (inn D y) (2 * D.m - 2) c (by omega) (by omega) hc ?_
 ·rwa [show ((2 * D.m - 2 : Nat) : Int) = 2 * M - 2 by omega] at this
 ·rw [show cut D.toPr (2 * D.m - 2 + 1) c = pmul (inn D x).dg (inn D y).dg from ?_]
  ·exact Cong.refl _ _
  ·funext t
   unfold cut
   by_cases e : t < 2 * D.m - 2 + 1
   ·rw [if_pos e, hs t (by omega)]
   ·rw [if_neg e]
    have hd := ((inn D x).deg.mono (by omega) : DegLt (inn D x).dg (D.m - 1 + 1)).pmul (inn D y).deg
    exact (hd t (by omega)).symm
theorem MulOrder_l0 (h : Desc D P M Mod) (x : GF D) (n : Nat) (hn : IsOrd x n) (hn' : n ≤ 256) : ∀ (d : Nat) (j : Nat), j + d = n → 1 ≤ j →
  Ev (fun k => r4_MulOrder.l0 k x.1 j (pow x j).1 P M Mod) n := by
 intro d
 induction d with
 | zero =>
  intro j hj h1
  obtain rfl : j = n := by omega
  exact ev_succ (ev_now fun k => by rw [r4_MulOrder.l0, if_pos (by rw [hn.2.1]; rfl)])
 | succ d ih =>
  intro j hj h1
  refine Ev.step (fun k => by rw [r4_MulOrder.l0, if_neg (fun e => hn.2.2 j h1 (by omega) (GF.val_one.1 e))]) ?_
  have := Mul_eq h (pow x j).1 x.1
  rw [inn_self, inn_self, mul_comm, ← pow_succ] at this
  refine Ev.bind this (Ev.congr (fun k => by rw [w64 (by omega) (by omega)]; rfl) (ih (j + 1) (by omega) (by omega)))
theorem MulOrder_eq (h : Desc D P M Mod) (x : GF D) (hx : x ≠ 0) (n : Nat) (hn : IsOrd x n) : Ev (fun k => r4_MulOrder.f k P M Mod x.1) n := by
 have hi := In_eq h x.1
 rw [inn_self] at hi
 obtain ⟨k, hk, hkd⟩ := (elems_full D).ord hx
 have hkn := hk.unique hn
 have hq := h.hq
 have hl := elems_length D
 have := Nat.le_of_dvd (by have := (elems_full D).two; omega) hkd
 have := MulOrder_l0 h x n hn (by omega) (n - 1) 1 (by have := hn.1; omega) (by omega)
 rw [pow_one] at this
 exact Ev.bind hi (Ev.congr (fun k => by rw [if_neg (fun e => hx (GF.val_zero.1 e))]; rfl) this)
end
section
variable {Q : Pr}
theorem Div_l2 {r : List Int} (hl : r.length ≤ 1000) : ∀ (d : Nat) (i : Int), 0 ≤ i → i + d = r.length → (∀ j, 0 ≤ j → j < i → rd r j = 0) → ∃ b, Ev (fun k => r4_divides.l2 k r i) b ∧ (b = true ↔ ∀ j : Int, 0 ≤ j → j < r.length → rd r j = 0) := by
 intro d
 induction d with
 | zero =>
  intro i hi hd h
  exact ⟨true, ev_succ (ev_now fun k => by rw [r4_divides.l2, if_neg (by omega)]), fun _ j h1 h2 => h j h1 (by omega), fun _ => rfl⟩
 | succ d ih =>
  intro i hi hd h
  by_cases e : rd r i = 0
  ·obtain ⟨b, hb, hq⟩ := ih (i + 1) (by omega) (by omega) (fun j h1 h2 => by
    by_cases e' : j = i
    ·subst e'; exact e
    ·exact h j h1 (by omega))
   exact ⟨b, Ev.step (fun k => by rw [r4_divides.l2, if_pos (by omega), if_pos hi, if_pos e, w64 (by omega) (by omega)]) hb, hq⟩
  ·exact ⟨false, ev_succ (ev_now fun k => by rw [r4_divides.l2, if_pos (by omega), if_pos hi, if_neg e]), ⟨fun h => absurd h (by simp), fun h => absurd (h i hi (by omega)) e⟩⟩
theorem Div_l1 (hp256 : Q.p ≤ 256) {low : List Int} (hlow : DLn Q.p low) (hdl : low.length ≤ 100) (i : Nat) (hi : low.length ≤ i) (c0 : List Int) (hi' : i < c0.length) (hc0 : c0.length ≤ 200) (h0 : DLn Q.p c0) (R : Bool → Prop)
  (hk : ∀ c, c.length = c0.length → DLn Q.p c → rd c i = 0 → (∀ t : Nat, t < i → of Q (rd c t) = of Q (rd c0 t) + (if i - low.length ≤ t then -(of Q (rd c0 i) * of Q (rd low ((t - (i - low.length) : Nat) : Int))) else 0)) → (∀ t : Nat, i < t → rd c t = rd c0 t) → ∃ b, Ev (fun k => r4_divides.l0 k low Q.p low.length c ((i : Int) - 1)) b ∧ R b) :
  ∀ (d : Nat) (j : Nat) (c : List Int), j + d = low.length → c.length = c0.length → DLn Q.p c → rd c i = rd c0 i → (∀ t : Nat, i < t → rd c t = rd c0 t) →
   (∀ t : Nat, t < i → of Q (rd c t) = of Q (rd c0 t) + (if i - low.length ≤ t ∧ t < i - low.length + j then -(of Q (rd c0 i) * of Q (rd low ((t - (i - low.length) : Nat) : Int))) else 0)) →
   ∃ b, Ev (fun k => r4_divides.l1 k low Q.p low.length c i (rd c0 i) j) b ∧ R b := by
 have hp2 := Q.two
 intro d
 induction d with
 | zero =>
  intro j c hj hl hc hci hgt hs
  obtain ⟨b, hb, hR⟩ := hk (c.set i 0) (by rw [List.length_set]; exact hl) (hc.set (t := (i : Int)) (by omega) (by omega) (by omega) (by omega)) (by exact rd_set_self (i := (i : Int)) (by omega) (by omega)) (fun t ht => by
   rw [show c.set i 0 = c.set ((i : Int)).toNat 0 from rfl, rd_set_ne (by omega) (by omega) (by omega), hs t ht]
   congr 1
   by_cases e : i - low.length ≤ t
   ·rw [if_pos e, if_pos (by omega)]
   ·rw [if_neg e, if_neg (by omega)]) (fun t ht => by
   rw [show c.set i 0 = c.set ((i : Int)).toNat 0 from rfl, rd_set_ne (by omega) (by omega) (by omega), hgt t ht])
  exact ⟨b, Ev.step (fun k => by rw [r4_divides.l1, if_neg (by omega), if_pos (by omega), if_pos (by omega), w64 (by omega) (by omega)]; rfl) hb, hR⟩
 | succ d ih =>
  intro j c hj hl hc hci hgt hs
  have h1 := h0 i (by omega) (by omega)
  have h2 := hc ((i : Int) - low.length + j) (by omega) (by omega)
  have hF := hlow j (by omega) (by omega)
  have h3 : 0 ≤ (Q.p - rd c0 i) * rd low j ∧ (Q.p - rd c0 i) * rd low j ≤ 65536 := ⟨Int.mul_nonneg (by omega) hF.1, Int.mul_le_mul (c := 256) (d := 256) (by omega) (by omega) hF.1 (by omega)⟩
  have he0 := Int.emod_nonneg (rd c ((i : Int) - low.length + j) + (Q.p - rd c0 i) * rd low j) (show Q.p ≠ 0 by omega)
  have he1 := Int.emod_lt_of_pos (rd c ((i : Int) - low.length + j) + (Q.p - rd c0 i) * rd low j) (show 0 < Q.p by omega)
  obtain ⟨b, hb, hR⟩ := ih (j + 1) (c.set ((i : Int) - low.length + j).toNat ((rd c ((i : Int) - low.length + j) + (Q.p - rd c0 i) * rd low j) % Q.p)) (by omega) (by rw [List.length_set]; exact hl) (hc.set (by omega) (by omega) he0 he1) (by rw [rd_set_ne (by omega) (by omega) (by omega), hci]) (fun t ht => by rw [rd_set_ne (by omega) (by omega) (by omega), hgt t ht]) (by
   intro t ht
   by_cases e : (t : Int) = i - low.length + j
   ·rw [e, rd_set_self (by omega) (by omega), show of Q ((rd c ((i : Int) - low.length + j) + (Q.p - rd c0 i) * rd low j) % Q.p) = of Q (rd c ((i : Int) - low.length + j) + (Q.p - rd c0 i) * rd low j) from of_eq.2 (Int.emod_emod_of_dvd _ (Int.dvd_refl Q.p))]
    rw [← of_add, ← of_mul, show of Q (rd c ((i : Int) - low.length + j)) = of Q (rd c t) by rw [e], hs t ht, if_neg (by omega), add_zero, if_pos (by omega), ← e]
    congr 1
    have e3 : of Q (Q.p - rd c0 i) = -of Q (rd c0 i) := by
     rw [of_neg, of_eq, show Q.p - rd c0 i = -rd c0 i + Q.p * 1 by omega, Int.add_mul_emod_self_left]
    rw [e3, neg_mul, show ((t - (i - low.length) : Nat) : Int) = j by omega]
   ·rw [rd_set_ne (by omega) (by omega) (by omega), hs t ht]
    congr 1
    by_cases e2 : i - low.length ≤ t ∧ t < i - low.length + j
    ·rw [if_pos e2, if_pos (by omega)]
    ·rw [if_neg e2, if_neg (by omega)])
  refine ⟨b, Ev.step (fun k => ?_) hb, hR⟩
  rw [r4_divides.l1, if_pos (by omega), w64 (x := (i : Int) - low.length) (by omega) (by omega), w64 (x := (i : Int) - low.length + j) (by omega) (by omega), if_pos (by omega), if_pos (by omega), if_pos (by omega), if_pos (by omega), if_neg (by omega),
   w64 (x := Q.p - rd c0 i) (by omega) (by omega), w64 (x := (Q.p - rd c0 i) * rd low j) (by omega) (by omega), w64 (x := rd c ((i : Int) - low.length + j) + (Q.p - rd c0 i) * rd low j) (by omega) (by omega), tmod_nn (by omega), w64 (x := (j : Int) + 1) (by omega) (by omega)]
  rfl
theorem Div_l0 (hp256 : Q.p ≤ 256) {low : List Int} (hlow : DLn Q.p low) (hdl : low.length ≤ 100) (hd1 : 1 ≤ low.length) (F : Pol (Zp Q)) :
  ∀ (e : Nat) (c : List Int), low.length + e ≤ c.length → c.length ≤ 200 → DLn Q.p c → (∀ t : Nat, low.length + e ≤ t → rd c t = 0) → Cong (mon Q low.length low) F (cut Q (low.length + e) c) →
   ∃ b, Ev (fun k => r4_divides.l0 k low Q.p low.length c (((low.length + e : Nat) : Int) - 1)) b ∧ (b = true ↔ Cong (mon Q low.length low) F pzero) := by
 have hp2 := Q.two
 intro e
 induction e with
 | zero =>
  intro c hl hl2 hc hz hcong
  obtain ⟨b, hb, hq⟩ := Div_l2 (r := c) (by omega) c.length 0 (by omega) (by omega) (fun j h1 h2 => by omega)
  refine ⟨b, Ev.step (fun k => by rw [r4_divides.l0, if_neg (by omega)]) hb, ?_⟩
  rw [hq]
  have hcz : (∀ j : Int, 0 ≤ j → j < c.length → rd c j = 0) ↔ cut Q (low.length + 0) c = pzero := by
   constructor
   ·intro h
    funext t
    unfold cut
    split
    ·rw [h t (by omega) (by omega)]; rfl
    ·rfl
   ·intro h j h1 h2
    by_cases e' : j < low.length
    ·have := congrFun h j.toNat
     unfold cut at this
     rw [if_pos (by omega), show ((j.toNat : Nat) : Int) = j by omega] at this
     have h3 := of_eq_zero.1 this
     have h4 := hc j h1 h2
     obtain ⟨z, hz'⟩ := h3
     have hz0 : z = 0 := by
      apply Decidable.byContradiction
      intro hne
      by_cases hpos : 0 < z
      ·have := Int.mul_le_mul_of_nonneg_left (show 1 ≤ z by omega) (show 0 ≤ Q.p by omega)
       omega
      ·have := Int.mul_le_mul_of_nonneg_left (show z ≤ -1 by omega) (show 0 ≤ Q.p by omega)
       omega
     rw [hz', hz0, Int.mul_zero]
    ·have := hz j.toNat (by omega)
     rwa [show ((j.toNat : Nat) : Int) = j by omega] at this
  rw [hcz]
  constructor
  ·intro h; rw [h] at hcong; exact hcong
  ·intro h; exact (hcong.symm.trans h).unique (mon_monic Q _ _) (cut_deg _ _ _) (DegLt.pzero _)
 | succ e ih =>
  intro c hl hl2 hc hz hcong
  have hrd := hc ((low.length + e : Nat) : Int) (by omega) (by omega)
  obtain ⟨b, hb, hq⟩ := Div_l1 hp256 hlow hdl (low.length + e) (by omega) c (by omega) hl2 hc (fun b => b = true ↔ Cong (mon Q low.length low) F pzero) (by
   intro c' hl' hc' hci' hs' hgt'
   refine ih c' (by omega) (by omega) hc' (fun t ht => ?_) (hcong.trans ?_)
   ·by_cases e' : t = low.length + e
    ·subst e'; exact hci'
    ·rw [hgt' t (by omega)]; exact hz t (by omega)
   ·refine ⟨monom e (of Q (rd c ((low.length + e : Nat) : Int))), _, monom_deg _ _, ?_⟩
    funext t
    show cut Q (low.length + (e + 1)) c t = cut Q (low.length + e) c' t + pmul _ (mon Q low.length low) t
    rw [monom_pmul]
    unfold cut mon
    by_cases e1 : t < low.length + e
    ·rw [if_pos (by omega), if_pos e1, hs' t e1]
     by_cases e2 : e ≤ t
     ·rw [if_pos (by omega), if_pos e2, if_pos (by omega), show low.length + e - low.length = e by omega, add_assoc, neg_add, add_zero]
     ·rw [if_neg (by omega), if_neg e2, add_zero, add_zero]
    ·rw [if_neg e1, zero_add]
     by_cases e2 : t = low.length + e
     ·subst e2
      rw [if_pos (by omega), if_pos (by omega), if_neg (by omega), if_pos (by omega), mul_one]
     ·rw [if_neg (by omega)]
      split
      ·rw [if_neg (by omega), if_neg (by omega), mul_zero]
      ·rfl) low.length 0 c (by omega) rfl hc rfl (fun t ht => rfl) (fun t ht => by rw [if_neg (by omega), add_zero])
  refine ⟨b, Ev.step (fun k => ?_) hb, hq⟩
  rw [show ((low.length + (e + 1) : Nat) : Int) - 1 = ((low.length + e : Nat) : Int) by omega, r4_divides.l0, if_pos (by omega), if_pos (by omega), if_pos (by omega)]
  rfl
theorem divides_eq (hp256 : Q.p ≤ 256) {low md : List Int} (hlow : DLn Q.p low) (hmd : DLn Q.p md) (hd1 : 1 ≤ low.length) (hdm : low.length ≤ md.length) (hm : md.length ≤ 100) :
  ∃ b, Ev (fun k => r4_divides.f k low md Q.p) b ∧ (b = true ↔ ∃ h n, DegLt h n ∧ mon Q md.length md = pmul h (mon Q low.length low)) := by
 have hp2 := Q.two
 have hrd : ∀ t : Int, 0 ≤ t → t < md.length → rd (md ++ [1]) t = rd md t := fun t h1 h2 => rd_append_left h1 h2
 have hrd1 : rd (md ++ [1]) md.length = 1 := rd_append_self
 obtain ⟨b, hb, hq⟩ := Div_l0 hp256 hlow (by omega) hd1 (mon Q md.length md) (md.length + 1 - low.length) (md ++ [1]) (by simp; omega) (by simp; omega) (fun t h1 h2 => by
  by_cases e : t < md.length
  ·rw [hrd t h1 e]; exact hmd t h1 e
  ·rw [show t = md.length by simp at h2; omega, hrd1]; omega) (fun t ht => by
  unfold rd
  rw [List.getD_eq_getElem?_getD, List.getElem?_eq_none (by simp; omega)]; rfl) (by
  rw [show cut Q (low.length + (md.length + 1 - low.length)) (md ++ [1]) = mon Q md.length md from ?_]
  ·exact Cong.refl _ _
  ·funext t
   unfold cut mon
   by_cases e : t < md.length
   ·rw [if_pos (by omega), if_pos e, hrd t (by omega) (by omega)]
   ·rw [if_neg e]
    by_cases e2 : t = md.length
    ·subst e2; rw [if_pos (by omega), if_pos rfl, hrd1]; rfl
    ·rw [if_neg (by omega), if_neg e2])
 rw [cong_zero] at hq
 refine ⟨b, Ev.congr (fun k => ?_) hb, hq⟩
 unfold r4_divides.f
 rw [Option.bind_some, if_pos (by simp; omega), Option.bind_some, if_pos (by simp; omega), Option.bind_some, List.nil_append, w64 (by simp) (by simp; omega)]
 congr 1
 simp
 omega
end
theorem prime_l0 {n : Int} (hn : 2 ≤ n) (hn' : n ≤ 256) : ∀ (e : Nat) (d : Int), 2 ≤ d → d + e = n → (∀ c, 2 ≤ c → c < d → ¬ c ∣ n) →
  ∃ b, Ev (fun k => r4_prime.l0 k n d) b ∧ (b = true ↔ ∀ c : Int, 2 ≤ c → c < n → ¬ c ∣ n) := by
 intro e
 induction e with
 | zero =>
  intro d hd he h
  exact ⟨true, ev_succ (ev_now fun k => by rw [r4_prime.l0, if_neg (by omega)]), ⟨fun _ c h1 h2 => h c h1 (by omega), fun _ => rfl⟩⟩
 | succ e ih =>
  intro d hd he h
  by_cases e0 : n % d = 0
  ·exact ⟨false, ev_succ (ev_now fun k => by rw [r4_prime.l0, if_pos (by omega), if_neg (by omega), tmod_nn (by omega), if_pos e0]), ⟨fun h => absurd h (by simp), fun h => absurd (Int.dvd_of_emod_eq_zero e0) (h d hd (by omega))⟩⟩
  ·obtain ⟨b, hb, hq⟩ := ih (d + 1) (by omega) (by omega) (fun c h1 h2 => by
    by_cases e' : c = d
    ·subst e'; exact fun hdv => e0 (Int.emod_eq_zero_of_dvd hdv)
    ·exact h c h1 (by omega))
   exact ⟨b, Ev.step (fun k => by rw [r4_prime.l0, if_pos (by omega), if_neg (by omega), tmod_nn (by omega), if_neg e0, w64 (by omega) (by omega)]) hb, hq⟩
theorem prime_eq {n : Int} (hn : 2 ≤ n) (hn' : n ≤ 256) : ∃ b, Ev (fun k => r4_prime.f k n) b ∧ (b = true ↔ ∀ c : Int, 2 ≤ c → c < n → ¬ c ∣ n) :=
 prime_l0 hn hn' (n - 2).toNat 2 (by omega) (by omega) (fun c h1 h2 => by omega)
theorem Order_gen_l0 {P M : Int} (Mod : List Int) (hP : 2 ≤ P) (hM : 1 ≤ M) (hM8 : M ≤ 8) : ∀ (d : Nat) (i : Nat), i + d = M.toNat → P ^ i ≤ 256 →
  ∃ q, Ev (fun k => r4_Order.l0 k (P ^ i) i P M Mod) q ∧ ((q = 0 ∧ ¬ InR P M) ∨ (q = P ^ M.toNat ∧ InR P M)) := by
 intro d
 induction d with
 | zero =>
  intro i hi h
  refine ⟨P ^ i, ev_succ (ev_now fun k => by rw [r4_Order.l0, if_neg (by omega)]), .inr ⟨by rw [show i = M.toNat by omega], hP, hM, hM8, by rw [show M.toNat = i by omega]; exact h⟩⟩
 | succ d ih =>
  intro i hi h
  have h1 : 0 < P ^ i := Int.pow_pos (by omega)
  have h5 : 256 / P ≤ 256 := Int.ediv_le_self _ (by omega)
  have h7 : 0 ≤ 256 / P := Int.ediv_nonneg (by omega) (by omega)
  have h6 : 0 < P ^ i * P := Int.mul_pos h1 (by omega)
  by_cases e : P ^ i ≤ 256 / P
  ·have h2 := (Int.le_ediv_iff_mul_le (by omega)).1 e
   obtain ⟨q, hq, hor⟩ := ih (i + 1) (by omega) (by rw [Int.pow_succ]; exact h2)
   refine ⟨q, Ev.step (fun k => ?_) hq, hor⟩
   rw [r4_Order.l0, if_pos (by omega), if_neg (by omega), Int.tdiv_eq_ediv_of_nonneg (a := (256 : Int)) (by omega), w64 (x := 256 / P) (by omega) (by omega), if_neg (by omega), w64 (x := P ^ i * P) (by omega) (by omega), w64 (by omega) (by omega), Int.pow_succ]
   rfl
  ·refine ⟨0, ev_succ (ev_now fun k => ?_), .inl ⟨rfl, fun hR => ?_⟩⟩
   ·rw [r4_Order.l0, if_pos (by omega), if_neg (by omega), Int.tdiv_eq_ediv_of_nonneg (a := (256 : Int)) (by omega), w64 (x := 256 / P) (by omega) (by omega), if_pos (by omega)]
   ·apply e
    rw [Int.le_ediv_iff_mul_le (by omega)]
    have e9 : P ^ (i + 1) = P ^ i * P := Int.pow_succ P i
    have := pow_mono (show 1 ≤ P by omega) (show i + 1 ≤ M.toNat by omega)
    have := hR.2.2.2
    omega
theorem Order_gen (P M : Int) (Mod : List Int) : ∃ q, Ev (fun k => r4_Order.f k P M Mod) q ∧ ((q = 0 ∧ ¬ InR P M) ∨ (q = P ^ M.toNat ∧ InR P M)) := by
 have z : Ev (fun k => r4_Order.j0 k true P M Mod) 0 := ev_succ (ev_now fun k => by rw [r4_Order.j0, if_pos rfl])
 by_cases e1 : P < 2
 ·exact ⟨0, Ev.congr (fun k => by unfold r4_Order.f; rw [if_pos e1]) z, .inl ⟨rfl, fun h => by have := h.1; omega⟩⟩
 ·by_cases e2 : M < 1
  ·exact ⟨0, Ev.congr (fun k => by unfold r4_Order.f; rw [if_neg e1, if_pos e2]) z, .inl ⟨rfl, fun h => by have := h.2.1; omega⟩⟩
  ·by_cases e3 : M > 8
   ·exact ⟨0, Ev.congr (fun k => by unfold r4_Order.f; rw [if_neg e1, if_neg e2, decide_eq_true e3]) z, .inl ⟨rfl, fun h => by have := h.2.2.1; omega⟩⟩
   ·obtain ⟨q, hq, hor⟩ := Order_gen_l0 (P := P) (M := M) Mod (by omega) (by omega) (by omega) M.toNat 0 (by omega) (by rw [Int.pow_zero]; omega)
    rw [Int.pow_zero] at hq
    refine ⟨q, Ev.congr (fun k => by unfold r4_Order.f; rw [if_neg e1, if_neg e2, decide_eq_false e3]) ?_, hor⟩
    exact Ev.step (fun k => by rw [r4_Order.j0, if_neg (by simp)]; rfl) hq
section
variable {Q : Pr}
theorem low_of {low r : List Int} (hlow : DLn Q.p low) (hr : (r.length : Int) = low.length) (hrd : ∀ j : Int, 0 ≤ j → j < low.length → rd r j = lval Q.p low / Q.p ^ j.toNat % Q.p) : r = low := by
 apply list_ext_rd (by omega)
 intro i h0 h1
 rw [hrd i h0 (by omega)]
 have hd : ∀ d ∈ low, 0 ≤ d ∧ d < Q.p := by
  intro d hd
  obtain ⟨j, h0, h1, rfl⟩ := mem_rd hd
  exact hlow j h0 h1
 have e := dig_pval (P := Q) low.length (lp Q low) (lp_deg Q low)
 rw [← lval_pval hd] at e
 have e2 := congrArg Subtype.val (congrFun e i.toNat)
 rw [lp_at (by omega), of_val, show ((i.toNat : Nat) : Int) = i by omega] at e2
 have h3 := hlow i h0 (by omega)
 rw [Int.emod_eq_of_lt h3.1 h3.2] at e2
 exact e2
theorem Irr_l1 {md : List Int} (hp256 : Q.p ≤ 256) (hmd : DLn Q.p md) (hm : md.length ≤ 8) (d : Nat) (hd1 : 1 ≤ d) (hd2 : 2 * d ≤ md.length) (hpd : Q.p ^ d ≤ 256) (R : Bool → Prop)
  (hk : Irr Q md d → ∃ b, Ev (fun k => r4_irreducible.l0 k md Q.p (Q.p ^ d) ((d : Int) + 1)) b ∧ R b) (hno : ¬ Irr Q md d → R false) :
  ∀ (e : Nat) (v : Int), 0 ≤ v → v + e = Q.p ^ d → (∀ low : List Int, low.length = d → DLn Q.p low → lval Q.p low < v → ¬ ∃ h n, DegLt h n ∧ mon Q md.length md = pmul h (mon Q low.length low)) →
   ∃ b, Ev (fun k => r4_irreducible.l1 k md Q.p (Q.p ^ d) d v) b ∧ R b := by
 have hp2 := Q.two
 intro e
 induction e with
 | zero =>
  intro v hv he h
  obtain ⟨b, hb, hR⟩ := hk (fun low hl hlow => h low hl hlow (by
   have := lval_bd (p := Q.p) (l := low) hp2 (fun x hx => by
    obtain ⟨j, h0, h1, rfl⟩ := mem_rd hx
    exact hlow j h0 h1)
   rw [hl] at this
   omega))
  exact ⟨b, Ev.step (fun k => by rw [r4_irreducible.l1, if_neg (by omega), w64 (by omega) (by omega)]) hb, hR⟩
 | succ e ih =>
  intro v hv he h
  obtain ⟨low, hlow, hl, hrd⟩ := digits_eq (p := Q.p) (n := d) (x := v) hp2 (by omega) (by omega) hv (by omega)
  have hDL : DLn Q.p low := fun t h0 h1 => by
   rw [hrd t h0 (by omega)]
   exact ⟨Int.emod_nonneg _ (by omega), Int.emod_lt_of_pos _ (by omega)⟩
  obtain ⟨b, hb, hq⟩ := divides_eq hp256 hDL hmd (by omega) (by omega) (by omega)
  cases b with
  | true =>
   refine ⟨false, ?_, hno (fun hI => hI low (by omega) hDL (hq.1 rfl))⟩
   refine Ev.step (fun k => by rw [r4_irreducible.l1, if_pos (by omega)]) ?_
   exact Ev.bind hlow (Ev.bind hb (ev_now fun k => by rw [if_pos rfl]))
  | false =>
   obtain ⟨b, hb', hR⟩ := ih (v + 1) (by omega) (by omega) (fun low' hl' hlow' hlt => by
    by_cases e' : lval Q.p low' = v
    ·have : low = low' := low_of hlow' (by omega) (fun j h0 h1 => by rw [hrd j h0 (by omega), e'])
     subst this
     exact fun hh => absurd (hq.2 hh) (by simp)
    ·exact h low' hl' hlow' (by omega))
   refine ⟨b, ?_, hR⟩
   refine Ev.step (fun k => by rw [r4_irreducible.l1, if_pos (by omega)]) ?_
   exact Ev.bind hlow (Ev.bind hb (Ev.congr (fun k => by rw [if_neg (by simp), w64 (by omega) (by omega)]) hb'))
theorem Irr_l0 {md : List Int} (hp256 : Q.p ≤ 256) (hmd : DLn Q.p md) (hm : md.length ≤ 8) (hpm : Q.p ^ md.length ≤ 256) :
  ∀ (e : Nat) (d : Nat), 1 ≤ d → d + e = md.length → (∀ d', 1 ≤ d' → d' < d → 2 * d' ≤ md.length → Irr Q md d') →
   ∃ b, Ev (fun k => r4_irreducible.l0 k md Q.p (Q.p ^ (d - 1)) d) b ∧ (b = true ↔ ∀ d', 1 ≤ d' → 2 * d' ≤ md.length → Irr Q md d') := by
 have hp2 := Q.two
 intro e
 induction e with
 | zero =>
  intro d hd he h
  exact ⟨true, ev_succ (ev_now fun k => by rw [r4_irreducible.l0, w64 (by omega) (by omega), if_neg (by omega)]), ⟨fun _ d' h1 h2 => h d' h1 (by omega) h2, fun _ => rfl⟩⟩
 | succ e ih =>
  intro d hd he h
  by_cases e2 : 2 * d ≤ md.length
  ·have hpd : Q.p ^ d ≤ 256 := by have := pow_le Q (show d ≤ md.length by omega); omega
   have hps : Q.p ^ (d - 1) * Q.p = Q.p ^ d := by rw [← Int.pow_succ, show (d - 1).succ = d by omega]
   have hpos := pow_pos Q d
   obtain ⟨b, hb, hR⟩ := Irr_l1 hp256 hmd hm d hd e2 hpd (fun b => b = true ↔ ∀ d', 1 ≤ d' → 2 * d' ≤ md.length → Irr Q md d') (fun hI => by
    have := ih (d + 1) (by omega) (by omega) (fun d' h1 h2 h3 => by
     by_cases e' : d' = d
     ·subst e'; exact hI
     ·exact h d' h1 (by omega) h3)
    rwa [show d + 1 - 1 = d by omega] at this) (fun hn => ⟨fun h => absurd h (by simp), fun h => absurd (h d hd e2) hn⟩) (Q.p ^ d).toNat 0 (by omega) (by omega) (fun low hl hlow hlt => by
     have := lval_bd (p := Q.p) (l := low) hp2 (fun x hx => by
      obtain ⟨j, h0, h1, rfl⟩ := mem_rd hx
      exact hlow j h0 h1)
     omega)
   refine ⟨b, Ev.step (fun k => ?_) hb, hR⟩
   rw [r4_irreducible.l0, w64 (x := 2 * (d : Int)) (by omega) (by omega), if_pos (by omega), hps, w64 (by omega) (by omega)]
  ·exact ⟨true, ev_succ (ev_now fun k => by rw [r4_irreducible.l0, w64 (by omega) (by omega), if_neg (by omega)]), ⟨fun _ d' h1 h2 => h d' h1 (by omega) h2, fun _ => rfl⟩⟩
theorem irreducible_eq {md : List Int} (hp256 : Q.p ≤ 256) (hmd : DLn Q.p md) (hm1 : 1 ≤ md.length) (hm : md.length ≤ 8) (hpm : Q.p ^ md.length ≤ 256) :
  ∃ b, Ev (fun k => r4_irreducible.f k md Q.p) b ∧ (b = true ↔ ∀ d', 1 ≤ d' → 2 * d' ≤ md.length → Irr Q md d') := by
 have := Irr_l0 hp256 hmd hm hpm (md.length - 1) 1 (by omega) (by omega) (fun d' h1 h2 => by omega)
 rwa [show 1 - 1 = 0 from rfl, Int.pow_zero] at this
end
section
variable {P M : Int} {Mod : List Int}
theorem Check_l0 {Q : Pr} (hQ : Q.p = P) (hM : 1 < M) (hM8 : M ≤ 8) (hp256 : P ≤ 256) (hpm : P ^ M.toNat ≤ 256) (hl : (Mod.length : Int) = M) : ∀ (e : Nat) (i : Int), 0 ≤ i → i + e = M → (∀ t, 0 ≤ t → t < i → 0 ≤ rd Mod t ∧ rd Mod t < P) →
  ∃ r, Ev (fun k => r4_Check.l0 k i P M Mod) r ∧ ((r = 0 ∧ DLn P Mod ∧ ∀ d', 1 ≤ d' → 2 * d' ≤ Mod.length → Irr Q Mod d') ∨ (r = 1 ∧ ¬ (DLn P Mod ∧ ∀ d', 1 ≤ d' → 2 * d' ≤ Mod.length → Irr Q Mod d'))) := by
 intro e
 induction e with
 | zero =>
  intro i hi he h
  have hD : DLn P Mod := fun t h0 h1 => h t h0 (by omega)
  obtain ⟨b, hb, hq⟩ := irreducible_eq (Q := Q) (md := Mod) (by omega) (by rw [hQ]; exact hD) (by omega) (by omega) (by rw [hQ, show Mod.length = M.toNat by omega]; exact hpm)
  rw [hQ] at hb
  cases b with
  | true =>
   refine ⟨0, ?_, .inl ⟨rfl, hD, hq.1 rfl⟩⟩
   refine Ev.step (fun k => by rw [r4_Check.l0, if_neg (by omega)]) ?_
   exact Ev.bind hb (ev_now fun k => by rw [if_pos rfl])
  | false =>
   refine ⟨1, ?_, .inr ⟨rfl, fun hh => absurd (hq.2 hh.2) (by simp)⟩⟩
   refine Ev.step (fun k => by rw [r4_Check.l0, if_neg (by omega)]) ?_
   exact Ev.bind hb (ev_now fun k => by rw [if_neg (by simp)])
 | succ e ih =>
  intro i hi he h
  by_cases e1 : rd Mod i < 0
  ·exact ⟨1, ev_succ (ev_now fun k => by rw [r4_Check.l0, if_pos (by omega), if_pos hi, if_pos (by omega), if_pos e1]), .inr ⟨rfl, fun hh => by have := hh.1 i hi (by omega); omega⟩⟩
  ·by_cases e2 : rd Mod i ≥ P
   ·exact ⟨1, ev_succ (ev_now fun k => by rw [r4_Check.l0, if_pos (by omega), if_pos hi, if_pos (by omega), if_neg e1, if_pos e2]), .inr ⟨rfl, fun hh => by have := hh.1 i hi (by omega); omega⟩⟩
   ·obtain ⟨r, hr, hq⟩ := ih (i + 1) (by omega) (by omega) (fun t h0 h1 => by
     by_cases e' : t = i
     ·subst e'; omega
     ·exact h t h0 (by omega))
    exact ⟨r, Ev.step (fun k => by rw [r4_Check.l0, if_pos (by omega), if_pos hi, if_pos (by omega), if_neg e1, if_neg e2, w64 (by omega) (by omega)]) hr, hq⟩
theorem Check_eq (P M : Int) (Mod : List Int) : ∃ r, Ev (fun k => r4_Check.f k P M Mod) r ∧ ((r = 0 ∧ ∃ D, Desc D P M Mod) ∨ (r = 1 ∧ ¬ ∃ D, Desc D P M Mod)) := by
 obtain ⟨q, hq, hor⟩ := Order_gen P M Mod
 unfold r4_Check.f
 have bad : Ev (fun k => r4_Check.j0 k true P M Mod) 1 := ev_succ (ev_now fun k => by rw [r4_Check.j0, if_pos rfl])
 rcases hor with ⟨rfl, hn⟩ | ⟨hq1, hR⟩
 ·exact ⟨1, Ev.bind hq (Ev.congr (fun k => by rw [if_pos rfl]) bad), .inr ⟨rfl, fun ⟨D, hD⟩ => hn hD.shp.1⟩⟩
 ·have hR' := hR
  obtain ⟨h1, h2, h3, h4⟩ := hR
  have hqpos : 0 < P ^ M.toNat := Int.pow_pos (by omega)
  have hp256 : P ≤ 256 := by
   have := pow_mono (P := P) (by omega) (show 1 ≤ M.toNat by omega)
   rw [Int.pow_succ, Int.pow_zero, Int.one_mul] at this
   omega
  obtain ⟨b, hb, hbq⟩ := prime_eq h1 hp256
  suffices hs : ∃ r, Ev (fun k => r4_Check.j0 k (!b) P M Mod) r ∧ ((r = 0 ∧ ∃ D, Desc D P M Mod) ∨ (r = 1 ∧ ¬ ∃ D, Desc D P M Mod)) by
   obtain ⟨r, hr, hrq⟩ := hs
   exact ⟨r, Ev.bind hq (Ev.congr (fun k => by rw [if_neg (by omega)]) (Ev.bind hb hr)), hrq⟩
  cases b with
  | false => exact ⟨1, bad, .inr ⟨rfl, fun ⟨D, hD⟩ => absurd (hbq.2 hD.shp.2.1) (by simp)⟩⟩
  | true =>
   have hprime := hbq.1 rfl
   let Q : Pr := ⟨P, h1, hprime⟩
   by_cases e1 : M = 1
   ·by_cases e2 : (Mod.length : Int) = 0
    ·have hnil : Mod = [] := List.eq_nil_of_length_eq_zero (by omega)
     refine ⟨0, ev_succ (ev_now fun k => ?_), .inl ⟨rfl, Shp.make (Q := Q) rfl ⟨hR', hprime, fun _ => hnil, fun h => by omega⟩ (fun h => by omega)⟩⟩
     rw [r4_Check.j0, if_neg (by simp), if_pos e1, if_pos e2]
    ·refine ⟨1, ev_succ (ev_now fun k => ?_), .inr ⟨rfl, fun ⟨D, hD⟩ => e2 (by rw [hD.one e1]; rfl)⟩⟩
     rw [r4_Check.j0, if_neg (by simp), if_pos e1, if_neg e2]
   ·by_cases e2 : (Mod.length : Int) = M
    ·obtain ⟨r, hr, hq⟩ := Check_l0 (Q := Q) (Mod := Mod) rfl (by omega) h3 hp256 h4 e2 M.toNat 0 (by omega) (by omega) (fun t h0 h1 => by omega)
     refine ⟨r, Ev.step (fun k => by rw [r4_Check.j0, if_neg (by simp), if_neg e1, if_pos e2]) hr, ?_⟩
     rcases hq with ⟨rfl, hD, hI⟩ | ⟨rfl, hn⟩
     ·exact .inl ⟨rfl, Shp.make (Q := Q) rfl ⟨hR', hprime, fun h => absurd h e1, fun _ => ⟨e2, hD⟩⟩ (fun _ => hI)⟩
     ·refine .inr ⟨rfl, fun ⟨D, hD⟩ => hn ⟨(hD.shp.2.2.2 (by omega)).2, ?_⟩⟩
      have hDQ : D.toPr = Q := by
       have := hD.hp
       cases D
       rename_i a _ _ _ _ _
       cases a
       simp at this
       subst this
       rfl
      have := hD.irr (by omega)
      rwa [hDQ] at this
    ·refine ⟨1, ev_succ (ev_now fun k => ?_), .inr ⟨rfl, fun ⟨D, hD⟩ => e2 (hD.len (by omega))⟩⟩
     rw [r4_Check.j0, if_neg (by simp), if_neg e1, if_neg e2]
end
end Go.Proofs.Ytibbdjkboglepaa.MyQBchRoots
namespace Go.Proofs.Ytibbdjkboglepaa.My
open Go Go.RowKit Go.Proofs.YtibbdjkboglepaaW.PrintWords Go.Proofs.YtibbdjkboglepaaW.PrintLast
def shiftL (m : Nat) (xs : List Int) : List Int := xs.take 1 ++ (xs.take (min m (xs.length - 1)) ++ xs.drop (1 + min m (xs.length - 1)))
theorem shiftL_length (m : Nat) (xs : List Int) : (shiftL m xs).length = xs.length := by
 unfold shiftL
 cases xs with
 | nil => simp
 | cons x l => simp; omega
theorem encs_take {α : Type} (enc : α → Value) (xs : List α) (n : Nat) : encs enc (xs.take n) = (encs enc xs).take n := by
 unfold encs; rw [List.map_take]
theorem shift_row {e base g cap : Nat} {ok : Nat → Prop} {W : World} {xs : List Int} (h : (Kd.int .i64).R e W base ok (.slice (some ⟨g, 0, none⟩) xs.length cap) xs) :
  ∃ cur : Array Value, W.heap[g]? = some (.cells cur e (0, 0)) ∧ xs.length ≤ cur.size ∧ cur.toList.take xs.length = encs (Value.int .i64) xs ∧
   ∀ cs : List Int, 1 + cs.length ≤ xs.length → (Kd.int .i64).R e (W.setRow g (cur.toList.take 1 ++ (encs (Value.int .i64) cs ++ cur.toList.drop (1 + cs.length))).toArray) base ok (.slice (some ⟨g, 0, none⟩) xs.length cap) (xs.take 1 ++ (cs ++ xs.drop (1 + cs.length))) := by
 have ho := Kd.own_of_R (enc := Value.int .i64) (h1 := fun _ => rfl) h
 obtain ⟨hl, hor⟩ := ho
 rcases hor with ⟨he, _⟩ | ⟨g', cap', cur, he, hb, hh, h1, h2, h3, h4⟩
 ·cases he
 ·cases he
  rw [Nat.mul_one] at h3 h4
  refine ⟨cur, hh, by omega, h4, fun cs hcs => ?_⟩
  have hlen : (xs.take 1 ++ (cs ++ xs.drop (1 + cs.length))).length = xs.length := by simp; omega
  refine Kd.R_of_own (enc := Value.int .i64) (h1 := fun _ => rfl) ?_ h.1
  rw [hlen]
  refine ⟨by rw [encs_length, hlen, Nat.mul_one], .inr ⟨g, cap, _, rfl, hb, setRow_heap W g cur _ e (0, 0) hh, h1, h2, ?_, ?_⟩⟩
  ·have : cur.toList.length = cur.size := Array.length_toList
   simp [encs_length]
   omega
  ·have h5 : cur.toList.length = cur.size := Array.length_toList
   rw [Nat.mul_one]
   have hsplit : cur.toList = encs (Value.int .i64) xs ++ cur.toList.drop xs.length := by
    rw [← h4, List.take_append_drop]
   generalize cur.toList.drop xs.length = R at hsplit
   have hel : (encs (Value.int .i64) xs).length = xs.length := encs_length _
   have e1 : cur.toList.take 1 = (encs (Value.int .i64) xs).take 1 := by
    rw [hsplit, List.take_append_of_le_length (by omega)]
   have e2 : cur.toList.drop (1 + cs.length) = (encs (Value.int .i64) xs).drop (1 + cs.length) ++ R := by
    rw [hsplit, List.drop_append_of_le_length (by omega)]
   rw [e1, e2]
   have e3 : encs (Value.int .i64) (xs.take 1 ++ (cs ++ xs.drop (1 + cs.length))) = (encs (Value.int .i64) xs).take 1 ++ (encs (Value.int .i64) cs ++ (encs (Value.int .i64) xs).drop (1 + cs.length)) := by
    rw [encs_append, encs_append, encs_take]
    unfold encs
    rw [List.map_drop]
   rw [e3]
   show List.take xs.length ((encs (Value.int .i64) xs).take 1 ++ (encs (Value.int .i64) cs ++ ((encs (Value.int .i64) xs).drop (1 + cs.length) ++ R))) = _
   rw [← List.append_assoc (encs (Value.int .i64) cs), ← List.append_assoc]
   apply List.take_left'
   rw [← e3, encs_length, hlen]
theorem shift_step {P : Program} {ops : Array Oper} {o : Oper} {a : Act} {W : World} {K : Act → World → Prop} {Q : Exit → Act → World → Prop} {E : Prop} (hgd : o.guard = none) (d s : Operand) (dT sT : TypeId)
  (ho : o.op = .call { callee := .builtin .copy, args := #[d, s], argTypes := #[dT, sT] }) (elem : TypeId) (hu : P.underlying dT = some (.slice elem)) (hsz : (P.info? elem).map (·.size) = some 1)
  {e base g cap dLen dCap sLen : Nat} {ok : Nat → Prop} {xs : List Int} {A : Option Addr} (hR : (Kd.int .i64).R e W base ok (.slice (some ⟨g, 0, none⟩) xs.length cap) xs) (hx : 0 < xs.length)
  (hA : A = if cap = 1 then some (⟨g, 0, none⟩ : Addr) else (some (⟨g, 0, none⟩ : Addr)).map (·.add 1)) (hdl : dLen = xs.length - 1) (hsl : sLen ≤ xs.length) (hcap : xs.length ≤ cap)
  (hd : a.eval d = .slice A dLen dCap) (hs : a.eval s = .slice (some ⟨g, 0, none⟩) sLen cap)
  (h : ∀ w', (Kd.int .i64).R e w' base ok (.slice (some ⟨g, 0, none⟩) xs.length cap) (shiftL sLen xs) → W.grownBy w' (some g) → K (a.put o.dst (goInt (min sLen (xs.length - 1) : Nat))) w') :
  if Region.wanted o (yielded ops a.tmps) = true then Oper.wp P o a W K Q else E := by
 subst hdl
 have hw : Region.wanted o (yielded ops a.tmps) = true := by simp [Region.wanted, hgd]
 rw [if_pos hw]
 obtain ⟨cur, hcur, hcs, htake, hset⟩ := shift_row hR
 by_cases h0 : min sLen (xs.length - 1) = 0
 ·have hrun := run_copy_none (P := P) W dT sT o.type elem A (some ⟨g, 0, none⟩) (xs.length - 1) dCap sLen cap hu hsz h0
  unfold Oper.wp
  simp [execOp, ho, resolve, invoke, builtin, hd, hs, hrun, Result.andThen]
  have e : shiftL sLen xs = xs := by
   unfold shiftL
   rw [h0, List.take_zero, List.nil_append, Nat.add_zero, List.take_append_drop]
  have := h W (by rw [e]; exact hR) ⟨rfl, rfl, rfl, Nat.le_refl _, fun _ _ _ => rfl⟩
  rw [h0] at this
  exact this
 ·have hcap1 : cap ≠ 1 := by omega
  rw [if_neg hcap1] at hA
  have hA' : A = some ⟨g, 1, none⟩ := by rw [hA]; simp [Addr.add]
  subst hA'
  generalize hm : min sLen (xs.length - 1) = m at *
  have htl : ∀ j v, (encs (Value.int .i64) (xs.take m))[j]? = some v → W.cell? ((⟨g, 0, none⟩ : Addr).add j) = some v := by
   intro j v hj
   have hjl : j < m := by
    have := (List.getElem?_eq_some_iff.1 hj).1
    rw [encs_length, List.length_take] at this
    omega
   rw [encs_take, List.getElem?_take_of_lt hjl, ← htake, List.getElem?_take_of_lt (by omega)] at hj
   rw [add_plain]
   simp only [World.cell?, hcur]
   simpa using hj
  have hlenc : (encs (Value.int .i64) (xs.take m)).length = m := by rw [encs_length, List.length_take]; omega
  have hrun := run_copy_row (P := P) W dT sT o.type elem g 1 (xs.length - 1) dCap ⟨g, 0, none⟩ sLen cap cur e (encs (Value.int .i64) (xs.take m)) hu hsz hcur (by rw [hlenc, ← hm]) htl (by rw [hlenc]; omega) (fun v hv => by
   obtain ⟨x, _, rfl⟩ := List.mem_map.1 hv
   rfl)
  unfold Oper.wp
  simp [execOp, ho, resolve, invoke, builtin, hd, hs, hrun, Result.andThen]
  have hlm : (xs.take m).length = m := by rw [List.length_take]; omega
  have h2 := hset (xs.take m) (by omega)
  have e2 : xs.take 1 ++ (xs.take m ++ xs.drop (1 + (xs.take m).length)) = shiftL sLen xs := by
   unfold shiftL
   rw [hm, hlm]
  rw [e2] at h2
  have h3 := h _ h2 ⟨rfl, rfl, rfl, by simp [World.setRow], fun k _ hk => setRow_other W g k _ (fun e' => hk (by rw [e']))⟩
  rw [hlenc]
  rw [hlm] at h3
  exact h3
end Go.Proofs.Ytibbdjkboglepaa.My
namespace Go.Proofs.Ytibbdjkboglepaa.QBchRoots
open Go.RowKit Go.Proofs.YtibbdjkboglepaaW.PrintWords Go.Proofs.YtibbdjkboglepaaW.PrintLast Go.Proofs.YtibbdjkboglepaaW.PrintMore
attribute [local go_sem] max2_int min2_int max_two min_two max_three min_three max_four min_four
mutual
def field_multiply.l0 : Nat → List Int → List Int → List Int → Int → Int → Int → List Int → Option (Int)
 | 0, _, _, _, _, _, _, _ => none
 | k + 1, x7, x8, x9, x10, x111000, x111001, x111002 => if x10 ≥ 0 then (if 0 ≤ (wrap64 (x111001 - 1)) then (if (wrap64 (x111001 - 1)) < (x9.length : Int) then (if 1 ≤ (x9.length : Int) then (if (wrap64 (x111001 - 1)) ≤ (x9.length : Int) then (if 0 < (x9.length : Int) then (field_multiply.l1 k x7 x8 ((My.shiftL (wrap64 (x111001 - 1)).toNat x9).set (0 : Int).toNat 0) x10 (rd x9 (wrap64 (x111001 - 1))) (x9.length : Int) 0 x111000 x111001 x111002) else (none)) else (none)) else (none)) else (none)) else (none)) else ((field_valueOf.f k x9 x111000).bind fun t120 => (some t120))
def field_multiply.l1 : Nat → List Int → List Int → List Int → Int → Int → Int → Int → Int → Int → List Int → Option (Int)
 | 0, _, _, _, _, _, _, _, _, _, _ => none
 | k + 1, x7, x8, x9, x10, x11, x53, x54, x111000, x111001, x111002 => if x54 < x53 then (if x111001 > 1 then (if 0 ≤ x54 then (if x54 < (x111002.length : Int) then (if x54 < (x9.length : Int) then (if 0 ≤ x10 then (if x10 < (x8.length : Int) then (if x54 < (x7.length : Int) then (if x111000 = 0 then (none) else (field_multiply.l1 k x7 x8 (x9.set (x54 : Int).toNat (Int.tmod (wrap64 ((wrap64 ((rd x9 x54) + (wrap64 ((wrap64 (x111000 - x11)) * (rd x111002 x54))))) + (wrap64 ((rd x8 x10) * (rd x7 x54))))) x111000)) x10 x11 x53 (wrap64 (x54 + 1)) x111000 x111001 x111002)) else (none)) else (none)) else (none)) else (none)) else (none)) else (none)) else (if 0 ≤ x54 then (if x54 < (x9.length : Int) then (if 0 ≤ x10 then (if x10 < (x8.length : Int) then (if x54 < (x7.length : Int) then (if x111000 = 0 then (none) else (field_multiply.l1 k x7 x8 (x9.set (x54 : Int).toNat (Int.tmod (wrap64 ((wrap64 ((rd x9 x54) + (wrap64 0))) + (wrap64 ((rd x8 x10) * (rd x7 x54))))) x111000)) x10 x11 x53 (wrap64 (x54 + 1)) x111000 x111001 x111002)) else (none)) else (none)) else (none)) else (none)) else (none))) else (field_multiply.l0 k x7 x8 x9 (wrap64 (x10 - 1)) x111000 x111001 x111002)
end
def field_multiply.f (k : Nat) (a0_0 : Int) (a0_1 : Int) (l0_2 : List Int) (a1 : Int) (a2 : Int) : Option (Int) := (field_digitsOf.f k a1 a0_0 a0_1).bind fun t111 => ((field_digitsOf.f k a2 a0_0 a0_1).bind fun t114 => (if 0 ≤ a0_1 then (if (a0_1 : Int).toNat ≤ 35184372088832 then (field_multiply.l0 k t111 t114 (List.replicate (a0_1 : Int).toNat 0) (wrap64 (a0_1 - 1)) a0_0 a0_1 l0_2) else (none)) else (none)))
def field_multiply.T1 : Bool × List (List Nat × List Nat) := (true, [([], []), ([], []), ([1], [1]), ([], []), ([3], [3]), ([0, 2, 4], [0, 2, 4]), ([], []), ([], []), ([7], [7]), ([], []), ([9], [9]), ([6, 8, 10, 5], [6, 8, 10]), ([5, 11, 0, 1, 2, 3, 4, 5], [5]), ([11, 12, 0, 1, 2, 3, 4, 5, 6, 7, 8, 9, 10, 11, 12], [11])])
def field_multiply.B1 : List Nat := [0, 0, 2, 0, 8, 31, 0, 0, 128, 0, 512, 2047, 4095, 8191]
theorem field_multiply.tab1 : rtab .any (opsOf Try.f92 1) = field_multiply.T1 := by kernel_rfl
theorem field_multiply.bits1 : waitsOk field_multiply.T1.2 field_multiply.B1 = true := by kernel_rfl
def field_multiply.T7 : Bool × List (List Nat × List Nat) := (true, [([], []), ([0], [0]), ([], []), ([], []), ([3], [3]), ([4], [4]), ([2, 5], [2, 5]), ([1, 6], [1, 6])])
def field_multiply.B7 : List Nat := [0, 1, 0, 0, 8, 24, 60, 127]
theorem field_multiply.tab7 : rtab .any (opsOf Try.f92 7) = field_multiply.T7 := by kernel_rfl
theorem field_multiply.bits7 : waitsOk field_multiply.T7.2 field_multiply.B7 = true := by kernel_rfl
def field_multiply.T15 : Bool × List (List Nat × List Nat) := (true, [([], []), ([], []), ([], []), ([], []), ([2, 3], [2, 3]), ([4], [4]), ([], []), ([6], [6]), ([], []), ([7, 8], [7, 8]), ([], []), ([9, 10], [9, 10]), ([5, 11], [5, 11]), ([], []), ([], []), ([13, 14], [13, 14]), ([15], [15]), ([], []), ([], []), ([17, 18], [17, 18]), ([19], [19]), ([16, 20], [16, 20]), ([12, 21], [12, 21]), ([], []), ([23], [23]), ([22, 24], [22, 24]), ([0, 1, 0, 1, 2, 3, 4, 5, 6, 7, 8, 9, 10, 11, 12, 13, 14, 15, 16, 17, 18, 19, 20, 21, 22, 23, 24, 25], [0, 1]), ([26, 25, 0, 1, 2, 3, 4, 5, 6, 7, 8, 9, 10, 11, 12, 13, 14, 15, 16, 17, 18, 19, 20, 21, 22, 23, 24, 25], [25, 26])])
def field_multiply.B15 : List Nat := [0, 0, 0, 0, 12, 28, 0, 64, 0, 448, 0, 1984, 4092, 0, 0, 24576, 57344, 0, 0, 393216, 917504, 2088960, 4194300, 0, 8388608, 33554428, 67108863, 134217727]
theorem field_multiply.tab15 : rtab .any (opsOf Try.f92 15) = field_multiply.T15 := by kernel_rfl
theorem field_multiply.bits15 : waitsOk field_multiply.T15.2 field_multiply.B15 = true := by kernel_rfl
theorem field_multiply.calls (k : Nat) (a0_0 : Int) (a0_1 : Int) (A0_2 : Option Addr) (c0_2 : Nat) (l0_2 : List Int) (a1 : Int) (a2 : Int) (r : Int) (w : World) (hr0_2 : Kd.C (Kd.int .i64) w A0_2 l0_2.length l0_2) (hc0_2 : l0_2.length ≤ c0_2) (h : field_multiply.f k a0_0 a0_1 l0_2 a1 a2 = some r) :
  Calls Try.prog 92 #[.agg #[.int .i64 a0_0, .int .i64 a0_1, .slice A0_2 l0_2.length c0_2], .int .i64 a1, .int .i64 a2] w fun e w' => e = .returned (.int .i64 r) ∧ Below w.heap.size w w' := by
 have hu36 := Try.underlying36
 have HR0_2 := Aside0.mk hr0_2
 have HC0_2 := Aside0.mk hc0_2
 clear hr0_2 hc0_2
 have HB := Aside0.mk (Below.refl w.heap.size w)
 have H := h
 clear h
 unfold field_multiply.f at H
 obtain ⟨t111, A4, H⟩ := bE H
 obtain ⟨t114, A5, H⟩ := bE H
 obtain ⟨c6, H⟩ := iE H
 have c6b0 := eq_true c6
 have c6b1 := decide_eq_true c6
 clear c6
 obtain ⟨c7, H⟩ := iE H
 have c7b0 := eq_true c7
 have c7b1 := decide_eq_true c7
 clear c7
 obtain ⟨y117, hy117⟩ : ∃ y_ : List Int, y_ = (List.replicate (a0_1 : Int).toNat 0) := ⟨_, rfl⟩
 (try rw [Option.bind_some] at H); (try rw [← hy117] at H)
 have Ny117 := Aside0.mk hy117
 clear hy117
 have H' := Aside0.mk H
 clear H
 go_enter Try.func92, Try.ntmps92
 try go_wp2_with (refine bz 3 #[.int .i64 a0_0, .int .i64 a0_1, .slice A0_2 l0_2.length c0_2] 36 ?_; clear HB; intro gb110 w8 BK110 GW110 GE110 HB)
 replace BK110 := Aside0.mk (blk_drew BK110.out)
 replace HB := Aside0.mk (below_drew1 HB.out)
 refine start_ (n := 14) (S := fun w' => w'.cell? ⟨gb110, 0, none⟩ = some (.int .i64 a0_0) ∧ w'.cell? ⟨gb110, 1, none⟩ = some (.int .i64 a0_1) ∧ w'.cell? ⟨gb110, 2, none⟩ = some (.slice A0_2 l0_2.length c0_2)) (ds := []) (bb 14 0) (by kernel_rfl) rfl rfl ⟨bc0 BK110.out, bc1 BK110.out, bc2 BK110.out⟩ (fun hHeld => ?_); refine with_tabW field_multiply.tab1 field_multiply.bits1 (fun HT_ HW_ => ?_)
 generalize w8.drew = w9 at BK110 HB hHeld ⊢
 refine pq HT_ 0 14 (bb 14 1) ?_
 refine pq HT_ 1 15 (bb 14 3) ?_
 refine pq HT_ 3 17 (bb 14 11) ?_
 refine pq HT_ 6 20 (bb 14 75) ?_
 refine pq HT_ 7 21 (bb 14 203) ?_
 refine pq HT_ 9 23 (bb 14 715) ?_
 refine tq HT_ HW_ hHeld 2 16 (bb 14 719) ?_
 refine tq HT_ HW_ hHeld 4 18 (bb 14 735) ?_
 refine tq HT_ HW_ hHeld 8 22 (bb 14 991) ?_
 refine tq HT_ HW_ hHeld 10 24 (bb 14 2015) ?_
 refine oq HT_ 5 (some 19) (bb 14 2047) (fun K hK => ?_)
 refine gq Try.func122 #[.int .i64 a1, .int .i64 a0_0, .int .i64 a0_1] ?_
 with_reducible refine (field_digitsOf.calls k a1 a0_0 a0_1 t111 _ A4.out).mono ?_
 rintro e w10 ⟨v112, rfl, ho0, hb⟩
 refine ⟨_, rfl, ?_⟩
 have HO113 := Aside0.mk (Kd.R_lower ho0 (below_size bw))
 replace BK110 := Aside0.mk (bkb BK110 hb)
 replace HB := Aside0.mk (below_step bw hb)
 clear hb ho0
 refine hK.out _ _ ⟨bc0 BK110.out, bc1 BK110.out, bc2 BK110.out⟩ (fun hHeld => ?_)
 clear hK K
 refine nq 19 ?_
 refine oq HT_ 11 (some 25) (bb 14 4095) (fun K hK => ?_)
 refine gq Try.func122 #[.int .i64 a2, .int .i64 a0_0, .int .i64 a0_1] ?_
 with_reducible refine (field_digitsOf.calls k a2 a0_0 a0_1 t114 _ A5.out).mono ?_
 rintro e w11 ⟨v115, rfl, ho0, hb⟩
 refine ⟨_, rfl, ?_⟩
 have HO116 := Aside0.mk (Kd.R_lower (Kd.R_new' ho0 (Kd.R_lt (rR HO113))) (below_size bw))
 replace HO113 := Aside0.mk (Kd.R_elder' (rR HO113) (Kd.R_base ho0) hb)
 replace BK110 := Aside0.mk (bkb BK110 hb)
 replace HB := Aside0.mk (below_step bw hb)
 clear hb ho0
 refine hK.out _ _ ⟨bc0 BK110.out, bc1 BK110.out, bc2 BK110.out⟩ (fun hHeld => ?_)
 clear hK K
 refine nq 25 ?_
 refine pq HT_ 12 7 (bb 14 8191) ?_
 refine pq HT_ 13 8 (bb 14 16383) ?_
 refine dq HT_ ?_
 obtain ⟨hcz12_0, hcz12_1, hcz12_2, hfz12_0, hfz12_1, hfz12_2⟩ := bq3 BK110.out
 try go_wp2_with (first | ((with_reducible refine gate_dst (N := 28) rfl ?_); refine Kd.R_make (Kd.int .i64) _ 3 rfl (N := 28) rfl 22 _ _ rfl a0_1 rfl rfl Try.underlying22 (.int .i64 0) 8 info3 rfl (by decide) (by omega) 0 (ok := fun _ => True) (okp := fun _ => True) rfl (fun _ hk => hk) trivial (dT) (Nat.le_trans (Nat.mul_le_mul_right _ (dT : a0_1.toNat ≤ 35184372088832)) (by omega)) (Below.refl _ _) (Nat.le_refl _) ?_; intro v118 w13 ho14 hb hg_ hnew_; clear hg_ hnew_; (first | rw [← Ny117.out] at ho14 | (simp only [Int.reduceToNat] at ho14; rw [← Ny117.out] at ho14)); have HO119 := Aside0.mk (Kd.R_lower (Kd.R_new' (Kd.R_new' ho14 (Kd.R_lt (rR HO113))) (Kd.R_lt (rR HO116))) (below_size bw)); replace HO113 := Aside0.mk (Kd.R_elder' (rR HO113) (Kd.R_base ho14) hb); replace HO116 := Aside0.mk (Kd.R_elder' (rR HO116) (Kd.R_base ho14) hb); replace BK110 := Aside0.mk (bkb BK110 hb); replace HB := Aside0.mk (below_step bw hb); clear hb ho14; obtain ⟨hcz15_0, hcz15_1, hcz15_2, hfz15_0, hfz15_1, hfz15_2⟩ := bq3 BK110.out))
 go_loopg [10] k (fun kq v10 w' => ∃ (x9_1 : List Int) (x10_1 : Int), v10 = .int .i64 x10_1 ∧ Aside0 (field_multiply.l0 kq t111 t114 x9_1 x10_1 a0_0 a0_1 l0_2 = some r) ∧ Aside0 (kq ≤ k) ∧ Aside0 (Kd.R (Kd.int .i64) 3 w' w.heap.size (fun k_ => some k_ ≠ (v115 : Value).ownBlock ∧ some k_ ≠ (v118 : Value).ownBlock) v112 t111) ∧ Aside0 (Kd.R (Kd.int .i64) 3 w' w.heap.size (fun k_ => some k_ ≠ (v112 : Value).ownBlock ∧ some k_ ≠ (v118 : Value).ownBlock) v115 t114) ∧ Aside0 (Kd.R (Kd.int .i64) 3 w' w.heap.size (fun k_ => some k_ ≠ (v112 : Value).ownBlock ∧ some k_ ≠ (v115 : Value).ownBlock) v118 x9_1) ∧ Aside0 (w'.heap[gb110]? = some (.cells #[.int .i64 a0_0, .int .i64 a0_1, (.slice A0_2 l0_2.length c0_2)] 36 (0, 0))) ∧ Aside0 (Below w.heap.size w w'))
 case atStart => exact ⟨(y117), (wrap64 (a0_1 - 1)), rX, H', ⟨Nat.le_refl _⟩, ⟨by (with_reducible repeat (first | apply Kd.R_alloc | apply Kd.R_drewN | apply Kd.R_drew)); exact Kd.R_mono HO113.out (fun _ hk => ⟨hk.1.2, hk.2⟩)⟩, ⟨by (with_reducible repeat (first | apply Kd.R_alloc | apply Kd.R_drewN | apply Kd.R_drew)); exact Kd.R_mono HO116.out (fun _ hk => ⟨hk.1.2, hk.2⟩)⟩, ⟨by (with_reducible repeat (first | apply Kd.R_alloc | apply Kd.R_drewN | apply Kd.R_drew)); exact Kd.R_mono HO119.out (fun _ hk => ⟨hk.1.2, hk.2⟩)⟩, ⟨kk BK110⟩, ⟨bw⟩⟩
 case round =>
  clear H' c6b0 c6b1 c7b0 c7b1 hcz12_0 hcz12_1 hcz12_2 hcz15_0 hcz15_1 hcz15_2 hfz12_0 hfz12_1 hfz12_2 hfz15_0 hfz15_1 hfz15_2
  obtain ⟨x9_1, x10_1, rfl, HA, HK1, HO_7, HO_8, HO_9, BK110, HB⟩ := hrel
  cases gk with
  | zero => exact absurd HA.out (by simp [field_multiply.l0])
  | succ k1 =>
   have H := HA.out
   clear HA
   simp only [field_multiply.l0] at H
   by_cases c16 : x10_1 ≥ 0
   ·rw [if_pos c16] at H
    have c16b0 : decide (0 ≤ x10_1) = true := decide_eq_true c16
    clear c16
    obtain ⟨ji17, hji17⟩ : ∃ j_ : Int, (wrap64 (a0_1 - 1)) = j_ := ⟨_, rfl⟩
    replace H : (if 0 ≤ (ji17) then (if (ji17) < (x9_1.length : Int) then (if 1 ≤ (x9_1.length : Int) then (if (ji17) ≤ (x9_1.length : Int) then (if 0 < (x9_1.length : Int) then (field_multiply.l1 k1 t111 t114 ((My.shiftL (ji17 : Int).toNat x9_1).set (0 : Int).toNat 0) x10_1 (rd x9_1 (ji17)) (x9_1.length : Int) 0 a0_0 a0_1 l0_2) else (none)) else (none)) else (none)) else (none)) else (none)) = some r := by first | (rw [hji17] at H; exact H) | (simp only [hji17] at H ⊢; exact H)
    have hji17w : (IntKind.i64.wrap (a0_1 - 1)) = ji17 := (i64_w _).trans hji17
    obtain ⟨c18, H⟩ := iE H
    have c18b0 := decide_eq_true c18
    clear c18
    obtain ⟨c19, H⟩ := iE H
    have c19b0 := decide_eq_true c19
    clear c19
    obtain ⟨c20, H⟩ := iE H
    have c20b0 := eq_true c20
    have c20b1 := decide_eq_true c20
    clear c20
    obtain ⟨y122, hy122⟩ : ∃ y_ : List Int, y_ = (x9_1.drop 1) := ⟨_, rfl⟩
    (try rw [Option.bind_some] at H); (try rw [← hy122] at H)
    have Ny122 := Aside0.mk hy122
    clear hy122
    have c21b0 := eq_true (dT : 0 ≤ (ji17))
    obtain ⟨c22, H⟩ := iE H
    have c22b0 := eq_true c22
    have c22b1 := decide_eq_true c22
    clear c22
    obtain ⟨y126, hy126⟩ : ∃ y_ : List Int, y_ = (x9_1.take ((ji17) : Int).toNat) := ⟨_, rfl⟩
    (try rw [Option.bind_some] at H); (try rw [← hy126] at H)
    have Ny126 := Aside0.mk hy126
    clear hy126
    obtain ⟨c23, H⟩ := iE H
    have c23b0 := decide_eq_true c23
    have c23b1 : decide (0 < x9_1.length) = true := decide_eq_true (by omega)
    clear c23
    obtain ⟨y130, hy130⟩ : ∃ y_ : List Int, y_ = ((My.shiftL (ji17 : Int).toNat x9_1).set (0 : Int).toNat 0) := ⟨_, rfl⟩
    (try rw [Option.bind_some] at H); (try rw [← hy130] at H)
    have Ny130 := Aside0.mk hy130
    clear hy130
    have H' := Aside0.mk H
    clear H
    obtain ⟨hcz25_0, hcz25_1, hcz25_2, hfz25_0, hfz25_1, hfz25_2⟩ := bq3 BK110.out
    obtain ⟨Ao26, co26, eo26⟩ := Kd.R_slice HO_9.out
    subst eo26
    have p121 : 0 ≤ ((ji17) : Int) := dT
    have q121 : (ji17) < (x9_1.length : Int) := dT
    obtain ⟨ad121, e121, hx121_0⟩ := Kd.at_int (Kd.R_reads' HO_9.out).2.2 (ji17) p121 q121
    cases e121
    replace p121 := eq_true p121
    replace q121 := eq_true q121
    try go_wp2
    replace HO_7 := Aside0.mk (Kd.R_drew HO_7.out)
    replace HO_8 := Aside0.mk (Kd.R_drew HO_8.out)
    replace HO_9 := Aside0.mk (Kd.R_drew HO_9.out)
    replace BK110 := Aside0.mk (blk_drew BK110.out)
    replace HB := Aside0.mk (below_drew1 HB.out)
    have q24x : (0 : Int) < (x9_1.length : Int) := dT
    obtain ⟨go24, co24, eo24, gb24, gl24, cl24, HG24⟩ := Kd.R_form HO_9.out (by omega)
    (first | cases eo24 | (injection eo24 with ea_ en_ ec_; (first | subst ea_ | (injection ea_ with ea_; subst ea_)); subst ec_; clear en_))
    have GB24 := Aside0.mk gb24
    have GG24 := Aside0.mk HG24
    clear gb24 gl24 HG24
    (first | simp only [add_plain] at hx121_0 | skip)
    have q28 : (1 : Int) ≤ ((x9_1.length : Int) : Int) := dT
    obtain ⟨i028, hi028, _, hsz28, _⟩ := info_parts info3
    have hroom28 : x9_1.length ≤ co26 := (Kd.R_reads' HO_9.out).2.1
    have hC28 : Kd.C (Kd.int .i64) _ (some (⟨go24, 0, none⟩ : Addr)) x9_1.length x9_1 := (Kd.R_reads' HO_9.out).2.2
    have hcut28 := cut_from (P := Try.prog) 22 3 .i64 Try.underlying22 hi028 1 hsz28 (some (⟨go24, 0, none⟩ : Addr)) x9_1.length co26 1 (by omega) q28
    have hr28 := Kd.C_drop (m := (1 : Int).toNat) (c := co26) hC28 (by omega) hroom28
    obtain ⟨A28, hA28⟩ : ∃ A1, A1 = (if co26 = (1 : Int).toNat then (some (⟨go24, 0, none⟩ : Addr)) else ((some (⟨go24, 0, none⟩ : Addr)) : Option Addr).map (·.add ((1 : Int).toNat * 1))) := ⟨_, rfl⟩
    obtain ⟨c28, hc28⟩ : ∃ c1, c1 = co26 - (1 : Int).toNat := ⟨_, rfl⟩
    have hy28 : y122.length = x9_1.length - (1 : Int).toNat := (by rw [Ny122.out, List.length_drop] <;> omega)
    rw [show (x9_1).drop (1 : Int).toNat = y122 from Ny122.out.symm] at hr28
    replace hr28 : Kd.C (Kd.int .i64) _ A28 y122.length y122 := (by rw [hA28]; exact hr28)
    rw [← hy28, ← hA28, ← hc28] at hcut28
    have HR125 := Aside0.mk hr28
    have HC125 := Aside0.mk (show y122.length ≤ c28 from by rw [hy28, hc28]; exact Nat.sub_le_sub_right hroom28 _)
    clear hr28 hC28 hroom28 hi028 hsz28 hc28
    have KY28 := Aside0.mk hy28
    have KA28 := Aside0.mk hA28
    clear hy28 hA28
    have KL28 := Aside0.mk (show 1 ≤ x9_1.length from by omega)
    replace q28 := eq_true q28
    have q29 : ((ji17) : Int) ≤ ((x9_1.length : Int) : Int) := dT
    obtain ⟨i029, hi029, _, hsz29, _⟩ := info_parts info3
    have hroom29 : x9_1.length ≤ co26 := (Kd.R_reads' HO_9.out).2.1
    have hC29 : Kd.C (Kd.int .i64) _ (some (⟨go24, 0, none⟩ : Addr)) x9_1.length x9_1 := (Kd.R_reads' HO_9.out).2.2
    have hcut29 := cut_to (P := Try.prog) 22 3 .i64 Try.underlying22 hi029 (some (⟨go24, 0, none⟩ : Addr)) x9_1.length co26 (ji17) (dT) q29 hroom29
    have hr29 := Kd.C_take (m := ((ji17) : Int).toNat) hC29 (by omega)
    have hy29 : y126.length = ((ji17) : Int).toNat := (by rw [Ny126.out, List.length_take]; omega)
    rw [← Ny126.out] at hr29
    rw [← hy29] at hcut29
    have HR129 := Aside0.mk hr29
    have HC129 := Aside0.mk (show y126.length ≤ co26 from by omega)
    clear hr29 hC29 hroom29 hi029 hsz29
    have KY29 := Aside0.mk hy29
    clear hy29
    have KL29 := Aside0.mk (show ((ji17) : Int).toNat ≤ x9_1.length from by omega)
    replace q29 := eq_true q29
    refine start_ (n := 8) (S := fun w' => w'.cell? ⟨gb110, 0, none⟩ = some (.int .i64 a0_0) ∧ w'.cell? ⟨gb110, 1, none⟩ = some (.int .i64 a0_1) ∧ w'.cell? ⟨gb110, 2, none⟩ = some (.slice A0_2 l0_2.length c0_2)) (ds := [7]) (bb 8 0) (by kernel_rfl) rfl rfl ⟨bc0 BK110.out, bc1 BK110.out, bc2 BK110.out⟩ (fun hHeld => ?_); refine with_tabW field_multiply.tab7 field_multiply.bits7 (fun HT_ HW_ => ?_)
    generalize wr.drew = w27 at HO_7 HO_8 HO_9 BK110 HB HR125 HR129 hHeld ⊢
    refine pq HT_ 0 42 (bb 8 1) ?_
    refine pq HT_ 1 43 (bb 8 3) ?_
    refine pq HT_ 2 44 (bb 8 7) ?_
    refine pq HT_ 3 45 (bb 8 15) ?_
    refine tq HT_ HW_ hHeld 4 46 (bb 8 31) ?_
    refine pq HT_ 5 47 (bb 8 63) ?_
    refine pq HT_ 6 48 (bb 8 127) ?_
    refine lq HT_ 7 (some 49) (bb 8 255) (fun K hK => ?_)
    have hlen_ : 0 < x9_1.length := by omega
    refine My.shift_step rfl (.tmp 43) (.tmp 48) 22 22 rfl 3 Try.underlying22 (by kernel_rfl) HO_9.out hlen_ (A := A28) (dLen := y122.length) (dCap := c28) (sLen := y126.length) KA28.out (by rw [KY28.out]; rfl) (by rw [KY29.out]; exact KL29.out) (Kd.R_reads' HO_9.out).2.1 rfl rfl ?_
    intro w28 hR28 hg28
    refine hK.out _ _ ?_
    clear hK K
    refine dq HT_ ?_
    have n0_ := Aside0.mk (Kd.R_grown HO_7.out hg28 (fun k hk => by have := hk.2; simpa [Value.ownBlock] using this))
    have n1_ := Aside0.mk (Kd.R_grown HO_8.out hg28 (fun k hk => by have := hk.2; simpa [Value.ownBlock] using this))
    have n2_ := Aside0.mk (by rw [KY29.out] at hR28; exact hR28 : Kd.R (Kd.int .i64) 3 w28 w.heap.size (fun k_ => some k_ ≠ (v112 : Value).ownBlock ∧ some k_ ≠ (v115 : Value).ownBlock) (.slice (some ⟨go24, 0, none⟩) x9_1.length co26) (My.shiftL (ji17 : Int).toNat x9_1))
    have n3_ := Aside0.mk (blk_grown (g := gb110) (o := .cells #[.int .i64 a0_0, .int .i64 a0_1, .slice A0_2 l0_2.length c0_2] 36 (0, 0)) BK110.out hg28 (Kd.R_ne HO_9.out BK110.out (by decide)))
    have n4_ := Aside0.mk (HB.out.grown hg28 HB.out.size (fun k e_ => by cases e_; exact GB24.out))
    clear HO_7 HO_8 HO_9 BK110 HB
    have HO_7 := n0_
    have HO_8 := n1_
    have HO_9 := n2_
    have BK110 := n3_
    have HB := n4_
    clear n0_ n1_ n2_ n3_ n4_ hg28 hR28 HR125 HR129
    obtain ⟨hcz28_0, hcz28_1, hcz28_2, hfz28_0, hfz28_1, hfz28_2⟩ := bq3 BK110.out
    simp only [Act.put, List.setIfInBounds_toArray, List.set_cons_zero, List.set_cons_succ]
    have p24 : 0 ≤ (0 : Int) := (by omega)
    have q24 : (0 : Int) < ((x9_1.length : Int) : Int) := dT
    have qi24 : (0 < x9_1.length) = True := eq_true (by omega)
    (first | simp only [add_plain] at hx121_0 | skip)
    obtain ⟨hx24_0, hf24_0⟩ := Kd.R_celln 0 HO_9.out (0 : Int) p24 q24
    (try rw [show ((0 : Int)).toNat = 0 from rfl] at hx24_0)
    (try simp only [Nat.reduceMul, Nat.zero_mul, Nat.zero_add, Nat.reduceAdd] at hx24_0)
    (try rw [show ((0 : Int)).toNat = 0 from rfl] at hf24_0)
    (try simp only [Nat.reduceMul, Nat.zero_mul, Nat.zero_add, Nat.reduceAdd] at hf24_0)
    replace p24 := eq_true p24
    replace q24 := eq_true q24
    obtain ⟨hy30_, hz30_⟩ := Kd.R_celln 0 HO_9.out (0 : Int) (by omega) (dT)
    (try simp only [Int.reduceToNat, Int.toNat_zero, Int.toNat_ofNat, Nat.reduceMul, Nat.zero_mul, Nat.zero_add] at hy30_ hz30_)
    (try rw [show ((0 : Int)).toNat = 0 from rfl] at hy30_)
    (try rw [show ((0 : Int)).toNat = 0 from rfl] at hz30_)
    have HP30 := Kd.R_putg HO_9.out (0 : Int) 0
    try go_wp2_with (first | ((with_reducible refine gate_store (t := 3) (p := 51) rfl ?_); refine store_event (t := 3) (p := 51) (v := ?vo_w31) (w1 := (w28.setCell ⟨go24, (0 : Int).toNat, none⟩ (.int .i64 0))) ?hg ?ho ?hn ?hr ?_; (case ho => rfl); (case hg => rfl); (case hn => rfl); (case hr => first | (go_simp; done) | (go_simp; rfl)); intro w31 hw; have hg : w28.grownBy w31 (some go24) := (by rw [hw]; exact HP30.2); have hp_ : Kd.R (Kd.int .i64) 3 w31 w.heap.size (fun k_ => some k_ ≠ (v112 : Value).ownBlock ∧ some k_ ≠ (v115 : Value).ownBlock) (.slice (some ⟨go24, 0, none⟩) x9_1.length co26) y130 := (by rw [hw, Ny130.out]; exact HP30.1); clear HP30; replace HO_7 := Aside0.mk (Kd.R_after (v := (.slice (some ⟨go24, 0, none⟩) x9_1.length co26)) (v1 := (.slice (some ⟨go24, 0, none⟩) x9_1.length co26)) (ok := (fun k_ => some k_ ≠ (v115 : Value).ownBlock)) (rR HO_7) hg (.inl rfl)); replace HO_8 := Aside0.mk (Kd.R_after (v := (.slice (some ⟨go24, 0, none⟩) x9_1.length co26)) (v1 := (.slice (some ⟨go24, 0, none⟩) x9_1.length co26)) (ok := (fun k_ => some k_ ≠ (v112 : Value).ownBlock)) (rR HO_8) hg (.inl rfl)); replace BK110 := Aside0.mk (blk_grown (g := gb110) (o := .cells #[.int .i64 a0_0, .int .i64 a0_1, .slice A0_2 l0_2.length c0_2] 36 (0, 0)) (kk BK110) hg (Kd.R_ne HO_9.out BK110.out (by decide))); replace HO_9 := Aside0.mk hp_; replace HB := Aside0.mk ((by rw [hw]; exact below_set (HB.out) GB24.out : Below w.heap.size w w31)); clear hg hw hp_))
    go_loopg [54] k1 (fun kq v54 w' => ∃ (x9_2 : List Int) (x54_2 : Int), v54 = .int .i64 x54_2 ∧ Aside0 (field_multiply.l1 kq t111 t114 x9_2 x10_1 (rd x9_1 (ji17)) (x9_1.length : Int) x54_2 a0_0 a0_1 l0_2 = some r) ∧ Aside0 (kq ≤ k1) ∧ Aside0 (Kd.R (Kd.int .i64) 3 w' w.heap.size (fun k_ => some k_ ≠ (v115 : Value).ownBlock ∧ some k_ ≠ ((.slice (some ⟨go24, 0, none⟩) x9_1.length co26) : Value).ownBlock) v112 t111) ∧ Aside0 (Kd.R (Kd.int .i64) 3 w' w.heap.size (fun k_ => some k_ ≠ (v112 : Value).ownBlock ∧ some k_ ≠ ((.slice (some ⟨go24, 0, none⟩) x9_1.length co26) : Value).ownBlock) v115 t114) ∧ Aside0 (Kd.R (Kd.int .i64) 3 w' w.heap.size (fun k_ => some k_ ≠ (v112 : Value).ownBlock ∧ some k_ ≠ (v115 : Value).ownBlock) (.slice (some ⟨go24, 0, none⟩) x9_1.length co26) x9_2) ∧ Aside0 (w'.heap[gb110]? = some (.cells #[.int .i64 a0_0, .int .i64 a0_1, (.slice A0_2 l0_2.length c0_2)] 36 (0, 0))) ∧ Aside0 (Below w.heap.size w w'))
    case atStart => exact ⟨(y130), (0), rX, H', ⟨Nat.le_refl _⟩, ⟨rR HO_7⟩, ⟨rR HO_8⟩, ⟨rR HO_9⟩, ⟨kk BK110⟩, ⟨bw⟩⟩
    case round =>
     clear H' c16b0 c18b0 c19b0 c20b0 c20b1 c21b0 c22b0 c22b1 c23b0 c23b1 p24 q24 qi24 q28 q29 hcz25_0 hcz25_1 hcz25_2 hfz25_0 hfz25_1 hfz25_2 hx121_0 hx24_0 p121 q121
     obtain ⟨x9_2, x54_2, rfl, HA, HK2, HO_7, HO_8, HO_9, BK110, HB⟩ := hrel
     have hl9_2 := (Kd.R_reads' HO_9.out).1
     rw [hl9_2] at HO_9
     (try simp only [hl9_2])
     (try simp only [hl9_2] at BK110)
     (try simp only [hl9_2] at HO_7)
     (try simp only [hl9_2] at HO_8)
     cases gk with
     | zero => exact absurd HA.out (by simp [field_multiply.l1])
     | succ k2 =>
      have H := HA.out
      clear HA
      simp only [field_multiply.l1] at H
      by_cases c32 : x54_2 < (x9_1.length : Int)
      ·rw [if_pos c32] at H
       have c32b0 := decide_eq_true c32
       clear c32
       by_cases c33 : a0_1 > 1
       ·rw [if_pos c33] at H
        have c33b0 : decide (1 < a0_1) = true := decide_eq_true c33
        clear c33
        obtain ⟨c34, H⟩ := iE H
        have c34b0 := decide_eq_true c34
        clear c34
        obtain ⟨c35, H⟩ := iE H
        have c35b0 := decide_eq_true c35
        clear c35
        obtain ⟨c36, H⟩ := iE H
        have c36b0 := decide_eq_true c36
        clear c36
        obtain ⟨c37, H⟩ := iE H
        have c37b0 := decide_eq_true c37
        clear c37
        obtain ⟨c38, H⟩ := iE H
        have c38b0 := decide_eq_true c38
        clear c38
        obtain ⟨c39, H⟩ := iE H
        have c39b0 := decide_eq_true c39
        clear c39
        by_cases c40 : a0_0 = 0
        ·rw [if_pos c40] at H
         exact absurd H (by simp)
        ·rw [if_neg c40] at H
         have c40b0 := beq_eq_false_iff_ne.mpr c40
         have c40b1 := bne_iff_ne.mpr c40
         obtain ⟨y135, hy135⟩ : ∃ y_ : List Int, y_ = (x9_2.set (x54_2 : Int).toNat (Int.tmod (wrap64 ((wrap64 ((rd x9_2 x54_2) + (wrap64 ((wrap64 (a0_0 - (rd x9_1 (ji17)))) * (rd l0_2 x54_2))))) + (wrap64 ((rd t114 x10_1) * (rd t111 x54_2))))) a0_0)) := ⟨_, rfl⟩
         (try rw [Option.bind_some] at H); (try rw [← hy135] at H)
         have Ny135 := Aside0.mk hy135
         clear hy135
         have H' := Aside0.mk H
         clear H
         obtain ⟨hcz42_0, hcz42_1, hcz42_2, hfz42_0, hfz42_1, hfz42_2⟩ := bq3 BK110.out
         have p131 : 0 ≤ (x54_2 : Int) := dT
         have q131 : x54_2 < (l0_2.length : Int) := dT
         obtain ⟨ad131, e131, hx131_0⟩ := Kd.at_int HR0_2.out x54_2 p131 q131
         cases e131
         replace hx131_0 := cw HB hx131_0
         replace p131 := eq_true p131
         replace q131 := eq_true q131
         try go_wp2
         replace HO_7 := Aside0.mk (Kd.R_drew HO_7.out)
         replace HO_8 := Aside0.mk (Kd.R_drew HO_8.out)
         replace HO_9 := Aside0.mk (Kd.R_drew HO_9.out)
         replace BK110 := Aside0.mk (blk_drew BK110.out)
         replace HB := Aside0.mk (below_drew1 HB.out)
         have p132 : 0 ≤ (x54_2 : Int) := dT
         have q132 : x54_2 < (x9_2.length : Int) := dT
         obtain ⟨ad132, e132, hx132_0⟩ := Kd.at_int (Kd.R_reads' HO_9.out).2.2 x54_2 p132 q132
         obtain rfl : (⟨go24, 0, none⟩ : Addr) = ad132 := (by injection e132)
         (first | simp only [add_plain] at hx132_0 | simp only [add_at] at hx132_0 | simp only [Addr.add, Nat.zero_add] at hx132_0 | skip)
         replace p132 := eq_true p132
         replace q132 := eq_true q132
         obtain ⟨Ao44, co44, eo44⟩ := Kd.R_slice HO_8.out
         (first | subst eo44 | (injection eo44 with f1_ f2_ f3_; have f4_ := f1_.symm; have f5_ := f3_.symm; clear f1_ f2_ f3_; subst f4_; subst f5_))
         have p133 : 0 ≤ (x10_1 : Int) := dT
         have q133 : x10_1 < (t114.length : Int) := dT
         obtain ⟨ad133, e133, hx133_0⟩ := Kd.at_int (Kd.R_reads' HO_8.out).2.2 x10_1 p133 q133
         cases e133
         replace p133 := eq_true p133
         replace q133 := eq_true q133
         obtain ⟨Ao45, co45, eo45⟩ := Kd.R_slice HO_7.out
         (first | subst eo45 | (injection eo45 with f1_ f2_ f3_; have f4_ := f1_.symm; have f5_ := f3_.symm; clear f1_ f2_ f3_; subst f4_; subst f5_))
         have p134 : 0 ≤ (x54_2 : Int) := dT
         have q134 : x54_2 < (t111.length : Int) := dT
         obtain ⟨ad134, e134, hx134_0⟩ := Kd.at_int (Kd.R_reads' HO_7.out).2.2 x54_2 p134 q134
         cases e134
         replace p134 := eq_true p134
         replace q134 := eq_true q134
         have p41 : 0 ≤ (x54_2 : Int) := dT
         have q41 : (x54_2 : Int) < ((x9_2.length : Int) : Int) := dT
         obtain ⟨hx41_0, hf41_0⟩ := Kd.R_celln 0 HO_9.out (x54_2 : Int) p41 q41
         replace p41 := eq_true p41
         replace q41 := eq_true q41
         have HP46 := Kd.R_putn HO_9.out (x54_2 : Int) (Int.tmod (wrap64 ((wrap64 ((rd x9_2 x54_2) + (wrap64 ((wrap64 (a0_0 - (rd x9_1 (ji17)))) * (rd l0_2 x54_2))))) + (wrap64 ((rd t114 x10_1) * (rd t111 x54_2))))) a0_0)
         rw [← Ny135.out] at HP46
         have HQ46 := Aside0.mk HP46
         clear HP46
         refine start_ (n := 28) (S := fun w' => w'.cell? ⟨gb110, 0, none⟩ = some (.int .i64 a0_0) ∧ w'.cell? ⟨gb110, 1, none⟩ = some (.int .i64 a0_1) ∧ w'.cell? ⟨gb110, 2, none⟩ = some (.slice (some ad131) l0_2.length c0_2) ∧ w'.cell? ⟨go24, (x54_2).toNat, none⟩ = some (.int .i64 (rd x9_2 x54_2)) ∧ w'.cell? (ad133.add (x10_1).toNat) = some (.int .i64 (rd t114 x10_1)) ∧ w'.cell? (ad134.add (x54_2).toNat) = some (.int .i64 (rd t111 x54_2))) (ds := [27]) (bb 28 0) (by kernel_rfl) rfl rfl ⟨bc0 BK110.out, bc1 BK110.out, bc2 BK110.out, hx132_0, hx133_0, hx134_0⟩ (fun hHeld => ?_); refine with_tabW field_multiply.tab15 field_multiply.bits15 (fun HT_ HW_ => ?_)
         generalize wr.drew = w43 at HO_7 HO_8 HO_9 BK110 HB HQ46 hf41_0 hx132_0 hx133_0 hx134_0 hx41_0 hHeld ⊢
         refine pq HT_ 0 65 (bb 28 1) ?_
         refine pq HT_ 1 66 (bb 28 3) ?_
         refine pq HT_ 2 67 (bb 28 7) ?_
         refine pq HT_ 3 68 (bb 28 15) ?_
         refine pq HT_ 4 69 (bb 28 31) ?_
         refine pq HT_ 6 71 (bb 28 95) ?_
         refine pq HT_ 8 73 (bb 28 351) ?_
         refine pq HT_ 10 75 (bb 28 1375) ?_
         refine pq HT_ 13 78 (bb 28 9567) ?_
         refine pq HT_ 14 79 (bb 28 25951) ?_
         refine pq HT_ 15 80 (bb 28 58719) ?_
         refine pq HT_ 17 82 (bb 28 189791) ?_
         refine pq HT_ 18 83 (bb 28 451935) ?_
         refine pq HT_ 19 84 (bb 28 976223) ?_
         refine pq HT_ 23 88 (bb 28 9364831) ?_
         refine tq HT_ HW_ hHeld 5 70 (bb 28 9364863) ?_
         refine tq HT_ HW_ hHeld 7 72 (bb 28 9364991) ?_
         refine pq HT_ 9 74 (bb 28 9365503) ?_
         refine pq HT_ 11 76 (bb 28 9367551) ?_
         refine pq HT_ 12 77 (bb 28 9371647) ?_
         refine tq HT_ HW_ hHeld 16 81 (bb 28 9437183) ?_
         refine tq HT_ HW_ hHeld 20 85 (bb 28 10485759) ?_
         refine pq HT_ 21 86 (bb 28 12582911) ?_
         refine pq HT_ 22 87 (bb 28 16777215) ?_
         refine tq HT_ HW_ hHeld 24 89 (bb 28 33554431) ?_
         refine pq HT_ 25 90 (bb 28 67108863) ?_
         refine pq HT_ 26 91 (bb 28 134217727) ?_
         refine lq HT_ 27 none (bb 28 268435455) (fun K hK => ?_)
         refine skip_ (w1 := ?_) (by rfl) rfl ?_ ?_
         rotate_left
         ·go_simp
          rfl
         refine hK.out _ _ ?_
         clear hK K
         refine dq HT_ ?_
         try go_wp2
         (try simp only [← hl9_2])
         go_roundg k2
         case measure => have := HK1.out; have := HK2.out; omega
         case rel => exact ⟨(y135), (wrap64 (x54_2 + 1)), rX, H', ⟨by have := HK1.out; have := HK2.out; omega⟩, ⟨by (try simp only [hl9_2]); (with_reducible repeat (first | apply Kd.R_alloc | apply Kd.R_drewN | apply Kd.R_drew)); exact Kd.R_mono (Kd.R_far (p := ⟨go24, (x54_2 : Int).toNat, none⟩) (Kd.R_mono HO_7.out (fun k_ hk => (⟨hk, fun e_ => hk.2 (by rw [e_]; rfl)⟩ : _ ∧ k_ ≠ go24))) (fun _ hk => hk.2) (.int .i64 (Int.tmod (wrap64 ((wrap64 ((rd x9_2 x54_2) + (wrap64 ((wrap64 (a0_0 - (rd x9_1 (ji17)))) * (rd l0_2 x54_2))))) + (wrap64 ((rd t114 x10_1) * (rd t111 x54_2))))) a0_0))) (fun _ hk => ⟨hk.1.1, hk.1.2⟩)⟩, ⟨by (try simp only [hl9_2]); (with_reducible repeat (first | apply Kd.R_alloc | apply Kd.R_drewN | apply Kd.R_drew)); exact Kd.R_mono (Kd.R_far (p := ⟨go24, (x54_2 : Int).toNat, none⟩) (Kd.R_mono HO_8.out (fun k_ hk => (⟨hk, fun e_ => hk.2 (by rw [e_]; rfl)⟩ : _ ∧ k_ ≠ go24))) (fun _ hk => hk.2) (.int .i64 (Int.tmod (wrap64 ((wrap64 ((rd x9_2 x54_2) + (wrap64 ((wrap64 (a0_0 - (rd x9_1 (ji17)))) * (rd l0_2 x54_2))))) + (wrap64 ((rd t114 x10_1) * (rd t111 x54_2))))) a0_0))) (fun _ hk => ⟨hk.1.1, hk.1.2⟩)⟩, ⟨by (try simp only [hl9_2]); (with_reducible repeat (first | apply Kd.R_alloc | apply Kd.R_drewN | apply Kd.R_drew)); exact HQ46.out⟩, ⟨by (try simp only [hl9_2]); (with_reducible repeat (first | refine blk_drewN ?_ _ | refine blk_drew ?_ | refine blk_alloc ?_ _)); refine blk_far ?_ (by have h_ := Kd.R_ne HO_9.out BK110.out (by decide); intro e_; exact h_ (by rw [e_]; rfl)) _; (with_reducible repeat (first | refine blk_drewN ?_ _ | refine blk_drew ?_ | refine blk_alloc ?_ _)); exact BK110.out⟩, ⟨bw⟩⟩
       ·rw [if_neg c33] at H
        have c33b0 : decide (1 < a0_1) = false := decide_eq_false c33
        clear c33
        obtain ⟨c47, H⟩ := iE H
        have c47b0 := decide_eq_true c47
        clear c47
        obtain ⟨c48, H⟩ := iE H
        have c48b0 := decide_eq_true c48
        clear c48
        obtain ⟨c49, H⟩ := iE H
        have c49b0 := decide_eq_true c49
        clear c49
        obtain ⟨c50, H⟩ := iE H
        have c50b0 := decide_eq_true c50
        clear c50
        obtain ⟨c51, H⟩ := iE H
        have c51b0 := decide_eq_true c51
        clear c51
        by_cases c52 : a0_0 = 0
        ·rw [if_pos c52] at H
         exact absurd H (by simp)
        ·rw [if_neg c52] at H
         have c52b0 := beq_eq_false_iff_ne.mpr c52
         have c52b1 := bne_iff_ne.mpr c52
         obtain ⟨y139, hy139⟩ : ∃ y_ : List Int, y_ = (x9_2.set (x54_2 : Int).toNat (Int.tmod (wrap64 ((wrap64 ((rd x9_2 x54_2) + (wrap64 0))) + (wrap64 ((rd t114 x10_1) * (rd t111 x54_2))))) a0_0)) := ⟨_, rfl⟩
         (try rw [Option.bind_some] at H); (try rw [← hy139] at H)
         have Ny139 := Aside0.mk hy139
         clear hy139
         have H' := Aside0.mk H
         clear H
         obtain ⟨hcz54_0, hcz54_1, hcz54_2, hfz54_0, hfz54_1, hfz54_2⟩ := bq3 BK110.out
         try go_wp2
         replace HO_7 := Aside0.mk (Kd.R_drew HO_7.out)
         replace HO_8 := Aside0.mk (Kd.R_drew HO_8.out)
         replace HO_9 := Aside0.mk (Kd.R_drew HO_9.out)
         replace BK110 := Aside0.mk (blk_drew BK110.out)
         replace HB := Aside0.mk (below_drew1 HB.out)
         have p136 : 0 ≤ (x54_2 : Int) := dT
         have q136 : x54_2 < (x9_2.length : Int) := dT
         obtain ⟨ad136, e136, hx136_0⟩ := Kd.at_int (Kd.R_reads' HO_9.out).2.2 x54_2 p136 q136
         obtain rfl : (⟨go24, 0, none⟩ : Addr) = ad136 := (by injection e136)
         (first | simp only [add_plain] at hx136_0 | simp only [add_at] at hx136_0 | simp only [Addr.add, Nat.zero_add] at hx136_0 | skip)
         replace p136 := eq_true p136
         replace q136 := eq_true q136
         obtain ⟨Ao56, co56, eo56⟩ := Kd.R_slice HO_8.out
         (first | subst eo56 | (injection eo56 with f1_ f2_ f3_; have f4_ := f1_.symm; have f5_ := f3_.symm; clear f1_ f2_ f3_; subst f4_; subst f5_))
         have p137 : 0 ≤ (x10_1 : Int) := dT
         have q137 : x10_1 < (t114.length : Int) := dT
         obtain ⟨ad137, e137, hx137_0⟩ := Kd.at_int (Kd.R_reads' HO_8.out).2.2 x10_1 p137 q137
         cases e137
         replace p137 := eq_true p137
         replace q137 := eq_true q137
         obtain ⟨Ao57, co57, eo57⟩ := Kd.R_slice HO_7.out
         (first | subst eo57 | (injection eo57 with f1_ f2_ f3_; have f4_ := f1_.symm; have f5_ := f3_.symm; clear f1_ f2_ f3_; subst f4_; subst f5_))
         have p138 : 0 ≤ (x54_2 : Int) := dT
         have q138 : x54_2 < (t111.length : Int) := dT
         obtain ⟨ad138, e138, hx138_0⟩ := Kd.at_int (Kd.R_reads' HO_7.out).2.2 x54_2 p138 q138
         cases e138
         replace p138 := eq_true p138
         replace q138 := eq_true q138
         have p53 : 0 ≤ (x54_2 : Int) := dT
         have q53 : (x54_2 : Int) < ((x9_2.length : Int) : Int) := dT
         obtain ⟨hx53_0, hf53_0⟩ := Kd.R_celln 0 HO_9.out (x54_2 : Int) p53 q53
         replace p53 := eq_true p53
         replace q53 := eq_true q53
         have HP58 := Kd.R_putn HO_9.out (x54_2 : Int) (Int.tmod (wrap64 ((wrap64 ((rd x9_2 x54_2) + (wrap64 0))) + (wrap64 ((rd t114 x10_1) * (rd t111 x54_2))))) a0_0)
         rw [← Ny139.out] at HP58
         have HQ58 := Aside0.mk HP58
         clear HP58
         refine start_ (n := 28) (S := fun w' => w'.cell? ⟨gb110, 0, none⟩ = some (.int .i64 a0_0) ∧ w'.cell? ⟨gb110, 1, none⟩ = some (.int .i64 a0_1) ∧ w'.cell? ⟨gb110, 2, none⟩ = some (.slice A0_2 l0_2.length c0_2) ∧ w'.cell? ⟨go24, (x54_2).toNat, none⟩ = some (.int .i64 (rd x9_2 x54_2)) ∧ w'.cell? (ad137.add (x10_1).toNat) = some (.int .i64 (rd t114 x10_1)) ∧ w'.cell? (ad138.add (x54_2).toNat) = some (.int .i64 (rd t111 x54_2))) (ds := [27]) (bb 28 0) (by kernel_rfl) rfl rfl ⟨bc0 BK110.out, bc1 BK110.out, bc2 BK110.out, hx136_0, hx137_0, hx138_0⟩ (fun hHeld => ?_); refine with_tabW field_multiply.tab15 field_multiply.bits15 (fun HT_ HW_ => ?_)
         generalize wr.drew = w55 at HO_7 HO_8 HO_9 BK110 HB HQ58 hf53_0 hx136_0 hx137_0 hx138_0 hx53_0 hHeld ⊢
         refine pq HT_ 0 65 (bb 28 1) ?_
         refine pq HT_ 1 66 (bb 28 3) ?_
         refine pq HT_ 2 67 (bb 28 7) ?_
         refine pq HT_ 3 68 (bb 28 15) ?_
         refine pq HT_ 4 69 (bb 28 31) ?_
         refine pq HT_ 6 71 (bb 28 95) ?_
         refine pq HT_ 8 73 (bb 28 351) ?_
         refine pq HT_ 10 75 (bb 28 1375) ?_
         refine pq HT_ 13 78 (bb 28 9567) ?_
         refine pq HT_ 14 79 (bb 28 25951) ?_
         refine pq HT_ 15 80 (bb 28 58719) ?_
         refine pq HT_ 17 82 (bb 28 189791) ?_
         refine pq HT_ 18 83 (bb 28 451935) ?_
         refine pq HT_ 19 84 (bb 28 976223) ?_
         refine pq HT_ 23 88 (bb 28 9364831) ?_
         refine tq HT_ HW_ hHeld 5 70 (bb 28 9364863) ?_
         refine tq HT_ HW_ hHeld 7 72 (bb 28 9364991) ?_
         refine pq HT_ 9 74 (bb 28 9365503) ?_
         refine pq HT_ 11 76 (bb 28 9367551) ?_
         refine pq HT_ 12 77 (bb 28 9371647) ?_
         refine tq HT_ HW_ hHeld 16 81 (bb 28 9437183) ?_
         refine tq HT_ HW_ hHeld 20 85 (bb 28 10485759) ?_
         refine pq HT_ 21 86 (bb 28 12582911) ?_
         refine pq HT_ 22 87 (bb 28 16777215) ?_
         refine tq HT_ HW_ hHeld 24 89 (bb 28 33554431) ?_
         refine pq HT_ 25 90 (bb 28 67108863) ?_
         refine pq HT_ 26 91 (bb 28 134217727) ?_
         refine lq HT_ 27 none (bb 28 268435455) (fun K hK => ?_)
         refine skip_ (w1 := ?_) (by rfl) rfl ?_ ?_
         rotate_left
         ·go_simp
          rfl
         refine hK.out _ _ ?_
         clear hK K
         refine dq HT_ ?_
         try go_wp2
         (try simp only [← hl9_2])
         go_roundg k2
         case measure => have := HK1.out; have := HK2.out; omega
         case rel => exact ⟨(y139), (wrap64 (x54_2 + 1)), rX, H', ⟨by have := HK1.out; have := HK2.out; omega⟩, ⟨by (try simp only [hl9_2]); (with_reducible repeat (first | apply Kd.R_alloc | apply Kd.R_drewN | apply Kd.R_drew)); exact Kd.R_mono (Kd.R_far (p := ⟨go24, (x54_2 : Int).toNat, none⟩) (Kd.R_mono HO_7.out (fun k_ hk => (⟨hk, fun e_ => hk.2 (by rw [e_]; rfl)⟩ : _ ∧ k_ ≠ go24))) (fun _ hk => hk.2) (.int .i64 (Int.tmod (wrap64 ((wrap64 ((rd x9_2 x54_2) + (wrap64 0))) + (wrap64 ((rd t114 x10_1) * (rd t111 x54_2))))) a0_0))) (fun _ hk => ⟨hk.1.1, hk.1.2⟩)⟩, ⟨by (try simp only [hl9_2]); (with_reducible repeat (first | apply Kd.R_alloc | apply Kd.R_drewN | apply Kd.R_drew)); exact Kd.R_mono (Kd.R_far (p := ⟨go24, (x54_2 : Int).toNat, none⟩) (Kd.R_mono HO_8.out (fun k_ hk => (⟨hk, fun e_ => hk.2 (by rw [e_]; rfl)⟩ : _ ∧ k_ ≠ go24))) (fun _ hk => hk.2) (.int .i64 (Int.tmod (wrap64 ((wrap64 ((rd x9_2 x54_2) + (wrap64 0))) + (wrap64 ((rd t114 x10_1) * (rd t111 x54_2))))) a0_0))) (fun _ hk => ⟨hk.1.1, hk.1.2⟩)⟩, ⟨by (try simp only [hl9_2]); (with_reducible repeat (first | apply Kd.R_alloc | apply Kd.R_drewN | apply Kd.R_drew)); exact HQ58.out⟩, ⟨by (try simp only [hl9_2]); (with_reducible repeat (first | refine blk_drewN ?_ _ | refine blk_drew ?_ | refine blk_alloc ?_ _)); refine blk_far ?_ (by have h_ := Kd.R_ne HO_9.out BK110.out (by decide); intro e_; exact h_ (by rw [e_]; rfl)) _; (with_reducible repeat (first | refine blk_drewN ?_ _ | refine blk_drew ?_ | refine blk_alloc ?_ _)); exact BK110.out⟩, ⟨bw⟩⟩
      ·rw [if_neg c32] at H
       have c32b0 := decide_eq_false c32
       clear c32
       (try rw [hl9_2] at c32b0)
       have H' := Aside0.mk H
       clear H
       go_wp2
       (try simp only [← hl9_2])
       refine Handed.intro k2 ?measure ?_
       rotate_left
       go_step
       (repeat apply Exists.intro)
       refine ⟨?rel, (by first | rfl | (rw [hji17]; done) | (rw [hji17]; rfl))⟩
       case measure => have := HK1.out; have := HK2.out; omega
       case rel => exact ⟨(x9_2), (wrap64 (x10_1 - 1)), rX, H', ⟨by have := HK1.out; have := HK2.out; omega⟩, ⟨by (try simp only [hl9_2]); (with_reducible repeat (first | apply Kd.R_alloc | apply Kd.R_drewN | apply Kd.R_drew)); exact HO_7.out⟩, ⟨by (try simp only [hl9_2]); (with_reducible repeat (first | apply Kd.R_alloc | apply Kd.R_drewN | apply Kd.R_drew)); exact HO_8.out⟩, ⟨by (try simp only [hl9_2]); (with_reducible repeat (first | apply Kd.R_alloc | apply Kd.R_drewN | apply Kd.R_drew)); exact HO_9.out⟩, ⟨by (try simp only [hl9_2]); (with_reducible repeat (first | refine blk_drewN ?_ _ | refine blk_drew ?_ | refine blk_alloc ?_ _)); exact BK110.out⟩, ⟨bw⟩⟩
   ·rw [if_neg c16] at H
    have c16b0 : decide (0 ≤ x10_1) = false := decide_eq_false c16
    clear c16
    obtain ⟨t120, A59, H⟩ := bE H
    obtain rfl := Option.some.inj H
    obtain ⟨hcz60_0, hcz60_1, hcz60_2, hfz60_0, hfz60_1, hfz60_2⟩ := bq3 BK110.out
    obtain ⟨Ao61, co61, eo61⟩ := Kd.R_slice HO_9.out
    subst eo61
    go_wp2_with (first | (refine gL 96 Try.func123 #[.slice Ao61 x9_1.length co61, .int .i64 a0_0] ?_; (with_reducible refine (field_valueOf.calls k1 _ _ x9_1 a0_0 t120 _ ?side1 ((Kd.R_reads' HO_9.out).2.1) A59.out).mono ?_); (case side1 => repeat (first | exact (Kd.R_reads' HO_9.out).2.2 | (with_reducible refine Kd.C_alloc ?_ _) | (with_reducible refine Kd.C_drewN ?_ _) | (with_reducible refine Kd.C_drew ?_))); rintro e w' ⟨rfl, ⟨nd, rfl⟩⟩; refine ⟨_, rfl, ?_⟩))
    go_ret
    exact ⟨rW, bw⟩
end Go.Proofs.Ytibbdjkboglepaa.QBchRoots

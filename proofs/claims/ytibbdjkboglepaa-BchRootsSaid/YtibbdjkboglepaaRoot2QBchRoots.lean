/- The walk of bch.Root where the field is made: the range over its elements. -/
import Derived.Test.YtibbdjkboglepaaRootQBchRoots
import Derived.RangeFuncCalls
set_option linter.unusedVariables false
set_option linter.unusedSimpArgs false
namespace Go.Proofs.Ytibbdjkboglepaa.MyQBchRoots
open Go Go.RowKit Go.Shelf Go.Proofs.YtibbdjkboglepaaW.PrintWords Go.Proofs.YtibbdjkboglepaaW.PrintLast Go.Proofs.YtibbdjkboglepaaW.PrintMore Go.Proofs.Ytibbdjkboglepaa.My Go.Proofs.Ytibbdjkboglepaa.QBchRoots
attribute [local go_sem] Oper.semAt_some

theorem ne_row {W : World} {k : Nat} {cs : Array Value} {t : TypeId} {fr : Nat × Nat} {row : Option Nat} (hb : W.heap[k]? = some (.cells cs t fr)) (hr : ∀ r, row = some r → ∃ o : Obj, W.heap[r]? = some o ∧ o.isCells = false) : some k ≠ row := by
  intro e
  obtain ⟨o, ho, hc⟩ := hr k e.symm
  rw [hb] at ho
  cases ho
  simp [Obj.isCells] at hc
theorem Frame.grown {w W W' : World} {n a b : Int} {gv : Value} {gb : Nat} {row : Option Nat} (h : Frame w W n a b gv gb) (hg : W.grownBy W' row) (hr : ∀ r, row = some r → w.heap.size ≤ r ∧ ∃ o : Obj, W.heap[r]? = some o ∧ o.isCells = false) : Frame w W' n a b gv gb := by
  obtain ⟨h1, h2, h3, h4, h5, h6⟩ := h
  have hr' := fun r e => (hr r e).2
  exact ⟨blk_grown h1 hg (ne_row h1 hr'), blk_grown h2 hg (ne_row h2 hr'), blk_grown h3 hg (ne_row h3 hr'), blk_grown h4 hg (ne_row h4 hr'), h5, h6.grown hg h6.size (fun k e => (hr k e).1)⟩
theorem isS92_grown' {w0 W W' : World} {g : Nat} {f0 f1 : Int} {f2 : List Int} {f3 : Int} {f4 f5 : List Int} {row : Option Nat} (h : IsS92 w0 W g f0 f1 f2 f3 f4 f5) (hg : W.grownBy W' row) (hr : ∀ r, row = some r → ∃ o : Obj, W.heap[r]? = some o ∧ o.isCells = false) : IsS92 w0 W' g f0 f1 f2 f3 f4 f5 := by
  obtain ⟨A2, c2, A4, c4, A5, c5, hb, _⟩ := id h
  exact h.grown hg (ne_row hb hr)
theorem below_keep {w0 W W' : World} {g b : Nat} (h0 : Below w0.heap.size w0 W) (h1 : Below w0.heap.size w0 W') (hk : KeepBut W W' g none) (hb : b ≤ W.heap.size) (hg : b ≤ g) : Below b W W' :=
  ⟨h1.os.trans h0.os.symm, h1.tape.trans h0.tape.symm, h1.output.trans h0.output.symm, hk.1, fun k hk' => hk.2 k (by omega) (by omega) (by simp)⟩
theorem isS92_others {w0 W W' : World} {g : Nat} {f0 f1 : Int} {f2 : List Int} {f3 : Int} {f4 f5 : List Int} (h : IsS92 w0 W g f0 f1 f2 f3 f4 f5) (hk : KeepBut W W' g none) : KeepsOthers W W' := by
  obtain ⟨A2, c2, A4, c4, A5, c5, hb, _⟩ := id h
  refine ⟨hk.1, fun j o hj ho => (hk.2 j (blk_lt hj) (fun e => ?_) (by simp)).trans hj⟩
  subst e
  rw [hb] at hj
  cases hj
  simp [Obj.isCells] at ho
theorem Frame.keep {w w0 W W' : World} {n a b : Int} {gv : Value} {gb g : Nat} {f0 f1 : Int} {f2 : List Int} {f3 : Int} {f4 f5 : List Int} (h : Frame w W n a b gv gb) (hI : IsS92 w0 W g f0 f1 f2 f3 f4 f5) (h0 : Below w0.heap.size w0 W) (h1 : Below w0.heap.size w0 W') (hk : KeepBut W W' g none) (hw : w.heap.size ≤ w0.heap.size) : Frame w W' n a b gv gb := by
  obtain ⟨k1, k2, k3, k4, k5, k6⟩ := h
  have hge := hI.ge
  exact ⟨hk.blk k1 (fun e => hI.ne_blk k1 (by decide) e.symm) (by simp), hk.blk k2 (fun e => hI.ne_blk k2 (by decide) e.symm) (by simp), hk.blk k3 (fun e => hI.ne_blk k3 (by decide) e.symm) (by simp), hk.blk k4 (fun e => hI.ne_blk k4 (by decide) e.symm) (by simp), k5, k6.trans (below_keep h0 h1 hk k6.size (by omega))⟩

theorem pre_fin {N : Nat} {pre : List (Fin N)} {x : Fin N} (h : pre ++ [x] <+: List.finRange N) (y : Nat) (hy : y < x.val) : (⟨y, by have := x.isLt; omega⟩ : Fin N) ∈ pre := by
  obtain ⟨t, ht⟩ := h
  have hat : ∀ (i : Nat) (z : Fin N), (pre ++ [x])[i]? = some z → z.val = i := by
    intro i z hz
    have h2 : (List.finRange N)[i]? = some z := by
      rw [← ht, List.append_assoc]
      have hl : i < (pre ++ [x]).length := (List.getElem?_eq_some_iff.1 hz).1
      rw [← List.append_assoc, List.getElem?_append_left hl]
      exact hz
    obtain ⟨h3, h4⟩ := List.getElem?_eq_some_iff.1 h2
    rw [← h4]
    simp
  have hx := hat pre.length x (by simp)
  have hyl : y < pre.length := by omega
  have h5 := hat y (pre[y]'hyl) (by rw [List.getElem?_append_left hyl]; simp [hyl])
  have h6 : (⟨y, by have := x.isLt; omega⟩ : Fin N) = pre[y]'hyl := Fin.ext h5.symm
  rw [h6]
  exact List.getElem_mem _

set_option maxHeartbeats 8000000 in
set_option maxRecDepth 100000 in
theorem Root_ok (k : Nat) (P M n q : Int) (A : Option Addr) (c : Nat) (Mod ex lg : List Int) (w : World) (hr : Kd.C (Kd.int .i64) w A Mod.length Mod) (hN : NewSaysOk P M q A c Mod ex lg) (hna : 1 ≤ n) (hnb : n ≤ 64) (hq0 : 0 ≤ q) (hq1 : q ≤ 256)
    (ord er : Int → Int) (hmo : ∀ x : Int, 0 ≤ x → x < q → field_GF_MulOrder.f k P M Mod q ex lg x = some (ord x, er x, P, M, q)) :
    Calls Try.prog 16 #[.agg #[.int .i64 P, .int .i64 M, .slice A Mod.length c], .int .i64 n] w fun e w' => (∃ r s : Int, e = .returned (.tuple #[.int .i64 r, .int .i64 s]) ∧
      ((∃ x : Nat, (x : Int) < q ∧ er x = 0 ∧ ord x = n ∧ (∀ y : Nat, y < x → ¬ (er y = 0 ∧ ord y = n)) ∧ r = x ∧ s = 0) ∨ ((∀ y : Nat, (y : Int) < q → ¬ (er y = 0 ∧ ord y = n)) ∧ r = 0 ∧ s = 11))) ∧ Below w.heap.size w w' := by
  have HR := Aside0.mk hr
  have HN := Aside0.mk hN
  have HM := Aside0.mk hmo
  have hu36 := Try.underlying36
  have hu92 := Try.underlying92
  clear hr hN hmo
  have d1 : decide (n < 1) = false := decide_eq_false (by omega)
  have d2 : decide (n > 64) = false := decide_eq_false (by omega)
  have d3 : decide (64 < n) = false := decide_eq_false (by omega)
  refine (callsIn_wide (n := 6)).1 ?_
  refine callsIn_of_wp_marks Try.func16 rfl trivial ?_ rfl
  refine wpIn_wide.2 ?_
  simp only [Try.ntmps16, List.size_toArray, List.length_cons, List.length_nil, Nat.reduceAdd, Nat.reduceSub, Array.replicate_succ, Array.replicate_zero, List.push_toArray, List.append_toArray, List.nil_append, List.cons_append]
  go_wp2_with (first
    | (go_at_call 37; refine (HN.out _ (Kd.C_alloc (Kd.C_alloc (Kd.C_alloc (Kd.C_alloc HR.out _) _) _) _)).mono ?_; rintro e w1 ⟨g, w0, rfl, hI, hB0, hge, hb⟩; have HB1 := Aside0.mk hb; have HI1 := Aside0.mk hI; have HW1 := Aside0.mk hB0; have HGE := Aside0.mk hge; clear hb hI hB0 hge)
    | ((with_reducible refine gate_dst (N := 6) rfl ?_); refine box_event ?hg (N := 6) ?hd (cs := #[.pointer none]) (t := 63) ?hr ?_; (case hd => rfl); (case hg => rfl); (case hr => first | (go_simp; done) | (go_simp; rfl)); intro gb hgb wA hbox hb2; have FR := Aside0.mk (Frame.start HB1.out hgb hbox hb2); have HI := Aside0.mk (HI1.out.below hb2); have HW := Aside0.mk (HW1.out.trans (hb2.mono HW1.out.size)); have HGB : Aside0 (w0.heap.size ≤ gb) := ⟨by rw [hgb]; exact HW1.out.size⟩; clear HI1 HW1; clear HB1 hgb hbox hb2; obtain ⟨hn1, hc2, hf2, hc3, hf3, hcg, hfg⟩ := FR.out.facts)
    | ((with_reducible refine gate_store (t := 63) (p := 6) rfl ?_); refine store_event (t := 63) (p := 6) (v := ?vo_6) (w1 := (wA.setCell ⟨gb, 0, none⟩ (.pointer (some ⟨g, 0, none⟩)))) ?hg ?ho ?hn ?hr ?_; (case ho => rfl); (case hg => rfl); (case hn => rfl); (case hr => first | (go_simp; done) | (go_simp; rfl)); intro wG hw; have FR2 : Aside0 (Frame w wG n 0 0 ((.pointer (some ⟨g, 0, none⟩))) gb) := ⟨by rw [hw]; exact Frame.setG FR.out _⟩; have HI2 := Aside0.mk (HI.out.far (fun e => HI.out.ne_blk FR.out.2.2.2.1 (by decide) e) (p := ⟨gb, 0, none⟩) (.pointer (some ⟨g, 0, none⟩))); have HW2 := Aside0.mk (HW.out.setCell (p := ⟨gb, 0, none⟩) HGB.out (.pointer (some ⟨g, 0, none⟩))); rw [← hw] at HI2 HW2; clear HI HW; have HI := HI2; have HW := HW2; clear HI2 HW2; clear hw FR hn1 hc2 hf2 hc3 hf3 hcg hfg; have FR := FR2; clear FR2; obtain ⟨hn1, hc2, hf2, hc3, hf3, hcg, hfg⟩ := FR.out.facts)
    | (go_at_call 38; refine (callsIn_wide.1 (elements_in Fence.wide 3 trivial rfl _ _)).mono ?_; rintro e w' ⟨rfl, rfl⟩))
  obtain ⟨W0, hW0⟩ : ∃ W0, wG.alloc (.cells #[.pointer (some ⟨g, 0, none⟩)] 63) = W0 := ⟨_, rfl⟩
  have hcBn : W0.cell? ⟨wG.heap.size, 0, none⟩ = some (.pointer (some ⟨g, 0, none⟩)) := by rw [← hW0]; exact (blk_cell (blk_new wG (.cells #[.pointer (some ⟨g, 0, none⟩)] 63)) 0).trans rfl
  have hsz : W0.heap.size = wG.heap.size + 1 := by rw [← hW0]; simp
  have hIW : IsS92 w0 W0 g P M Mod q ex lg := by rw [← hW0]; exact HI.out.alloc _
  have hBW : Below w0.heap.size w0 W0 := by rw [← hW0]; exact below_alloc HW.out _
  have hFW : Frame w W0 n 0 0 (.pointer (some ⟨g, 0, none⟩)) gb := by
    rw [← hW0]
    exact FR.out.grown (World.grownBy_alloc wG _ none) (fun r e => by cases e)
  rw [hW0]
  clear hW0 HI HW FR hn1 hc2 hf2 hc3 hf3 hcg hfg
  have hgq : W0.cell? ⟨g, 3, none⟩ = some (.int .i64 q) := by
    obtain ⟨A2, c2, A4, c4, A5, c5, hb, _⟩ := id hIW
    exact (blk_cell hb 3).trans rfl
  have hwl : w.heap.size ≤ w0.heap.size := by have := HGE.out; simp only [World.size_alloc] at this; omega
  refine wpIn_wide.1 (wpIn_rangeFunc_ownF (n := 6) (F := Fence.wide) rfl (by omega) (gf := 65) (lb := #[.pointer (some ⟨wG.heap.size, 0, none⟩)]) rfl trivial (enters_of Try.func65 (by kernel_rfl) rfl)
    (elements_stops Fence.wide (6 - 1) trivial rfl (by omega) wG.heap.size w.heap.size g q hq0 (by omega) W0 (by omega) hIW.lt hcBn hgq) belowK_t (belowK_b hFW.2.2.2.2.2.size) (Below.refl _ _) (fun _ => rfl)
    (fun pre W => (∀ y ∈ pre, ¬ (er ((y.val : Nat) : Int) = 0 ∧ ord ((y.val : Nat) : Int) = n)) ∧ Frame w W n 0 0 (.pointer (some ⟨g, 0, none⟩)) gb ∧ IsS92 w0 W g P M Mod q ex lg ∧ Below w0.heap.size w0 W)
    (fun c pre W => c = .ret ∧ ∃ (pre' : List (Fin q.toNat)) (x : Fin q.toNat), pre = pre' ++ [x] ∧ (∀ y ∈ pre', ¬ (er ((y.val : Nat) : Int) = 0 ∧ ord ((y.val : Nat) : Int) = n)) ∧ (er ((x.val : Nat) : Int) = 0 ∧ ord ((x.val : Nat) : Int) = n) ∧ Frame w W n ((x.val : Nat) : Int) 0 (.pointer (some ⟨g, 0, none⟩)) gb)
    (fun s A B row hs hg hr => ⟨hs.1, hs.2.1.grown hg (fun r e => ⟨by have := (hr r e).1; have := hFW.2.2.2.2.2.size; omega, (hr r e).2⟩), isS92_grown' hs.2.2.1 hg (fun r e => (hr r e).2), hs.2.2.2.grown hg hs.2.2.2.size (fun r e => by have := (hr r e).1; have := hBW.size; omega)⟩)
    (fun c s A B row hs hg hr => by
      obtain ⟨h1, pre', x, h2, h3, h4, h5⟩ := hs
      exact ⟨h1, pre', x, h2, h3, h4, h5.grown hg (fun r e => ⟨by have := (hr r e).1; have := hFW.2.2.2.2.2.size; omega, (hr r e).2⟩)⟩)
    ⟨by simp, hFW, hIW, hBW⟩
    (fun x => { tmps := #[.agg #[.int .i64 P, .int .i64 M, .slice A Mod.length c], .int .i64 n, .pointer (some ⟨w.heap.size, 0, none⟩), .pointer (some ⟨w.heap.size + 1, 0, none⟩), .pointer (some ⟨w.heap.size + 1 + 1, 0, none⟩), .pointer (some ⟨w.heap.size + 1 + 1 + 1, 0, none⟩), .pointer (some ⟨gb, 0, none⟩), .int .i64 0, .int .i64 ((x.val : Nat) : Int), undef, undef, .tuple #[.pointer (some ⟨g, 0, none⟩), .int .i64 0], .agg #[.int .i64 P, .int .i64 M, .slice A Mod.length c], .tuple #[.pointer (some ⟨g, 0, none⟩), .int .i64 0], .pointer (some ⟨g, 0, none⟩), .int .i64 0, .int .i64 0, .bool false, undef, .int .i64 n, .bool false, .bool false, .int .i64 n, .bool false, .bool false, .pointer (some ⟨g, 0, none⟩), .func (.func 65) #[] #[.pointer (some ⟨wG.heap.size, 0, none⟩)], .int .i64 ((x.val : Nat) : Int), undef, undef, undef, undef, undef, undef, undef, undef, undef, undef, undef, undef, undef, undef], defers := [] }) ?assign ?body ?done ?stop)
  case assign =>
    intro l x W K hK
    gi_wp2
    exact hK
  case body =>
    rintro l pre x W ⟨hp, hF, hI, hB⟩ _
    have hxl := x.isLt
    obtain ⟨hn1, hc2, hf2, hc3, hf3, hcg, hfg⟩ := hF.facts
    have hcall := field_GF_MulOrder.calls k g P M Mod q ex lg ((x.val : Nat) : Int) _ _ _ _ _ w0 W hI hB (HM.out _ (by omega) (by omega))
    have HC := Aside0.mk hcall
    have HF := Aside0.mk hF
    have HI := Aside0.mk hI
    have HB := Aside0.mk hB
    clear hcall hF hI hB
    gi_wp2_with (refine ⟨trivial, ?_⟩; gi_at_call 39; refine (CallsIn.inRound l (callsIn_wide.2 HC.out)).mono ?_; rintro e W' ⟨rfl, hI', hB', hk'⟩; have HF' := Aside0.mk (HF.out.keep HI.out HB.out hB' hk' hwl); clear hn1 hc2 hf2 hc3 hf3 hcg hfg; have HI' := Aside0.mk hI'; have HB' := Aside0.mk hB'; have HK' := Aside0.mk hk'; clear hI' hB' hk'; obtain ⟨hn1, hc2, hf2, hc3, hf3, hcg, hfg⟩ := HF'.out.facts)
    all_goals
      have hsz1 := HF.out.2.2.2.2.2.size
      have hge1 := HI.out.ge
      have hbk : Below w.heap.size W W' := below_keep HB.out HB'.out HK'.out hsz1 (by omega)
      first
      | (rename_i hx
         have hne : ¬ (er ((x.val : Nat) : Int) = 0 ∧ ord ((x.val : Nat) : Int) = n) := by first | exact fun h => hx h.1 | (intro h; simp [h.2] at hx)
         exact ⟨isS92_others HI.out HK'.out, hbk, ⟨fun y hy => (List.mem_append.1 hy).elim (hp y) (fun e => by rw [List.mem_singleton] at e; subst e; exact hne), HF'.out, HI'.out, HB'.out⟩⟩)
      | (rename_i hx
         have ho : ord ((x.val : Nat) : Int) = n := by simpa using hx
         have he : er ((x.val : Nat) : Int) = 0 := by first | assumption | simpa using ‹_›
         exact ⟨((isS92_others HI.out HK'.out).trans (KeepsOthers.setCell _ _ _)).trans (KeepsOthers.setCell _ _ _), rfl, pre, x, rfl, hp, ⟨he, ho⟩, (HF'.out.setA _).setB _⟩)
  case done =>
    rintro D ys W hD rfl ⟨hne, hF, hI, hB⟩ hK
    obtain ⟨hn1, hc2, hf2, hc3, hf3, hcg, hfg⟩ := hF.facts
    have HF := Aside0.mk hF
    have HKD := Aside0.mk hK
    have HNE := Aside0.mk hne
    clear hF hI hB hK hne
    try simp only [Exit.then]
    go_wp2
    have hK' := ((KeepsOthers.setCell W ⟨w.heap.size + 1 + 1, 0, none⟩ (.int .i64 0)).trans (KeepsOthers.setCell _ ⟨w.heap.size + 1 + 1 + 1, 0, none⟩ (.int .i64 11))).same D _ HKD.out rfl
    have hF' := (HF.out.setA 0).setB 11
    have hF2 := hF'.grown (grownBy_putObj' _ D (.deferred none)) (fun r e => by cases e; exact ⟨by have := hFW.2.2.2.2.2.size; omega, _, hK', rfl⟩)
    refine ⟨by simp, .inl ⟨_, _, rfl, run_takeDeferred hK', ?_⟩⟩
    obtain ⟨kn1, kc2, kf2, kc3, kf3, kcg, kfg⟩ := hF2.facts
    exact ⟨_, results_cells (a := ⟨w.heap.size + 1 + 1, 0, none⟩) (b := ⟨w.heap.size + 1 + 1 + 1, 0, none⟩) (x := .int .i64 0) (y := .int .i64 11) rfl rfl rfl _ (by go_simp) (by go_simp), ⟨0, 11, rfl, .inr ⟨fun y hy => HNE.out ⟨y, by omega⟩ (List.mem_finRange _), rfl, rfl⟩⟩, hF2.2.2.2.2.2⟩
  case stop =>
    rintro D c pre W hD hpre ⟨rfl, pre', x, rfl, hne, hit, hF⟩ hK
    gi_wp2
    have hF2 := hF.grown (grownBy_putObj' _ D (.deferred none)) (fun r e => by cases e; exact ⟨by have := hFW.2.2.2.2.2.size; omega, _, hK, rfl⟩)
    refine ⟨by simp, .inl ⟨_, _, rfl, run_takeDeferred hK, ?_⟩⟩
    obtain ⟨kn1, kc2, kf2, kc3, kf3, kcg, kfg⟩ := hF2.facts
    have hxl := x.isLt
    exact ⟨_, results_cells (a := ⟨w.heap.size + 1 + 1, 0, none⟩) (b := ⟨w.heap.size + 1 + 1 + 1, 0, none⟩) (x := .int .i64 ((x.val : Nat) : Int)) (y := .int .i64 0) rfl rfl rfl _ (by go_simp) (by go_simp), ⟨((x.val : Nat) : Int), 0, rfl, .inl ⟨x.val, by omega, hit.1, hit.2, fun y hy => hne _ (pre_fin hpre y hy), rfl, rfl⟩⟩, hF2.2.2.2.2.2⟩
end Go.Proofs.Ytibbdjkboglepaa.MyQBchRoots

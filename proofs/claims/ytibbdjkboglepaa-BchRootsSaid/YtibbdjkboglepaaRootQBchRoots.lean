/- The walk of bch.Root. -/
import Derived.Test.YtibbdjkboglepaaElemQBchRoots
import Derived.Test.YtibbdjkboglepaaNewQBchRoots
set_option linter.unusedVariables false
set_option linter.unusedSimpArgs false
namespace Go.Proofs.Ytibbdjkboglepaa.MyQBchRoots
open Go Go.RowKit Go.Shelf Go.Proofs.YtibbdjkboglepaaW.PrintWords Go.Proofs.YtibbdjkboglepaaW.PrintLast Go.Proofs.YtibbdjkboglepaaW.PrintMore Go.Proofs.Ytibbdjkboglepaa.My Go.Proofs.Ytibbdjkboglepaa.QBchRoots

/-- New refuses the description. -/
def NewSays1 (P M : Int) (A : Option Addr) (c : Nat) (Mod : List Int) : Prop := ∀ w : World, Kd.C (Kd.int .i64) w A Mod.length Mod →
  Calls Try.prog 37 #[.agg #[.int .i64 P, .int .i64 M, .slice A Mod.length c]] w fun e w' => e = .returned (.tuple #[.pointer none, .int .i64 1]) ∧ Below w.heap.size w w'
/-- New makes the record. -/
def NewSaysOk (P M q : Int) (A : Option Addr) (c : Nat) (Mod ex lg : List Int) : Prop := ∀ w : World, Kd.C (Kd.int .i64) w A Mod.length Mod →
  Calls Try.prog 37 #[.agg #[.int .i64 P, .int .i64 M, .slice A Mod.length c]] w fun e w' => ∃ (g : Nat) (w0 : World), e = .returned (.tuple #[.pointer (some ⟨g, 0, none⟩), .int .i64 0]) ∧ IsS92 w0 w' g P M Mod q ex lg ∧ Below w0.heap.size w0 w' ∧ w.heap.size ≤ w0.heap.size ∧ Below w.heap.size w w'

/-- The boxes of Root: n, the two results, the field. -/
def Frame (w W : World) (n a b : Int) (gv : Value) (gb : Nat) : Prop :=
  W.heap[w.heap.size + 1]? = some (.cells #[.int .i64 n] 3 (0, 0)) ∧ W.heap[w.heap.size + 1 + 1]? = some (.cells #[.int .i64 a] 3 (0, 0)) ∧ W.heap[w.heap.size + 1 + 1 + 1]? = some (.cells #[.int .i64 b] 25 (0, 0)) ∧ W.heap[gb]? = some (.cells #[gv] 63 (0, 0)) ∧ w.heap.size + 1 + 1 + 1 < gb ∧ Below w.heap.size w W
theorem Frame.facts {w W : World} {n a b : Int} {gv : Value} {gb : Nat} (h : Frame w W n a b gv gb) :
    W.cell? ⟨w.heap.size + 1, 0, none⟩ = some (.int .i64 n) ∧ W.cell? ⟨w.heap.size + 1 + 1, 0, none⟩ = some (.int .i64 a) ∧ W.frozen? ⟨w.heap.size + 1 + 1, 0, none⟩ = false ∧ W.cell? ⟨w.heap.size + 1 + 1 + 1, 0, none⟩ = some (.int .i64 b) ∧ W.frozen? ⟨w.heap.size + 1 + 1 + 1, 0, none⟩ = false ∧ W.cell? ⟨gb, 0, none⟩ = some gv ∧ W.frozen? ⟨gb, 0, none⟩ = false :=
  ⟨(blk_cell h.1 0).trans rfl, (blk_cell h.2.1 0).trans rfl, blk_frozen h.2.1 0, (blk_cell h.2.2.1 0).trans rfl, blk_frozen h.2.2.1 0, (blk_cell h.2.2.2.1 0).trans rfl, blk_frozen h.2.2.2.1 0⟩
theorem Frame.setG {w W : World} {n a b : Int} {gv : Value} {gb : Nat} (h : Frame w W n a b gv gb) (gv' : Value) : Frame w (W.setCell ⟨gb, 0, none⟩ gv') n a b gv' gb := by
  obtain ⟨h1, h2, h3, h4, h5, h6⟩ := h
  exact ⟨blk_far h1 (by simp; omega) _, blk_far h2 (by simp; omega) _, blk_far h3 (by simp; omega) _, blk_put h4 0 gv' rfl, h5, below_set h6 (by omega)⟩
theorem Frame.setA {w W : World} {n a b : Int} {gv : Value} {gb : Nat} (h : Frame w W n a b gv gb) (a' : Int) : Frame w (W.setCell ⟨w.heap.size + 1 + 1, 0, none⟩ (.int .i64 a')) n a' b gv gb := by
  obtain ⟨h1, h2, h3, h4, h5, h6⟩ := h
  exact ⟨blk_far h1 (by simp) _, blk_put h2 0 _ rfl, blk_far h3 (by simp) _, blk_far h4 (by simp; omega) _, h5, below_set h6 (by omega)⟩
theorem Frame.setB {w W : World} {n a b : Int} {gv : Value} {gb : Nat} (h : Frame w W n a b gv gb) (b' : Int) : Frame w (W.setCell ⟨w.heap.size + 1 + 1 + 1, 0, none⟩ (.int .i64 b')) n a b' gv gb := by
  obtain ⟨h1, h2, h3, h4, h5, h6⟩ := h
  exact ⟨blk_far h1 (by simp) _, blk_far h2 (by simp) _, blk_put h3 0 _ rfl, blk_far h4 (by simp; omega) _, h5, below_set h6 (by omega)⟩
theorem Frame.drewN {w W : World} {n a b : Int} {gv : Value} {gb : Nat} (h : Frame w W n a b gv gb) (m : Nat) : Frame w (W.drewN m) n a b gv gb :=
  ⟨h.1, h.2.1, h.2.2.1, h.2.2.2.1, h.2.2.2.2.1, pw_below_drewN h.2.2.2.2.2 m⟩
theorem Frame.drew {w W : World} {n a b : Int} {gv : Value} {gb : Nat} (h : Frame w W n a b gv gb) : Frame w W.drew n a b gv gb :=
  ⟨h.1, h.2.1, h.2.2.1, h.2.2.2.1, h.2.2.2.2.1, below_drew h.2.2.2.2.2⟩
/-- Behind New. -/
theorem Frame.start {w w1 w2 : World} {o : Obj} {n : Int} {gb : Nat} {gv : Value} (hb : Below ((((w.alloc o).alloc (.cells #[.int .i64 n] 3)).alloc (.cells #[.int .i64 0] 3)).alloc (.cells #[.int .i64 0] 25)).heap.size ((((w.alloc o).alloc (.cells #[.int .i64 n] 3)).alloc (.cells #[.int .i64 0] 3)).alloc (.cells #[.int .i64 0] 25)) w1)
    (hgb : gb = w1.heap.size) (hbox : w2.heap[gb]? = some (.cells #[gv] 63 (0, 0))) (hb2 : Below w1.heap.size w1 w2) : Frame w w2 n 0 0 gv gb := by
  have b1 := blk_below (blk_alloc (blk_alloc (blk_new (w.alloc o) (.cells #[.int .i64 n] 3)) (.cells #[.int .i64 0] 3)) (.cells #[.int .i64 0] 25)) hb
  have b2 := blk_below (blk_alloc (blk_new ((w.alloc o).alloc (.cells #[.int .i64 n] 3)) (.cells #[.int .i64 0] 3)) (.cells #[.int .i64 0] 25)) hb
  have b3 := blk_below (blk_new (((w.alloc o).alloc (.cells #[.int .i64 n] 3)).alloc (.cells #[.int .i64 0] 3)) (.cells #[.int .i64 0] 25)) hb
  have hs := hb.size
  simp only [World.size_alloc] at b1 b2 b3 hs
  refine ⟨blk_below b1 hb2, blk_below b2 hb2, blk_below b3 hb2, hbox, by omega, ?_⟩
  exact below_step (below_step (below_alloc (below_alloc (below_alloc (below_alloc (Below.refl _ _) _) _) _) _) hb) hb2
theorem results_cells {fn : Func} {p r : Tmp} {t u : TypeId} (h : fn.results = #[.cell p t, .cell r u]) {tmps : Array Value} {w : World} {a b : Addr} {x y : Value}
    (ha : tmps.getD p undef = .pointer (some a)) (hb : tmps.getD r undef = .pointer (some b)) (P : Program) (hx : (loadVar t a).run P w = .ok x w) (hy : (loadVar u b).run P w = .ok y w) : (results fn tmps).run P w = .ok (.tuple #[x, y]) w := by
  have ha' : (asAddr (tmps.getD p undef)).run P w = .ok a w := by rw [ha]; rfl
  have hb' : (asAddr (tmps.getD r undef)).run P w = .ok b w := by rw [hb]; rfl
  simp only [results, h]
  simp only [Sem.run_bind, Result.andThen, List.mapM_toArray]
  simp only [Array.getD_eq_getD_getElem?] at ha' hb'
  simp [Sem.run_bind, Result.andThen, ha', hb', hx, hy]

set_option maxHeartbeats 4000000 in
set_option maxRecDepth 100000 in
theorem Root_refused (P M n : Int) (A : Option Addr) (c : Nat) (Mod : List Int) (w : World) (hr : Kd.C (Kd.int .i64) w A Mod.length Mod) (hN : NewSays1 P M A c Mod) :
    Calls Try.prog 16 #[.agg #[.int .i64 P, .int .i64 M, .slice A Mod.length c], .int .i64 n] w fun e w' => e = .returned (.tuple #[.int .i64 0, .int .i64 1]) ∧ Below w.heap.size w w' := by
  have HR := Aside0.mk hr
  have HN := Aside0.mk hN
  have hu36 := Try.underlying36
  clear hr hN
  go_enter Try.func16, Try.ntmps16
  go_wp2_with (first
    | (go_at_call 37; refine (HN.out _ (Kd.C_alloc (Kd.C_alloc (Kd.C_alloc (Kd.C_alloc HR.out _) _) _) _)).mono ?_; rintro e w1 ⟨rfl, hb⟩; have HB1 := Aside0.mk hb; clear hb)
    | ((with_reducible refine gate_dst (N := 6) rfl ?_); refine box_event ?hg (N := 6) ?hd (cs := #[.pointer none]) (t := 63) ?hr ?_; (case hd => rfl); (case hg => rfl); (case hr => first | (go_simp; done) | (go_simp; rfl)); intro gb hgb wA hbox hb2; have FR := Aside0.mk (Frame.start HB1.out hgb hbox hb2); clear HB1 hgb hbox hb2; obtain ⟨hn1, hc2, hf2, hc3, hf3, hcg, hfg⟩ := FR.out.facts)
    | ((with_reducible refine gate_store (t := 63) (p := 6) rfl ?_); refine store_event (t := 63) (p := 6) (v := ?vo_6) (w1 := (wA.setCell ⟨gb, 0, none⟩ (.pointer none))) ?hg ?ho ?hn ?hr ?_; (case ho => rfl); (case hg => rfl); (case hn => rfl); (case hr => first | (go_simp; done) | (go_simp; rfl)); intro wG hw; have FR2 : Aside0 (Frame w wG n 0 0 ((.pointer none)) gb) := ⟨by rw [hw]; exact Frame.setG FR.out _⟩; clear hw FR hn1 hc2 hf2 hc3 hf3 hcg hfg; have FR := FR2; clear FR2; obtain ⟨hn1, hc2, hf2, hc3, hf3, hcg, hfg⟩ := FR.out.facts)
    | ((with_reducible refine gate_store (t := 3) (p := 4) rfl ?_); refine store_event (t := 3) (p := 4) (v := ?vo_4) (w1 := (wG.setCell ⟨w.heap.size + 1 + 1, 0, none⟩ (.int .i64 0))) ?hg ?ho ?hn ?hr ?_; (case ho => rfl); (case hg => rfl); (case hn => rfl); (case hr => first | (go_simp; done) | (go_simp; rfl)); intro wS hw; have FR2 : Aside0 (Frame w wS n 0 0 ((.pointer none)) gb) := ⟨by rw [hw]; exact Frame.setA FR.out _⟩; clear hw FR hn1 hc2 hf2 hc3 hf3 hcg hfg; have FR := FR2; clear FR2; obtain ⟨hn1, hc2, hf2, hc3, hf3, hcg, hfg⟩ := FR.out.facts)
    | ((with_reducible refine gate_store (t := 25) (p := 5) rfl ?_); refine store_event (t := 25) (p := 5) (v := ?vo_5) (w1 := (wS.setCell ⟨w.heap.size + 1 + 1 + 1, 0, none⟩ (.int .i64 1))) ?hg ?ho ?hn ?hr ?_; (case ho => rfl); (case hg => rfl); (case hn => rfl); (case hr => first | (go_simp; done) | (go_simp; rfl)); intro wE hw; have FR2 : Aside0 (Frame w wE n 0 1 ((.pointer none)) gb) := ⟨by rw [hw]; exact Frame.setB FR.out _⟩; clear hw FR hn1 hc2 hf2 hc3 hf3 hcg hfg; have FR := FR2; clear FR2; obtain ⟨hn1, hc2, hf2, hc3, hf3, hcg, hfg⟩ := FR.out.facts))
  (try simp only [Exit.inBlock, Exit.then])
  refine bodyPost_ret (results_cells (a := ⟨w.heap.size + 1 + 1, 0, none⟩) (b := ⟨w.heap.size + 1 + 1 + 1, 0, none⟩) (x := .int .i64 0) (y := .int .i64 1) rfl rfl rfl _ (by go_simp) (by go_simp)) rfl ?_
  exact ⟨rfl, FR.out.2.2.2.2.2⟩
set_option maxHeartbeats 4000000 in
set_option maxRecDepth 100000 in
theorem Root_length (P M n q : Int) (A : Option Addr) (c : Nat) (Mod ex lg : List Int) (w : World) (hr : Kd.C (Kd.int .i64) w A Mod.length Mod) (hN : NewSaysOk P M q A c Mod ex lg) (hn : n < 1 ∨ 64 < n) :
    Calls Try.prog 16 #[.agg #[.int .i64 P, .int .i64 M, .slice A Mod.length c], .int .i64 n] w fun e w' => e = .returned (.tuple #[.int .i64 0, .int .i64 4]) ∧ Below w.heap.size w w' := by
  have HR := Aside0.mk hr
  have HN := Aside0.mk hN
  have hu36 := Try.underlying36
  clear hr hN
  have hd : decide (n < 1) = true ∨ (decide (n < 1) = false ∧ decide (n > 64) = true) := by
    by_cases h : n < 1
    · exact .inl (decide_eq_true h)
    · exact .inr ⟨decide_eq_false h, decide_eq_true (by omega)⟩
  have hd2 : decide (64 < n) = decide (n > 64) := rfl
  rcases hd with hd1 | ⟨hd1, hd3⟩
  all_goals
   go_enter Try.func16, Try.ntmps16
   go_wp2_with (first
    | (go_at_call 37; refine (HN.out _ (Kd.C_alloc (Kd.C_alloc (Kd.C_alloc (Kd.C_alloc HR.out _) _) _) _)).mono ?_; rintro e w1 ⟨g, w0, rfl, hI, hB0, hge, hb⟩; have HB1 := Aside0.mk hb; clear hb)
    | ((with_reducible refine gate_dst (N := 6) rfl ?_); refine box_event ?hg (N := 6) ?hd (cs := #[.pointer none]) (t := 63) ?hr ?_; (case hd => rfl); (case hg => rfl); (case hr => first | (go_simp; done) | (go_simp; rfl)); intro gb hgb wA hbox hb2; have FR := Aside0.mk (Frame.start HB1.out hgb hbox hb2); clear HB1 hgb hbox hb2; obtain ⟨hn1, hc2, hf2, hc3, hf3, hcg, hfg⟩ := FR.out.facts)
    | ((with_reducible refine gate_store (t := 63) (p := 6) rfl ?_); refine store_event (t := 63) (p := 6) (v := ?vo_6) (w1 := (wA.setCell ⟨gb, 0, none⟩ (.pointer (some ⟨g, 0, none⟩)))) ?hg ?ho ?hn ?hr ?_; (case ho => rfl); (case hg => rfl); (case hn => rfl); (case hr => first | (go_simp; done) | (go_simp; rfl)); intro wG hw; have FR2 : Aside0 (Frame w wG n 0 0 ((.pointer (some ⟨g, 0, none⟩))) gb) := ⟨by rw [hw]; exact Frame.setG FR.out _⟩; clear hw FR hn1 hc2 hf2 hc3 hf3 hcg hfg; have FR := FR2; clear FR2; obtain ⟨hn1, hc2, hf2, hc3, hf3, hcg, hfg⟩ := FR.out.facts)
    | ((with_reducible refine gate_store (t := 3) (p := 4) rfl ?_); refine store_event (t := 3) (p := 4) (v := ?vo_4) (w1 := (wG.setCell ⟨w.heap.size + 1 + 1, 0, none⟩ (.int .i64 0))) ?hg ?ho ?hn ?hr ?_; (case ho => rfl); (case hg => rfl); (case hn => rfl); (case hr => first | (go_simp; done) | (go_simp; rfl)); intro wS hw; have FR2 : Aside0 (Frame w wS n 0 0 ((.pointer (some ⟨g, 0, none⟩))) gb) := ⟨by rw [hw]; exact Frame.setA FR.out _⟩; clear hw FR hn1 hc2 hf2 hc3 hf3 hcg hfg; have FR := FR2; clear FR2; obtain ⟨hn1, hc2, hf2, hc3, hf3, hcg, hfg⟩ := FR.out.facts)
    | ((with_reducible refine gate_store (t := 25) (p := 5) rfl ?_); refine store_event (t := 25) (p := 5) (v := ?vo_5) (w1 := (wS.setCell ⟨w.heap.size + 1 + 1 + 1, 0, none⟩ (.int .i64 4))) ?hg ?ho ?hn ?hr ?_; (case ho => rfl); (case hg => rfl); (case hn => rfl); (case hr => first | (go_simp; done) | (go_simp; rfl)); intro wE hw; have FR2 : Aside0 (Frame w wE n 0 4 ((.pointer (some ⟨g, 0, none⟩))) gb) := ⟨by rw [hw]; exact Frame.setB FR.out _⟩; clear hw FR hn1 hc2 hf2 hc3 hf3 hcg hfg; have FR := FR2; clear FR2; obtain ⟨hn1, hc2, hf2, hc3, hf3, hcg, hfg⟩ := FR.out.facts))
   (try simp only [Exit.inBlock, Exit.then])
   refine bodyPost_ret (results_cells (a := ⟨w.heap.size + 1 + 1, 0, none⟩) (b := ⟨w.heap.size + 1 + 1 + 1, 0, none⟩) (x := .int .i64 0) (y := .int .i64 4) rfl rfl rfl _ (by go_simp) (by go_simp)) rfl ?_
   exact ⟨rfl, FR.out.2.2.2.2.2⟩
end Go.Proofs.Ytibbdjkboglepaa.MyQBchRoots

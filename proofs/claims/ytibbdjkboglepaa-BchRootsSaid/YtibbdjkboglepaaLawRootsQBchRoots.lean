/- The law BchRoots: the walk joined with the plain laws: it returns true at every input. -/
import Derived.Test.YtibbdjkboglepaaRoot2QBchRoots
import Derived.Test.YtibbdjkboglepaaPRootQBchRoots
set_option linter.unusedVariables false
set_option linter.unusedSimpArgs false
namespace Go.Proofs.Ytibbdjkboglepaa.MyQBchRoots
open Go Go.RowKit Go.Proofs.YtibbdjkboglepaaW.PrintWords Go.Proofs.YtibbdjkboglepaaW.PrintLast Go.Proofs.YtibbdjkboglepaaW.PrintMore Go.Proofs.Ytibbdjkboglepaa.My Go.Proofs.Ytibbdjkboglepaa.Alg Go.Proofs.Ytibbdjkboglepaa.QBchRoots

theorem ev_two {α β : Type} {f : Nat → Option α} {g : Nat → Option β} {a : α} {b : β} (h : Ev f a) (h' : Ev g b) : ∃ K, ∀ k, K ≤ k → f k = some a ∧ g k = some b := by
  obtain ⟨K, h⟩ := h
  obtain ⟨K', h'⟩ := h'
  exact ⟨max K K', fun k hk => ⟨h k (by omega), h' k (by omega)⟩⟩
/-- What Root hands back. -/
def RootSays (P M n : Int) (A : Option Addr) (c : Nat) (Mod : List Int) (r s : Int) : Prop := ∀ w : World, Kd.C (Kd.int .i64) w A Mod.length Mod →
  Calls Try.prog 16 #[.agg #[.int .i64 P, .int .i64 M, .slice A Mod.length c], .int .i64 n] w fun e w' => e = .returned (.tuple #[.int .i64 r, .int .i64 s]) ∧ Below w.heap.size w w'
section
variable {P M n : Int} {A : Option Addr} {c : Nat} {Mod : List Int}
theorem rootArgs_1 (h : ¬ ∃ D, Desc D P M Mod) (n : Int) : Ev (fun k => codewrightref17_RootArgs.f k P M Mod n) 1 := by
  obtain ⟨r, hr, hor⟩ := Check_eq P M Mod
  rcases hor with ⟨_, hD⟩ | ⟨rfl, _⟩
  · exact absurd hD h
  · exact Ev.bind hr (ev_now fun k => if_neg (by omega))
theorem rootArgs_4 {D : FD} (h : Desc D P M Mod) {n : Int} (hn : n < 1 ∨ 64 < n) : Ev (fun k => codewrightref17_RootArgs.f k P M Mod n) 4 := by
  obtain ⟨r, hr, hor⟩ := Check_eq P M Mod
  rcases hor with ⟨rfl, _⟩ | ⟨_, hD⟩
  · refine Ev.bind hr (Ev.congr (fun k => if_pos rfl) ?_)
    have z : Ev (fun k => codewrightref17_RootArgs.j0 k n true P M Mod) 4 := ev_succ (ev_now fun k => by rw [codewrightref17_RootArgs.j0, if_pos rfl])
    by_cases e : n < 1
    · exact Ev.congr (fun k => if_pos e) z
    · exact Ev.congr (fun k => by rw [if_neg e, decide_eq_true (show n > 64 by omega)]) z
  · exact absurd ⟨D, h⟩ hD
theorem rootArgs_in {D : FD} (h : Desc D P M Mod) {n : Int} (hn1 : 1 ≤ n) (hn2 : n ≤ 64) {r : Int} (hr0 : Ev (fun k => codewrightref17_Root.f k P M Mod n) r) : Ev (fun k => codewrightref17_RootArgs.f k P M Mod n) (if r = 0 then 11 else 0) := by
  obtain ⟨r', hr, hor⟩ := Check_eq P M Mod
  rcases hor with ⟨rfl, _⟩ | ⟨_, hD⟩
  · refine Ev.bind hr (Ev.congr (fun k => if_pos rfl) ?_)
    refine Ev.congr (f := fun k => codewrightref17_RootArgs.j0 k n false P M Mod) (fun k => by rw [if_neg (by omega), decide_eq_false (show ¬ n > 64 by omega)]) ?_
    refine Ev.step (f := fun k => (codewrightref17_Root.f k P M Mod n).bind fun t242 => (if t242 = 0 then (some 11) else (some 0))) (fun k => by rw [codewrightref17_RootArgs.j0, if_neg (by simp)]) (Ev.bind hr0 (ev_now fun k => ?_))
    split <;> rfl
  · exact absurd ⟨D, h⟩ hD
theorem new_refuses (hc : Mod.length ≤ c) (h : ¬ ∃ D, Desc D P M Mod) : NewSays1 P M A c Mod := by
  obtain ⟨b, hb, hbq⟩ := pshape P M Mod
  cases b with
  | false =>
    obtain ⟨k, hk⟩ := hb.rounds
    exact fun w hr => New_shape k P M A c Mod w hr hc hk
  | true =>
    have hs := hbq.1 rfl
    obtain ⟨q, hq, hor⟩ := porder P M
    rcases hor with ⟨_, hR⟩ | ⟨rfl, _⟩
    · exact absurd hs.1 hR
    · obtain ⟨K, hK⟩ := ev_two hb (Ev.congr (fun k => rfl) hq)
      obtain ⟨K', hK'⟩ := gen_none hs h
      exact fun w hr => New_gen (max K K') P M (P ^ M.toNat) A c Mod w hr hc (hK _ (Nat.le_max_left _ _)).1 (hK _ (Nat.le_max_left _ _)).2 (hK' _ (Nat.le_max_right _ _))
theorem new_makes {D : FD} (hc : Mod.length ≤ c) (h : Desc D P M Mod) : ∃ g : GF D, IsOrd g (D.q - 1).toNat ∧ NewSaysOk P M D.q A c Mod (expL g) (logs (expL g) (List.replicate D.q.toNat 0) (expL g).length) := by
  obtain ⟨g, hg, hge⟩ := gen_FD h
  have hs := h.shp
  have hm := h.hm
  have hm8 := h.hm8
  have hq2 := D.two_q
  have hqe : P ^ M.toNat = D.q := by rw [← h.hp, show M.toNat = D.m by omega]; rfl
  rw [hqe] at hge
  refine ⟨g, hg, ?_⟩
  obtain ⟨b, hb, hbq⟩ := pshape P M Mod
  rw [hbq.2 hs] at hb
  obtain ⟨q, hq, hor⟩ := porder P M
  rcases hor with ⟨_, hR⟩ | ⟨rfl, _⟩
  · exact absurd hs.1 hR
  · rw [hqe] at hq
    obtain ⟨K, hK⟩ := ev_two hb hq
    obtain ⟨K', hK'⟩ := hge
    have hml : Mod.length ≤ 8 := by
      by_cases e : M = 1
      · rw [h.one e]; simp
      · have := h.len (by have := h.m1; omega); omega
    exact fun w hr => New_ok (max K K') P M D.q A c Mod (expL g) w hr hc hml (hK _ (Nat.le_max_left _ _)).1 (hK _ (Nat.le_max_left _ _)).2 (hK' _ (Nat.le_max_right _ _)) (by rw [expL_length]; omega) (by omega) h.hq (by rw [expL_length]; have := h.hq; omega)
      (fun x hx => by
        obtain ⟨i, _, rfl⟩ := List.mem_map.1 hx
        exact (Alg.pow g i).2)
theorem root_1 (hc : Mod.length ≤ c) (h : ¬ ∃ D, Desc D P M Mod) (n : Int) : RootSays P M n A c Mod 0 1 := fun w hr => Root_refused P M n A c Mod w hr (new_refuses hc h)
theorem root_4 {D : FD} (hc : Mod.length ≤ c) (h : Desc D P M Mod) {n : Int} (hn : n < 1 ∨ 64 < n) : RootSays P M n A c Mod 0 4 := by
  obtain ⟨g, _, hN⟩ := new_makes (A := A) hc h
  exact fun w hr => Root_length P M n D.q A c Mod _ _ w hr hN hn
theorem root_in {D : FD} (hc : Mod.length ≤ c) (h : Desc D P M Mod) {n : Int} (hn1 : 1 ≤ n) (hn2 : n ≤ 64) {r : Int} (hr0 : Ev (fun k => codewrightref17_Root.f k P M Mod n) r) : RootSays P M n A c Mod r (if r = 0 then 11 else 0) := by
  obtain ⟨g, hg, hN⟩ := new_makes (A := A) hc h
  have hq2 := D.two_q
  obtain ⟨K, hK⟩ := ev_all (g := fun x k => field_GF_MulOrder.f k P M Mod D.q (expL g) (logs (expL g) (List.replicate D.q.toNat 0) (expL g).length) (x : Int)) (r := fun x => ((ordn (inn D (x : Int)) : Int), (if (x : Int) = 0 then 7 else 0), P, M, D.q)) D.q.toNat (fun x hx => by
    have := MulOrder_log h hg (inn D (x : Int))
    rw [inn_of (by omega) (by omega)] at this
    exact this)
  obtain ⟨r', hr', hor⟩ := RootRef_eq h n
  obtain rfl := ev_det hr0 hr'
  intro w hr
  refine (Root_ok K P M n D.q A c Mod _ _ w hr hN hn1 hn2 (by omega) h.hq (fun x => (ordn (inn D x) : Int)) (fun x => if x = 0 then 7 else 0) (fun x h0 h1 => ?_)).mono ?_
  · have := hK K (Nat.le_refl K) x.toNat (by omega)
    rw [show ((x.toNat : Nat) : Int) = x by omega] at this
    exact this
  · rintro e w' ⟨⟨r1, s1, rfl, hs⟩, hb⟩
    have hnz : (ordn (inn D (0 : Int)) : Int) ≠ n := by
      rw [inn_zero, ordn_zero]
      simp; omega
    have hrs : r1 = r ∧ s1 = if r = 0 then 11 else 0 := by
      rcases hs with ⟨x, hx1, hx2, hx3, hx4, rfl, rfl⟩ | ⟨hall, rfl, rfl⟩
      · have hx0 : x ≠ 0 := fun e => by subst e; simp at hx2
        rcases hor with ⟨z, hz1, hz2, hz3, hz4, rfl⟩ | ⟨hno, _⟩
        · have hxz : x = z := by
            rcases Nat.lt_trichotomy x z with hlt | heq | hgt
            · exact absurd hx3 (hz4 x (by omega) hlt)
            · exact heq
            · exact absurd ⟨by rw [if_neg (by omega)], hz3⟩ (hx4 z hgt)
          subst hxz
          exact ⟨rfl, by rw [if_neg (by omega)]⟩
        · exact absurd hx3 (hno x (by omega) hx1)
      · rcases hor with ⟨z, hz1, hz2, hz3, hz4, rfl⟩ | ⟨hno, rfl⟩
        · exact absurd ⟨by rw [if_neg (by omega)], hz3⟩ (hall z hz2)
        · exact ⟨rfl, by rw [if_pos rfl]⟩
    exact ⟨by rw [hrs.1, hrs.2], hb⟩

set_option maxHeartbeats 4000000 in
set_option maxRecDepth 100000 in
theorem law_err (k : Nat) (w : World) (ra : Int) (hr : Kd.C (Kd.int .i64) w A Mod.length Mod) (hc : Mod.length ≤ c) (hR : RootSays P M n A c Mod 0 ra) (ha : codewrightref17_RootArgs.f k P M Mod n = some ra) (h0 : ra ≠ 0) :
    Calls Try.prog 6 #[.agg #[.int .i64 P, .int .i64 M, .slice A Mod.length c], .int .i64 n] w fun e w' => e = .returned (.bool true) ∧ Below w.heap.size w w' := by
  have HR := Aside0.mk hr
  have HC := Aside0.mk hc
  have HRS := Aside0.mk hR
  have HA := Aside0.mk ha
  have hu36 := Try.underlying36
  have d1 : (ra == 0) = false := by simpa using h0
  have d2 : (ra != 0) = true := by simpa using h0
  clear hr hc hR ha
  have HB := Aside0.mk (Below.refl w.heap.size w)
  go_enter Try.func6, Try.ntmps6
  go_wp2_with (first
    | (go_at_call 16; refine (HRS.out _ (Kd.C_alloc HR.out _)).mono ?_; rintro e w1 ⟨rfl, hb⟩; have HB1 := Aside0.mk (below_step (below_alloc HB.out (.cells #[.int .i64 P, .int .i64 M, .slice A Mod.length c] 36)) hb)
       have BK := Aside0.mk (blk_below (blk_new w (.cells #[.int .i64 P, .int .i64 M, .slice A Mod.length c] 36)) hb)
       clear hb HB
       have hcz0 : w1.cell? ⟨w.heap.size, 0, none⟩ = some (.int .i64 P) := (blk_cell BK.out 0).trans rfl
       have hcz1 : w1.cell? ⟨w.heap.size, 1, none⟩ = some (.int .i64 M) := (blk_cell BK.out 1).trans rfl
       have hcz2 : w1.cell? ⟨w.heap.size, 2, none⟩ = some (.slice A Mod.length c) := (blk_cell BK.out 2).trans rfl
       have HB := HB1)
    | (go_at_call 17; refine (codewrightref17_RootArgs.calls k P M A c Mod n ra _ (Kd.C_below HR.out (by repeat (first | (with_reducible first | exact HB.out | apply below_alloc | apply pw_below_drewN | apply below_drew1) | exact HB.out))) HC.out HA.out).mono ?_; rintro e w2 ⟨rfl, hb2⟩
       have HB2 := Aside0.mk (below_step HB.out hb2)
       have BK2 := Aside0.mk (blk_below BK.out hb2)
       clear hb2 HB BK hcz0 hcz1 hcz2
       have HB := HB2
       have BK := BK2
       clear HB2 BK2
       have hcz0 : w2.cell? ⟨w.heap.size, 0, none⟩ = some (.int .i64 P) := (blk_cell BK.out 0).trans rfl
       have hcz1 : w2.cell? ⟨w.heap.size, 1, none⟩ = some (.int .i64 M) := (blk_cell BK.out 1).trans rfl
       have hcz2 : w2.cell? ⟨w.heap.size, 2, none⟩ = some (.slice A Mod.length c) := (blk_cell BK.out 2).trans rfl))
  go_ret
  exact ⟨rfl, (by repeat (first | (with_reducible first | exact HB.out | apply below_alloc | apply pw_below_drewN | apply below_drew1) | exact HB.out))⟩

set_option maxHeartbeats 4000000 in
set_option maxRecDepth 100000 in
theorem law_ok (k : Nat) (w : World) (r : Int) (hr : Kd.C (Kd.int .i64) w A Mod.length Mod) (hc : Mod.length ≤ c) (hR : RootSays P M n A c Mod r 0) (ha : codewrightref17_RootArgs.f k P M Mod n = some 0) (ha2 : codewrightref17_Root.f k P M Mod n = some r) :
    Calls Try.prog 6 #[.agg #[.int .i64 P, .int .i64 M, .slice A Mod.length c], .int .i64 n] w fun e w' => e = .returned (.bool true) ∧ Below w.heap.size w w' := by
  have HR := Aside0.mk hr
  have HC := Aside0.mk hc
  have HRS := Aside0.mk hR
  have HA := Aside0.mk ha
  have HA2 := Aside0.mk ha2
  have hu36 := Try.underlying36
  have d1 : (r == r) = true := by simp
  clear hr hc hR ha ha2
  have HB := Aside0.mk (Below.refl w.heap.size w)
  go_enter Try.func6, Try.ntmps6
  go_wp2_with (first
    | (go_at_call 16; refine (HRS.out _ (Kd.C_alloc HR.out _)).mono ?_; rintro e w1 ⟨rfl, hb⟩; have HB1 := Aside0.mk (below_step (below_alloc HB.out (.cells #[.int .i64 P, .int .i64 M, .slice A Mod.length c] 36)) hb)
       have BK := Aside0.mk (blk_below (blk_new w (.cells #[.int .i64 P, .int .i64 M, .slice A Mod.length c] 36)) hb)
       clear hb HB
       have hcz0 : w1.cell? ⟨w.heap.size, 0, none⟩ = some (.int .i64 P) := (blk_cell BK.out 0).trans rfl
       have hcz1 : w1.cell? ⟨w.heap.size, 1, none⟩ = some (.int .i64 M) := (blk_cell BK.out 1).trans rfl
       have hcz2 : w1.cell? ⟨w.heap.size, 2, none⟩ = some (.slice A Mod.length c) := (blk_cell BK.out 2).trans rfl
       have HB := HB1)
    | (go_at_call 17; refine (codewrightref17_RootArgs.calls k P M A c Mod n 0 _ (Kd.C_below HR.out (by repeat (first | (with_reducible first | exact HB.out | apply below_alloc | apply pw_below_drewN | apply below_drew1) | exact HB.out))) HC.out HA.out).mono ?_; rintro e w2 ⟨rfl, hb2⟩
       have HB2 := Aside0.mk (below_step HB.out hb2)
       have BK2 := Aside0.mk (blk_below BK.out hb2)
       clear hb2 HB BK hcz0 hcz1 hcz2
       have HB := HB2
       have BK := BK2
       clear HB2 BK2
       have hcz0 : w2.cell? ⟨w.heap.size, 0, none⟩ = some (.int .i64 P) := (blk_cell BK.out 0).trans rfl
       have hcz1 : w2.cell? ⟨w.heap.size, 1, none⟩ = some (.int .i64 M) := (blk_cell BK.out 1).trans rfl
       have hcz2 : w2.cell? ⟨w.heap.size, 2, none⟩ = some (.slice A Mod.length c) := (blk_cell BK.out 2).trans rfl)
    | (go_at_call 18; refine (codewrightref17_Root.calls k P M A c Mod n r _ (Kd.C_below HR.out (by repeat (first | (with_reducible first | exact HB.out | apply below_alloc | apply pw_below_drewN | apply below_drew1) | exact HB.out))) HC.out HA2.out).mono ?_; rintro e w3 ⟨rfl, hb2⟩
       have HB2 := Aside0.mk (below_step HB.out hb2)
       have BK2 := Aside0.mk (blk_below BK.out hb2)
       clear hb2 HB BK hcz0 hcz1 hcz2
       have HB := HB2
       have BK := BK2
       clear HB2 BK2
       have hcz0 : w3.cell? ⟨w.heap.size, 0, none⟩ = some (.int .i64 P) := (blk_cell BK.out 0).trans rfl
       have hcz1 : w3.cell? ⟨w.heap.size, 1, none⟩ = some (.int .i64 M) := (blk_cell BK.out 1).trans rfl
       have hcz2 : w3.cell? ⟨w.heap.size, 2, none⟩ = some (.slice A Mod.length c) := (blk_cell BK.out 2).trans rfl))
  go_ret
  exact ⟨rfl, (by repeat (first | (with_reducible first | exact HB.out | apply below_alloc | apply pw_below_drewN | apply below_drew1) | exact HB.out))⟩
end
/-- The law returns true. -/
theorem law_roots (P M n : Int) (A : Option Addr) (c : Nat) (Mod : List Int) (w : World) (hr : Kd.C (Kd.int .i64) w A Mod.length Mod) (hc : Mod.length ≤ c) :
    Calls Try.prog 6 #[.agg #[.int .i64 P, .int .i64 M, .slice A Mod.length c], .int .i64 n] w fun e w' => e = .returned (.bool true) ∧ Below w.heap.size w w' := by
  by_cases hD : ∃ D, Desc D P M Mod
  · obtain ⟨D, hD⟩ := hD
    by_cases hn : 1 ≤ n ∧ n ≤ 64
    · obtain ⟨r, hre, hor⟩ := RootRef_eq hD n
      have h1 := root_in (A := A) hc hD hn.1 hn.2 hre
      have h2 := rootArgs_in hD hn.1 hn.2 hre
      by_cases e : r = 0
      · rw [if_pos e] at h1 h2
        rw [e] at h1
        obtain ⟨k, hk⟩ := h2.rounds
        exact law_err k w 11 hr hc h1 hk (by omega)
      · rw [if_neg e] at h1 h2
        obtain ⟨K, hK⟩ := ev_two h2 hre
        exact law_ok K w r hr hc h1 (hK K (Nat.le_refl K)).1 (hK K (Nat.le_refl K)).2
    · obtain ⟨k, hk⟩ := (rootArgs_4 hD (n := n) (by omega)).rounds
      exact law_err k w 4 hr hc (root_4 hc hD (by omega)) hk (by omega)
  · obtain ⟨k, hk⟩ := (rootArgs_1 hD n).rounds
    exact law_err k w 1 hr hc (root_1 hc hD n) hk (by omega)
#print axioms law_roots
end Go.Proofs.Ytibbdjkboglepaa.MyQBchRoots

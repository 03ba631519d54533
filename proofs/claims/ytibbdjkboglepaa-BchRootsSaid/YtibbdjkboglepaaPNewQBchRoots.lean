/- The program's order, isPrime, shape and generator (layer 4) over a description: what New reads. No further condition. -/
import Derived.Test.YtibbdjkboglepaaPGenQBchRoots
import Derived.Test.YtibbdjkboglepaaQBchRootsx1
set_option linter.unusedVariables false
set_option linter.unusedSimpArgs false
set_option linter.unusedSectionVars false
namespace Go.Proofs.Ytibbdjkboglepaa.MyQBchRoots
open Go.RowKit Go.Proofs.YtibbdjkboglepaaW.PrintWords Go.Proofs.YtibbdjkboglepaaW.PrintMore Go.Proofs.Ytibbdjkboglepaa.My Go.Proofs.Ytibbdjkboglepaa.Alg Go.Proofs.Ytibbdjkboglepaa.QBchRoots

theorem porder_l0 {P M : Int} (hP : 2 ≤ P) (hP2 : P ≤ 256) (hM : 1 ≤ M) (hM8 : M ≤ 8) : ∀ (d : Nat) (i : Nat), i + d = M.toNat → P ^ i ≤ 256 →
    ∃ q, Ev (fun k => field_order.l0 k P (P ^ i) M i) q ∧ ((q = 0 ∧ ¬ InR P M) ∨ (q = P ^ M.toNat ∧ InR P M)) := by
  intro d
  induction d with
  | zero =>
    intro i hi h
    refine ⟨P ^ i, ev_succ (ev_now fun k => by rw [field_order.l0, if_neg (by omega)]), .inr ⟨by rw [show i = M.toNat by omega], hP, hM, hM8, by rw [show M.toNat = i by omega]; exact h⟩⟩
  | succ d ih =>
    intro i hi h
    have h1 : 0 < P ^ i := Int.pow_pos (by omega)
    have h6 := mul_bd8 (a := P ^ i) (b := P) (by omega) h (by omega) hP2
    by_cases e : P ^ i * P > 256
    · refine ⟨0, ev_succ (ev_now fun k => ?_), .inl ⟨rfl, fun hR => ?_⟩⟩
      · rw [field_order.l0, if_pos (by omega), w64 (x := P ^ i * P) (by omega) (by omega), if_pos e]
      · have e9 : P ^ (i + 1) = P ^ i * P := Int.pow_succ P i
        have := pow_mono (show 1 ≤ P by omega) (show i + 1 ≤ M.toNat by omega)
        have := hR.2.2.2
        omega
    · obtain ⟨q, hq, hor⟩ := ih (i + 1) (by omega) (by rw [Int.pow_succ]; omega)
      refine ⟨q, Ev.step (fun k => ?_) hq, hor⟩
      rw [field_order.l0, if_pos (by omega), w64 (x := P ^ i * P) (by omega) (by omega), if_neg e, w64 (by omega) (by omega), Int.pow_succ]
      rfl
theorem porder (P M : Int) : ∃ q, Ev (fun k => field_order.f k P M) q ∧ ((q = 0 ∧ ¬ InR P M) ∨ (q = P ^ M.toNat ∧ InR P M)) := by
  have z : Ev (fun k => field_order.j0 k P M true) 0 := ev_succ (ev_now fun k => by rw [field_order.j0, if_pos rfl])
  by_cases e1 : P < 2
  · exact ⟨0, Ev.congr (fun k => by unfold field_order.f; rw [if_pos e1]) z, .inl ⟨rfl, fun h => by have := h.1; omega⟩⟩
  · by_cases e4 : P > 256
    · refine ⟨0, Ev.congr (fun k => by unfold field_order.f; rw [if_neg e1, if_pos e4]) z, .inl ⟨rfl, fun h => ?_⟩⟩
      have h1 := pow_mono (show 1 ≤ P by omega) (show 1 ≤ M.toNat by have := h.2.1; omega)
      rw [Int.pow_succ, Int.pow_zero, Int.one_mul] at h1
      have := h.2.2.2
      omega
    · by_cases e2 : M < 1
      · exact ⟨0, Ev.congr (fun k => by unfold field_order.f; rw [if_neg e1, if_neg e4, if_pos e2]) z, .inl ⟨rfl, fun h => by have := h.2.1; omega⟩⟩
      · by_cases e3 : M > 8
        · exact ⟨0, Ev.congr (fun k => by unfold field_order.f; rw [if_neg e1, if_neg e4, if_neg e2, decide_eq_true e3]) z, .inl ⟨rfl, fun h => by have := h.2.2.1; omega⟩⟩
        · obtain ⟨q, hq, hor⟩ := porder_l0 (P := P) (M := M) (by omega) (by omega) (by omega) (by omega) M.toNat 0 (by omega) (by rw [Int.pow_zero]; omega)
          rw [Int.pow_zero] at hq
          refine ⟨q, Ev.congr (fun k => by unfold field_order.f; rw [if_neg e1, if_neg e4, if_neg e2, decide_eq_false e3]) ?_, hor⟩
          exact Ev.step (fun k => by rw [field_order.j0, if_neg (by simp)]; rfl) hq
theorem pprime_l0 {n : Int} (hn : 2 ≤ n) (hn' : n ≤ 256) : ∀ (e : Nat) (d : Int), 2 ≤ d → d + e = 257 → (∀ c, 2 ≤ c → c < d → ¬ c ∣ n) →
    ∃ b, Ev (fun k => field_isPrime.l0 k n d) b ∧ (b = true ↔ ∀ c : Int, 2 ≤ c → c < n → ¬ c ∣ n) := by
  have hfin : ∀ d : Int, 2 ≤ d → d ≤ 257 → n < d * d → (∀ c, 2 ≤ c → c < d → ¬ c ∣ n) → ∀ c : Int, 2 ≤ c → c < n → ¬ c ∣ n := by
    intro d hd hd' hlt h c h1 h2 hdv
    obtain ⟨e, he⟩ := hdv
    have hc : d ≤ c := by
      apply Classical.byContradiction
      intro hc
      exact h c h1 (by omega) ⟨e, he⟩
    have he1 : 2 ≤ e := by
      apply Classical.byContradiction
      intro hc2
      have : e ≤ 1 := by omega
      have := Int.mul_le_mul_of_nonneg_left this (show 0 ≤ c by omega)
      omega
    have hed : d ≤ e := by
      apply Classical.byContradiction
      intro hc2
      exact h e he1 (by omega) ⟨c, by rw [Int.mul_comm]; exact he⟩
    have h3 := Int.mul_le_mul hc hed (by omega) (by omega)
    omega
  intro e
  induction e with
  | zero =>
    intro d hd he h
    have e2 : d = 257 := by omega
    subst e2
    refine ⟨true, ev_succ (ev_now fun k => ?_), ⟨fun _ => hfin 257 (by omega) (by omega) (by omega) h, fun _ => rfl⟩⟩
    rw [field_isPrime.l0, w64 (by omega) (by omega), if_neg (by omega), decide_eq_true (show n ≥ 2 by omega)]
  | succ e ih =>
    intro d hd he h
    have hdd := Int.mul_le_mul (show d ≤ 257 by omega) (show d ≤ 257 by omega) (by omega) (by omega)
    have hdd0 : 0 ≤ d * d := Int.mul_nonneg (by omega) (by omega)
    by_cases e1 : d * d ≤ n
    · have hdn : d < n := by
        have := Int.mul_le_mul_of_nonneg_left (show 2 ≤ d by omega) (show 0 ≤ d by omega)
        omega
      by_cases e0 : n % d = 0
      · exact ⟨false, ev_succ (ev_now fun k => by rw [field_isPrime.l0, w64 (x := d * d) (by omega) (by omega), if_pos e1, if_neg (by omega), tmod_nn (by omega), if_pos e0]), ⟨fun h => absurd h (by simp), fun h => absurd (Int.dvd_of_emod_eq_zero e0) (h d hd hdn)⟩⟩
      · obtain ⟨b, hb, hq⟩ := ih (d + 1) (by omega) (by omega) (fun c h1 h2 => by
          by_cases e' : c = d
          · subst e'; exact fun hdv => e0 (Int.emod_eq_zero_of_dvd hdv)
          · exact h c h1 (by omega))
        exact ⟨b, Ev.step (fun k => by rw [field_isPrime.l0, w64 (x := d * d) (by omega) (by omega), if_pos e1, if_neg (by omega), tmod_nn (by omega), if_neg e0, w64 (by omega) (by omega)]) hb, hq⟩
    · refine ⟨true, ev_succ (ev_now fun k => ?_), ⟨fun _ => hfin d hd (by omega) (by omega) h, fun _ => rfl⟩⟩
      rw [field_isPrime.l0, w64 (x := d * d) (by omega) (by omega), if_neg e1, decide_eq_true (show n ≥ 2 by omega)]
theorem pprime {n : Int} (hn : 2 ≤ n) (hn' : n ≤ 256) : ∃ b, Ev (fun k => field_isPrime.f k n) b ∧ (b = true ↔ ∀ c : Int, 2 ≤ c → c < n → ¬ c ∣ n) :=
  pprime_l0 hn hn' 255 2 (by omega) (by omega) (fun c h1 h2 => by omega)
theorem pshape_l0 {P M : Int} {Mod : List Int} (hl : Mod.length ≤ 1000) : ∀ (e : Nat) (i : Int), 0 ≤ i → i + e = Mod.length → (∀ t, 0 ≤ t → t < i → 0 ≤ rd Mod t ∧ rd Mod t < P) →
    ∃ b, Ev (fun k => field_shape.l0 k Mod (Mod.length : Int) i P M Mod) b ∧ (b = true ↔ DLn P Mod) := by
  intro e
  induction e with
  | zero =>
    intro i h0 hi h
    exact ⟨true, ev_succ (ev_now fun k => by rw [field_shape.l0, if_neg (by omega)]), ⟨fun _ t h1 h2 => h t h1 (by omega), fun _ => rfl⟩⟩
  | succ e ih =>
    intro i h0 hi h
    by_cases e1 : rd Mod i < 0
    · exact ⟨false, ev_succ (ev_now fun k => by rw [field_shape.l0, if_pos (by omega), if_pos (by omega), if_pos (by omega), if_pos e1]), ⟨fun h => absurd h (by simp), fun h => by have := h i h0 (by omega); omega⟩⟩
    · by_cases e2 : rd Mod i ≥ P
      · exact ⟨false, ev_succ (ev_now fun k => by rw [field_shape.l0, if_pos (by omega), if_pos (by omega), if_pos (by omega), if_neg e1, if_pos e2]), ⟨fun h => absurd h (by simp), fun h => by have := h i h0 (by omega); omega⟩⟩
      · obtain ⟨b, hb, hq⟩ := ih (i + 1) (by omega) (by omega) (fun t h1 h2 => by
          by_cases e' : t = i
          · subst e'; omega
          · exact h t h1 (by omega))
        exact ⟨b, Ev.step (fun k => by rw [field_shape.l0, if_pos (by omega), if_pos (by omega), if_pos (by omega), if_neg e1, if_neg e2, w64 (by omega) (by omega)]) hb, hq⟩
/-- shape says whether P, M and Mod are in range. -/
theorem pshape (P M : Int) (Mod : List Int) : ∃ b, Ev (fun k => field_shape.f k P M Mod) b ∧ (b = true ↔ Shp P M Mod) := by
  have z : Ev (fun k => field_shape.j0 k true P M Mod) false := ev_succ (ev_now fun k => by rw [field_shape.j0, if_pos rfl])
  obtain ⟨q, hq, hor⟩ := porder P M
  rcases hor with ⟨rfl, hR⟩ | ⟨hqe, hR⟩
  · refine ⟨false, Ev.bind hq (Ev.congr (fun k => if_pos rfl) z), ⟨fun h => absurd h (by simp), fun h => absurd h.1 hR⟩⟩
  · have hP1 := pow_mono (show 1 ≤ P by have := hR.1; omega) (show 1 ≤ M.toNat by have := hR.2.1; omega)
    rw [Int.pow_succ, Int.pow_zero, Int.one_mul] at hP1
    have h256 := hR.2.2.2
    have hP2 := hR.1
    have hM1 := hR.2.1
    have hM8 := hR.2.2.1
    have hq0 : q ≠ 0 := by omega
    obtain ⟨b, hb, hbq⟩ := pprime (n := P) hR.1 (by omega)
    by_cases eb : b = true
    · subst eb
      have hprime := hbq.1 rfl
      by_cases e1 : M = 1
      · refine ⟨((Mod.length : Int) == 0), Ev.bind hq (Ev.congr (fun k => if_neg hq0) (Ev.bind hb (Ev.step (fun k => by rw [field_shape.j0, if_neg (by simp), if_pos e1]) (Ev.now _)))), ?_⟩
        constructor
        · intro h
          have : Mod = [] := List.eq_nil_of_length_eq_zero (by have := eq_of_beq h; omega)
          exact ⟨hR, hprime, fun _ => this, fun h1 => by omega⟩
        · intro h
          rw [h.2.2.1 e1]
          rfl
      · by_cases e2 : (Mod.length : Int) = M
        · obtain ⟨b2, hb2, hq2⟩ := pshape_l0 (P := P) (M := M) (Mod := Mod) (by omega) Mod.length 0 (by omega) (by omega) (fun t h1 h2 => by omega)
          refine ⟨b2, Ev.bind hq (Ev.congr (fun k => if_neg hq0) (Ev.bind hb (Ev.step (fun k => by rw [field_shape.j0, if_neg (by simp), if_neg e1, if_pos e2]) hb2))), ?_⟩
          rw [hq2]
          exact ⟨fun h => ⟨hR, hprime, fun h1 => absurd h1 e1, fun _ => ⟨e2, h⟩⟩, fun h => (h.2.2.2 (by omega)).2⟩
        · refine ⟨false, Ev.bind hq (Ev.congr (fun k => if_neg hq0) (Ev.bind hb (Ev.step (fun k => by rw [field_shape.j0, if_neg (by simp), if_neg e1, if_neg e2]) (Ev.now _)))), ⟨fun h => absurd h (by simp), fun h => absurd (h.2.2.2 (by omega)).1 e2⟩⟩
    · rw [Bool.not_eq_true] at eb
      subst eb
      refine ⟨false, Ev.bind hq (Ev.congr (fun k => if_neg hq0) (Ev.bind hb z)), ⟨fun h => absurd h (by simp), fun h => absurd (hbq.2 h.2.1) (by simp)⟩⟩
section
variable {P M : Int} {Mod : List Int}
theorem RC.of_shp {Q : Pr} (hQ : Q.p = P) (h : Shp P M Mod) : RC Q M.toNat (Alg.mon Q M.toNat (lowOf M Mod)) P M Mod := by
  obtain ⟨⟨h1, h2, h3, h4⟩, h5, h6, h7⟩ := h
  have hP1 := pow_mono (show 1 ≤ P by omega) (show 1 ≤ M.toNat by omega)
  rw [Int.pow_succ, Int.pow_zero, Int.one_mul] at hP1
  refine ⟨hQ, by omega, by omega, h3, by omega, h4, mon_monic Q _ _, fun e => ?_, fun e => (h7 e).1, fun e i hi => ?_⟩
  · unfold Alg.mon lowOf
    rw [if_pos (by omega), if_pos e]
    rfl
  · unfold Alg.mon lowOf
    rw [if_pos hi, if_neg (by omega), of_val, hQ]
    have := (h7 e).2 i (by omega) (by have := (h7 e).1; omega)
    rw [Int.emod_eq_of_lt this.1 this.2]
/-- No field: no generator. -/
theorem gen_none (h : Shp P M Mod) (hno : ¬ ∃ D, Desc D P M Mod) : Ev (fun k => field_generator.f k P M Mod (P ^ M.toNat)) [] := by
  let Q : Pr := ⟨P, h.1.1, h.2.1⟩
  have hrc : RC Q M.toNat (Alg.mon Q M.toNat (lowOf M Mod)) P M Mod := RC.of_shp (Q := Q) rfl h
  have h1 := hrc.res1.2
  rcases gen_l0 hrc ((P ^ M.toNat).toNat - 1) 1 (by omega) (by omega) with ⟨z, L, hz1, hz2, hg, _⟩ | ⟨_, he⟩
  · exfalso
    have hir := hg.irr hrc ⟨by omega, hz2⟩
    apply hno
    refine ⟨{ Q with m := M.toNat, hm := hrc.m1, F := mon Q M.toNat (lowOf M Mod), monic := hrc.mon, irr := hir }, ?_⟩
    exact ⟨rfl, hrc.hm, hrc.hm8, hrc.hq, h.2.2.1, hrc.len, hrc.low⟩
  · exact he
variable {D : FD}
def FofD (D : FD) (M : Int) : Pol (Zp D.toPr) := if M = 1 then monom 1 1 else D.F
theorem RC.of_desc (h : Desc D P M Mod) : RC D.toPr D.m (FofD D M) P M Mod := by
  have hm := h.hm
  have hq := h.hq
  have e : D.q = D.p ^ D.m := rfl
  refine ⟨h.hp, hm, D.hm, h.hm8, h.p256, by rw [← h.hp, ← e]; exact hq, ?_, fun e1 => ?_, h.len, fun e1 i hi => ?_⟩
  · unfold FofD
    by_cases e1 : M = 1
    · rw [if_pos e1, show D.m = 1 by omega]
      exact ⟨if_pos rfl, monom_deg 1 1⟩
    · rw [if_neg e1]
      exact D.monic
  · unfold FofD
    rw [if_pos e1]
    rfl
  · unfold FofD
    rw [if_neg (by omega)]
    exact h.low e1 i hi
theorem res_inn (h : Desc D P M Mod) {x : Int} (hx : Res P D.m x) : (inn D x).1 = x := inn_of hx.1 (by rw [show D.q = D.p ^ D.m from rfl, h.hp]; exact hx.2)
theorem inn_res (h : Desc D P M Mod) (a : GF D) : Res P D.m a.1 := ⟨a.2.1, by rw [← h.hp]; exact a.2.2⟩
theorem rmul_FD (h : Desc D P M Mod) (a b : GF D) : rmul (FofD D M) D.m a.1 b.1 = (a * b).1 := by
  have hrc := RC.of_desc h
  have hm := h.hm
  obtain ⟨_, h1, h2⟩ := hrc.rmul (inn_res h a) (inn_res h b)
  refine hrc.eq h1 (inn_res h _) (h2.symm.trans ?_)
  have h3 := dg_mul a b
  unfold FofD
  by_cases e1 : M = 1
  · rw [if_pos e1]
    have hd : D.m = 1 := by omega
    have hda : DegLt a.dg 1 := by have := a.deg; rwa [hd] at this
    have hdb : DegLt b.dg 1 := by have := b.deg; rwa [hd] at this
    have := h3.unique D.monic (by rw [hd]; exact DegLt.pmul (m := 0) hda hdb) (a * b).deg
    show Cong _ (pmul a.dg b.dg) (a * b).dg
    rw [this]
    exact Cong.refl _ _
  · rw [if_neg e1]
    exact h3
theorem rpow_FD (h : Desc D P M Mod) (a : GF D) (n : Nat) : rpow (FofD D M) D.m a.1 n = (Alg.pow a n).1 := by
  induction n with
  | zero => rfl
  | succ n ih =>
    show rmul _ _ (rpow _ _ _ n) a.1 = _
    rw [ih, rmul_FD h, Alg.pow_succ, Alg.mul_comm]
/-- A field: the powers of a primitive element. -/
theorem gen_FD (h : Desc D P M Mod) : ∃ g : GF D, IsOrd g (D.q - 1).toNat ∧ Ev (fun k => field_generator.f k P M Mod (P ^ M.toNat)) ((List.range (D.q - 1).toNat).map fun i => (Alg.pow g i).1) := by
  have hrc := RC.of_desc h
  have hm := h.hm
  have hq1 := hrc.res1.2
  have hqq : D.q = P ^ D.m := by rw [← h.hp]; rfl
  have hmm : D.m = M.toNat := by omega
  have hN : ((D.q - 1).toNat : Int) = P ^ D.m - 1 := by omega
  rw [show M.toNat = D.m by omega]
  rcases gen_l0 hrc ((P ^ D.m).toNat - 1) 1 (by omega) (by omega) with ⟨z, L, hz1, hz2, hg, he⟩ | ⟨hnone, _⟩
  · have hzr : Res P D.m z := ⟨by omega, hz2⟩
    have hz : (inn D z).1 = z := res_inn h hzr
    obtain ⟨⟨n, hn, e, hnd, hmem, _⟩, hlen, hone⟩ := hg
    have hln : L.length = n := by rw [e, List.length_map, List.length_range]
    have hnN : n = (D.q - 1).toNat := by omega
    have hpow : ∀ i, rpow (FofD D M) D.m z i = (Alg.pow (inn D z) i).1 := fun i => by rw [← rpow_FD h, hz]
    have hlast : rpow (FofD D M) D.m z (n - 1 + 1) = 1 := by
      have e2 : rd L (P ^ D.m - 2) = rpow (FofD D M) D.m z (n - 1) := by
        have hr : rd ((List.range n).map (rpow (FofD D M) D.m z)) (P ^ D.m - 2) = rpow (FofD D M) D.m z (P ^ D.m - 2).toNat := rd_map_range (by omega) (by omega)
        rw [e, hr, show (P ^ D.m - 2).toNat = n - 1 by omega]
      rw [e2] at hone
      exact hone
    refine ⟨inn D z, ⟨by omega, ?_, fun j hj hj' hc => ?_⟩, ?_⟩
    · rw [← hnN, show n = n - 1 + 1 by omega, ← GF.val_one, ← hpow]
      exact hlast
    · have h1 := hpow j
      rw [hc] at h1
      have h2 : rpow (FofD D M) D.m z j = rpow (FofD D M) D.m z 0 := h1
      rw [e] at hnd
      have := range_inj hnd (by omega) (by omega) h2
      omega
    · rw [e] at he
      rw [← hnN]
      have e3 : (List.range n).map (rpow (FofD D M) D.m z) = (List.range n).map fun i => (Alg.pow (inn D z) i).1 := List.map_congr_left fun i _ => hpow i
      rw [← e3]
      exact he
  · exfalso
    obtain ⟨g, hg⟩ := (elems_full D).primitive
    have hel := elems_length D
    have hg' : IsOrd g (D.q - 1).toNat := by rw [show (D.q - 1).toNat = (elems D).length - 1 by omega]; exact hg
    have hg0 : g ≠ 0 := ord_ne_zero hg
    have hg1 : 1 ≤ g.1 := by
      have h1 := g.2.1
      have h2 : g.1 ≠ 0 := fun e => hg0 (GF.val_zero.1 e)
      omega
    have hgr := inn_res h g
    obtain ⟨L, _, hP⟩ := powers_eq hrc hgr
    refine hnone g.1 L hg1 hgr.2 ?_
    obtain ⟨n, hn, e, hnd, hmem, hl⟩ := id hP
    have hpow := rpow_FD h g
    have hln : L.length = n := by rw [e, List.length_map, List.length_range]
    have hle : n ≤ (D.q - 1).toNat := by
      apply Classical.byContradiction
      intro hc
      rw [e] at hnd
      have h2 : rpow (FofD D M) D.m g.1 (D.q - 1).toNat = rpow (FofD D M) D.m g.1 0 := by
        rw [hpow, hpow, hg'.2.1]; rfl
      have := range_inj hnd (by omega) (by omega) h2
      omega
    have hge : (D.q - 1).toNat ≤ n := by
      rcases hl with h3 | h3
      · rw [hpow] at h3
        exact absurd (GF.val_zero.1 h3) (Alg.pow_ne_zero hg0 n)
      · rw [e] at h3
        obtain ⟨i, hi, hie⟩ := List.mem_map.1 h3
        have hi' := List.mem_range.1 hi
        rw [hpow, hpow] at hie
        have h4 : Alg.pow g i = Alg.pow g n := GF.val_eq.1 hie
        have h5 : Alg.pow g (n - i) = 1 := by
          rw [show n = i + (n - i) by omega, Alg.pow_add] at h4
          have := Alg.mul_left_cancel (Alg.pow_ne_zero hg0 i) (show Alg.pow g i * Alg.pow g (n - i) = Alg.pow g i * 1 by rw [← h4, Alg.mul_one])
          exact this
        have := Nat.le_of_dvd (by omega) (hg'.dvd.1 h5)
        omega
    have hnN : n = (D.q - 1).toNat := by omega
    refine ⟨hP, by omega, ?_⟩
    have e2 : rd L (P ^ D.m - 2) = rpow (FofD D M) D.m g.1 (n - 1) := by
      have hr : rd ((List.range n).map (rpow (FofD D M) D.m g.1)) (P ^ D.m - 2) = rpow (FofD D M) D.m g.1 (P ^ D.m - 2).toNat := rd_map_range (by omega) (by omega)
      rw [e, hr, show (P ^ D.m - 2).toNat = n - 1 by omega]
    rw [e2]
    show rpow (FofD D M) D.m g.1 (n - 1 + 1) = 1
    rw [hpow, show n - 1 + 1 = (D.q - 1).toNat by omega, hg'.2.1]
    rfl
end
end Go.Proofs.Ytibbdjkboglepaa.MyQBchRoots

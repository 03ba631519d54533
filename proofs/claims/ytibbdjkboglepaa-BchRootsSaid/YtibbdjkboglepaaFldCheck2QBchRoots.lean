/- The printed function Check of the reference of layer 4 returns OK (0) just for the descriptions of fields, and ErrField (1) otherwise. Lists of at most 2^43 entries. -/
import Derived.Test.YtibbdjkboglepaaFldCheckQBchRoots
set_option linter.unusedVariables false
set_option linter.unusedSimpArgs false
set_option linter.unusedSectionVars false
namespace Go.Proofs.Ytibbdjkboglepaa.MyQBchRoots
open Go.RowKit Go.Proofs.YtibbdjkboglepaaW.PrintWords Go.Proofs.YtibbdjkboglepaaW.PrintMore Go.Proofs.Ytibbdjkboglepaa.My Go.Proofs.Ytibbdjkboglepaa.Alg Go.Proofs.Ytibbdjkboglepaa.QBchRoots

theorem prime_l0 {n : Int} (hn : 2 ≤ n) (hn' : n ≤ 256) : ∀ (e : Nat) (d : Int), 2 ≤ d → d + e = n → (∀ c, 2 ≤ c → c < d → ¬ c ∣ n) →
    ∃ b, Ev (fun k => codewrightref04_prime.l0 k n d) b ∧ (b = true ↔ ∀ c : Int, 2 ≤ c → c < n → ¬ c ∣ n) := by
  intro e
  induction e with
  | zero =>
    intro d hd he h
    exact ⟨true, ev_succ (ev_now fun k => by rw [codewrightref04_prime.l0, if_neg (by omega)]), ⟨fun _ c h1 h2 => h c h1 (by omega), fun _ => rfl⟩⟩
  | succ e ih =>
    intro d hd he h
    by_cases e0 : n % d = 0
    · exact ⟨false, ev_succ (ev_now fun k => by rw [codewrightref04_prime.l0, if_pos (by omega), if_neg (by omega), tmod_nn (by omega), if_pos e0]), ⟨fun h => absurd h (by simp), fun h => absurd (Int.dvd_of_emod_eq_zero e0) (h d hd (by omega))⟩⟩
    · obtain ⟨b, hb, hq⟩ := ih (d + 1) (by omega) (by omega) (fun c h1 h2 => by
        by_cases e' : c = d
        · subst e'; exact fun hdv => e0 (Int.emod_eq_zero_of_dvd hdv)
        · exact h c h1 (by omega))
      exact ⟨b, Ev.step (fun k => by rw [codewrightref04_prime.l0, if_pos (by omega), if_neg (by omega), tmod_nn (by omega), if_neg e0, w64 (by omega) (by omega)]) hb, hq⟩
theorem prime_eq {n : Int} (hn : 2 ≤ n) (hn' : n ≤ 256) : ∃ b, Ev (fun k => codewrightref04_prime.f k n) b ∧ (b = true ↔ ∀ c : Int, 2 ≤ c → c < n → ¬ c ∣ n) :=
  prime_l0 hn hn' (n - 2).toNat 2 (by omega) (by omega) (fun c h1 h2 => by omega)
theorem Order_gen_l0 {P M : Int} (Mod : List Int) (hP : 2 ≤ P) (hM : 1 ≤ M) (hM8 : M ≤ 8) : ∀ (d : Nat) (i : Nat), i + d = M.toNat → P ^ i ≤ 256 →
    ∃ q, Ev (fun k => codewrightref04_Order.l0 k (P ^ i) i P M Mod) q ∧ ((q = 0 ∧ ¬ InR P M) ∨ (q = P ^ M.toNat ∧ InR P M)) := by
  intro d
  induction d with
  | zero =>
    intro i hi h
    refine ⟨P ^ i, ev_succ (ev_now fun k => by rw [codewrightref04_Order.l0, if_neg (by omega)]), .inr ⟨by rw [show i = M.toNat by omega], hP, hM, hM8, by rw [show M.toNat = i by omega]; exact h⟩⟩
  | succ d ih =>
    intro i hi h
    have h1 : 0 < P ^ i := Int.pow_pos (by omega)
    have h5 : 256 / P ≤ 256 := Int.ediv_le_self _ (by omega)
    have h7 : 0 ≤ 256 / P := Int.ediv_nonneg (by omega) (by omega)
    have h6 : 0 < P ^ i * P := Int.mul_pos h1 (by omega)
    by_cases e : P ^ i ≤ 256 / P
    · have h2 := (Int.le_ediv_iff_mul_le (by omega)).1 e
      obtain ⟨q, hq, hor⟩ := ih (i + 1) (by omega) (by rw [Int.pow_succ]; exact h2)
      refine ⟨q, Ev.step (fun k => ?_) hq, hor⟩
      rw [codewrightref04_Order.l0, if_pos (by omega), if_neg (by omega), Int.tdiv_eq_ediv_of_nonneg (a := (256 : Int)) (by omega), w64 (x := 256 / P) (by omega) (by omega), if_neg (by omega), w64 (x := P ^ i * P) (by omega) (by omega), w64 (by omega) (by omega), Int.pow_succ]
      rfl
    · refine ⟨0, ev_succ (ev_now fun k => ?_), .inl ⟨rfl, fun hR => ?_⟩⟩
      · rw [codewrightref04_Order.l0, if_pos (by omega), if_neg (by omega), Int.tdiv_eq_ediv_of_nonneg (a := (256 : Int)) (by omega), w64 (x := 256 / P) (by omega) (by omega), if_pos (by omega)]
      · apply e
        rw [Int.le_ediv_iff_mul_le (by omega)]
        have e9 : P ^ (i + 1) = P ^ i * P := Int.pow_succ P i
        have := pow_mono (show 1 ≤ P by omega) (show i + 1 ≤ M.toNat by omega)
        have := hR.2.2.2
        omega
theorem Order_gen (P M : Int) (Mod : List Int) : ∃ q, Ev (fun k => codewrightref04_Order.f k P M Mod) q ∧ ((q = 0 ∧ ¬ InR P M) ∨ (q = P ^ M.toNat ∧ InR P M)) := by
  have z : Ev (fun k => codewrightref04_Order.j0 k true P M Mod) 0 := ev_succ (ev_now fun k => by rw [codewrightref04_Order.j0, if_pos rfl])
  by_cases e1 : P < 2
  · exact ⟨0, Ev.congr (fun k => by unfold codewrightref04_Order.f; rw [if_pos e1]) z, .inl ⟨rfl, fun h => by have := h.1; omega⟩⟩
  · by_cases e2 : M < 1
    · exact ⟨0, Ev.congr (fun k => by unfold codewrightref04_Order.f; rw [if_neg e1, if_pos e2]) z, .inl ⟨rfl, fun h => by have := h.2.1; omega⟩⟩
    · by_cases e3 : M > 8
      · exact ⟨0, Ev.congr (fun k => by unfold codewrightref04_Order.f; rw [if_neg e1, if_neg e2, decide_eq_true e3]) z, .inl ⟨rfl, fun h => by have := h.2.2.1; omega⟩⟩
      · obtain ⟨q, hq, hor⟩ := Order_gen_l0 (P := P) (M := M) Mod (by omega) (by omega) (by omega) M.toNat 0 (by omega) (by rw [Int.pow_zero]; omega)
        rw [Int.pow_zero] at hq
        refine ⟨q, Ev.congr (fun k => by unfold codewrightref04_Order.f; rw [if_neg e1, if_neg e2, decide_eq_false e3]) ?_, hor⟩
        exact Ev.step (fun k => by rw [codewrightref04_Order.j0, if_neg (by simp)]; rfl) hq

section
variable {Q : Pr}
theorem low_of {low r : List Int} (hlow : DLn Q.p low) (hr : (r.length : Int) = low.length) (hrd : ∀ j : Int, 0 ≤ j → j < low.length → rd r j = lval Q.p low / Q.p ^ j.toNat % Q.p) : r = low := by
  apply list_ext_rd (by omega)
  intro i h0 h1
  rw [hrd i h0 (by omega)]
  have hd : ∀ d ∈ low, 0 ≤ d ∧ d < Q.p := by
    intro d hd
    obtain ⟨j, h0, h1, rfl⟩ := mem_rd hd
    exact hlow j h0 h1
  have e := dig_pval (P := Q) low.length (lp Q low) (lp_deg Q low)
  rw [← lval_pval hd] at e
  have e2 := congrArg Subtype.val (congrFun e i.toNat)
  rw [lp_at (by omega), of_val, show ((i.toNat : Nat) : Int) = i by omega] at e2
  have h3 := hlow i h0 (by omega)
  rw [Int.emod_eq_of_lt h3.1 h3.2] at e2
  exact e2
theorem Irr_l1 {md : List Int} (hp256 : Q.p ≤ 256) (hmd : DLn Q.p md) (hm : md.length ≤ 8) (d : Nat) (hd1 : 1 ≤ d) (hd2 : 2 * d ≤ md.length) (hpd : Q.p ^ d ≤ 256) (R : Bool → Prop)
    (hk : Irr Q md d → ∃ b, Ev (fun k => codewrightref04_irreducible.l0 k md Q.p (Q.p ^ d) ((d : Int) + 1)) b ∧ R b) (hno : ¬ Irr Q md d → R false) :
    ∀ (e : Nat) (v : Int), 0 ≤ v → v + e = Q.p ^ d → (∀ low : List Int, low.length = d → DLn Q.p low → lval Q.p low < v → ¬ ∃ h n, DegLt h n ∧ mon Q md.length md = pmul h (mon Q low.length low)) →
      ∃ b, Ev (fun k => codewrightref04_irreducible.l1 k md Q.p (Q.p ^ d) d v) b ∧ R b := by
  have hp2 := Q.two
  intro e
  induction e with
  | zero =>
    intro v hv he h
    obtain ⟨b, hb, hR⟩ := hk (fun low hl hlow => h low hl hlow (by
      have := lval_bd (p := Q.p) (l := low) hp2 (fun x hx => by
        obtain ⟨j, h0, h1, rfl⟩ := mem_rd hx
        exact hlow j h0 h1)
      rw [hl] at this
      omega))
    exact ⟨b, Ev.step (fun k => by rw [codewrightref04_irreducible.l1, if_neg (by omega), w64 (by omega) (by omega)]) hb, hR⟩
  | succ e ih =>
    intro v hv he h
    obtain ⟨low, hlow, hl, hrd⟩ := digits_eq (p := Q.p) (n := d) (x := v) hp2 (by omega) (by omega) hv (by omega)
    have hDL : DLn Q.p low := fun t h0 h1 => by
      rw [hrd t h0 (by omega)]
      exact ⟨Int.emod_nonneg _ (by omega), Int.emod_lt_of_pos _ (by omega)⟩
    obtain ⟨b, hb, hq⟩ := divides_eq hp256 hDL hmd (by omega) (by omega) (by omega)
    cases b with
    | true =>
      refine ⟨false, ?_, hno (fun hI => hI low (by omega) hDL (hq.1 rfl))⟩
      refine Ev.step (fun k => by rw [codewrightref04_irreducible.l1, if_pos (by omega)]) ?_
      exact Ev.bind hlow (Ev.bind hb (ev_now fun k => by rw [if_pos rfl]))
    | false =>
      obtain ⟨b, hb', hR⟩ := ih (v + 1) (by omega) (by omega) (fun low' hl' hlow' hlt => by
        by_cases e' : lval Q.p low' = v
        · have : low = low' := low_of hlow' (by omega) (fun j h0 h1 => by rw [hrd j h0 (by omega), e'])
          subst this
          exact fun hh => absurd (hq.2 hh) (by simp)
        · exact h low' hl' hlow' (by omega))
      refine ⟨b, ?_, hR⟩
      refine Ev.step (fun k => by rw [codewrightref04_irreducible.l1, if_pos (by omega)]) ?_
      exact Ev.bind hlow (Ev.bind hb (Ev.congr (fun k => by rw [if_neg (by simp), w64 (by omega) (by omega)]) hb'))
theorem Irr_l0 {md : List Int} (hp256 : Q.p ≤ 256) (hmd : DLn Q.p md) (hm : md.length ≤ 8) (hpm : Q.p ^ md.length ≤ 256) :
    ∀ (e : Nat) (d : Nat), 1 ≤ d → d + e = md.length → (∀ d', 1 ≤ d' → d' < d → 2 * d' ≤ md.length → Irr Q md d') →
      ∃ b, Ev (fun k => codewrightref04_irreducible.l0 k md Q.p (Q.p ^ (d - 1)) d) b ∧ (b = true ↔ ∀ d', 1 ≤ d' → 2 * d' ≤ md.length → Irr Q md d') := by
  have hp2 := Q.two
  intro e
  induction e with
  | zero =>
    intro d hd he h
    exact ⟨true, ev_succ (ev_now fun k => by rw [codewrightref04_irreducible.l0, w64 (by omega) (by omega), if_neg (by omega)]), ⟨fun _ d' h1 h2 => h d' h1 (by omega) h2, fun _ => rfl⟩⟩
  | succ e ih =>
    intro d hd he h
    by_cases e2 : 2 * d ≤ md.length
    · have hpd : Q.p ^ d ≤ 256 := by have := pow_le Q (show d ≤ md.length by omega); omega
      have hps : Q.p ^ (d - 1) * Q.p = Q.p ^ d := by rw [← Int.pow_succ, show (d - 1).succ = d by omega]
      have hpos := pow_pos Q d
      obtain ⟨b, hb, hR⟩ := Irr_l1 hp256 hmd hm d hd e2 hpd (fun b => b = true ↔ ∀ d', 1 ≤ d' → 2 * d' ≤ md.length → Irr Q md d') (fun hI => by
        have := ih (d + 1) (by omega) (by omega) (fun d' h1 h2 h3 => by
          by_cases e' : d' = d
          · subst e'; exact hI
          · exact h d' h1 (by omega) h3)
        rwa [show d + 1 - 1 = d by omega] at this) (fun hn => ⟨fun h => absurd h (by simp), fun h => absurd (h d hd e2) hn⟩) (Q.p ^ d).toNat 0 (by omega) (by omega) (fun low hl hlow hlt => by
          have := lval_bd (p := Q.p) (l := low) hp2 (fun x hx => by
            obtain ⟨j, h0, h1, rfl⟩ := mem_rd hx
            exact hlow j h0 h1)
          omega)
      refine ⟨b, Ev.step (fun k => ?_) hb, hR⟩
      rw [codewrightref04_irreducible.l0, w64 (x := 2 * (d : Int)) (by omega) (by omega), if_pos (by omega), hps, w64 (by omega) (by omega)]
    · exact ⟨true, ev_succ (ev_now fun k => by rw [codewrightref04_irreducible.l0, w64 (by omega) (by omega), if_neg (by omega)]), ⟨fun _ d' h1 h2 => h d' h1 (by omega) h2, fun _ => rfl⟩⟩
theorem irreducible_eq {md : List Int} (hp256 : Q.p ≤ 256) (hmd : DLn Q.p md) (hm1 : 1 ≤ md.length) (hm : md.length ≤ 8) (hpm : Q.p ^ md.length ≤ 256) :
    ∃ b, Ev (fun k => codewrightref04_irreducible.f k md Q.p) b ∧ (b = true ↔ ∀ d', 1 ≤ d' → 2 * d' ≤ md.length → Irr Q md d') := by
  have := Irr_l0 hp256 hmd hm hpm (md.length - 1) 1 (by omega) (by omega) (fun d' h1 h2 => by omega)
  rwa [show 1 - 1 = 0 from rfl, Int.pow_zero] at this
end

section
variable {P M : Int} {Mod : List Int}
theorem Check_l0 {Q : Pr} (hQ : Q.p = P) (hM : 1 < M) (hM8 : M ≤ 8) (hp256 : P ≤ 256) (hpm : P ^ M.toNat ≤ 256) (hl : (Mod.length : Int) = M) : ∀ (e : Nat) (i : Int), 0 ≤ i → i + e = M → (∀ t, 0 ≤ t → t < i → 0 ≤ rd Mod t ∧ rd Mod t < P) →
    ∃ r, Ev (fun k => codewrightref04_Check.l0 k i P M Mod) r ∧ ((r = 0 ∧ DLn P Mod ∧ ∀ d', 1 ≤ d' → 2 * d' ≤ Mod.length → Irr Q Mod d') ∨ (r = 1 ∧ ¬ (DLn P Mod ∧ ∀ d', 1 ≤ d' → 2 * d' ≤ Mod.length → Irr Q Mod d'))) := by
  intro e
  induction e with
  | zero =>
    intro i hi he h
    have hD : DLn P Mod := fun t h0 h1 => h t h0 (by omega)
    obtain ⟨b, hb, hq⟩ := irreducible_eq (Q := Q) (md := Mod) (by omega) (by rw [hQ]; exact hD) (by omega) (by omega) (by rw [hQ, show Mod.length = M.toNat by omega]; exact hpm)
    rw [hQ] at hb
    cases b with
    | true =>
      refine ⟨0, ?_, .inl ⟨rfl, hD, hq.1 rfl⟩⟩
      refine Ev.step (fun k => by rw [codewrightref04_Check.l0, if_neg (by omega)]) ?_
      exact Ev.bind hb (ev_now fun k => by rw [if_pos rfl])
    | false =>
      refine ⟨1, ?_, .inr ⟨rfl, fun hh => absurd (hq.2 hh.2) (by simp)⟩⟩
      refine Ev.step (fun k => by rw [codewrightref04_Check.l0, if_neg (by omega)]) ?_
      exact Ev.bind hb (ev_now fun k => by rw [if_neg (by simp)])
  | succ e ih =>
    intro i hi he h
    by_cases e1 : rd Mod i < 0
    · exact ⟨1, ev_succ (ev_now fun k => by rw [codewrightref04_Check.l0, if_pos (by omega), if_pos hi, if_pos (by omega), if_pos e1]), .inr ⟨rfl, fun hh => by have := hh.1 i hi (by omega); omega⟩⟩
    · by_cases e2 : rd Mod i ≥ P
      · exact ⟨1, ev_succ (ev_now fun k => by rw [codewrightref04_Check.l0, if_pos (by omega), if_pos hi, if_pos (by omega), if_neg e1, if_pos e2]), .inr ⟨rfl, fun hh => by have := hh.1 i hi (by omega); omega⟩⟩
      · obtain ⟨r, hr, hq⟩ := ih (i + 1) (by omega) (by omega) (fun t h0 h1 => by
          by_cases e' : t = i
          · subst e'; omega
          · exact h t h0 (by omega))
        exact ⟨r, Ev.step (fun k => by rw [codewrightref04_Check.l0, if_pos (by omega), if_pos hi, if_pos (by omega), if_neg e1, if_neg e2, w64 (by omega) (by omega)]) hr, hq⟩
/-- Check: 0 for the description of a field, 1 otherwise. -/
theorem Check_eq (P M : Int) (Mod : List Int) : ∃ r, Ev (fun k => codewrightref04_Check.f k P M Mod) r ∧ ((r = 0 ∧ ∃ D, Desc D P M Mod) ∨ (r = 1 ∧ ¬ ∃ D, Desc D P M Mod)) := by
  obtain ⟨q, hq, hor⟩ := Order_gen P M Mod
  unfold codewrightref04_Check.f
  have bad : Ev (fun k => codewrightref04_Check.j0 k true P M Mod) 1 := ev_succ (ev_now fun k => by rw [codewrightref04_Check.j0, if_pos rfl])
  rcases hor with ⟨rfl, hn⟩ | ⟨hq1, hR⟩
  · exact ⟨1, Ev.bind hq (Ev.congr (fun k => by rw [if_pos rfl]) bad), .inr ⟨rfl, fun ⟨D, hD⟩ => hn hD.shp.1⟩⟩
  · have hR' := hR
    obtain ⟨h1, h2, h3, h4⟩ := hR
    have hqpos : 0 < P ^ M.toNat := Int.pow_pos (by omega)
    have hp256 : P ≤ 256 := by
      have := pow_mono (P := P) (by omega) (show 1 ≤ M.toNat by omega)
      rw [Int.pow_succ, Int.pow_zero, Int.one_mul] at this
      omega
    obtain ⟨b, hb, hbq⟩ := prime_eq h1 hp256
    suffices hs : ∃ r, Ev (fun k => codewrightref04_Check.j0 k (!b) P M Mod) r ∧ ((r = 0 ∧ ∃ D, Desc D P M Mod) ∨ (r = 1 ∧ ¬ ∃ D, Desc D P M Mod)) by
      obtain ⟨r, hr, hrq⟩ := hs
      exact ⟨r, Ev.bind hq (Ev.congr (fun k => by rw [if_neg (by omega)]) (Ev.bind hb hr)), hrq⟩
    cases b with
    | false => exact ⟨1, bad, .inr ⟨rfl, fun ⟨D, hD⟩ => absurd (hbq.2 hD.shp.2.1) (by simp)⟩⟩
    | true =>
      have hprime := hbq.1 rfl
      let Q : Pr := ⟨P, h1, hprime⟩
      by_cases e1 : M = 1
      · by_cases e2 : (Mod.length : Int) = 0
        · have hnil : Mod = [] := List.eq_nil_of_length_eq_zero (by omega)
          refine ⟨0, ev_succ (ev_now fun k => ?_), .inl ⟨rfl, Shp.make (Q := Q) rfl ⟨hR', hprime, fun _ => hnil, fun h => by omega⟩ (fun h => by omega)⟩⟩
          rw [codewrightref04_Check.j0, if_neg (by simp), if_pos e1, if_pos e2]
        · refine ⟨1, ev_succ (ev_now fun k => ?_), .inr ⟨rfl, fun ⟨D, hD⟩ => e2 (by rw [hD.one e1]; rfl)⟩⟩
          rw [codewrightref04_Check.j0, if_neg (by simp), if_pos e1, if_neg e2]
      · by_cases e2 : (Mod.length : Int) = M
        · obtain ⟨r, hr, hq⟩ := Check_l0 (Q := Q) (Mod := Mod) rfl (by omega) h3 hp256 h4 e2 M.toNat 0 (by omega) (by omega) (fun t h0 h1 => by omega)
          refine ⟨r, Ev.step (fun k => by rw [codewrightref04_Check.j0, if_neg (by simp), if_neg e1, if_pos e2]) hr, ?_⟩
          rcases hq with ⟨rfl, hD, hI⟩ | ⟨rfl, hn⟩
          · exact .inl ⟨rfl, Shp.make (Q := Q) rfl ⟨hR', hprime, fun h => absurd h e1, fun _ => ⟨e2, hD⟩⟩ (fun _ => hI)⟩
          · refine .inr ⟨rfl, fun ⟨D, hD⟩ => hn ⟨(hD.shp.2.2.2 (by omega)).2, ?_⟩⟩
            have hDQ : D.toPr = Q := by
              have := hD.hp
              cases D
              rename_i a _ _ _ _ _
              cases a
              simp at this
              subst this
              rfl
            have := hD.irr (by omega)
            rwa [hDQ] at this
        · refine ⟨1, ev_succ (ev_now fun k => ?_), .inr ⟨rfl, fun ⟨D, hD⟩ => e2 (hD.len (by omega))⟩⟩
          rw [codewrightref04_Check.j0, if_neg (by simp), if_neg e1, if_neg e2]
end
end Go.Proofs.Ytibbdjkboglepaa.MyQBchRoots

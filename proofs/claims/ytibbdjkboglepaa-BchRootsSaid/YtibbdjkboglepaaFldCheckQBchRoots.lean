/- The printed function Check of the reference of layer 4: it returns OK just for the descriptions of fields. No further condition. -/
import Derived.Test.YtibbdjkboglepaaAlgAll
import Derived.Test.YtibbdjkboglepaaFldRefQBchRoots
set_option linter.unusedVariables false
set_option linter.unusedSimpArgs false
set_option linter.unusedSectionVars false
namespace Go.Proofs.Ytibbdjkboglepaa.MyQBchRoots
open Go.RowKit Go.Proofs.YtibbdjkboglepaaW.PrintWords Go.Proofs.YtibbdjkboglepaaW.PrintMore Go.Proofs.Ytibbdjkboglepaa.My Go.Proofs.Ytibbdjkboglepaa.Alg Go.Proofs.Ytibbdjkboglepaa.QBchRoots

section
variable {Q : Pr}
theorem Div_l2 {r : List Int} (hl : r.length ≤ 1000) : ∀ (d : Nat) (i : Int), 0 ≤ i → i + d = r.length → (∀ j, 0 ≤ j → j < i → rd r j = 0) → ∃ b, Ev (fun k => codewrightref04_divides.l2 k r i) b ∧ (b = true ↔ ∀ j : Int, 0 ≤ j → j < r.length → rd r j = 0) := by
  intro d
  induction d with
  | zero =>
    intro i hi hd h
    exact ⟨true, ev_succ (ev_now fun k => by rw [codewrightref04_divides.l2, if_neg (by omega)]), fun _ j h1 h2 => h j h1 (by omega), fun _ => rfl⟩
  | succ d ih =>
    intro i hi hd h
    by_cases e : rd r i = 0
    · obtain ⟨b, hb, hq⟩ := ih (i + 1) (by omega) (by omega) (fun j h1 h2 => by
        by_cases e' : j = i
        · subst e'; exact e
        · exact h j h1 (by omega))
      exact ⟨b, Ev.step (fun k => by rw [codewrightref04_divides.l2, if_pos (by omega), if_pos hi, if_pos e, w64 (by omega) (by omega)]) hb, hq⟩
    · exact ⟨false, ev_succ (ev_now fun k => by rw [codewrightref04_divides.l2, if_pos (by omega), if_pos hi, if_neg e]), ⟨fun h => absurd h (by simp), fun h => absurd (h i hi (by omega)) e⟩⟩
theorem Div_l1 (hp256 : Q.p ≤ 256) {low : List Int} (hlow : DLn Q.p low) (hdl : low.length ≤ 100) (i : Nat) (hi : low.length ≤ i) (c0 : List Int) (hi' : i < c0.length) (hc0 : c0.length ≤ 200) (h0 : DLn Q.p c0) (R : Bool → Prop)
    (hk : ∀ c, c.length = c0.length → DLn Q.p c → rd c i = 0 → (∀ t : Nat, t < i → of Q (rd c t) = of Q (rd c0 t) + (if i - low.length ≤ t then -(of Q (rd c0 i) * of Q (rd low ((t - (i - low.length) : Nat) : Int))) else 0)) → (∀ t : Nat, i < t → rd c t = rd c0 t) → ∃ b, Ev (fun k => codewrightref04_divides.l0 k low Q.p low.length c ((i : Int) - 1)) b ∧ R b) :
    ∀ (d : Nat) (j : Nat) (c : List Int), j + d = low.length → c.length = c0.length → DLn Q.p c → rd c i = rd c0 i → (∀ t : Nat, i < t → rd c t = rd c0 t) →
      (∀ t : Nat, t < i → of Q (rd c t) = of Q (rd c0 t) + (if i - low.length ≤ t ∧ t < i - low.length + j then -(of Q (rd c0 i) * of Q (rd low ((t - (i - low.length) : Nat) : Int))) else 0)) →
      ∃ b, Ev (fun k => codewrightref04_divides.l1 k low Q.p low.length c i (rd c0 i) j) b ∧ R b := by
  have hp2 := Q.two
  intro d
  induction d with
  | zero =>
    intro j c hj hl hc hci hgt hs
    obtain ⟨b, hb, hR⟩ := hk (c.set i 0) (by rw [List.length_set]; exact hl) (hc.set (t := (i : Int)) (by omega) (by omega) (by omega) (by omega)) (by exact rd_set_self (i := (i : Int)) (by omega) (by omega)) (fun t ht => by
      rw [show c.set i 0 = c.set ((i : Int)).toNat 0 from rfl, rd_set_ne (by omega) (by omega) (by omega), hs t ht]
      congr 1
      by_cases e : i - low.length ≤ t
      · rw [if_pos e, if_pos (by omega)]
      · rw [if_neg e, if_neg (by omega)]) (fun t ht => by
      rw [show c.set i 0 = c.set ((i : Int)).toNat 0 from rfl, rd_set_ne (by omega) (by omega) (by omega), hgt t ht])
    exact ⟨b, Ev.step (fun k => by rw [codewrightref04_divides.l1, if_neg (by omega), if_pos (by omega), if_pos (by omega), w64 (by omega) (by omega)]; rfl) hb, hR⟩
  | succ d ih =>
    intro j c hj hl hc hci hgt hs
    have h1 := h0 i (by omega) (by omega)
    have h2 := hc ((i : Int) - low.length + j) (by omega) (by omega)
    have hF := hlow j (by omega) (by omega)
    have h3 : 0 ≤ (Q.p - rd c0 i) * rd low j ∧ (Q.p - rd c0 i) * rd low j ≤ 65536 := ⟨Int.mul_nonneg (by omega) hF.1, Int.mul_le_mul (c := 256) (d := 256) (by omega) (by omega) hF.1 (by omega)⟩
    have he0 := Int.emod_nonneg (rd c ((i : Int) - low.length + j) + (Q.p - rd c0 i) * rd low j) (show Q.p ≠ 0 by omega)
    have he1 := Int.emod_lt_of_pos (rd c ((i : Int) - low.length + j) + (Q.p - rd c0 i) * rd low j) (show 0 < Q.p by omega)
    obtain ⟨b, hb, hR⟩ := ih (j + 1) (c.set ((i : Int) - low.length + j).toNat ((rd c ((i : Int) - low.length + j) + (Q.p - rd c0 i) * rd low j) % Q.p)) (by omega) (by rw [List.length_set]; exact hl) (hc.set (by omega) (by omega) he0 he1) (by rw [rd_set_ne (by omega) (by omega) (by omega), hci]) (fun t ht => by rw [rd_set_ne (by omega) (by omega) (by omega), hgt t ht]) (by
      intro t ht
      by_cases e : (t : Int) = i - low.length + j
      · rw [e, rd_set_self (by omega) (by omega), show of Q ((rd c ((i : Int) - low.length + j) + (Q.p - rd c0 i) * rd low j) % Q.p) = of Q (rd c ((i : Int) - low.length + j) + (Q.p - rd c0 i) * rd low j) from of_eq.2 (Int.emod_emod_of_dvd _ (Int.dvd_refl Q.p))]
        rw [← of_add, ← of_mul, show of Q (rd c ((i : Int) - low.length + j)) = of Q (rd c t) by rw [e], hs t ht, if_neg (by omega), add_zero, if_pos (by omega), ← e]
        congr 1
        have e3 : of Q (Q.p - rd c0 i) = -of Q (rd c0 i) := by
          rw [of_neg, of_eq, show Q.p - rd c0 i = -rd c0 i + Q.p * 1 by omega, Int.add_mul_emod_self_left]
        rw [e3, neg_mul, show ((t - (i - low.length) : Nat) : Int) = j by omega]
      · rw [rd_set_ne (by omega) (by omega) (by omega), hs t ht]
        congr 1
        by_cases e2 : i - low.length ≤ t ∧ t < i - low.length + j
        · rw [if_pos e2, if_pos (by omega)]
        · rw [if_neg e2, if_neg (by omega)])
    refine ⟨b, Ev.step (fun k => ?_) hb, hR⟩
    rw [codewrightref04_divides.l1, if_pos (by omega), w64 (x := (i : Int) - low.length) (by omega) (by omega), w64 (x := (i : Int) - low.length + j) (by omega) (by omega), if_pos (by omega), if_pos (by omega), if_pos (by omega), if_pos (by omega), if_neg (by omega),
      w64 (x := Q.p - rd c0 i) (by omega) (by omega), w64 (x := (Q.p - rd c0 i) * rd low j) (by omega) (by omega), w64 (x := rd c ((i : Int) - low.length + j) + (Q.p - rd c0 i) * rd low j) (by omega) (by omega), tmod_nn (by omega), w64 (x := (j : Int) + 1) (by omega) (by omega)]
    rfl
theorem Div_l0 (hp256 : Q.p ≤ 256) {low : List Int} (hlow : DLn Q.p low) (hdl : low.length ≤ 100) (hd1 : 1 ≤ low.length) (F : Pol (Zp Q)) :
    ∀ (e : Nat) (c : List Int), low.length + e ≤ c.length → c.length ≤ 200 → DLn Q.p c → (∀ t : Nat, low.length + e ≤ t → rd c t = 0) → Cong (mon Q low.length low) F (cut Q (low.length + e) c) →
      ∃ b, Ev (fun k => codewrightref04_divides.l0 k low Q.p low.length c (((low.length + e : Nat) : Int) - 1)) b ∧ (b = true ↔ Cong (mon Q low.length low) F pzero) := by
  have hp2 := Q.two
  intro e
  induction e with
  | zero =>
    intro c hl hl2 hc hz hcong
    obtain ⟨b, hb, hq⟩ := Div_l2 (r := c) (by omega) c.length 0 (by omega) (by omega) (fun j h1 h2 => by omega)
    refine ⟨b, Ev.step (fun k => by rw [codewrightref04_divides.l0, if_neg (by omega)]) hb, ?_⟩
    rw [hq]
    have hcz : (∀ j : Int, 0 ≤ j → j < c.length → rd c j = 0) ↔ cut Q (low.length + 0) c = pzero := by
      constructor
      · intro h
        funext t
        unfold cut
        split
        · rw [h t (by omega) (by omega)]; rfl
        · rfl
      · intro h j h1 h2
        by_cases e' : j < low.length
        · have := congrFun h j.toNat
          unfold cut at this
          rw [if_pos (by omega), show ((j.toNat : Nat) : Int) = j by omega] at this
          have h3 := of_eq_zero.1 this
          have h4 := hc j h1 h2
          obtain ⟨z, hz'⟩ := h3
          have hz0 : z = 0 := by
            apply Decidable.byContradiction
            intro hne
            by_cases hpos : 0 < z
            · have := Int.mul_le_mul_of_nonneg_left (show 1 ≤ z by omega) (show 0 ≤ Q.p by omega)
              omega
            · have := Int.mul_le_mul_of_nonneg_left (show z ≤ -1 by omega) (show 0 ≤ Q.p by omega)
              omega
          rw [hz', hz0, Int.mul_zero]
        · have := hz j.toNat (by omega)
          rwa [show ((j.toNat : Nat) : Int) = j by omega] at this
    rw [hcz]
    constructor
    · intro h; rw [h] at hcong; exact hcong
    · intro h; exact (hcong.symm.trans h).unique (mon_monic Q _ _) (cut_deg _ _ _) (DegLt.pzero _)
  | succ e ih =>
    intro c hl hl2 hc hz hcong
    have hrd := hc ((low.length + e : Nat) : Int) (by omega) (by omega)
    obtain ⟨b, hb, hq⟩ := Div_l1 hp256 hlow hdl (low.length + e) (by omega) c (by omega) hl2 hc (fun b => b = true ↔ Cong (mon Q low.length low) F pzero) (by
      intro c' hl' hc' hci' hs' hgt'
      refine ih c' (by omega) (by omega) hc' (fun t ht => ?_) (hcong.trans ?_)
      · by_cases e' : t = low.length + e
        · subst e'; exact hci'
        · rw [hgt' t (by omega)]; exact hz t (by omega)
      · refine ⟨monom e (of Q (rd c ((low.length + e : Nat) : Int))), _, monom_deg _ _, ?_⟩
        funext t
        show cut Q (low.length + (e + 1)) c t = cut Q (low.length + e) c' t + pmul _ (mon Q low.length low) t
        rw [monom_pmul]
        unfold cut mon
        by_cases e1 : t < low.length + e
        · rw [if_pos (by omega), if_pos e1, hs' t e1]
          by_cases e2 : e ≤ t
          · rw [if_pos (by omega), if_pos e2, if_pos (by omega), show low.length + e - low.length = e by omega, add_assoc, neg_add, add_zero]
          · rw [if_neg (by omega), if_neg e2, add_zero, add_zero]
        · rw [if_neg e1, zero_add]
          by_cases e2 : t = low.length + e
          · subst e2
            rw [if_pos (by omega), if_pos (by omega), if_neg (by omega), if_pos (by omega), mul_one]
          · rw [if_neg (by omega)]
            split
            · rw [if_neg (by omega), if_neg (by omega), mul_zero]
            · rfl) low.length 0 c (by omega) rfl hc rfl (fun t ht => rfl) (fun t ht => by rw [if_neg (by omega), add_zero])
    refine ⟨b, Ev.step (fun k => ?_) hb, hq⟩
    rw [show ((low.length + (e + 1) : Nat) : Int) - 1 = ((low.length + e : Nat) : Int) by omega, codewrightref04_divides.l0, if_pos (by omega), if_pos (by omega), if_pos (by omega)]
    rfl
theorem divides_eq (hp256 : Q.p ≤ 256) {low md : List Int} (hlow : DLn Q.p low) (hmd : DLn Q.p md) (hd1 : 1 ≤ low.length) (hdm : low.length ≤ md.length) (hm : md.length ≤ 100) :
    ∃ b, Ev (fun k => codewrightref04_divides.f k low md Q.p) b ∧ (b = true ↔ ∃ h n, DegLt h n ∧ mon Q md.length md = pmul h (mon Q low.length low)) := by
  have hp2 := Q.two
  have hrd : ∀ t : Int, 0 ≤ t → t < md.length → rd (md ++ [1]) t = rd md t := fun t h1 h2 => rd_append_left h1 h2
  have hrd1 : rd (md ++ [1]) md.length = 1 := rd_append_self
  obtain ⟨b, hb, hq⟩ := Div_l0 hp256 hlow (by omega) hd1 (mon Q md.length md) (md.length + 1 - low.length) (md ++ [1]) (by simp; omega) (by simp; omega) (fun t h1 h2 => by
    by_cases e : t < md.length
    · rw [hrd t h1 e]; exact hmd t h1 e
    · rw [show t = md.length by simp at h2; omega, hrd1]; omega) (fun t ht => by
    unfold rd
    rw [List.getD_eq_getElem?_getD, List.getElem?_eq_none (by simp; omega)]; rfl) (by
    rw [show cut Q (low.length + (md.length + 1 - low.length)) (md ++ [1]) = mon Q md.length md from ?_]
    · exact Cong.refl _ _
    · funext t
      unfold cut mon
      by_cases e : t < md.length
      · rw [if_pos (by omega), if_pos e, hrd t (by omega) (by omega)]
      · rw [if_neg e]
        by_cases e2 : t = md.length
        · subst e2; rw [if_pos (by omega), if_pos rfl, hrd1]; rfl
        · rw [if_neg (by omega), if_neg e2])
  rw [cong_zero] at hq
  refine ⟨b, Ev.congr (fun k => ?_) hb, hq⟩
  unfold codewrightref04_divides.f
  rw [Option.bind_some, if_pos (by simp; omega), Option.bind_some, if_pos (by simp; omega), Option.bind_some, List.nil_append, w64 (by simp) (by simp; omega)]
  congr 1
  simp
  omega
end
end Go.Proofs.Ytibbdjkboglepaa.MyQBchRoots

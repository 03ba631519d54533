/- The printed functions Mul and MulOrder of the reference of layer 4, over a description of a field: the product and the order in the field. No further condition. -/
import Derived.Test.YtibbdjkboglepaaAlgAll
import Derived.Test.YtibbdjkboglepaaFldRefQBchRoots
set_option linter.unusedVariables false
set_option linter.unusedSimpArgs false
set_option linter.unusedSectionVars false
namespace Go.Proofs.Ytibbdjkboglepaa.MyQBchRoots
open Go.RowKit Go.Proofs.YtibbdjkboglepaaW.PrintWords Go.Proofs.YtibbdjkboglepaaW.PrintMore Go.Proofs.Ytibbdjkboglepaa.My Go.Proofs.Ytibbdjkboglepaa.Alg Go.Proofs.Ytibbdjkboglepaa.QBchRoots

section
variable {D : FD} {P M : Int} {Mod : List Int}
/-- A list of digits: its length and the range of its entries. -/
def DL (p : Int) (n : Int) (c : List Int) : Prop := (c.length : Int) = n ∧ ∀ t : Int, 0 ≤ t → t < n → 0 ≤ rd c t ∧ rd c t < p
theorem DL.set {p n : Int} {c : List Int} (h : DL p n c) {t v : Int} (ht : 0 ≤ t) (ht' : t < n) (h0 : 0 ≤ v) (hv : v < p) : DL p n (c.set t.toNat v) := by
  refine ⟨by rw [List.length_set]; exact h.1, fun s hs hs' => ?_⟩
  by_cases e : t = s
  · subst e; rw [rd_set_self ht (by have := h.1; omega)]; exact ⟨h0, hv⟩
  · rw [rd_set_ne ht hs e]; exact h.2 s hs hs'
theorem DL.mem {p n : Int} {c : List Int} (h : DL p n c) : ∀ d ∈ c, 0 ≤ d ∧ d < p := by
  intro d hd
  obtain ⟨i, h0, h1, rfl⟩ := mem_rd hd
  exact h.2 i h0 (by have := h.1; omega)
theorem DL_digL (h : Desc D P M Mod) (a : GF D) : DL P M (digL a) :=
  ⟨by rw [digL_length]; exact h.hm, fun t h0 h1 => by
    have := digL_mem a _ (rd_mem (xs := digL a) h0 (by rw [digL_length]; have := h.hm; omega))
    rw [h.hp] at this; exact this⟩
theorem mul_bd8 {a b : Int} (h1 : 0 ≤ a) (h2 : a ≤ 256) (h3 : 0 ≤ b) (h4 : b ≤ 256) : 0 ≤ a * b ∧ a * b ≤ 65536 :=
  ⟨Int.mul_nonneg h1 h3, Int.mul_le_mul h2 h4 h3 (by omega)⟩
theorem Mul_l1 (h : Desc D P M Mod) (a b : GF D) (i : Nat) (hi : i < D.m) (R : Int)
    (hk : ∀ c, DL P (2 * M - 1) c → (∀ t : Nat, (t : Int) < 2 * M - 1 → of D.toPr (rd c t) = sum (i + 1) (fun i' => cf a.dg b.dg i' t)) → Ev (fun k => codewrightref04_Mul.l0 k (digL a) (digL b) c ((i : Int) + 1) P M Mod) R) :
    ∀ (d : Nat) (j : Nat) (c : List Int), j + d = D.m → DL P (2 * M - 1) c →
      (∀ t : Nat, (t : Int) < 2 * M - 1 → of D.toPr (rd c t) = sum i (fun i' => cf a.dg b.dg i' t) + (if i ≤ t ∧ t - i < j then cf a.dg b.dg i t else 0)) →
      Ev (fun k => codewrightref04_Mul.l1 k (digL a) (digL b) c i j P M Mod) R := by
  have hm := h.hm
  have hm8 := h.hm8
  have hp2 := h.p2
  have hp256 := h.p256
  have hp := h.hp
  intro d
  induction d with
  | zero =>
    intro j c hj hc hs
    refine Ev.step (fun k => by rw [codewrightref04_Mul.l1, if_neg (by omega), w64 (by omega) (by omega)]) (hk c hc ?_)
    intro t ht
    rw [hs t ht, sum_succ]
    congr 1
    by_cases e : i ≤ t ∧ t - i < j
    · rw [if_pos e]
    · rw [if_neg e]
      unfold cf
      split
      · rw [b.deg _ (by omega), mul_zero]
      · rfl
  | succ d ih =>
    intro j c hj hc hs
    have ha := (DL_digL h a).2 i (by omega) (by omega)
    have hb := (DL_digL h b).2 j (by omega) (by omega)
    have hcc := hc.2 (i + j) (by omega) (by omega)
    have hab := mul_bd8 (a := rd (digL a) i) (b := rd (digL b) j) ha.1 (by omega) hb.1 (by omega)
    have he0 := Int.emod_nonneg (rd c (i + j) + rd (digL a) i * rd (digL b) j) (show P ≠ 0 by omega)
    have he1 := Int.emod_lt_of_pos (rd c (i + j) + rd (digL a) i * rd (digL b) j) (show 0 < P by omega)
    have hcl := hc.1
    refine Ev.step (fun k => ?_) (ih (j + 1) (c.set ((i : Int) + j).toNat ((rd c (i + j) + rd (digL a) i * rd (digL b) j) % P)) (by omega) (hc.set (by omega) (by omega) he0 he1) ?_)
    · rw [codewrightref04_Mul.l1, if_pos (by omega), w64 (x := (i : Int) + j) (by omega) (by omega), if_pos (by omega), if_pos (by omega), if_pos (by omega), if_pos (by rw [digL_length]; omega), if_pos (by omega), if_pos (by rw [digL_length]; omega), if_neg (by omega),
        w64 (x := rd (digL a) i * rd (digL b) j) (by omega) (by omega), w64 (x := rd c (i + j) + rd (digL a) i * rd (digL b) j) (by omega) (by omega), tmod_nn (by omega), w64 (x := (j : Int) + 1) (by omega) (by omega)]
      rfl
    · intro t ht
      by_cases e : (t : Int) = i + j
      · rw [e, rd_set_self (by omega) (by omega), show of D.toPr ((rd c (i + j) + rd (digL a) i * rd (digL b) j) % P) = of D.toPr (rd c (i + j) + rd (digL a) i * rd (digL b) j) from of_eq.2 (by rw [hp]; exact Int.emod_emod_of_dvd _ (Int.dvd_refl P))]
        rw [← of_add, ← of_mul, show of D.toPr (rd c (i + j)) = of D.toPr (rd c t) by rw [e], hs t ht, if_neg (by omega), add_zero, if_pos (by omega)]
        congr 1
        unfold cf
        rw [if_pos (by omega), digL_rd a (by omega) (by omega), digL_rd b (by omega) (by omega), of_self, of_self, show t - i = j by omega]
        rfl
      · rw [rd_set_ne (by omega) (by omega) (by omega), hs t ht]
        congr 1
        by_cases e2 : i ≤ t ∧ t - i < j
        · rw [if_pos e2, if_pos (by omega)]
        · rw [if_neg e2, if_neg (by omega)]
theorem Mul_l0 (h : Desc D P M Mod) (a b : GF D) (R : Int)
    (hk : ∀ c, DL P (2 * M - 1) c → (∀ t : Nat, (t : Int) < 2 * M - 1 → of D.toPr (rd c t) = pmul a.dg b.dg t) → Ev (fun k => codewrightref04_Mul.l2 k c (2 * M - 2) P M Mod) R) :
    ∀ (d : Nat) (i : Nat) (c : List Int), i + d = D.m → DL P (2 * M - 1) c → (∀ t : Nat, (t : Int) < 2 * M - 1 → of D.toPr (rd c t) = sum i (fun i' => cf a.dg b.dg i' t)) →
      Ev (fun k => codewrightref04_Mul.l0 k (digL a) (digL b) c i P M Mod) R := by
  have hm := h.hm
  have hm8 := h.hm8
  intro d
  induction d with
  | zero =>
    intro i c hi hc hs
    refine Ev.step (fun k => by rw [codewrightref04_Mul.l0, if_neg (by omega), w64 (x := 2 * M) (by omega) (by omega), w64 (by omega) (by omega)]) (hk c hc ?_)
    intro t ht
    rw [hs t ht]
    exact (conv_cf _ _ i (by rw [show i = D.m by omega]; exact a.deg) t).symm
  | succ d ih =>
    intro i c hi hc hs
    refine Ev.step (fun k => by rw [codewrightref04_Mul.l0, if_pos (by omega)]) ?_
    refine Mul_l1 h a b i (by omega) R (fun c' hc' hs' => ih (i + 1) c' (by omega) hc' hs') D.m 0 c (by omega) hc ?_
    intro t ht
    rw [hs t ht, if_neg (by omega), add_zero]
theorem Mul_l3 (h : Desc D P M Mod) (h1M : 1 < M) (i : Nat) (hi : (D.m : Int) ≤ i) (hi' : (i : Int) < 2 * M - 1) (c0 : List Int) (R : Int)
    (hk : ∀ c, DL P (2 * M - 1) c → (∀ t : Nat, t < i → of D.toPr (rd c t) = of D.toPr (rd c0 t) + (if i - D.m ≤ t then -(of D.toPr (rd c0 i) * D.F (t - (i - D.m))) else 0)) → Ev (fun k => codewrightref04_Mul.l2 k c ((i : Int) - 1) P M Mod) R) :
    ∀ (d : Nat) (j : Nat) (c : List Int), j + d = D.m → DL P (2 * M - 1) c → rd c i = rd c0 i →
      (∀ t : Nat, t < i → of D.toPr (rd c t) = of D.toPr (rd c0 t) + (if i - D.m ≤ t ∧ t < i - D.m + j then -(of D.toPr (rd c0 i) * D.F (t - (i - D.m))) else 0)) →
      Ev (fun k => codewrightref04_Mul.l3 k c i j P M Mod) R := by
  have hm := h.hm
  have hm8 := h.hm8
  have hp2 := h.p2
  have hp256 := h.p256
  have hp := h.hp
  have hlen := h.len h1M
  intro d
  induction d with
  | zero =>
    intro j c hj hc hci hs
    refine Ev.step (fun k => by rw [codewrightref04_Mul.l3, if_neg (by omega), w64 (by omega) (by omega)]) (hk c hc ?_)
    intro t ht
    rw [hs t ht]
    congr 1
    by_cases e : i - D.m ≤ t
    · rw [if_pos e, if_pos (by omega)]
    · rw [if_neg e, if_neg (by omega)]
  | succ d ih =>
    intro j c hj hc hci hs
    have hcl := hc.1
    have hlow := h.low h1M j (by omega)
    have hF := (D.F j).2
    rw [← hlow, hp] at hF
    have h1 := hc.2 i (by omega) hi'
    have h2 := hc.2 ((i : Int) - M + j) (by omega) (by omega)
    have h3 := mul_bd8 (a := P - rd c i) (b := rd Mod j) (by omega) (by omega) hF.1 (by omega)
    have he0 := Int.emod_nonneg (rd c ((i : Int) - M + j) + (P - rd c i) * rd Mod j) (show P ≠ 0 by omega)
    have he1 := Int.emod_lt_of_pos (rd c ((i : Int) - M + j) + (P - rd c i) * rd Mod j) (show 0 < P by omega)
    refine Ev.step (fun k => ?_) (ih (j + 1) (c.set ((i : Int) - M + j).toNat ((rd c ((i : Int) - M + j) + (P - rd c i) * rd Mod j) % P)) (by omega) (hc.set (by omega) (by omega) he0 he1) ?_ ?_)
    · rw [codewrightref04_Mul.l3, if_pos (by omega), w64 (x := (i : Int) - M) (by omega) (by omega), w64 (x := (i : Int) - M + j) (by omega) (by omega), if_pos (by omega), if_pos (by omega), if_pos (by omega), if_pos (by omega), if_pos (by omega), if_pos (by omega), if_neg (by omega),
        w64 (x := P - rd c i) (by omega) (by omega), w64 (x := (P - rd c i) * rd Mod j) (by omega) (by omega), w64 (x := rd c ((i : Int) - M + j) + (P - rd c i) * rd Mod j) (by omega) (by omega), tmod_nn (by omega), w64 (x := (j : Int) + 1) (by omega) (by omega)]
      rfl
    · rw [rd_set_ne (by omega) (by omega) (by omega), hci]
    · intro t ht
      by_cases e : (t : Int) = i - M + j
      · rw [e, rd_set_self (by omega) (by omega), show of D.toPr ((rd c ((i : Int) - M + j) + (P - rd c i) * rd Mod j) % P) = of D.toPr (rd c ((i : Int) - M + j) + (P - rd c i) * rd Mod j) from of_eq.2 (by rw [hp]; exact Int.emod_emod_of_dvd _ (Int.dvd_refl P))]
        rw [← of_add, ← of_mul, show of D.toPr (rd c ((i : Int) - M + j)) = of D.toPr (rd c t) by rw [e], hs t ht, if_neg (by omega), add_zero, if_pos (by omega), ← e]
        congr 1
        have e3 : of D.toPr (P - rd c i) = -of D.toPr (rd c0 i) := by
          rw [of_neg, hci, of_eq, hp, show P - rd c0 i = -rd c0 i + P * 1 by omega, Int.add_mul_emod_self_left]
        rw [e3, hlow, of_self, neg_mul, show t - (i - D.m) = j by omega]
      · rw [rd_set_ne (by omega) (by omega) (by omega), hs t ht]
        congr 1
        by_cases e2 : i - D.m ≤ t ∧ t < i - D.m + j
        · rw [if_pos e2, if_pos (by omega)]
        · rw [if_neg e2, if_neg (by omega)]
theorem Mul_l2 (h : Desc D P M Mod) (a b : GF D) : ∀ (i : Nat) (c : List Int), (D.m : Int) ≤ i + 1 → (i : Int) < 2 * M - 1 → DL P (2 * M - 1) c → Cong D.F (pmul a.dg b.dg) (cut D.toPr (i + 1) c) →
    Ev (fun k => codewrightref04_Mul.l2 k c i P M Mod) (a * b).1 := by
  have hm := h.hm
  have hm8 := h.hm8
  have hp2 := h.p2
  have hp := h.hp
  have hm1 := h.m1
  intro i
  induction i with
  | zero =>
    intro c hi hi' hc hcong
    have hcl := hc.1
    have hm1' : D.m = 1 := by have := D.hm; omega
    have e : cut D.toPr (0 + 1) c = (a * b).dg := (hcong.symm.trans (dg_mul a b)).unique D.monic (by rw [hm1']; exact cut_deg _ _ _) (a * b).deg
    have hv := Value_elem h (l := c.take M.toNat) (by rw [List.length_take]; omega) (fun d hd => by
      rw [hp]; exact hc.mem d (List.mem_of_mem_take hd))
    rw [cut_take (by omega), show M.toNat = 0 + 1 by omega, e] at hv
    have e2 : gval D (a * b).dg = a * b := GF.ext (dg_gval (a * b).deg)
    rw [e2] at hv
    refine Ev.step (fun k => by rw [codewrightref04_Mul.l2, if_neg (by omega), if_pos (by omega), if_pos (by omega)]) ?_
    refine Ev.bind (a := (a * b).1) ?_ (ev_now fun k => rfl)
    rwa [show M.toNat = 0 + 1 by omega]
  | succ i ih =>
    intro c hi hi' hc hcong
    have hcl := hc.1
    by_cases hge : (D.m : Int) ≤ i + 1
    · refine Ev.step (fun k => by rw [codewrightref04_Mul.l2, if_pos (by omega)]) ?_
      refine Mul_l3 h (by omega) (i + 1) (by omega) hi' c _ (fun c' hc' hs' => ?_) D.m 0 c (by omega) hc rfl (fun t ht => by rw [if_neg (by omega), add_zero])
      rw [show ((i + 1 : Nat) : Int) - 1 = (i : Int) by omega]
      refine ih c' (by omega) (by omega) hc' (hcong.trans ?_)
      refine ⟨monom (i + 1 - D.m) (of D.toPr (rd c ((i + 1 : Nat) : Int))), _, monom_deg _ _, ?_⟩
      funext t
      show cut D.toPr (i + 1 + 1) c t = cut D.toPr (i + 1) c' t + pmul _ D.F t
      rw [monom_pmul]
      unfold cut
      by_cases e1 : t < i + 1
      · rw [if_pos (by omega), if_pos e1, hs' t e1]
        by_cases e2 : i + 1 - D.m ≤ t
        · rw [if_pos e2, if_pos e2, add_assoc, neg_add, add_zero]
        · rw [if_neg e2, if_neg e2, add_zero, add_zero]
      · rw [if_neg e1, zero_add]
        by_cases e2 : t = i + 1
        · subst e2
          rw [if_pos (by omega), if_pos (by omega), show i + 1 - (i + 1 - D.m) = D.m by omega, D.monic.1, mul_one]
        · rw [if_neg (by omega)]
          split
          · rw [D.monic.2 _ (by omega), mul_zero]
          · rfl
    · have hmi : D.m = i + 1 + 1 := by omega
      have e : cut D.toPr (i + 1 + 1) c = (a * b).dg := (hcong.symm.trans (dg_mul a b)).unique D.monic (by rw [hmi]; exact cut_deg _ _ _) (a * b).deg
      have hv := Value_elem h (l := c.take M.toNat) (by rw [List.length_take]; omega) (fun d hd => by
        rw [hp]; exact hc.mem d (List.mem_of_mem_take hd))
      rw [cut_take (by omega), show M.toNat = i + 1 + 1 by omega, e] at hv
      have e2 : gval D (a * b).dg = a * b := GF.ext (dg_gval (a * b).deg)
      rw [e2] at hv
      refine Ev.step (fun k => by rw [codewrightref04_Mul.l2, if_neg (by omega), if_pos (by omega), if_pos (by omega)]) ?_
      refine Ev.bind (a := (a * b).1) ?_ (ev_now fun k => rfl)
      rwa [show M.toNat = i + 1 + 1 by omega]
theorem Mul_eq (h : Desc D P M Mod) (x y : Int) : Ev (fun k => codewrightref04_Mul.f k P M Mod x y) (inn D x * inn D y).1 := by
  have hm := h.hm
  have hm8 := h.hm8
  have hm1 := h.m1
  have hp2 := h.p2
  unfold codewrightref04_Mul.f
  refine Ev.bind (Digits_eq h x) (Ev.bind (Digits_eq h y) ?_)
  refine Ev.congr (fun k => by rw [w64 (x := 2 * M) (by omega) (by omega), w64 (x := 2 * M - 1) (by omega) (by omega), if_pos (by omega), if_pos (by omega)]) ?_
  refine Mul_l0 h _ _ _ (fun c hc hs => ?_) D.m 0 (List.replicate (2 * M - 1).toNat 0) (by omega) ⟨by simp; omega, fun t _ _ => by rw [rd_replicate]; omega⟩ (fun t ht => by rw [rd_replicate]; rfl)
  have := Mul_l2 h (inn D x) (inn D y) (2 * D.m - 2) c (by omega) (by omega) hc ?_
  · rwa [show ((2 * D.m - 2 : Nat) : Int) = 2 * M - 2 by omega] at this
  · rw [show cut D.toPr (2 * D.m - 2 + 1) c = pmul (inn D x).dg (inn D y).dg from ?_]
    · exact Cong.refl _ _
    · funext t
      unfold cut
      by_cases e : t < 2 * D.m - 2 + 1
      · rw [if_pos e, hs t (by omega)]
      · rw [if_neg e]
        have hd := ((inn D x).deg.mono (by omega) : DegLt (inn D x).dg (D.m - 1 + 1)).pmul (inn D y).deg
        exact (hd t (by omega)).symm
theorem MulOrder_l0 (h : Desc D P M Mod) (x : GF D) (n : Nat) (hn : IsOrd x n) (hn' : n ≤ 256) : ∀ (d : Nat) (j : Nat), j + d = n → 1 ≤ j →
    Ev (fun k => codewrightref04_MulOrder.l0 k x.1 j (pow x j).1 P M Mod) n := by
  intro d
  induction d with
  | zero =>
    intro j hj h1
    obtain rfl : j = n := by omega
    exact ev_succ (ev_now fun k => by rw [codewrightref04_MulOrder.l0, if_pos (by rw [hn.2.1]; rfl)])
  | succ d ih =>
    intro j hj h1
    refine Ev.step (fun k => by rw [codewrightref04_MulOrder.l0, if_neg (fun e => hn.2.2 j h1 (by omega) (GF.val_one.1 e))]) ?_
    have := Mul_eq h (pow x j).1 x.1
    rw [inn_self, inn_self, mul_comm, ← pow_succ] at this
    refine Ev.bind this (Ev.congr (fun k => by rw [w64 (by omega) (by omega)]; rfl) (ih (j + 1) (by omega) (by omega)))
theorem MulOrder_eq (h : Desc D P M Mod) (x : GF D) (hx : x ≠ 0) (n : Nat) (hn : IsOrd x n) : Ev (fun k => codewrightref04_MulOrder.f k P M Mod x.1) n := by
  have hi := In_eq h x.1
  rw [inn_self] at hi
  obtain ⟨k, hk, hkd⟩ := (elems_full D).ord hx
  have hkn := hk.unique hn
  have hq := h.hq
  have hl := elems_length D
  have := Nat.le_of_dvd (by have := (elems_full D).two; omega) hkd
  have := MulOrder_l0 h x n hn (by omega) (n - 1) 1 (by have := hn.1; omega) (by omega)
  rw [pow_one] at this
  exact Ev.bind hi (Ev.congr (fun k => by rw [if_neg (fun e => hx (GF.val_zero.1 e))]; rfl) this)
theorem MulOrder_zero (h : Desc D P M Mod) : Ev (fun k => codewrightref04_MulOrder.f k P M Mod 0) 0 := by
  have hi := In_eq h 0
  rw [inn_zero, zero_val] at hi
  exact Ev.bind hi (ev_now fun k => by rw [if_pos rfl])
end
end Go.Proofs.Ytibbdjkboglepaa.MyQBchRoots

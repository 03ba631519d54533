/- The program's generator (layer 4): the powers of a primitive element of the field, or nothing just if there is no field. No further condition. -/
import Derived.Test.YtibbdjkboglepaaPPowQBchRoots
import Derived.Test.YtibbdjkboglepaaFldCheck2QBchRoots
set_option linter.unusedVariables false
set_option linter.unusedSimpArgs false
set_option linter.unusedSectionVars false
namespace Go.Proofs.Ytibbdjkboglepaa.MyQBchRoots
open Go.RowKit Go.Proofs.YtibbdjkboglepaaW.PrintWords Go.Proofs.YtibbdjkboglepaaW.PrintMore Go.Proofs.Ytibbdjkboglepaa.My Go.Proofs.Ytibbdjkboglepaa.Alg Go.Proofs.Ytibbdjkboglepaa.QBchRoots
section
variable {Q : Pr} {m : Nat} {F : Pol (Zp Q)} {P M : Int} {Mod : List Int}
/-- The powers of x are all residues other than 0, and its inverse is one of them. -/
def Good (F : Pol (Zp Q)) (m : Nat) (P x : Int) (L : List Int) : Prop := PowersOf F m P x L ∧ (L.length : Int) = P ^ m - 1 ∧ MyQBchRoots.rmul F m (rd L (P ^ m - 2)) x = 1
theorem range_inj {f : Nat → Int} {n i j : Nat} (h : ((List.range n).map f).Nodup) (hi : i < n) (hj : j < n) (e : f i = f j) : i = j := by
  have hp := List.pairwise_iff_getElem.1 (List.pairwise_map.1 h)
  rcases Nat.lt_trichotomy i j with h1 | h1 | h1
  · have := hp i j (by rw [List.length_range]; exact hi) (by rw [List.length_range]; exact hj) h1
    rw [List.getElem_range, List.getElem_range] at this
    exact absurd e this
  · exact h1
  · have := hp j i (by rw [List.length_range]; exact hj) (by rw [List.length_range]; exact hi) h1
    rw [List.getElem_range, List.getElem_range] at this
    exact absurd e.symm this
theorem powersOf_le {x : Int} {L L' : List Int} (h : PowersOf F m P x L) (h' : PowersOf F m P x L') : L'.length ≤ L.length := by
  obtain ⟨n, hn, e, hnd, hm, hl⟩ := h
  obtain ⟨n', hn', e', hnd', hm', hl'⟩ := h'
  have h1 : L.length = n := by rw [e, List.length_map, List.length_range]
  have h2 : L'.length = n' := by rw [e', List.length_map, List.length_range]
  rw [h1, h2]
  apply Classical.byContradiction
  intro hc
  have hin : MyQBchRoots.rpow F m x n ∈ L' := by rw [e']; exact List.mem_map.2 ⟨n, List.mem_range.2 (by omega), rfl⟩
  rcases hl with h3 | h3
  · have := (hm' _ hin).1
    omega
  · rw [e] at h3
    obtain ⟨i, hi, he⟩ := List.mem_map.1 h3
    have hi' := List.mem_range.1 hi
    rw [e'] at hnd'
    have := range_inj hnd' (by omega) (by omega) he
    omega
theorem powersOf_unique {x : Int} {L L' : List Int} (h : PowersOf F m P x L) (h' : PowersOf F m P x L') : L = L' := by
  have h1 := powersOf_le h h'
  have h2 := powersOf_le h' h
  obtain ⟨n, hn, e, _⟩ := h
  obtain ⟨n', hn', e', _⟩ := h'
  rw [e, e', List.length_map, List.length_map, List.length_range, List.length_range] at h1 h2
  rw [e, e', show n = n' by omega]
theorem gen_l0 (h : RC Q m F P M Mod) : ∀ (d : Nat) (x : Int), x + d = P ^ m → 1 ≤ x →
    (∃ z L, 1 ≤ z ∧ z < P ^ m ∧ Good F m P z L ∧ Ev (fun k => field_generator.l0 k (P ^ m) x P M Mod) L) ∨
    ((∀ z L, x ≤ z → z < P ^ m → ¬ Good F m P z L) ∧ Ev (fun k => field_generator.l0 k (P ^ m) x P M Mod) []) := by
  have hq := h.hq
  have hq1 := h.res1.2
  intro d
  induction d with
  | zero =>
    intro x hx hx1
    exact .inr ⟨fun z L h1 h2 => by omega, Ev.step (fun k => by rw [field_generator.l0, if_neg (by omega)]) (Ev.now _)⟩
  | succ d ih =>
    intro x hx hx1
    have hxr : Res P m x := ⟨by omega, by omega⟩
    obtain ⟨L, hL, hP⟩ := powers_eq h hxr
    have huniq : ∀ L', PowersOf F m P x L' → (L'.length : Int) = P ^ m - 1 → (L.length : Int) = P ^ m - 1 → L' = L := by
      rintro L' ⟨n', _, e', _⟩ h1 h2
      obtain ⟨n, _, e, _⟩ := hP
      rw [e'] at h1 ⊢
      rw [e] at h2 ⊢
      rw [List.length_map, List.length_range] at h1 h2
      rw [show n' = n by omega]
    have hnext : ∀ (hno : ∀ L', ¬ Good F m P x L') (hev : ∀ r, Ev (fun k => field_generator.l0 k (P ^ m) (x + 1) P M Mod) r → Ev (fun k => field_generator.l0 k (P ^ m) x P M Mod) r),
        (∃ z L, 1 ≤ z ∧ z < P ^ m ∧ Good F m P z L ∧ Ev (fun k => field_generator.l0 k (P ^ m) x P M Mod) L) ∨
        ((∀ z L, x ≤ z → z < P ^ m → ¬ Good F m P z L) ∧ Ev (fun k => field_generator.l0 k (P ^ m) x P M Mod) []) := by
      intro hno hev
      rcases ih (x + 1) (by omega) (by omega) with ⟨z, L', h1, h2, h3, h4⟩ | ⟨h1, h2⟩
      · exact .inl ⟨z, L', h1, h2, h3, hev _ h4⟩
      · refine .inr ⟨fun z L' h3 h4 => ?_, hev _ h2⟩
        by_cases e : z = x
        · subst e; exact hno L'
        · exact h1 z L' (by omega) h4
    by_cases hlen : (L.length : Int) = P ^ m - 1
    · have hmem : Res P m (rd L (P ^ m - 2)) := by
        obtain ⟨n, hn1, e, _, hm, _⟩ := hP
        have := hm _ (rd_mem (xs := L) (i := P ^ m - 2) (by rw [e, List.length_map, List.length_range] at hlen; omega) (by omega))
        exact ⟨by omega, this.2⟩
      have hL0 : 0 ≤ P ^ m - 2 := by
        obtain ⟨n, hn1, e, _⟩ := hP
        rw [e, List.length_map, List.length_range] at hlen
        omega
      obtain ⟨hmu, hmr, _⟩ := h.rmul hmem hxr
      by_cases h1 : MyQBchRoots.rmul F m (rd L (P ^ m - 2)) x = 1
      · refine .inl ⟨x, L, hx1, hxr.2, ⟨hP, hlen, h1⟩, Ev.step (f := fun k => (field_powers.f k P M Mod (P ^ m) x).bind fun t155 => (if (t155.length : Int) = (wrap64 (P ^ m - 1)) then (if 0 ≤ (wrap64 (P ^ m - 2)) then (if (wrap64 (P ^ m - 2)) < (t155.length : Int) then ((field_multiply.f k P M Mod (rd t155 (wrap64 (P ^ m - 2))) x).bind fun t159 => (if t159 = 1 then (some t155) else (field_generator.l0 k (P ^ m) (wrap64 (x + 1)) P M Mod))) else (none)) else (none)) else (field_generator.l0 k (P ^ m) (wrap64 (x + 1)) P M Mod))) (fun k => by rw [field_generator.l0, if_pos (by omega)]) (Ev.bind hL ?_)⟩
        refine Ev.congr (f := fun k => (field_multiply.f k P M Mod (rd L (P ^ m - 2)) x).bind fun t159 => (if t159 = 1 then (some L) else (field_generator.l0 k (P ^ m) (wrap64 (x + 1)) P M Mod))) (fun k => ?_) (Ev.bind hmu (Ev.congr (fun k => if_pos h1) (Ev.now L)))
        rw [w64 (x := P ^ m - 1) (by omega) (by omega), if_pos hlen, w64 (x := P ^ m - 2) (by omega) (by omega), if_pos hL0, if_pos (by omega)]
      · refine hnext (fun L' hg => h1 ?_) (fun r hr => ?_)
        · rw [← huniq L' hg.1 hg.2.1 hlen]; exact hg.2.2
        · refine Ev.step (f := fun k => (field_powers.f k P M Mod (P ^ m) x).bind fun t155 => (if (t155.length : Int) = (wrap64 (P ^ m - 1)) then (if 0 ≤ (wrap64 (P ^ m - 2)) then (if (wrap64 (P ^ m - 2)) < (t155.length : Int) then ((field_multiply.f k P M Mod (rd t155 (wrap64 (P ^ m - 2))) x).bind fun t159 => (if t159 = 1 then (some t155) else (field_generator.l0 k (P ^ m) (wrap64 (x + 1)) P M Mod))) else (none)) else (none)) else (field_generator.l0 k (P ^ m) (wrap64 (x + 1)) P M Mod))) (fun k => by rw [field_generator.l0, if_pos (by omega)]) (Ev.bind hL ?_)
          refine Ev.congr (f := fun k => (field_multiply.f k P M Mod (rd L (P ^ m - 2)) x).bind fun t159 => (if t159 = 1 then (some L) else (field_generator.l0 k (P ^ m) (wrap64 (x + 1)) P M Mod))) (fun k => ?_) (Ev.bind hmu ?_)
          · rw [w64 (x := P ^ m - 1) (by omega) (by omega), if_pos hlen, w64 (x := P ^ m - 2) (by omega) (by omega), if_pos hL0, if_pos (by omega)]
          · refine Ev.congr (fun k => ?_) hr
            rw [if_neg h1, w64 (by omega) (by omega)]
    · refine hnext (fun L' hg => ?_) (fun r hr => ?_)
      · have := powersOf_unique hP hg.1
        rw [this] at hlen
        exact hlen hg.2.1
      · refine Ev.step (f := fun k => (field_powers.f k P M Mod (P ^ m) x).bind fun t155 => (if (t155.length : Int) = (wrap64 (P ^ m - 1)) then (if 0 ≤ (wrap64 (P ^ m - 2)) then (if (wrap64 (P ^ m - 2)) < (t155.length : Int) then ((field_multiply.f k P M Mod (rd t155 (wrap64 (P ^ m - 2))) x).bind fun t159 => (if t159 = 1 then (some t155) else (field_generator.l0 k (P ^ m) (wrap64 (x + 1)) P M Mod))) else (none)) else (none)) else (field_generator.l0 k (P ^ m) (wrap64 (x + 1)) P M Mod))) (fun k => by rw [field_generator.l0, if_pos (by omega)]) (Ev.bind hL ?_)
        refine Ev.congr (fun k => ?_) hr
        rw [w64 (x := P ^ m - 1) (by omega) (by omega), if_neg hlen, w64 (by omega) (by omega)]
/-- Powers multiply. -/
theorem rpow_add (h : RC Q m F P M Mod) {x : Int} (hx : Res P m x) (i j : Nat) : Cong F (pmul (dig Q (MyQBchRoots.rpow F m x i)) (dig Q (MyQBchRoots.rpow F m x j))) (dig Q (MyQBchRoots.rpow F m x (i + j))) := by
  have hp := h.hp
  have hdeg : ∀ y, Res P m y → DegLt (dig Q y) m := fun y hy => dig_deg m y hy.1 (by rw [hp]; exact hy.2)
  induction j with
  | zero =>
    show Cong F (pmul _ (dig Q 1)) _
    rw [dig_one, pmul_comm, C_one_pmul]
    exact Cong.refl F _
  | succ j ih =>
    have h1 := (h.rmul (h.rpow hx j) hx).2.2
    have h2 := (h.rmul (h.rpow hx (i + j)) hx).2.2
    have h3 : Cong F (pmul (dig Q (MyQBchRoots.rpow F m x i)) (dig Q (MyQBchRoots.rpow F m x (j + 1)))) (pmul (dig Q (MyQBchRoots.rpow F m x i)) (pmul (dig Q (MyQBchRoots.rpow F m x j)) (dig Q x))) := by
      have := (h1.symm).mul (hdeg _ (h.rpow hx i))
      rw [pmul_comm, pmul_comm (dig Q (MyQBchRoots.rpow F m x i)) (pmul _ _)]
      exact this
    refine h3.trans ?_
    rw [← pmul_assoc]
    exact (ih.mul (hdeg _ hx)).trans h2
/-- A good element shows that the polynomial is irreducible. -/
theorem Good.irr (h : RC Q m F P M Mod) {x : Int} {L : List Int} (hx : Res P m x) (hg : Good F m P x L) : ∀ (k : Nat) (g g' : Pol (Zp Q)), 1 ≤ k → k < m → Monic g k → Monic g' (m - k) → pmul g g' ≠ F := by
  intro k g g' hk hkm hgm hgm' he
  have hp := h.hp
  have hq1 := h.res1.2
  obtain ⟨⟨n, hn, e, hnd, hmem, _⟩, hlen, hone⟩ := hg
  have hln : L.length = n := by rw [e, List.length_map, List.length_range]
  have hgd : DegLt g m := hgm.2.mono (by omega)
  have hG := pval_range m g
  have hGd := dig_pval m g hgd
  rw [hp] at hG
  have hG0 : pval m g ≠ 0 := by
    intro e0
    rw [e0] at hGd
    have h1 := congrFun hGd k
    rw [hgm.1] at h1
    have h2 : dig Q 0 k = 0 := by
      show of Q (0 / Q.p ^ k) = 0
      rw [Int.zero_ediv]; rfl
    rw [h2] at h1
    exact one_ne h1.symm
  have hall := nodup_full (l := L) (l' := (List.range (P ^ m - 1).toNat).map fun i : Nat => (i : Int) + 1) hnd (fun y hy => List.mem_map.2 ⟨(y - 1).toNat, List.mem_range.2 (by have := hmem y hy; omega), by have := hmem y hy; omega⟩)
    (by rw [List.length_map, List.length_range]; omega) (nodup_map List.nodup_range (fun a _ b _ e => by omega))
  have hGL := hall (pval m g) (List.mem_map.2 ⟨(pval m g - 1).toNat, List.mem_range.2 (by omega), by omega⟩)
  rw [e] at hGL
  obtain ⟨i, hi, hGi⟩ := List.mem_map.1 hGL
  have hi' := List.mem_range.1 hi
  have hlast : MyQBchRoots.rpow F m x (n - 1 + 1) = 1 := by
    have e2 : rd L (P ^ m - 2) = MyQBchRoots.rpow F m x (n - 1) := by
      have hr : rd ((List.range n).map (MyQBchRoots.rpow F m x)) (P ^ m - 2) = MyQBchRoots.rpow F m x (P ^ m - 2).toNat := rd_map_range (by omega) (by omega)
      rw [e, hr, show (P ^ m - 2).toNat = n - 1 by omega]
    rw [e2] at hone
    exact hone
  have hc := rpow_add h hx i (n - i)
  rw [show i + (n - i) = n - 1 + 1 by omega, hlast, dig_one, hGi, hGd] at hc
  have hd' : DegLt g' m := hgm'.2.mono (by omega)
  have hc2 := hc.mul hd'
  rw [C_one_pmul, pmul_assoc, pmul_comm (dig Q _) g', ← pmul_assoc, he, pmul_comm F] at hc2
  have hdY : DegLt (dig Q (MyQBchRoots.rpow F m x (n - i))) m := dig_deg m _ (h.rpow hx _).1 (by rw [hp]; exact (h.rpow hx _).2)
  have hz : Cong F (pmul (dig Q (MyQBchRoots.rpow F m x (n - i))) F) pzero := cong_zero.2 ⟨_, _, hdY, rfl⟩
  have := (hc2.symm.trans hz).unique h.mon hd' (DegLt.pzero m)
  have h3 := congrFun this (m - k)
  rw [hgm'.1] at h3
  exact one_ne h3
end
end Go.Proofs.Ytibbdjkboglepaa.MyQBchRoots

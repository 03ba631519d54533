/- BchMultiplies: for lengths from 1 to 12 and at most 60 zeros, one more zero never makes the bounds smaller, and all zeros multiplied by a unit modulo n leave them as they are. No further condition. -/
import Derived.Test.YtibbdjkboglepaaBestMaxBchMultiplies
import Derived.Test.YtibbdjkboglepaaBestRefBchMultiplies
import Derived.Test.YtibbdjkboglepaaMultMath
namespace Go.Proofs.Ytibbdjkboglepaa.MyBchMultiplies
open Go.RowKit Go.Proofs.YtibbdjkboglepaaW.PrintWords Go.Proofs.YtibbdjkboglepaaW.PrintMore Go.Proofs.Ytibbdjkboglepaa.My Go.Proofs.Ytibbdjkboglepaa.PBchMultiplies

theorem Bound_ev {n : Int} {zs : List Int} {r : Int × Int × Int × Int × Int × Int × Int} (h : Ev (fun k => bch_best.f k n zs 0) r) : Ev (fun k => bch_Bound.f k n zs) r := by
  unfold bch_Bound.f
  exact Ev.bind h (ev_now fun k => rfl)
theorem Tzeng_ev {n : Int} {zs : List Int} {r : Int × Int × Int × Int × Int × Int × Int} (h : Ev (fun k => bch_best.f k n zs n) r) : Ev (fun k => bch_Tzeng.f k n zs) r := by
  unfold bch_Tzeng.f
  exact Ev.bind h (ev_now fun k => rfl)
theorem take_succ_rd {zs : List Int} {i : Int} (h0 : 0 ≤ i) (h : i < zs.length) : zs.take (i + 1).toNat = zs.take i.toNat ++ [rd zs i] := by
  have h1 : i.toNat < zs.length := by omega
  rw [show (i + 1).toNat = i.toNat + 1 by omega, List.take_succ_eq_append_getElem h1]
  unfold rd
  rw [List.getD_eq_getElem?_getD, List.getElem?_eq_getElem h1]
  rfl
theorem loop {n by' b d : Int} {zs : List Int} (h1 : 1 ≤ n) (h2 : n ≤ 12) (hz : zs.length ≤ 60) (hb : 0 ≤ by') (hb' : by' ≤ 255)
    (hk : Ev (fun k => ((bch_Bound.f k n (turned n by' zs)).bind fun bt209 => ((bch_Tzeng.f k n (turned n by' zs)).bind fun bt217 => (if bt209.2.2.2.2.2.2 = 0 then (if bt217.2.2.2.2.2.2 = 0 then (if bt209.1 = b then (some (bt217.1 == d)) else (some false)) else (some false)) else (some false))))) true) :
    ∀ (e : Nat) (i : Int), 0 ≤ i → i + e = zs.length → Ev (fun k => codewrightlaw17_BchMultiplies.l0 k n zs by' b d (turned n by' (zs.take i.toNat)) i) true := by
  intro e
  induction e with
  | zero =>
    intro i hi hd
    refine Ev.step (fun k => ?_) hk
    rw [codewrightlaw17_BchMultiplies.l0, if_neg (by omega), List.take_of_length_le (by omega)]
  | succ e ih =>
    intro i hi hd
    refine Ev.step (fun k => ?_) (ih (i + 1) (by omega) (by omega))
    have h3 := Int.emod_nonneg (rd zs i) (show n ≠ 0 by omega)
    have h4 := Int.emod_lt_of_pos (rd zs i) (show 0 < n by omega)
    have h5 : rd zs i % n * by' ≤ 12 * 255 := Int.mul_le_mul (by omega) hb' hb (by omega)
    have h6 : 0 ≤ rd zs i % n * by' := Int.mul_nonneg h3 hb
    have e1 : turned n by' (zs.take (i + 1).toNat) = turned n by' (zs.take i.toNat) ++ [wrap64 (rd zs i % n * (wrap64 by'))] := by
      rw [take_succ_rd hi (by omega), w64 (x := by') (by omega) (by omega), w64 (by omega) (by omega)]
      unfold turned
      rw [List.map_append]
      rfl
    rw [codewrightlaw17_BchMultiplies.l0, if_pos (by omega), if_pos hi, Mod_eq h1 (by omega), Option.bind_some, if_pos (by unfold turned; rw [List.length_map, List.length_take]; omega), e1, w64 (x := i + 1) (by omega) (by omega)]
theorem law {n more by' : Int} {zs : List Int} (h1 : 1 ≤ n) (h2 : n ≤ 12) (hz : zs.length ≤ 60) (hb : 0 ≤ by') (hb' : by' ≤ 255) : Ev (fun k => codewrightlaw17_BchMultiplies.j0 k n zs more by' false) true := by
  obtain ⟨_, hB, b, s, t, c, x, m, rfl, gB, iB, -⟩ := best_eq (most := 0) (zs := zs) h1 (by omega) (by omega) (by omega) (by omega)
  obtain ⟨_, hT, d, s, t, c, x, m, rfl, gT, iT, -⟩ := best_eq (most := n) (zs := zs) h1 (by omega) (by omega) (by omega) (by omega)
  obtain ⟨_, hB1, b1, s, t, c, x, m, rfl, gB1, iB1, -⟩ := best_eq (most := 0) (zs := zs ++ [more]) h1 (by omega) (by omega) (by omega) (by simp; omega)
  obtain ⟨_, hT1, d1, s, t, c, x, m, rfl, gT1, iT1, -⟩ := best_eq (most := n) (zs := zs ++ [more]) h1 (by omega) (by omega) (by omega) (by simp; omega)
  obtain ⟨_, hB2, b2, s, t, c, x, m, rfl, gB2, iB2, -⟩ := best_eq (most := 0) (zs := turned n by' zs) h1 (by omega) (by omega) (by omega) (by unfold turned; simp; omega)
  obtain ⟨_, hT2, d2, s, t, c, x, m, rfl, gT2, iT2, -⟩ := best_eq (most := n) (zs := turned n by' zs) h1 (by omega) (by omega) (by omega) (by unfold turned; simp; omega)
  have o1 := gB.ge
  have o2 := gT.ge
  have o3 := gB1.ge
  have o4 := gT1.ge
  have up : ∀ y, InS n zs y → InS n (zs ++ [more]) y := fun y ⟨z, hz, e⟩ => ⟨z, List.mem_append_left _ hz, e⟩
  have l1 := iB.wider iT o2 (by omega)
  have l2 := iB.mono iB1 o3 up
  have l3 := iT.mono iT1 o4 up
  have l4 := iB1.two h1 (by omega) (⟨more, by simp, rfl⟩ : InS n (zs ++ [more]) more)
  refine Ev.step (fun k => by rw [codewrightlaw17_BchMultiplies.j0, if_neg (by simp)]) ?_
  refine Ev.bind (Bound_ev hB) (Ev.bind (Tzeng_ev hT) ?_)
  refine Ev.congr (fun k => by rw [Option.bind_some, if_pos (by simp; omega), Option.bind_some, if_pos (by simp; omega), List.nil_append]) ?_
  refine Ev.bind (Bound_ev hB1) ?_
  refine Ev.congr (fun k => by rw [Option.bind_some, if_pos (by simp; omega), Option.bind_some, if_pos (by simp; omega), List.nil_append]) ?_
  refine Ev.bind (Tzeng_ev hT1) ?_
  refine Ev.congr (fun k => by rw [if_pos rfl, if_pos rfl, if_pos rfl, if_pos rfl, if_neg (by omega), if_neg (by omega), if_neg (by omega), if_neg (by omega), decide_eq_false (by omega)]) ?_
  have h3 := Int.emod_nonneg by' (show n ≠ 0 by omega)
  have h4 := Int.emod_lt_of_pos by' (show 0 < n by omega)
  refine Ev.step (fun k => by rw [codewrightlaw17_BchMultiplies.j1, if_neg (by simp), w64 (by omega) (by omega), Mod_eq h1 (by omega), Option.bind_some]) ?_
  refine Ev.bind (RGcd_eq h3 (by omega)) ?_
  by_cases e : gc (by' % n) n = 1
  · refine Ev.congr (fun k => by rw [if_pos e]) ?_
    have hu : Int.gcd by' n = 1 := by
      rw [gc_mod (by omega)] at e
      omega
    obtain ⟨u, hu1, hu2⟩ := inverse_mod hu
    have a1 := iB.times h1 hu iB2 gB2.ge turned_in
    have a2 := iT.times h1 hu iT2 gT2.ge turned_in
    have a3 := iB2.times h1 hu2 iB o1 (turned_out hu1)
    have a4 := iT2.times h1 hu2 iT o2 (turned_out hu1)
    obtain rfl : b2 = b := by omega
    obtain rfl : d2 = d := by omega
    refine loop h1 h2 hz hb hb' ?_ zs.length 0 (by omega) (by omega)
    refine Ev.bind (Bound_ev hB2) (Ev.bind (Tzeng_ev hT2) (ev_now fun k => ?_))
    rw [if_pos rfl, if_pos rfl, if_pos rfl]
    simp
  · exact ev_now fun k => by rw [if_neg e]
end Go.Proofs.Ytibbdjkboglepaa.MyBchMultiplies
namespace Go.Proofs.Ytibbdjkboglepaa.Pure
open Go.RowKit Go.Proofs.Ytibbdjkboglepaa.PBchMultiplies Go.Proofs.YtibbdjkboglepaaW.PrintWords Go.Proofs.YtibbdjkboglepaaW.PrintLast Go.Proofs.Ytibbdjkboglepaa.My Go.Proofs.Ytibbdjkboglepaa.MyBchMultiplies
theorem BchMultiplies : codewrightlaw17_BchMultiplies.Pure := by
  intro n zs more by' hn hz hz' hw hm hb
  have := wfu8 hb
  apply Ev.rounds
  unfold codewrightlaw17_BchMultiplies.f
  have skip : Ev (fun k => codewrightlaw17_BchMultiplies.j0 k n zs more by' true) true := ev_succ (ev_now fun k => by rw [codewrightlaw17_BchMultiplies.j0, if_pos rfl])
  by_cases e1 : (zs.length : Int) > 60
  · exact Ev.congr (fun k => by rw [if_pos e1]) skip
  · by_cases e2 : n < 1
    · exact Ev.congr (fun k => by rw [if_neg e1, if_pos e2]) skip
    · by_cases e3 : n > 12
      · exact Ev.congr (fun k => by rw [if_neg e1, if_neg e2, decide_eq_true e3]) skip
      · exact Ev.congr (fun k => by rw [if_neg e1, if_neg e2, decide_eq_false e3]) (law (by omega) (by omega) (by omega) this.1 this.2)
end Go.Proofs.Ytibbdjkboglepaa.Pure

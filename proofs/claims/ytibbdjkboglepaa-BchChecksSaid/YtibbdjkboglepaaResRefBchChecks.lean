/- The printed functions residues and has of the reference of layer 17. Lengths n from 1 to 64. -/
import Derived.Test.YtibbdjkboglepaaBestRefBchChecks
namespace Go.Proofs.Ytibbdjkboglepaa.MyBchChecks
open Go.RowKit Go.Proofs.YtibbdjkboglepaaW.PrintWords Go.Proofs.YtibbdjkboglepaaW.PrintMore Go.Proofs.Ytibbdjkboglepaa.My Go.Proofs.Ytibbdjkboglepaa.PBchChecks

theorem take_succ_rd {zs : List Int} {i : Int} (h0 : 0 ≤ i) (h : i < zs.length) : zs.take (i + 1).toNat = zs.take i.toNat ++ [rd zs i] := by
  have h1 : i.toNat < zs.length := by omega
  rw [show (i + 1).toNat = i.toNat + 1 by omega, List.take_succ_eq_append_getElem h1]
  unfold rd
  rw [List.getD_eq_getElem?_getD, List.getElem?_eq_getElem h1]
  rfl
theorem residues_l0 {n : Int} {zs : List Int} (h1 : 1 ≤ n) (h2 : n ≤ 64) (hz : zs.length ≤ 17592186044415) : ∀ (d : Nat) (i : Int), 0 ≤ i → i + d = zs.length →
    Ev (fun k => codewrightref17_residues.l0 k n zs ((zs.take i.toNat).map (· % n)) i) (zs.map (· % n)) := by
  intro d
  induction d with
  | zero =>
    intro i hi hd
    refine ev_succ (ev_now fun k => ?_)
    rw [codewrightref17_residues.l0, if_neg (by omega), List.take_of_length_le (by omega)]
  | succ d ih =>
    intro i hi hd
    refine Ev.step (fun k => ?_) (ih (i + 1) (by omega) (by omega))
    rw [codewrightref17_residues.l0, if_pos (by omega), if_pos hi, Mod_eq h1 h2, Option.bind_some, if_pos (by rw [List.length_map, List.length_take]; omega), w64 (by omega) (by omega), take_succ_rd hi (by omega), List.map_append]
    rfl
theorem residues_eq {n : Int} {zs : List Int} (h1 : 1 ≤ n) (h2 : n ≤ 64) (hz : zs.length ≤ 17592186044415) : Ev (fun k => codewrightref17_residues.f k n zs) (zs.map (· % n)) :=
  residues_l0 h1 h2 hz zs.length 0 (by omega) (by omega)
theorem has_l0 {l : List Int} {x : Int} (hz : l.length ≤ 4611686018427387904) : ∀ (d : Nat) (i : Int), 0 ≤ i → i + d = l.length → (∀ j, 0 ≤ j → j < i → rd l j ≠ x) →
    Ev (fun k => codewrightref17_has.l0 k l x i) (decide (x ∈ l)) := by
  intro d
  induction d with
  | zero =>
    intro i hi hd h
    refine ev_succ (ev_now fun k => ?_)
    rw [codewrightref17_has.l0, if_neg (by omega)]
    congr 1
    symm
    rw [decide_eq_false_iff_not]
    intro hm
    obtain ⟨j, h1, h2, h3⟩ := mem_rd hm
    exact h j h1 (by omega) h3
  | succ d ih =>
    intro i hi hd h
    by_cases e : rd l i = x
    · refine ev_succ (ev_now fun k => ?_)
      rw [codewrightref17_has.l0, if_pos (by omega), if_pos hi, if_pos e]
      congr 1
      symm
      rw [decide_eq_true_iff, ← e]
      exact rd_mem hi (by omega)
    · refine Ev.step (fun k => by rw [codewrightref17_has.l0, if_pos (by omega), if_pos hi, if_neg e, w64 (by omega) (by omega)]) (ih (i + 1) (by omega) (by omega) ?_)
      intro j hj hj'
      by_cases e' : j = i
      · subst e'; exact e
      · exact h j hj (by omega)
theorem has_eq {l : List Int} {x : Int} (hz : l.length ≤ 4611686018427387904) : Ev (fun k => codewrightref17_has.f k l x) (decide (x ∈ l)) :=
  has_l0 hz l.length 0 (by omega) (by omega) (fun j h h' => by omega)
theorem mem_res {n : Int} {zs : List Int} {x : Int} : x % n ∈ zs.map (· % n) ↔ InS n zs x := by
  unfold InS
  rw [List.mem_map]
theorem has_res {n : Int} {zs : List Int} {x : Int} (hz : zs.length ≤ 4611686018427387904) (h : InS n zs x) : Ev (fun k => codewrightref17_has.f k (zs.map (· % n)) (x % n)) true := by
  have := has_eq (l := zs.map (· % n)) (x := x % n) (by rw [List.length_map]; exact hz)
  rwa [decide_eq_true (mem_res.2 h)] at this
theorem has_res_not {n : Int} {zs : List Int} {x : Int} (hz : zs.length ≤ 4611686018427387904) (h : ¬ InS n zs x) : Ev (fun k => codewrightref17_has.f k (zs.map (· % n)) (x % n)) false := by
  have := has_eq (l := zs.map (· % n)) (x := x % n) (by rw [List.length_map]; exact hz)
  rwa [decide_eq_false (fun hm => h (mem_res.1 hm))] at this

end Go.Proofs.Ytibbdjkboglepaa.MyBchChecks

/- What the printed functions modulo, divisor and members of package bch compute. Lengths n from 1 to 64. -/
import Derived.Test.YtibbdjkboglepaaRunMath
import Derived.Test.YtibbdjkboglepaaPBchChecksx4
namespace Go.Proofs.Ytibbdjkboglepaa.MyBchChecks
open Go.RowKit Go.Proofs.YtibbdjkboglepaaW.PrintWords Go.Proofs.YtibbdjkboglepaaW.PrintMore Go.Proofs.Ytibbdjkboglepaa.My Go.Proofs.Ytibbdjkboglepaa.PBchChecks

theorem modulo_eq {a n : Int} (h1 : 1 ≤ n) (h2 : n ≤ 64) : bch_modulo.f a n = some (a % n) := by
  unfold bch_modulo.f
  rw [if_neg (by omega), mod_go h1 (by omega)]
theorem gcd_l0 (d : Nat) : ∀ (a b : Int), 0 ≤ a → 0 ≤ b → b ≤ d → Ev (fun k => number_gcd.l0 k a b) (gc a b) := by
  induction d with
  | zero =>
    intro a b ha hb hd
    obtain rfl : b = 0 := by omega
    exact ev_succ (ev_now fun k => by rw [number_gcd.l0, if_pos rfl, gc_zero ha])
  | succ d ih =>
    intro a b ha hb hd
    by_cases e : b = 0
    · subst e
      exact ev_succ (ev_now fun k => by rw [number_gcd.l0, if_pos rfl, gc_zero ha])
    · have h3 := Int.emod_nonneg a e
      have h4 := Int.emod_lt_of_pos a (show 0 < b by omega)
      refine ev_of_eq (Ev.step (fun k => by rw [number_gcd.l0, if_neg e, tmod_nn ha]) (ih b (a % b) hb h3 (by omega))) (gc_step ha hb)
theorem Gcd_eq {a b : Int} (ha : 0 ≤ a) (hb : 0 ≤ b) (ha' : a ≤ 2147483647) (hb' : b ≤ 2147483647) : Ev (fun k => number_Gcd.f k a b) (gc a b, 0) := by
  have e1 : number_both.f a b = some true := by
    unfold number_both.f number_in.f
    rw [if_pos (by omega), Option.bind_some, if_pos (by simpa using ha'), if_pos (by omega), Option.bind_some]
    simpa using hb'
  have e2 : ∀ c : Int, 0 ≤ c → c ≤ 2147483647 → number_abs.f c = some c := by
    intro c h1 h2
    unfold number_abs.f mx
    rw [w64 (by omega) (by omega), if_neg (by omega)]
  refine Ev.congr (fun k => by unfold number_Gcd.f; rw [e1, Option.bind_some, if_pos rfl, e2 a ha ha', Option.bind_some, e2 b hb hb', Option.bind_some]) ?_
  exact Ev.bind (gcd_l0 b.toNat a b ha hb (by omega)) (ev_now fun k => rfl)
theorem divisor_eq {a n : Int} (h1 : 1 ≤ n) (h2 : n ≤ 64) : Ev (fun k => bch_divisor.f k a n) (gc (a % n) n) := by
  have h3 := Int.emod_nonneg a (show n ≠ 0 by omega)
  have h4 := Int.emod_lt_of_pos a (show 0 < n by omega)
  refine Ev.congr (fun k => by unfold bch_divisor.f; rw [modulo_eq h1 h2, Option.bind_some]) ?_
  exact Ev.bind (Gcd_eq h3 (by omega) (by omega) (by omega)) (ev_now fun k => rfl)

/-- inl tells for each exponent whether it is in the list. -/
def InB (n : Int) (zs : List Int) (inl : List Bool) : Prop := (inl.length : Int) = n ∧ ∀ x, 0 ≤ x → x < n → (rdOf false inl x = true ↔ InS n zs x)

theorem drop_cons {zs : List Int} {i : Int} (h0 : 0 ≤ i) (h : i < zs.length) : zs.drop i.toNat = rd zs i :: zs.drop (i + 1).toNat := by
  have h1 : i.toNat < zs.length := by omega
  rw [List.drop_eq_getElem_cons h1, show (i + 1).toNat = i.toNat + 1 by omega]
  unfold rd
  rw [List.getD_eq_getElem?_getD, List.getElem?_eq_getElem h1]
  rfl
theorem members_l0 {n : Int} {zs : List Int} (h1 : 1 ≤ n) (h2 : n ≤ 64) (hz : zs.length ≤ 4611686018427387904) : ∀ (d : Nat) (x5 : List Bool) (i : Int), 0 ≤ i → i + d = zs.length → (x5.length : Int) = n →
    (∀ x, 0 ≤ x → x < n → ((rdOf false x5 x = true ∨ InS n (zs.drop i.toNat) x) ↔ InS n zs x)) → ∃ r, Ev (fun k => bch_members.l0 k n x5 zs zs.length i) r ∧ InB n zs r := by
  intro d
  induction d with
  | zero =>
    intro x5 i hi hd hl h
    refine ⟨x5, ev_succ (ev_now fun k => by rw [bch_members.l0, if_neg (by omega)]), hl, fun x hx hx' => ?_⟩
    rw [← h x hx hx', List.drop_eq_nil_of_le (by omega)]
    constructor
    · exact .inl
    · rintro (h | h)
      · exact h
      · exact absurd h InS_nil
  | succ d ih =>
    intro x5 i hi hd hl h
    have h3 := Int.emod_nonneg (rd zs i) (show n ≠ 0 by omega)
    have h4 := Int.emod_lt_of_pos (rd zs i) (show 0 < n by omega)
    obtain ⟨r, hr, hp⟩ := ih (x5.set (rd zs i % n).toNat true) (i + 1) (by omega) (by omega) (by rw [List.length_set]; exact hl) (by
      intro x hx hx'
      rw [← h x hx hx', drop_cons hi (by omega), InS_cons]
      by_cases e : rd zs i % n = x
      · subst e
        rw [rdOf_set_self h3 (by omega)]
        simp
      · rw [rdOf_set_ne h3 hx e, Int.emod_eq_of_lt hx hx']
        constructor
        · rintro (h | h)
          · exact .inl h
          · exact .inr (.inr h)
        · rintro (h | h | h)
          · exact .inl h
          · exact absurd h e
          · exact .inr h)
    refine ⟨r, Ev.step (fun k => ?_) hr, hp⟩
    rw [bch_members.l0, if_pos (by omega), if_pos hi, if_pos (by omega), modulo_eq h1 h2, Option.bind_some, if_pos h3, if_pos (by omega), w64 (by omega) (by omega)]
theorem members_eq {n : Int} {zs : List Int} (h1 : 1 ≤ n) (h2 : n ≤ 64) (hz : zs.length ≤ 4611686018427387904) : ∃ r, Ev (fun k => bch_members.f k n zs) r ∧ InB n zs r := by
  obtain ⟨r, hr, hp⟩ := members_l0 h1 h2 hz zs.length (List.replicate n.toNat false) 0 (by omega) (by omega) (by simp; omega) (by
    intro x hx hx'
    have : rdOf false (List.replicate n.toNat false) x = false := by
      unfold rdOf
      rw [List.getD_eq_getElem?_getD, List.getElem?_replicate]
      split <;> rfl
    simp [this])
  exact ⟨r, Ev.congr (fun k => by unfold bch_members.f; rw [if_pos (by omega), if_pos (by omega)]) hr, hp⟩

end Go.Proofs.Ytibbdjkboglepaa.MyBchChecks

/- What the printed functions modulo, divisor, members, consecutive and best of package bch compute: the greatest bound of runs. Lengths n from 1 to 64. -/
import Derived.Test.YtibbdjkboglepaaRunMath
import Derived.Test.YtibbdjkboglepaaPBchMultipliesx4
namespace Go.Proofs.Ytibbdjkboglepaa.MyBchMultiplies
open Go.RowKit Go.Proofs.YtibbdjkboglepaaW.PrintWords Go.Proofs.YtibbdjkboglepaaW.PrintMore Go.Proofs.Ytibbdjkboglepaa.My Go.Proofs.Ytibbdjkboglepaa.PBchMultiplies

theorem modulo_eq {a n : Int} (h1 : 1 ≤ n) (h2 : n ≤ 64) : bch_modulo.f a n = some (a % n) := by
  unfold bch_modulo.f
  rw [if_neg (by omega), mod_go h1 (by omega)]
theorem gcd_l0 (d : Nat) : ∀ (a b : Int), 0 ≤ a → 0 ≤ b → b ≤ d → Ev (fun k => number_gcd.l0 k a b) (gc a b) := by
  induction d with
  | zero =>
    intro a b ha hb hd
    obtain rfl : b = 0 := by omega
    exact ev_succ (ev_now fun k => by rw [number_gcd.l0, if_pos rfl, gc_zero ha])
  | succ d ih =>
    intro a b ha hb hd
    by_cases e : b = 0
    · subst e
      exact ev_succ (ev_now fun k => by rw [number_gcd.l0, if_pos rfl, gc_zero ha])
    · have h3 := Int.emod_nonneg a e
      have h4 := Int.emod_lt_of_pos a (show 0 < b by omega)
      refine ev_of_eq (Ev.step (fun k => by rw [number_gcd.l0, if_neg e, tmod_nn ha]) (ih b (a % b) hb h3 (by omega))) (gc_step ha hb)
theorem Gcd_eq {a b : Int} (ha : 0 ≤ a) (hb : 0 ≤ b) (ha' : a ≤ 2147483647) (hb' : b ≤ 2147483647) : Ev (fun k => number_Gcd.f k a b) (gc a b, 0) := by
  have e1 : number_both.f a b = some true := by
    unfold number_both.f number_in.f
    rw [if_pos (by omega), Option.bind_some, if_pos (by simpa using ha'), if_pos (by omega), Option.bind_some]
    simpa using hb'
  have e2 : ∀ c : Int, 0 ≤ c → c ≤ 2147483647 → number_abs.f c = some c := by
    intro c h1 h2
    unfold number_abs.f mx
    rw [w64 (by omega) (by omega), if_neg (by omega)]
  refine Ev.congr (fun k => by unfold number_Gcd.f; rw [e1, Option.bind_some, if_pos rfl, e2 a ha ha', Option.bind_some, e2 b hb hb', Option.bind_some]) ?_
  exact Ev.bind (gcd_l0 b.toNat a b ha hb (by omega)) (ev_now fun k => rfl)
theorem divisor_eq {a n : Int} (h1 : 1 ≤ n) (h2 : n ≤ 64) : Ev (fun k => bch_divisor.f k a n) (gc (a % n) n) := by
  have h3 := Int.emod_nonneg a (show n ≠ 0 by omega)
  have h4 := Int.emod_lt_of_pos a (show 0 < n by omega)
  refine Ev.congr (fun k => by unfold bch_divisor.f; rw [modulo_eq h1 h2, Option.bind_some]) ?_
  exact Ev.bind (Gcd_eq h3 (by omega) (by omega) (by omega)) (ev_now fun k => rfl)

/-- inl tells for each exponent whether it is in the list. -/
def InB (n : Int) (zs : List Int) (inl : List Bool) : Prop := (inl.length : Int) = n ∧ ∀ x, 0 ≤ x → x < n → (rdOf false inl x = true ↔ InS n zs x)

theorem drop_cons {zs : List Int} {i : Int} (h0 : 0 ≤ i) (h : i < zs.length) : zs.drop i.toNat = rd zs i :: zs.drop (i + 1).toNat := by
  have h1 : i.toNat < zs.length := by omega
  rw [List.drop_eq_getElem_cons h1, show (i + 1).toNat = i.toNat + 1 by omega]
  unfold rd
  rw [List.getD_eq_getElem?_getD, List.getElem?_eq_getElem h1]
  rfl
theorem members_l0 {n : Int} {zs : List Int} (h1 : 1 ≤ n) (h2 : n ≤ 64) (hz : zs.length ≤ 4611686018427387904) : ∀ (d : Nat) (x5 : List Bool) (i : Int), 0 ≤ i → i + d = zs.length → (x5.length : Int) = n →
    (∀ x, 0 ≤ x → x < n → ((rdOf false x5 x = true ∨ InS n (zs.drop i.toNat) x) ↔ InS n zs x)) → ∃ r, Ev (fun k => bch_members.l0 k n x5 zs zs.length i) r ∧ InB n zs r := by
  intro d
  induction d with
  | zero =>
    intro x5 i hi hd hl h
    refine ⟨x5, ev_succ (ev_now fun k => by rw [bch_members.l0, if_neg (by omega)]), hl, fun x hx hx' => ?_⟩
    rw [← h x hx hx', List.drop_eq_nil_of_le (by omega)]
    constructor
    · exact .inl
    · rintro (h | h)
      · exact h
      · exact absurd h InS_nil
  | succ d ih =>
    intro x5 i hi hd hl h
    have h3 := Int.emod_nonneg (rd zs i) (show n ≠ 0 by omega)
    have h4 := Int.emod_lt_of_pos (rd zs i) (show 0 < n by omega)
    obtain ⟨r, hr, hp⟩ := ih (x5.set (rd zs i % n).toNat true) (i + 1) (by omega) (by omega) (by rw [List.length_set]; exact hl) (by
      intro x hx hx'
      rw [← h x hx hx', drop_cons hi (by omega), InS_cons]
      by_cases e : rd zs i % n = x
      · subst e
        rw [rdOf_set_self h3 (by omega)]
        simp
      · rw [rdOf_set_ne h3 hx e, Int.emod_eq_of_lt hx hx']
        constructor
        · rintro (h | h)
          · exact .inl h
          · exact .inr (.inr h)
        · rintro (h | h | h)
          · exact .inl h
          · exact absurd h e
          · exact .inr h)
    refine ⟨r, Ev.step (fun k => ?_) hr, hp⟩
    rw [bch_members.l0, if_pos (by omega), if_pos hi, if_pos (by omega), modulo_eq h1 h2, Option.bind_some, if_pos h3, if_pos (by omega), w64 (by omega) (by omega)]
theorem members_eq {n : Int} {zs : List Int} (h1 : 1 ≤ n) (h2 : n ≤ 64) (hz : zs.length ≤ 4611686018427387904) : ∃ r, Ev (fun k => bch_members.f k n zs) r ∧ InB n zs r := by
  obtain ⟨r, hr, hp⟩ := members_l0 h1 h2 hz zs.length (List.replicate n.toNat false) 0 (by omega) (by omega) (by simp; omega) (by
    intro x hx hx'
    have : rdOf false (List.replicate n.toNat false) x = false := by
      unfold rdOf
      rw [List.getD_eq_getElem?_getD, List.getElem?_replicate]
      split <;> rfl
    simp [this])
  exact ⟨r, Ev.congr (fun k => by unfold bch_members.f; rw [if_pos (by omega), if_pos (by omega)]) hr, hp⟩

/-- c is how many exponents s, s + t, .. are in the list, at most n. -/
def LenOk (n : Int) (zs : List Int) (t s c : Int) : Prop := 0 ≤ c ∧ c ≤ n ∧ (∀ i, 0 ≤ i → i < c → InS n zs (s + i * t)) ∧ (c < n → ¬ InS n zs (s + c * t))
theorem cons_l1 {n t s : Int} {zs : List Int} {inl : List Bool} (h1 : 1 ≤ n) (h2 : n ≤ 64) (hin : InB n zs inl) (ht : 0 ≤ t) (ht' : t < n) (hs : 0 ≤ s) (hs' : s < n) (Q : List Int → Prop) (out0 : List Int)
    (hk : ∀ c, LenOk n zs t s c → ∃ r, Ev (fun k => bch_consecutive.l0 k inl t n (out0.set s.toNat c) n (s + 1)) r ∧ Q r) :
    ∀ (d : Nat) (c : Int), 0 ≤ c → c + d = n → (out0.length : Int) = n → (∀ i, 0 ≤ i → i < c → InS n zs (s + i * t)) → ∃ r, Ev (fun k => bch_consecutive.l1 k inl t n (out0.set s.toNat c) s n s) r ∧ Q r := by
  intro d
  induction d with
  | zero =>
    intro c hc hd hl h
    obtain ⟨r, hr, hq⟩ := hk c ⟨hc, by omega, h, fun e => by omega⟩
    have hl' : ((out0.set s.toNat c).length : Int) = n := by rw [List.length_set]; exact hl
    refine ⟨r, Ev.step (fun k => ?_) hr, hq⟩
    rw [bch_consecutive.l1, if_pos hs, if_pos (by omega), if_neg (by rw [rd_set_self hs (by omega)]; omega), w64 (by omega) (by omega)]
  | succ d ih =>
    intro c hc hd hl h
    have hl' : ((out0.set s.toNat c).length : Int) = n := by rw [List.length_set]; exact hl
    have hm := mul_bd hc (by omega) ht (by omega)
    have h3 := Int.emod_nonneg (s + c * t) (show n ≠ 0 by omega)
    have h4 := Int.emod_lt_of_pos (s + c * t) (show 0 < n by omega)
    have hrd : rd (out0.set s.toNat c) s = c := rd_set_self hs (by omega)
    have hw : Int.tmod (wrap64 (s + wrap64 (c * t))) n = (s + c * t) % n := by rw [w64 (x := c * t) (by omega) (by omega), w64 (by omega) (by omega), tmod_nn (by omega)]
    by_cases e : rdOf false inl ((s + c * t) % n) = true
    · have he := InS_mod.1 ((hin.2 _ h3 h4).1 e)
      obtain ⟨r, hr, hq⟩ := ih (c + 1) (by omega) (by omega) hl (by
        intro i hi hi'
        by_cases e : i = c
        · subst e; exact he
        · exact h i hi (by omega))
      refine ⟨r, Ev.step (fun k => ?_) hr, hq⟩
      rw [bch_consecutive.l1, if_pos hs, if_pos (by omega), hrd, if_pos (by omega), if_neg (by omega), hw, if_pos h3, if_pos (by rw [hin.1]; exact h4), if_pos e, w64 (by omega) (by omega), List.set_set]
    · have he : ¬ InS n zs (s + c * t) := fun hi => e ((hin.2 _ h3 h4).2 (InS_mod.2 hi))
      obtain ⟨r, hr, hq⟩ := hk c ⟨hc, by omega, h, fun _ => he⟩
      refine ⟨r, Ev.step (fun k => ?_) hr, hq⟩
      rw [bch_consecutive.l1, if_pos hs, if_pos (by omega), hrd, if_pos (by omega), if_neg (by omega), hw, if_pos h3, if_pos (by rw [hin.1]; exact h4), if_neg e, w64 (by omega) (by omega)]
theorem cons_l0 {n t : Int} {zs : List Int} {inl : List Bool} (h1 : 1 ≤ n) (h2 : n ≤ 64) (hin : InB n zs inl) (ht : 0 ≤ t) (ht' : t < n) :
    ∀ (d : Nat) (s : Int) (out : List Int), 0 ≤ s → s + d = n → (out.length : Int) = n → (∀ i, 0 ≤ i → i < s → LenOk n zs t i (rd out i)) → (∀ i, s ≤ i → i < n → rd out i = 0) →
      ∃ r, Ev (fun k => bch_consecutive.l0 k inl t n out n s) r ∧ ((r.length : Int) = n ∧ ∀ i, 0 ≤ i → i < n → LenOk n zs t i (rd r i)) := by
  intro d
  induction d with
  | zero =>
    intro s out hs hd hl h h0
    exact ⟨out, ev_succ (ev_now fun k => by rw [bch_consecutive.l0, if_neg (by omega)]), hl, fun i hi hi' => h i hi (by omega)⟩
  | succ d ih =>
    intro s out hs hd hl h h0
    have key := cons_l1 h1 h2 hin ht ht' hs (by omega) (fun r => (r.length : Int) = n ∧ ∀ i, 0 ≤ i → i < n → LenOk n zs t i (rd r i)) out (fun c hc => by
      refine ih (s + 1) _ (by omega) (by omega) (by rw [List.length_set]; exact hl) ?_ ?_
      · intro i hi hi'
        by_cases e : i = s
        · subst e; rw [rd_set_self hs (by omega)]; exact hc
        · rw [rd_set_ne hs hi (Ne.symm e)]; exact h i hi (by omega)
      · intro i hi hi'
        rw [rd_set_ne hs (by omega) (by omega)]; exact h0 i (by omega) hi') n.toNat 0 (by omega) (by omega) hl (fun i h h' => by omega)
    obtain ⟨r, hr, hq⟩ := key
    have e : out.set s.toNat 0 = out := by
      apply List.ext_getElem?
      intro j
      rw [List.getElem?_set]
      split
      · rename_i hj
        have := h0 s (by omega) (by omega)
        unfold rd at this
        rw [List.getD_eq_getElem?_getD, List.getElem?_eq_getElem (by omega)] at this
        rw [if_pos (by omega), ← hj, List.getElem?_eq_getElem (by omega)]
        simpa using this.symm
      · rfl
    rw [e] at hr
    exact ⟨r, Ev.step (fun k => by rw [bch_consecutive.l0, if_pos (by omega)]) hr, hq⟩
theorem consecutive_eq {n t : Int} {zs : List Int} {inl : List Bool} (h1 : 1 ≤ n) (h2 : n ≤ 64) (hin : InB n zs inl) (ht : 0 ≤ t) (ht' : t < n) :
    ∃ r, Ev (fun k => bch_consecutive.f k inl t) r ∧ ((r.length : Int) = n ∧ ∀ i, 0 ≤ i → i < n → LenOk n zs t i (rd r i)) := by
  obtain ⟨r, hr, hq⟩ := cons_l0 h1 h2 hin ht ht' n.toNat 0 (List.replicate n.toNat 0) (by omega) (by omega) (by simp; omega) (fun i h h' => by omega) (by
    intro i hi hi'
    unfold rd
    rw [List.getD_eq_getElem?_getD, List.getElem?_replicate]
    split <;> rfl)
  refine ⟨r, Ev.congr (fun k => ?_) hr, hq⟩
  unfold bch_consecutive.f
  rw [hin.1, if_pos (by omega), if_pos (by omega)]

theorem row_le {n t s L c : Int} {zs : List Int} (h : LenOk n zs t s L) (hc : c ≤ n) : (∀ i, 0 ≤ i → i < c → InS n zs (s + i * t)) ↔ c ≤ L := by
  constructor
  · intro hi
    apply Decidable.byContradiction
    intro hn
    exact h.2.2.2 (by omega) (hi L h.1 (by omega))
  · intro hle i hi hi'
    exact h.2.2.1 i hi (by omega)
end Go.Proofs.Ytibbdjkboglepaa.MyBchMultiplies

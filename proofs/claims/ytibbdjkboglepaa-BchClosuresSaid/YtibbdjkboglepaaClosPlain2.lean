/- Plain laws of BchClosures, joined: members, Gcd, Common, ClosureArgs, the reference's Closure and SameInts. -/
import Derived.Test.YtibbdjkboglepaaClosPlain
set_option linter.unusedVariables false
namespace Go.Proofs.Ytibbdjkboglepaa.MyQBchClosures
open Go Go.RowKit Go.Proofs.YtibbdjkboglepaaW.PrintWords Go.Proofs.YtibbdjkboglepaaW.PrintMore Go.Proofs.Ytibbdjkboglepaa.My Go.Proofs.Ytibbdjkboglepaa.QBchClosures
theorem modulo_eq {a n : Int} (h1 : 1 ≤ n) (h2 : n ≤ 64) : bch_modulo.f a n = some (a % n) := by
  unfold bch_modulo.f
  rw [if_neg (by omega), mod_go h1 (by omega)]
theorem gcd_l0 (d : Nat) : ∀ (a b : Int), 0 ≤ a → 0 ≤ b → b ≤ d → Ev (fun k => number_gcd.l0 k a b) (gc a b) := by
  induction d with
  | zero =>
    intro a b ha hb hd
    obtain rfl : b = 0 := by omega
    exact ev_succ (ev_now fun k => by rw [number_gcd.l0, if_pos rfl, gc_zero ha])
  | succ d ih =>
    intro a b ha hb hd
    by_cases e : b = 0
    · subst e
      exact ev_succ (ev_now fun k => by rw [number_gcd.l0, if_pos rfl, gc_zero ha])
    · have h3 := Int.emod_nonneg a e
      have h4 := Int.emod_lt_of_pos a (show 0 < b by omega)
      refine ev_of_eq (Ev.step (fun k => by rw [number_gcd.l0, if_neg e, tmod_nn ha]) (ih b (a % b) hb h3 (by omega))) (gc_step ha hb)
theorem Gcd_eq {a b : Int} (ha : 0 ≤ a) (hb : 0 ≤ b) (ha' : a ≤ 2147483647) (hb' : b ≤ 2147483647) : Ev (fun k => number_Gcd.f k a b) (gc a b, 0) := by
  have e1 : number_both.f a b = some true := by
    unfold number_both.f number_in.f
    rw [if_pos (by omega), Option.bind_some, if_pos (by simpa using ha'), if_pos (by omega), Option.bind_some]
    simpa using hb'
  have e2 : ∀ c : Int, 0 ≤ c → c ≤ 2147483647 → number_abs.f c = some c := by
    intro c h1 h2
    unfold number_abs.f mx
    rw [w64 (by omega) (by omega), if_neg (by omega)]
  refine Ev.congr (fun k => by unfold number_Gcd.f; rw [e1, Option.bind_some, if_pos rfl, e2 a ha ha', Option.bind_some, e2 b hb hb', Option.bind_some]) ?_
  exact Ev.bind (gcd_l0 b.toNat a b ha hb (by omega)) (ev_now fun k => rfl)
/-- inl tells for each exponent whether it is in the list. -/
def InB (n : Int) (zs : List Int) (inl : List Bool) : Prop := (inl.length : Int) = n ∧ ∀ x, 0 ≤ x → x < n → (rdOf false inl x = true ↔ InS n zs x)

theorem drop_cons {zs : List Int} {i : Int} (h0 : 0 ≤ i) (h : i < zs.length) : zs.drop i.toNat = rd zs i :: zs.drop (i + 1).toNat := by
  have h1 : i.toNat < zs.length := by omega
  rw [List.drop_eq_getElem_cons h1, show (i + 1).toNat = i.toNat + 1 by omega]
  unfold rd
  rw [List.getD_eq_getElem?_getD, List.getElem?_eq_getElem h1]
  rfl
theorem members_l0 {n : Int} {zs : List Int} (h1 : 1 ≤ n) (h2 : n ≤ 64) (hz : zs.length ≤ 4611686018427387904) : ∀ (d : Nat) (x5 : List Bool) (i : Int), 0 ≤ i → i + d = zs.length → (x5.length : Int) = n →
    (∀ x, 0 ≤ x → x < n → ((rdOf false x5 x = true ∨ InS n (zs.drop i.toNat) x) ↔ InS n zs x)) → ∃ r, Ev (fun k => bch_members.l0 k n x5 zs zs.length i) r ∧ InB n zs r := by
  intro d
  induction d with
  | zero =>
    intro x5 i hi hd hl h
    refine ⟨x5, ev_succ (ev_now fun k => by rw [bch_members.l0, if_neg (by omega)]), hl, fun x hx hx' => ?_⟩
    rw [← h x hx hx', List.drop_eq_nil_of_le (by omega)]
    constructor
    · exact .inl
    · rintro (h | h)
      · exact h
      · exact absurd h InS_nil
  | succ d ih =>
    intro x5 i hi hd hl h
    have h3 := Int.emod_nonneg (rd zs i) (show n ≠ 0 by omega)
    have h4 := Int.emod_lt_of_pos (rd zs i) (show 0 < n by omega)
    obtain ⟨r, hr, hp⟩ := ih (x5.set (rd zs i % n).toNat true) (i + 1) (by omega) (by omega) (by rw [List.length_set]; exact hl) (by
      intro x hx hx'
      rw [← h x hx hx', drop_cons hi (by omega), InS_cons]
      by_cases e : rd zs i % n = x
      · subst e
        rw [rdOf_set_self h3 (by omega)]
        simp
      · rw [rdOf_set_ne h3 hx e, Int.emod_eq_of_lt hx hx']
        constructor
        · rintro (h | h)
          · exact .inl h
          · exact .inr (.inr h)
        · rintro (h | h | h)
          · exact .inl h
          · exact absurd h e
          · exact .inr h)
    refine ⟨r, Ev.step (fun k => ?_) hr, hp⟩
    rw [bch_members.l0, if_pos (by omega), if_pos hi, if_pos (by omega), modulo_eq h1 h2, Option.bind_some, if_pos h3, if_pos (by omega), w64 (by omega) (by omega)]
theorem members_eq {n : Int} {zs : List Int} (h1 : 1 ≤ n) (h2 : n ≤ 64) (hz : zs.length ≤ 4611686018427387904) : ∃ r, Ev (fun k => bch_members.f k n zs) r ∧ InB n zs r := by
  obtain ⟨r, hr, hp⟩ := members_l0 h1 h2 hz zs.length (List.replicate n.toNat false) 0 (by omega) (by omega) (by simp; omega) (by
    intro x hx hx'
    have : rdOf false (List.replicate n.toNat false) x = false := by
      unfold rdOf
      rw [List.getD_eq_getElem?_getD, List.getElem?_replicate]
      split <;> rfl
    simp [this])
  exact ⟨r, Ev.congr (fun k => by unfold bch_members.f; rw [if_pos (by omega), if_pos (by omega)]) hr, hp⟩


theorem common_l0 (d : Nat) : ∀ (a b : Int), 0 ≤ a → 0 ≤ b → b ≤ d → Ev (fun k => codewrightref16_Common.l0 k a b) (gc a b) := by
  induction d with
  | zero =>
    intro a b ha hb hd
    obtain rfl : b = 0 := by omega
    exact ev_succ (ev_now fun k => by rw [codewrightref16_Common.l0, if_neg (by omega), gc_zero ha])
  | succ d ih =>
    intro a b ha hb hd
    by_cases e : b = 0
    · subst e
      exact ev_succ (ev_now fun k => by rw [codewrightref16_Common.l0, if_neg (by omega), gc_zero ha])
    · have h3 := Int.emod_nonneg a e
      have h4 := Int.emod_lt_of_pos a (show 0 < b by omega)
      refine ev_of_eq (Ev.step (fun k => by rw [codewrightref16_Common.l0, if_pos (by omega), if_neg e, tmod_nn ha]) (ih b (a % b) hb h3 (by omega))) (gc_step ha hb)
theorem gc_one {q n : Int} (hq : 2 ≤ q) (hn : 1 ≤ n) : gc q n = 1 ↔ Int.gcd q n = 1 := by
  rw [gc_int (by omega) (by omega)]
  omega
theorem args_range {q : Int} (n : Int) (h : q < 2 ∨ 256 < q) : Ev (fun k => codewrightref17_ClosureArgs.f k q n) 6 := by
  have z : Ev (fun k => codewrightref17_ClosureArgs.j0 k q n true) 6 := ev_succ (ev_now fun k => by rw [codewrightref17_ClosureArgs.j0, if_pos rfl])
  unfold codewrightref17_ClosureArgs.f
  by_cases e : q < 2
  · exact Ev.congr (fun k => if_pos e) z
  · exact Ev.congr (fun k => by rw [if_neg e, decide_eq_true (show q > 256 by omega)]) z
theorem args_mid {q n : Int} (h1 : 2 ≤ q) (h2 : q ≤ 256) {r : Int} (hr : Ev (fun k => if n < 1 then (codewrightref17_ClosureArgs.j1 k q n true) else (codewrightref17_ClosureArgs.j1 k q n (decide (n > 64)))) r) : Ev (fun k => codewrightref17_ClosureArgs.f k q n) r := by
  refine Ev.congr (f := fun k => codewrightref17_ClosureArgs.j0 k q n false) (fun k => ?_) (Ev.step (fun k => ?_) hr)
  · unfold codewrightref17_ClosureArgs.f
    rw [if_neg (by omega), decide_eq_false (show ¬ q > 256 by omega)]
  · rw [codewrightref17_ClosureArgs.j0, if_neg (by simp)]
theorem args_length {q n : Int} (h1 : 2 ≤ q) (h2 : q ≤ 256) (h : n < 1 ∨ 64 < n) : Ev (fun k => codewrightref17_ClosureArgs.f k q n) 4 := by
  have z : Ev (fun k => codewrightref17_ClosureArgs.j1 k q n true) 4 := ev_succ (ev_now fun k => by rw [codewrightref17_ClosureArgs.j1, if_pos rfl])
  refine args_mid h1 h2 ?_
  by_cases e : n < 1
  · exact Ev.congr (fun k => if_pos e) z
  · exact Ev.congr (fun k => by rw [if_neg e, decide_eq_true (show n > 64 by omega)]) z
theorem args_in {q n : Int} (h1 : 2 ≤ q) (h2 : q ≤ 256) (h3 : 1 ≤ n) (h4 : n ≤ 64) : Ev (fun k => codewrightref17_ClosureArgs.f k q n) (if gc q n = 1 then 0 else 10) := by
  refine args_mid h1 h2 ?_
  refine Ev.congr (f := fun k => codewrightref17_ClosureArgs.j1 k q n false) (fun k => by rw [if_neg (by omega), decide_eq_false (show ¬ n > 64 by omega)]) ?_
  refine Ev.step (fun k => by rw [codewrightref17_ClosureArgs.j1, if_neg (by simp)]) (Ev.bind (a := gc q n) ?_ (ev_now fun k => ?_))
  · unfold codewrightref16_Common.f
    exact common_l0 n.toNat q n (by omega) (by omega) (by omega)
  · split <;> rfl
theorem cosets_f {q n : Int} (h1 : 2 ≤ q) (h2 : q ≤ 256) (h3 : 1 ≤ n) (h4 : n ≤ 64) {r : List (List Int) × Int} (hr : Ev (fun k => if gc q n = 1 then (cyclic_Cosets.l0 k q n ([] : List (List Int)) (List.replicate n.toNat false) n 0) else (some (([] : List (List Int)), 10))) r) : Ev (fun k => cyclic_Cosets.f k q n) r := by
  refine Ev.congr (f := fun k => cyclic_Cosets.j0 k q n false) (fun k => ?_) (Ev.step (f := fun k => (number_Gcd.f k q n).bind fun bt235 => (if bt235.1 = 1 then (if 0 ≤ n then (if (n : Int).toNat ≤ 281474976710656 then (cyclic_Cosets.l0 k q n ([] : List (List Int)) (List.replicate (n : Int).toNat false) n 0) else (none)) else (none)) else (some (([] : List (List Int)), 10)))) (fun k => ?_) (Ev.bind (Gcd_eq (by omega) (by omega) (by omega) (by omega)) (Ev.congr (fun k => ?_) hr)))
  · unfold cyclic_Cosets.f
    rw [if_neg (by omega), if_neg (by omega), if_neg (by omega), decide_eq_false (by omega)]
  · rw [cyclic_Cosets.j0, if_neg (by simp)]
  · show (if gc q n = 1 then _ else _) = _
    by_cases e : gc q n = 1
    · rw [if_pos e, if_pos e, if_pos (by omega), if_pos (by omega)]
    · rw [if_neg e, if_neg e]
theorem cosets_10 {q n : Int} (h1 : 2 ≤ q) (h2 : q ≤ 256) (h3 : 1 ≤ n) (h4 : n ≤ 64) (hg : gc q n ≠ 1) : Ev (fun k => cyclic_Cosets.f k q n) ([], 10) := cosets_f h1 h2 h3 h4 (ev_now fun k => if_neg hg)
theorem cosets_eq {q n : Int} (h : Sz q n) : ∃ cs, Ev (fun k => cyclic_Cosets.f k q n) (cs, 0) ∧ Cov q n cs (fun _ => True) ∧ (cs.length : Int) ≤ n := by
  have hn1 := h.n1
  obtain ⟨⟨cs, e⟩, hr, h0, hq⟩ := cosets_l0 h n.toNat [] (List.replicate n.toNat false) 0 (fun _ => False) (by omega) (by omega) (by simp) (Cov.mk (fun l hl => absurd hl List.not_mem_nil) (fun x _ _ => Iff.intro (fun h => h.elim) (fun ⟨l, hl, _⟩ => absurd hl List.not_mem_nil)) (by simp)) (Mk.none (by omega)) (fun y a b => by omega)
  dsimp only at h0
  subst h0
  exact ⟨cs, cosets_f h.q1 h.q2 h.n1 h.n2 (Ev.congr (fun k => if_pos ((gc_one h.q1 h.n1).2 h.g)) hr), hq⟩
/-- The union of the orbits of the exponents. -/
def Uni (q n : Int) (zs : List Int) (y : Int) : Prop := ∃ z ∈ zs, Orb q n (z % n) y
theorem closRef_l1 {q n : Int} (h : Sz q n) (zs : List Int) (x8 : Int) (c : List Int) (hc : ∀ x ∈ c, 0 ≤ x ∧ x < n) (hcl : c.length ≤ 4611686018427387904) (Q : List Int → Prop) {T : Int → Prop} (hk : ∀ m', Mk m' n T → ∃ r, Ev (fun k => codewrightref17_Closure.l0 k q n zs m' (wrap64 (x8 + 1))) r ∧ Q r) :
    ∀ (d : Nat) (m : List Bool) (x : Int) (S : Int → Prop), 0 ≤ x → x + d = c.length → Mk m n S → (∀ y, 0 ≤ y → y < n → ((S y ∨ y ∈ c.drop x.toNat) ↔ T y)) → ∃ r, Ev (fun k => codewrightref17_Closure.l1 k q n zs m x8 c x) r ∧ Q r := by
  intro d
  induction d with
  | zero =>
    intro m x S h0 hd hm hT
    obtain ⟨r, hr, hq⟩ := hk m (hm.congr fun y a b => by
      rw [← hT y a b, List.drop_eq_nil_of_le (by omega)]
      simp)
    exact ⟨r, Ev.step (fun k => by rw [codewrightref17_Closure.l1, if_neg (by omega)]) hr, hq⟩
  | succ d ih =>
    intro m x S h0 hd hm hT
    have hml := hm.1
    have hx := hc _ (rd_mem h0 (show x < c.length by omega))
    obtain ⟨r, hr, hq⟩ := ih (m.set (rd c x).toNat true) (x + 1) _ (by omega) (by omega) (hm.set hx.1 hx.2) (fun y a b => by
      rw [← hT y a b, drop_cons h0 (by omega), List.mem_cons, or_assoc])
    refine ⟨r, Ev.step (fun k => ?_) hr, hq⟩
    rw [codewrightref17_Closure.l1, if_pos (by omega), if_pos h0, if_pos hx.1, if_pos (by omega), w64 (by omega) (by omega)]
theorem list_le {n : Int} (hn : 0 ≤ n) {l : List Int} (hd : l.Nodup) (h : ∀ x ∈ l, 0 ≤ x ∧ x < n) : (l.length : Int) ≤ n := by
  have h1 : (l.map Int.toNat).Nodup := by
    rw [List.nodup_iff_pairwise_ne, List.pairwise_map]
    refine List.Pairwise.imp_of_mem ?_ (List.nodup_iff_pairwise_ne.1 hd)
    intro a b ha hb hab e
    have := h a ha
    have := h b hb
    omega
  have := h1.length_le_of_subset (l₂ := List.range n.toNat) (by
    intro x hx
    obtain ⟨t, ht, rfl⟩ := List.mem_map.1 hx
    have := h t ht
    exact List.mem_range.2 (by omega))
  simp at this
  omega
theorem closRef_l0 {q n : Int} (h : Sz q n) (zs : List Int) (hz : zs.length ≤ 4611686018427387904) : ∀ (d : Nat) (m : List Bool) (x : Int) (S : Int → Prop), 0 ≤ x → x + d = zs.length → Mk m n S → (∀ y, 0 ≤ y → y < n → ((S y ∨ Uni q n (zs.drop x.toNat) y) ↔ Uni q n zs y)) →
    ∃ r, Ev (fun k => codewrightref17_Closure.l0 k q n zs m x) r ∧ IsList n (Uni q n zs) r := by
  have hn1 := h.n1
  have hn2 := h.n2
  intro d
  induction d with
  | zero =>
    intro m x S h0 hd hm hT
    obtain ⟨r, hr, hq⟩ := closRef_l2 h hm n.toNat [] 0 (by omega) (by omega) (by simp) List.Pairwise.nil (fun y => Iff.intro (fun h => absurd h List.not_mem_nil) (fun h => by omega))
    refine ⟨r, Ev.step (fun k => by rw [codewrightref17_Closure.l0, if_neg (by omega)]) hr, hq.congr fun y a b => ?_⟩
    rw [← hT y a b, List.drop_eq_nil_of_le (by omega)]
    exact Iff.intro .inl fun h => h.elim id fun ⟨z, hz, _⟩ => absurd hz List.not_mem_nil
  | succ d ih =>
    intro m x S h0 hd hm hT
    have h3 := Int.emod_nonneg (rd zs x) (show n ≠ 0 by omega)
    have h4 := Int.emod_lt_of_pos (rd zs x) (show 0 < n by omega)
    obtain ⟨c, hc, hcl⟩ := cosetRef_eq h h3 h4
    have hcn : c.Nodup := List.nodup_iff_pairwise_ne.2 (hcl.1.imp fun h => by omega)
    have hcr : ∀ y ∈ c, 0 ≤ y ∧ y < n := fun y hy => ⟨((hcl.2 y).1 hy).1, ((hcl.2 y).1 hy).2.1⟩
    have hle := list_le (by omega) hcn hcr
    obtain ⟨r, hr, hq⟩ := closRef_l1 h zs x c hcr (by omega) (IsList n (Uni q n zs)) (T := fun y => S y ∨ Orb q n (rd zs x % n) y) (fun m' hm' => by
      rw [w64 (by omega) (by omega)]
      refine ih m' (x + 1) _ (by omega) (by omega) hm' (fun y a b => ?_)
      rw [← hT y a b, drop_cons h0 (by omega)]
      constructor
      · rintro ((a | a) | ⟨z, hz, a⟩)
        · exact .inl a
        · exact .inr ⟨_, List.mem_cons_self .., a⟩
        · exact .inr ⟨z, List.mem_cons_of_mem _ hz, a⟩
      · rintro (a | ⟨z, hz, a⟩)
        · exact .inl (.inl a)
        · rcases List.mem_cons.1 hz with rfl | hz
          · exact .inl (.inr a)
          · exact .inr ⟨z, hz, a⟩) c.length m 0 S (by omega) (by omega) hm (fun y a b => by
      rw [show (0 : Int).toNat = 0 from rfl, List.drop_zero, hcl.2]
      exact ⟨fun h => h.elim .inl fun h => .inr h.2.2, fun h => h.elim .inl fun h => .inr ⟨a, b, h⟩⟩)
    refine ⟨r, Ev.step (f := fun k => (codewrightref16_Coset.f k q n (rd zs x % n)).bind fun t273 => codewrightref17_Closure.l1 k q n zs m x t273 0) (fun k => ?_) (Ev.bind hc hr), hq⟩
    rw [codewrightref17_Closure.l0, if_pos (by omega), if_pos h0, show codewrightref17_Mod.f (rd zs x) n = some (rd zs x % n) by unfold codewrightref17_Mod.f; rw [if_neg (by omega), mod_go h.n1 (by omega)], Option.bind_some]
theorem closRef_eq {q n : Int} (h : Sz q n) (zs : List Int) (hz : zs.length ≤ 4611686018427387904) : ∃ r, Ev (fun k => codewrightref17_Closure.f k q n zs) r ∧ IsList n (Uni q n zs) r := by
  have hn1 := h.n1
  have hn2 := h.n2
  obtain ⟨r, hr, hq⟩ := closRef_l0 h zs hz zs.length (List.replicate n.toNat false) 0 _ (by omega) (by omega) (Mk.none (by omega)) (fun y _ _ => by rw [show (0 : Int).toNat = 0 from rfl, List.drop_zero]; exact Iff.intro (fun h => h.elim (fun h => h.elim) id) .inr)
  refine ⟨r, Ev.congr (fun k => ?_) hr, hq⟩
  unfold codewrightref17_Closure.f
  rw [if_pos (by omega), if_pos (by omega)]
theorem same_l0 (l : List Int) (hl : l.length ≤ 4611686018427387904) : ∀ (d : Nat) (x : Int), 0 ≤ x → x + d = l.length → Ev (fun k => codewrightref09_SameInts.l0 k l l x) true := by
  intro d
  induction d with
  | zero =>
    intro x h0 hd
    exact ev_succ (ev_now fun k => by rw [codewrightref09_SameInts.l0, if_neg (by omega)])
  | succ d ih =>
    intro x h0 hd
    refine Ev.step (fun k => ?_) (ih (x + 1) (by omega) (by omega))
    rw [codewrightref09_SameInts.l0, if_pos (by omega), if_pos h0, if_pos (by omega), if_pos rfl, w64 (by omega) (by omega)]
theorem same_eq (l : List Int) (hl : l.length ≤ 4611686018427387904) : Ev (fun k => codewrightref09_SameInts.f k l l) true := by
  refine Ev.congr (fun k => ?_) (same_l0 l hl l.length 0 (by omega) (by omega))
  unfold codewrightref09_SameInts.f
  rw [if_pos rfl]
theorem joined_sub {xs : List Bool} : ∀ cs : List (List Int), (joined xs cs).Sublist cs.flatten
  | [] => List.Sublist.refl _
  | c :: cs => by
    have := joined_sub (xs := xs) cs
    unfold joined at this ⊢
    by_cases hh : hit xs c = true
    · rw [List.filter_cons_of_pos hh, List.flatten_cons, List.flatten_cons]
      exact (List.Sublist.refl _).append this
    · rw [List.filter_cons_of_neg hh, List.flatten_cons]
      exact this.trans (List.sublist_append_right _ _)
/-- What Closure computes is what the reference computes. -/
theorem clos_plain {q n : Int} (h : Sz q n) (zs : List Int) (hz : zs.length ≤ 4611686018427387904) :
    ∃ cos mk, Ev (fun k => cyclic_Cosets.f k q n) (cos, 0) ∧ Ev (fun k => bch_members.f k n zs) mk ∧ Ev (fun k => codewrightref17_Closure.f k q n zs) (My.sorted (joined mk cos)) ∧ 0 < mk.length ∧ cos.flatten.length ≤ 64 ∧ cos.length ≤ 64 ∧ ∀ l ∈ cos, ∀ x ∈ l, 0 ≤ x ∧ x < mk.length := by
  have hn1 := h.n1
  have hn2 := h.n2
  obtain ⟨cos, hc, hcv, hcl⟩ := cosets_eq h
  obtain ⟨mk, hm, hmk⟩ := members_eq (zs := zs) hn1 hn2 hz
  obtain ⟨r, hr, hl⟩ := closRef_eq h zs hz
  have hin : ∀ l ∈ cos, ∀ x ∈ l, 0 ≤ x ∧ x < n := by
    intro l hl x hx
    obtain ⟨i, _, _, hi⟩ := hcv.orb l hl
    exact ((hi x).1 hx).range hn1
  have hfl := list_le (n := n) (by omega) hcv.nd (fun x hx => by
    obtain ⟨l, hl, hx⟩ := List.mem_flatten.1 hx
    exact hin l hl x hx)
  have hj : IsList n (Uni q n zs) (My.sorted (joined mk cos)) := by
    have hsub : (joined mk cos).Sublist cos.flatten := joined_sub cos
    refine sorted_list (hsub.nodup hcv.nd) fun y => ?_
    unfold joined
    rw [List.mem_flatten]
    constructor
    · rintro ⟨l, hl, hy⟩
      rw [List.mem_filter] at hl
      obtain ⟨hl, hh⟩ := hl
      obtain ⟨x, hx, hxm⟩ := List.any_eq_true.1 hh
      obtain ⟨i, hi0, hi1, hi⟩ := hcv.orb l hl
      have hxr := hin l hl x hx
      have hyr := hin l hl y hy
      obtain ⟨z, hz, e⟩ := (hmk.2 x hxr.1 hxr.2).1 hxm
      refine ⟨hyr.1, hyr.2, z, hz, ?_⟩
      rw [e, Int.emod_eq_of_lt hxr.1 hxr.2]
      exact (Orb.symm hn1 h.g hi0 hi1 ((hi x).1 hx)).trans ((hi y).1 hy)
    · rintro ⟨h0, h1, z, hz, ho⟩
      have hz0 := Int.emod_nonneg z (show n ≠ 0 by omega)
      have hz1 := Int.emod_lt_of_pos z (show 0 < n by omega)
      obtain ⟨l, hl, hzl⟩ := (hcv.mem _ hz0 hz1).1 trivial
      obtain ⟨i, hi0, hi1, hi⟩ := hcv.orb l hl
      refine ⟨l, List.mem_filter.2 ⟨hl, List.any_eq_true.2 ⟨_, hzl, ?_⟩⟩, (hi y).2 (((hi _).1 hzl).trans ho)⟩
      exact (hmk.2 _ hz0 hz1).2 ⟨z, hz, (Int.emod_emod_of_dvd z (Int.dvd_refl n)).symm⟩
  have hml := hmk.1
  exact ⟨cos, mk, hc, hm, by rw [← hl.unique hj]; exact hr, by omega, by omega, by omega, fun l hl x hx => by have := hin l hl x hx; omega⟩
end Go.Proofs.Ytibbdjkboglepaa.MyQBchClosures

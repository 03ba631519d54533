/- Plain laws of BchClosures: what the printed functions Cosets, Coset, Closure (the reference's), members and Common compute. Lengths n from 1 to 64, q from 2 to 256 without a common divisor with n. -/
import Derived.Test.YtibbdjkboglepaaOrbMath
import Derived.Test.YtibbdjkboglepaaClosWalk2
import Derived.Test.YtibbdjkboglepaaQBchClosuresx9
set_option linter.unusedVariables false
namespace Go.Proofs.Ytibbdjkboglepaa.MyQBchClosures
open Go Go.RowKit Go.Proofs.YtibbdjkboglepaaW.PrintWords Go.Proofs.YtibbdjkboglepaaW.PrintMore Go.Proofs.Ytibbdjkboglepaa.My Go.Proofs.Ytibbdjkboglepaa.QBchClosures
/-- The sizes. -/
structure Sz (q n : Int) : Prop where
  q1 : 2 ≤ q
  q2 : q ≤ 256
  n1 : 1 ≤ n
  n2 : n ≤ 64
  g : Int.gcd q n = 1
section
variable {q n : Int}
theorem itr_step (h : Sz q n) (i : Int) (t : Nat) : Int.tmod (wrap64 (itr q n i t * q)) n = itr q n i (t + 1) := by
  have hr := itr_range (q := q) h.n1 i t
  have h1 := h.q1
  have h2 := h.q2
  have h3 := h.n2
  have a1 : 0 ≤ itr q n i t * q := Int.mul_nonneg hr.1 (by omega)
  have a2 : itr q n i t * q ≤ 64 * 256 := Int.mul_le_mul (by omega) h2 (by omega) (by omega)
  rw [w64 (by omega) (by omega), tmod_nn a1, ← itr_succ]
theorem cosetRef_l1 {S : Int → Prop} {m : List Bool} (h : Sz q n) (hm : Mk m n S) : ∀ (d : Nat) (acc : List Int) (x : Int), 0 ≤ x → x + d = n → acc.length ≤ x → acc.Pairwise (· < ·) → (∀ y, y ∈ acc ↔ 0 ≤ y ∧ y < x ∧ S y) →
    ∃ r, Ev (fun k => codewrightref16_Coset.l1 k n m acc x) r ∧ IsList n S r := by
  have hn1 := h.n1
  have hn2 := h.n2
  intro d
  induction d with
  | zero =>
    intro acc x h0 hd hl hp hy
    obtain rfl : x = n := by omega
    exact ⟨acc, ev_succ (ev_now fun k => by rw [codewrightref16_Coset.l1, if_neg (by omega)]), hp, hy⟩
  | succ d ih =>
    intro acc x h0 hd hl hp hy
    have hml := hm.1
    by_cases e : S x
    · obtain ⟨r, hr, hq⟩ := ih (acc ++ [x]) (x + 1) (by omega) (by omega) (by simp; omega) (by
        rw [List.pairwise_append]
        exact ⟨hp, List.pairwise_singleton _ _, fun a ha b hb => by rw [List.mem_singleton] at hb; have := (hy a).1 ha; omega⟩) (fun y => by
        rw [List.mem_append, List.mem_singleton, hy]
        constructor
        · rintro (⟨a, b, c⟩ | rfl)
          · exact ⟨a, by omega, c⟩
          · exact ⟨h0, by omega, e⟩
        · rintro ⟨a, b, c⟩
          by_cases e2 : y = x
          · exact .inr e2
          · exact .inl ⟨a, by omega, c⟩)
      refine ⟨r, Ev.step (fun k => ?_) hr, hq⟩
      rw [codewrightref16_Coset.l1, if_pos (by omega), if_pos h0, if_pos (by omega), if_pos ((hm.2 x h0 (by omega)).2 e), if_pos (by omega), w64 (by omega) (by omega)]
    · obtain ⟨r, hr, hq⟩ := ih acc (x + 1) (by omega) (by omega) (by omega) hp (fun y => by
        rw [hy]
        constructor
        · rintro ⟨a, b, c⟩; exact ⟨a, by omega, c⟩
        · rintro ⟨a, b, c⟩
          by_cases e2 : y = x
          · exact absurd (e2 ▸ c) e
          · exact ⟨a, by omega, c⟩)
      refine ⟨r, Ev.step (fun k => ?_) hr, hq⟩
      rw [codewrightref16_Coset.l1, if_pos (by omega), if_pos h0, if_pos (by omega), if_neg (fun e3 => e ((hm.2 x h0 (by omega)).1 e3)), w64 (by omega) (by omega)]
theorem closRef_l2 {S : Int → Prop} {m : List Bool} (h : Sz q n) (hm : Mk m n S) : ∀ (d : Nat) (acc : List Int) (x : Int), 0 ≤ x → x + d = n → acc.length ≤ x → acc.Pairwise (· < ·) → (∀ y, y ∈ acc ↔ 0 ≤ y ∧ y < x ∧ S y) →
    ∃ r, Ev (fun k => codewrightref17_Closure.l2 k n m acc x) r ∧ IsList n S r := by
  have hn1 := h.n1
  have hn2 := h.n2
  intro d
  induction d with
  | zero =>
    intro acc x h0 hd hl hp hy
    obtain rfl : x = n := by omega
    exact ⟨acc, ev_succ (ev_now fun k => by rw [codewrightref17_Closure.l2, if_neg (by omega)]), hp, hy⟩
  | succ d ih =>
    intro acc x h0 hd hl hp hy
    have hml := hm.1
    by_cases e : S x
    · obtain ⟨r, hr, hq⟩ := ih (acc ++ [x]) (x + 1) (by omega) (by omega) (by simp; omega) (by
        rw [List.pairwise_append]
        exact ⟨hp, List.pairwise_singleton _ _, fun a ha b hb => by rw [List.mem_singleton] at hb; have := (hy a).1 ha; omega⟩) (fun y => by
        rw [List.mem_append, List.mem_singleton, hy]
        constructor
        · rintro (⟨a, b, c⟩ | rfl)
          · exact ⟨a, by omega, c⟩
          · exact ⟨h0, by omega, e⟩
        · rintro ⟨a, b, c⟩
          by_cases e2 : y = x
          · exact .inr e2
          · exact .inl ⟨a, by omega, c⟩)
      refine ⟨r, Ev.step (fun k => ?_) hr, hq⟩
      rw [codewrightref17_Closure.l2, if_pos (by omega), if_pos h0, if_pos (by omega), if_pos ((hm.2 x h0 (by omega)).2 e), if_pos (by omega), w64 (by omega) (by omega)]
    · obtain ⟨r, hr, hq⟩ := ih acc (x + 1) (by omega) (by omega) (by omega) hp (fun y => by
        rw [hy]
        constructor
        · rintro ⟨a, b, c⟩; exact ⟨a, by omega, c⟩
        · rintro ⟨a, b, c⟩
          by_cases e2 : y = x
          · exact absurd (e2 ▸ c) e
          · exact ⟨a, by omega, c⟩)
      refine ⟨r, Ev.step (fun k => ?_) hr, hq⟩
      rw [codewrightref17_Closure.l2, if_pos (by omega), if_pos h0, if_pos (by omega), if_neg (fun e3 => e ((hm.2 x h0 (by omega)).1 e3)), w64 (by omega) (by omega)]
theorem cosetRef_l0 (h : Sz q n) {i : Int} : ∀ (d t : Nat) (m : List Bool), n.toNat + 1 ≤ t + d → Fresh q n i t → Mk m n (Upto q n i t) → ∃ r, Ev (fun k => codewrightref16_Coset.l0 k q n m (itr q n i t)) r ∧ IsList n (Orb q n i) r := by
  have hn1 := h.n1
  intro d
  induction d with
  | zero =>
    intro t m hd hf hm
    have := hf.le h.n1
    omega
  | succ d ih =>
    intro t m hd hf hm
    have hml := hm.1
    have hr := itr_range (q := q) h.n1 i t
    by_cases e : Upto q n i t (itr q n i t)
    · obtain ⟨r, hr', hl⟩ := cosetRef_l1 h hm n.toNat [] 0 (by omega) (by omega) (by simp) List.Pairwise.nil (fun y => by
        constructor
        · intro h; cases h
        · rintro ⟨a, b, _⟩; omega)
      refine ⟨r, Ev.step (fun k => ?_) hr', hl.congr fun x _ _ => (e.all x).symm⟩
      rw [codewrightref16_Coset.l0, if_pos hr.1, if_pos (by omega), if_pos ((hm.2 _ hr.1 hr.2).2 e)]
    · obtain ⟨r, hr', hl⟩ := ih (t + 1) (m.set (itr q n i t).toNat true) (by omega) (hf.succ e) ((hm.set hr.1 hr.2).congr fun x _ _ => by
        constructor
        · rintro (⟨s, a, b⟩ | b)
          · exact ⟨s, by omega, b⟩
          · exact ⟨t, by omega, b⟩
        · rintro ⟨s, a, b⟩
          by_cases e2 : s = t
          · exact .inr (e2 ▸ b)
          · exact .inl ⟨s, by omega, b⟩)
      refine ⟨r, Ev.step (fun k => ?_) hr', hl⟩
      rw [codewrightref16_Coset.l0, if_pos hr.1, if_pos (by omega), if_neg (fun e3 => e ((hm.2 _ hr.1 hr.2).1 e3)), if_neg (by omega), itr_step h]
theorem Upto.none {i x : Int} : ¬ Upto q n i 0 x := by
  rintro ⟨s, h, _⟩
  omega
theorem cosetRef_eq (h : Sz q n) {i : Int} (h0 : 0 ≤ i) (h1 : i < n) : ∃ r, Ev (fun k => codewrightref16_Coset.f k q n i) r ∧ IsList n (Orb q n i) r := by
  have hn1 := h.n1
  have hn2 := h.n2
  obtain ⟨r, hr, hl⟩ := cosetRef_l0 h (i := i) (n.toNat + 1) 0 (List.replicate n.toNat false) (by omega) (Fresh.zero i) ((Mk.none (by omega)).congr fun x _ _ => ⟨fun h => h.elim, fun h => Upto.none h⟩)
  rw [itr_zero h0 h1] at hr
  refine ⟨r, Ev.congr (fun k => ?_) hr, hl⟩
  unfold codewrightref16_Coset.f
  rw [if_pos (by omega), if_pos (by omega), if_neg (by omega), tmod_nn h0, Int.emod_eq_of_lt h0 h1]
/-- The cosets so far, and where they lie. -/
structure Cov (q n : Int) (cs : List (List Int)) (S : Int → Prop) : Prop where
  orb : ∀ l ∈ cs, ∃ i, 0 ≤ i ∧ i < n ∧ ∀ x, x ∈ l ↔ Orb q n i x
  mem : ∀ x, 0 ≤ x → x < n → (S x ↔ ∃ l ∈ cs, x ∈ l)
  nd : cs.flatten.Nodup
theorem Cov.closed {cs : List (List Int)} {S : Int → Prop} (h : Cov q n cs S) (hn : 1 ≤ n) {x y : Int} (h0 : 0 ≤ x) (h1 : x < n) (hx : S x) (ho : Orb q n x y) : S y := by
  obtain ⟨l, hl, hm⟩ := (h.mem x h0 h1).1 hx
  obtain ⟨i, _, _, hi⟩ := h.orb l hl
  have hr := ho.range hn
  exact (h.mem y hr.1 hr.2).2 ⟨l, hl, (hi y).2 (((hi x).1 hm).trans ho)⟩
theorem cosets_l1 (h : Sz q n) {i : Int} (h0 : 0 ≤ i) (h1 : i < n) {S : Int → Prop} {cs : List (List Int)} (hc : Cov q n cs S) (hS : ¬ S i) (hcl : cs.length < 5864062014805) (x37 x38 : Int) (Q : List (List Int) × Int → Prop)
    (hk : ∀ m' c, Mk m' n (fun x => S x ∨ Orb q n i x) → c.Nodup → (∀ x, x ∈ c ↔ Orb q n i x) → ∃ r, Ev (fun k => cyclic_Cosets.l0 k q n (cs ++ [My.sorted c]) m' x37 (wrap64 (x38 + 1))) r ∧ Q r) :
    ∀ (d t : Nat) (m : List Bool) (c : List Int), n.toNat + 1 ≤ t + d → Fresh q n i t → Mk m n (fun x => S x ∨ Upto q n i t x) → c.Nodup → (∀ x, x ∈ c ↔ Upto q n i t x) → c.length = t →
    ∃ r, Ev (fun k => cyclic_Cosets.l1 k q n cs m c (itr q n i t) x37 x38) r ∧ Q r := by
  have hn1 := h.n1
  have hn2 := h.n2
  intro d
  induction d with
  | zero =>
    intro t m c hd hf hm hcn hcm hct
    have := hf.le h.n1
    omega
  | succ d ih =>
    intro t m c hd hf hm hcn hcm hct
    have hml := hm.1
    have hft := hf.le h.n1
    have hr := itr_range (q := q) h.n1 i t
    by_cases e : Upto q n i t (itr q n i t)
    · obtain ⟨r, hr', hl⟩ := hk m c (hm.congr fun x _ _ => by rw [e.all x]) hcn (fun x => by rw [hcm, e.all x])
      refine ⟨r, Ev.step (f := fun k => (slices_Sort_int_int.f k c).bind fun t242 => if cs.length < 5864062014805 then cyclic_Cosets.l0 k q n (cs ++ [t242]) m x37 (wrap64 (x38 + 1)) else none) (fun k => ?_) (Ev.bind (a := My.sorted c) (ev_now fun k => ?_) (Ev.congr (fun k => if_pos hcl) hr')), hl⟩
      · rw [cyclic_Cosets.l1, if_pos hr.1, if_pos (by omega), if_pos ((hm.2 _ hr.1 hr.2).2 (.inr e))]
      · unfold slices_Sort_int_int.f
        rw [if_pos (by omega)]
    · have hSj : ¬ S (itr q n i t) := fun hs => hS (hc.closed hn1 hr.1 hr.2 hs (Orb.symm hn1 h.g h0 h1 ⟨t, rfl⟩))
      obtain ⟨r, hr', hl⟩ := ih (t + 1) (m.set (itr q n i t).toNat true) (c ++ [itr q n i t]) (by omega) (hf.succ e) ((hm.set hr.1 hr.2).congr fun x _ _ => by
        constructor
        · rintro ((a | ⟨s, a, b⟩) | b)
          · exact .inl a
          · exact .inr ⟨s, by omega, b⟩
          · exact .inr ⟨t, by omega, b⟩
        · rintro (a | ⟨s, a, b⟩)
          · exact .inl (.inl a)
          · by_cases e2 : s = t
            · exact .inr (e2 ▸ b)
            · exact .inl (.inr ⟨s, by omega, b⟩)) (by
        rw [List.nodup_append]
        refine ⟨hcn, by simp, fun a ha b hb => ?_⟩
        rw [List.mem_singleton] at hb
        subst hb
        intro e3
        subst e3
        exact e ((hcm _).1 ha)) (fun x => by
        rw [List.mem_append, List.mem_singleton, hcm]
        constructor
        · rintro (⟨s, a, b⟩ | b)
          · exact ⟨s, by omega, b⟩
          · exact ⟨t, by omega, b⟩
        · rintro ⟨s, a, b⟩
          by_cases e2 : s = t
          · exact .inr (e2 ▸ b)
          · exact .inl ⟨s, by omega, b⟩) (by simp; omega)
      refine ⟨r, Ev.step (fun k => ?_) hr', hl⟩
      rw [cyclic_Cosets.l1, if_pos hr.1, if_pos (by omega), if_neg (fun e3 => ((hm.2 _ hr.1 hr.2).1 e3).elim hSj e), if_pos (by omega), if_neg (by omega), itr_step h]
/-- All cosets. -/
def CosOk (q n : Int) (r : List (List Int) × Int) : Prop := r.2 = 0 ∧ Cov q n r.1 (fun _ => True) ∧ (r.1.length : Int) ≤ n
theorem cosets_l0 (h : Sz q n) : ∀ (d : Nat) (cs : List (List Int)) (m : List Bool) (x : Int) (S : Int → Prop), 0 ≤ x → x + d = n → (cs.length : Int) ≤ x → Cov q n cs S → Mk m n S → (∀ y, 0 ≤ y → y < x → S y) →
    ∃ r, Ev (fun k => cyclic_Cosets.l0 k q n cs m n x) r ∧ CosOk q n r := by
  have hn1 := h.n1
  have hn2 := h.n2
  intro d
  induction d with
  | zero =>
    intro cs m x S h0 hd hl hc hm hy
    obtain rfl : x = n := by omega
    refine ⟨(cs, 0), ev_succ (ev_now fun k => by rw [cyclic_Cosets.l0, if_neg (by omega)]), rfl, ⟨hc.orb, fun y a b => ?_, hc.nd⟩, hl⟩
    rw [← hc.mem y a b]
    exact ⟨fun _ => hy y a b, fun _ => trivial⟩
  | succ d ih =>
    intro cs m x S h0 hd hl hc hm hy
    have hml := hm.1
    by_cases e : S x
    · obtain ⟨r, hr, hq⟩ := ih cs m (x + 1) S (by omega) (by omega) (by omega) hc hm (fun y a b => by
        by_cases e2 : y = x
        · exact e2 ▸ e
        · exact hy y a (by omega))
      refine ⟨r, Ev.step (fun k => ?_) hr, hq⟩
      rw [cyclic_Cosets.l0, if_pos (by omega), if_pos h0, if_pos (by omega), if_pos ((hm.2 x h0 (by omega)).2 e), w64 (by omega) (by omega)]
    · have hx1 : x < n := by omega
      obtain ⟨r, hr, hq⟩ := cosets_l1 h h0 hx1 hc e (by omega) n x (CosOk q n) (fun m' c hm' hcn hcm => by
        rw [w64 (by omega) (by omega)]
        refine ih (cs ++ [My.sorted c]) m' (x + 1) _ (by omega) (by omega) (by simp; omega) ⟨fun l hl => ?_, fun y a b => ?_, ?_⟩ hm' (fun y a b => ?_)
        · rw [List.mem_append, List.mem_singleton] at hl
          rcases hl with hl | rfl
          · exact hc.orb l hl
          · exact ⟨x, h0, hx1, fun y => by rw [sorted_mem, hcm]⟩
        · rw [hc.mem y a b]
          constructor
          · rintro (⟨l, hl, hy⟩ | ho)
            · exact ⟨l, List.mem_append_left _ hl, hy⟩
            · exact ⟨_, List.mem_append_right _ (List.mem_singleton_self _), sorted_mem.2 ((hcm y).2 ho)⟩
          · rintro ⟨l, hl, hy⟩
            rw [List.mem_append, List.mem_singleton] at hl
            rcases hl with hl | rfl
            · exact .inl ⟨l, hl, hy⟩
            · exact .inr ((hcm y).1 (sorted_mem.1 hy))
        · rw [List.flatten_append, List.nodup_append]
          refine ⟨hc.nd, by simpa [My.sorted] using (List.mergeSort_perm c _).nodup_iff.2 hcn, fun a ha b hb hab => ?_⟩
          subst hab
          rw [List.mem_flatten] at ha
          obtain ⟨l, hl, hal⟩ := ha
          have hb' : Orb q n x a := (hcm a).1 (sorted_mem.1 (by simpa using hb))
          have hra := hb'.range hn1
          exact e (hc.closed hn1 hra.1 hra.2 ((hc.mem a hra.1 hra.2).2 ⟨l, hl, hal⟩) (Orb.symm hn1 h.g h0 hx1 hb'))
        · by_cases e2 : y = x
          · subst e2; exact .inr (Orb.refl h0 hx1)
          · exact .inl (hy y a (by omega))) (n.toNat + 1) 0 m [] (by omega) (Fresh.zero x) (hm.congr fun y _ _ => Iff.intro (fun h => Or.inl h) (fun h => Or.elim h id fun h => absurd h Upto.none)) (by simp) (fun y => Iff.intro (fun h => absurd h List.not_mem_nil) (fun h => absurd h Upto.none)) rfl
      rw [itr_zero h0 hx1] at hr
      refine ⟨r, Ev.step (fun k => ?_) hr, hq⟩
      rw [cyclic_Cosets.l0, if_pos (by omega), if_pos h0, if_pos (by omega), if_neg (fun e3 => e ((hm.2 x h0 (by omega)).1 e3))]
end
end Go.Proofs.Ytibbdjkboglepaa.MyQBchClosures

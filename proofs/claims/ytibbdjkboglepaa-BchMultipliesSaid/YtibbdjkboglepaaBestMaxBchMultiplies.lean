/- The printed function best of package bch returns the greatest bound of runs, with a run that proves it. Lengths n from 1 to 64, most from 0 to 64. -/
import Derived.Test.YtibbdjkboglepaaBestProgBchMultiplies
namespace Go.Proofs.Ytibbdjkboglepaa.MyBchMultiplies
open Go.RowKit Go.Proofs.YtibbdjkboglepaaW.PrintWords Go.Proofs.YtibbdjkboglepaaW.PrintMore Go.Proofs.Ytibbdjkboglepaa.My Go.Proofs.Ytibbdjkboglepaa.PBchMultiplies

def GoodRun (n : Int) (zs : List Int) (most b s t c x m : Int) : Prop :=
  (b = 1 ∧ s = 0 ∧ t = 0 ∧ c = 0 ∧ x = 0 ∧ m = 0) ∨ (Proves n zs s t c x m ∧ m ≤ most ∧ b = c + 1 + m ∧ 0 ≤ s ∧ s < n ∧ 0 ≤ t ∧ t < n ∧ 0 ≤ x ∧ x < n)
theorem GoodRun.ge {n : Int} {zs : List Int} {most b s t c x m : Int} (h : GoodRun n zs most b s t c x m) : 1 ≤ b := by
  rcases h with ⟨rfl, _⟩ | ⟨hp, _, rfl, _⟩
  · omega
  · have := hp.1; have := hp.2.2.1; omega
theorem GoodRun.le {n : Int} {zs : List Int} {most b s t c x m : Int} (hn : 1 ≤ n) (h : GoodRun n zs most b s t c x m) : b ≤ 2 * n + 1 := by
  rcases h with ⟨rfl, _⟩ | ⟨hp, _, rfl, _⟩
  · omega
  · have := hp.2.1; have := hp.2.2.2.1; omega
def D0 (n : Int) (zs : List Int) (most t0 b : Int) : Prop := ∀ s t c x m, Proves n zs s t c x m → m ≤ most → 0 ≤ s → s < n → 0 ≤ t → t < t0 → 0 ≤ x → x < n → (most = 0 → x = 0) → c + 1 + m ≤ b
def D1 (n : Int) (zs : List Int) (most t0 x0 b : Int) : Prop := ∀ s c x m, Proves n zs s t0 c x m → m ≤ most → 0 ≤ s → s < n → 0 ≤ x → x < x0 → (most = 0 → x = 0) → c + 1 + m ≤ b
def D2 (n : Int) (zs : List Int) (most t0 x0 s0 b : Int) : Prop := ∀ s c m, Proves n zs s t0 c x0 m → m ≤ most → 0 ≤ s → s < s0 → c + 1 + m ≤ b
def D3 (n : Int) (zs : List Int) (most t0 x0 s0 m0 b : Int) : Prop := ∀ c m, Proves n zs s0 t0 c x0 m → m ≤ most → m < m0 → c + 1 + m ≤ b
/-- The answer of best: a run, its bound, and no run proves more. -/
def BestAns (n : Int) (zs : List Int) (most : Int) (r : Int × Int × Int × Int × Int × Int × Int) : Prop :=
  ∃ b s t c x m, r = (b, s, t, c, x, m, 0) ∧ GoodRun n zs most b s t c x m ∧ IsBest n zs most b ∧ (m = 0 → x = 0)

theorem best_l3 {n most t x s : Int} {zs : List Int} {inl : List Bool} {len : List Int} (h1 : 1 ≤ n) (h2 : n ≤ 64) (hm0 : 0 ≤ most) (hmn : most ≤ n)
    (hlen : (len.length : Int) = n) (hl : ∀ i, 0 ≤ i → i < n → LenOk n zs t i (rd len i)) (hg : gc (t % n) n = 1) (ht : 0 ≤ t) (ht' : t < n) (hx : 0 ≤ x) (hx' : x < n) (hs : 0 ≤ s) (hs' : s < n) (Q : (Int × Int × Int × Int × Int × Int × Int) → Prop) (b0 : Int)
    (hk : ∀ b rs rt rc rx rm, b0 ≤ b → GoodRun n zs most b rs rt rc rx rm → D3 n zs most t x s (most + 1) b → ∃ r, Ev (fun k => bch_best.l2 k n most inl b t len x n t n x n (s + 1) rs rt rc rx rm) r ∧ Q r) :
    ∀ (d : Nat) (m b c rs rt rc rx rm : Int), 0 ≤ m → m + d = most + 1 → 1 ≤ c → c ≤ n → (∀ c', c' ≤ n → (Rect n zs s t c' x (m - 1) ↔ c' ≤ c)) → b0 ≤ b → GoodRun n zs most b rs rt rc rx rm → D3 n zs most t x s m b →
      ∃ r, Ev (fun k => bch_best.l3 k n most inl b t len x s c n t n x n s (most + 1) m rs rt rc rx rm) r ∧ Q r := by
  intro d
  induction d with
  | zero =>
    intro m b c rs rt rc rx rm hm hd hc hc' hC hb hR hD
    obtain rfl : m = most + 1 := by omega
    obtain ⟨r, hr, hq⟩ := hk b rs rt rc rx rm hb hR hD
    refine ⟨r, Ev.step (fun k => ?_) hr, hq⟩
    rw [bch_best.l3, if_neg (by omega), w64 (by omega) (by omega)]
  | succ d ih =>
    intro m b c rs rt rc rx rm hm hd hc hc' hC hb hR hD
    have hmx := mul_bd hm (by omega) hx (by omega)
    have h3 := Int.emod_nonneg (s + m * x) (show n ≠ 0 by omega)
    have h4 := Int.emod_lt_of_pos (s + m * x) (show 0 < n by omega)
    have hw : Int.tmod (wrap64 (s + wrap64 (m * x))) n = (s + m * x) % n := by rw [w64 (x := m * x) (by omega) (by omega), w64 (by omega) (by omega), tmod_nn (by omega)]
    have hL := hl _ h3 h4
    have hbb := hR.le h1
    have hge := hR.ge
    generalize hLe : rd len ((s + m * x) % n) = L at hL
    generalize hc1 : mn c L = c1
    have hc1' : c1 ≤ c ∧ c1 ≤ L ∧ 0 ≤ c1 ∧ (∀ y, y ≤ c → y ≤ L → y ≤ c1) := by
      have := hL.1
      subst hc1
      unfold mn
      split <;> refine ⟨by omega, by omega, by omega, fun y h h' => by omega⟩
    have hC1 : ∀ c', c' ≤ n → (Rect n zs s t c' x m ↔ c' ≤ c1) := by
      intro c' hcn
      have e : Rect n zs s t c' x m ↔ (Rect n zs s t c' x (m - 1) ∧ ∀ i, 0 ≤ i → i < c' → InS n zs ((s + m * x) % n + i * t)) := by
        have hrow : ∀ i, InS n zs (s + i * t + m * x) ↔ InS n zs ((s + m * x) % n + i * t) := by
          intro i
          apply InS.congr
          rw [show s + i * t + m * x = (s + m * x) + i * t by omega, Int.emod_add_emod]
        constructor
        · intro h
          exact ⟨fun i j a b c d => h i j a b c (by omega), fun i hi hi' => (hrow i).1 (h i m hi hi' hm (by omega))⟩
        · rintro ⟨h, h'⟩ i j a b c' d'
          by_cases ej : j = m
          · subst ej; exact (hrow i).2 (h' i a b)
          · exact h i j a b c' (by omega)
      rw [e, hC c' hcn, row_le hL hcn]
      constructor
      · rintro ⟨h, h'⟩; exact hc1'.2.2.2 _ h h'
      · intro h; exact ⟨by omega, by omega⟩
    have hlt : m < wrap64 (most + 1) → m < most + 1 := fun h => by rwa [w64 (by omega) (by omega)] at h
    by_cases e0 : c1 = 0
    · obtain ⟨r, hr, hq⟩ := hk b rs rt rc rx rm hb hR (by
        intro c2 m2 hp hm2 hm2'
        by_cases hmm : m2 < m
        · exact hD c2 m2 hp hm2 hmm
        · exfalso
          have hr := hp.2.2.2.2.2.2
          have : Rect n zs s t 1 x m := fun i j a b c d => hr i j a (by have := hp.1; omega) c (by omega)
          have := (hC1 1 (by omega)).1 this
          omega)
      refine ⟨r, Ev.step (fun k => ?_) hr, hq⟩
      rw [bch_best.l3, if_pos (by omega), if_neg (by omega), hw, if_pos h3, if_pos (by rw [hlen]; exact h4), hLe, hc1, if_pos e0, w64 (by omega) (by omega)]
    · have hw2 : wrap64 (wrap64 (c1 + 1) + m) = c1 + 1 + m := by rw [w64 (x := c1 + 1) (by omega) (by omega), w64 (by omega) (by omega)]
      have hR1 : Rect n zs s t c1 x m := (hC1 c1 (by omega)).2 (by omega)
      have hup : ∀ b', b ≤ b' → (c1 + 1 + m ≤ b' ∨ (0 < m ∧ c1 < gc (x % n) n)) → D3 n zs most t x s (m + 1) b' := by
        intro b' hbb' hor c2 m2 hp hm2 hm2'
        by_cases hmm : m2 < m
        · have := hD c2 m2 hp hm2 hmm; omega
        · obtain rfl : m2 = m := by omega
          have hle := (hC1 c2 hp.2.1).1 hp.2.2.2.2.2.2
          rcases hor with h | ⟨h, h'⟩
          · omega
          · have := hp.2.2.2.2.2.1 h; omega
      by_cases e1 : c1 + 1 + m > b
      · by_cases e2 : m = 0
        · subst e2
          obtain ⟨r, hr, hq⟩ := ih (0 + 1) (c1 + 1 + 0) c1 s t c1 x 0 (by omega) (by omega) (by omega) (by omega) (by simpa using hC1) (by omega)
            (.inr ⟨⟨by omega, by omega, by omega, by omega, hg, fun h => by omega, hR1⟩, by omega, rfl, hs, hs', ht, ht', hx, hx'⟩) (hup _ (by omega) (.inl (by omega)))
          refine ⟨r, Ev.step (fun k => ?_) hr, hq⟩
          rw [bch_best.l3, if_pos (by omega), if_neg (by omega), hw, if_pos h3, if_pos (by rw [hlen]; exact h4), hLe, hc1, if_neg e0, hw2, if_pos e1, if_pos rfl, w64 (by omega) (by omega)]
        · have hdiv := divisor_eq (a := x) h1 h2
          by_cases e3 : gc (x % n) n ≤ c1
          · obtain ⟨r, hr, hq⟩ := ih (m + 1) (c1 + 1 + m) c1 s t c1 x m (by omega) (by omega) (by omega) (by omega) (by simpa using hC1) (by omega)
              (.inr ⟨⟨by omega, by omega, by omega, by omega, hg, fun _ => e3, hR1⟩, by omega, rfl, hs, hs', ht, ht', hx, hx'⟩) (hup _ (by omega) (.inl (by omega)))
            refine ⟨r, Ev.step (fun k => by rw [bch_best.l3, if_pos (by omega), if_neg (by omega), hw, if_pos h3, if_pos (by rw [hlen]; exact h4), hLe, hc1, if_neg e0, hw2, if_pos e1, if_neg e2]) (Ev.bind hdiv (Ev.congr (fun k => by rw [if_pos e3, w64 (by omega) (by omega)]) hr)), hq⟩
          · obtain ⟨r, hr, hq⟩ := ih (m + 1) b c1 rs rt rc rx rm (by omega) (by omega) (by omega) (by omega) (by simpa using hC1) hb hR (hup _ (by omega) (.inr ⟨by omega, by omega⟩))
            refine ⟨r, Ev.step (fun k => by rw [bch_best.l3, if_pos (by omega), if_neg (by omega), hw, if_pos h3, if_pos (by rw [hlen]; exact h4), hLe, hc1, if_neg e0, hw2, if_pos e1, if_neg e2]) (Ev.bind hdiv (Ev.congr (fun k => by rw [if_neg e3, w64 (by omega) (by omega)]) hr)), hq⟩
      · obtain ⟨r, hr, hq⟩ := ih (m + 1) b c1 rs rt rc rx rm (by omega) (by omega) (by omega) (by omega) (by simpa using hC1) hb hR (hup _ (by omega) (.inl (by omega)))
        refine ⟨r, Ev.step (fun k => ?_) hr, hq⟩
        rw [bch_best.l3, if_pos (by omega), if_neg (by omega), hw, if_pos h3, if_pos (by rw [hlen]; exact h4), hLe, hc1, if_neg e0, hw2, if_neg e1, w64 (x := m + 1) (by omega) (by omega)]

theorem best_l2 {n most t x : Int} {zs : List Int} {inl : List Bool} {len : List Int} (h1 : 1 ≤ n) (h2 : n ≤ 64) (hm0 : 0 ≤ most) (hmn : most ≤ n)
    (hlen : (len.length : Int) = n) (hl : ∀ i, 0 ≤ i → i < n → LenOk n zs t i (rd len i)) (hg : gc (t % n) n = 1) (ht : 0 ≤ t) (ht' : t < n) (hx : 0 ≤ x) (hx' : x < n) (Q : (Int × Int × Int × Int × Int × Int × Int) → Prop) (b0 : Int)
    (hk : ∀ b rs rt rc rx rm, b0 ≤ b → GoodRun n zs most b rs rt rc rx rm → D2 n zs most t x n b → ∃ r, Ev (fun k => bch_best.l1 k n most inl b t len n t n (x + 1) rs rt rc rx rm) r ∧ Q r) :
    ∀ (d : Nat) (s b rs rt rc rx rm : Int), 0 ≤ s → s + d = n → b0 ≤ b → GoodRun n zs most b rs rt rc rx rm → D2 n zs most t x s b →
      ∃ r, Ev (fun k => bch_best.l2 k n most inl b t len x n t n x n s rs rt rc rx rm) r ∧ Q r := by
  intro d
  induction d with
  | zero =>
    intro s b rs rt rc rx rm hs hd hb hR hD
    obtain rfl : s = n := by omega
    obtain ⟨r, hr, hq⟩ := hk b rs rt rc rx rm hb hR hD
    refine ⟨r, Ev.step (fun k => ?_) hr, hq⟩
    rw [bch_best.l2, if_neg (by omega), w64 (by omega) (by omega)]
  | succ d ih =>
    intro s b rs rt rc rx rm hs hd hb hR hD
    obtain ⟨r, hr, hq⟩ := best_l3 (inl := inl) h1 h2 hm0 hmn hlen hl hg ht ht' hx hx' hs (by omega) Q b (by
      intro b' rs rt rc rx rm hb' hR' hD'
      refine ih (s + 1) b' rs rt rc rx rm (by omega) (by omega) (by omega) hR' ?_
      intro s2 c2 m2 hp hm2 hs2 hs2'
      by_cases e : s2 = s
      · subst e; exact hD' _ _ hp hm2 (by omega)
      · have := hD _ _ _ hp hm2 hs2 (by omega); omega) (most + 1).toNat 0 b n rs rt rc rx rm (by omega) (by omega) h1 (by omega) (by
        intro c' hc'
        constructor
        · intro _; exact hc'
        · intro _ i j a b c d; omega) (by omega) hR (by
        intro c2 m2 hp hm2 hm2'
        have := hp.2.2.1; omega)
    refine ⟨r, Ev.step (fun k => ?_) hr, hq⟩
    rw [bch_best.l2, if_pos (by omega), w64 (by omega) (by omega)]
theorem best_l1 {n most t : Int} {zs : List Int} {inl : List Bool} {len : List Int} (h1 : 1 ≤ n) (h2 : n ≤ 64) (hm0 : 0 ≤ most) (hmn : most ≤ n)
    (hlen : (len.length : Int) = n) (hl : ∀ i, 0 ≤ i → i < n → LenOk n zs t i (rd len i)) (hg : gc (t % n) n = 1) (ht : 0 ≤ t) (ht' : t < n) (Q : (Int × Int × Int × Int × Int × Int × Int) → Prop) (b0 : Int)
    (hk : ∀ b rs rt rc rx rm, b0 ≤ b → GoodRun n zs most b rs rt rc rx rm → D1 n zs most t n b → ∃ r, Ev (fun k => bch_best.l0 k n most inl b n (t + 1) rs rt rc rx rm) r ∧ Q r) :
    ∀ (d : Nat) (x b rs rt rc rx rm : Int), 0 ≤ x → x + d = n → b0 ≤ b → GoodRun n zs most b rs rt rc rx rm → D1 n zs most t x b →
      ∃ r, Ev (fun k => bch_best.l1 k n most inl b t len n t n x rs rt rc rx rm) r ∧ Q r := by
  intro d
  induction d with
  | zero =>
    intro x b rs rt rc rx rm hx hd hb hR hD
    obtain rfl : x = n := by omega
    obtain ⟨r, hr, hq⟩ := hk b rs rt rc rx rm hb hR hD
    refine ⟨r, Ev.step (fun k => ?_) hr, hq⟩
    rw [bch_best.l1, if_neg (by omega), w64 (by omega) (by omega)]
  | succ d ih =>
    intro x b rs rt rc rx rm hx hd hb hR hD
    have go : ∃ r, Ev (fun k => bch_best.l2 k n most inl b t len x n t n x n 0 rs rt rc rx rm) r ∧ Q r := by
      refine best_l2 (inl := inl) h1 h2 hm0 hmn hlen hl hg ht ht' hx (by omega) Q b (by
        intro b' rs rt rc rx rm hb' hR' hD'
        refine ih (x + 1) b' rs rt rc rx rm (by omega) (by omega) (by omega) hR' ?_
        intro s2 c2 x2 m2 hp hm2 hs2 hs2' hx2 hx2' hmx
        by_cases e : x2 = x
        · subst e; exact hD' _ _ _ hp hm2 hs2 hs2'
        · have := hD _ _ _ _ hp hm2 hs2 hs2' hx2 (by omega) hmx; omega) n.toNat 0 b rs rt rc rx rm (by omega) (by omega) (by omega) hR (by
        intro s2 c2 m2 hp hm2 hs2 hs2'; omega)
    by_cases e : most = 0
    · by_cases e2 : x > 0
      · obtain ⟨r, hr, hq⟩ := hk b rs rt rc rx rm hb hR (by
          intro s2 c2 x2 m2 hp hm2 hs2 hs2' hx2 hx2' hmx
          have := hmx e
          exact hD _ _ _ _ hp hm2 hs2 hs2' hx2 (by omega) hmx)
        refine ⟨r, Ev.step (fun k => by rw [bch_best.l1, if_pos (by omega), if_pos e]) (ev_succ (Ev.congr (fun k => by rw [bch_best.j3, if_pos (by simpa using e2), w64 (by omega) (by omega)]) hr)), hq⟩
      · obtain ⟨r, hr, hq⟩ := go
        refine ⟨r, Ev.step (fun k => by rw [bch_best.l1, if_pos (by omega), if_pos e]) (ev_succ (Ev.congr (fun k => by rw [bch_best.j3, if_neg (by simpa using e2)]) hr)), hq⟩
    · obtain ⟨r, hr, hq⟩ := go
      refine ⟨r, Ev.step (fun k => by rw [bch_best.l1, if_pos (by omega), if_neg e]) (ev_succ (Ev.congr (fun k => by rw [bch_best.j3, if_neg (by simp)]) hr)), hq⟩
theorem best_l0 {n most : Int} {zs : List Int} {inl : List Bool} (h1 : 1 ≤ n) (h2 : n ≤ 64) (hm0 : 0 ≤ most) (hmn : most ≤ n) (hin : InB n zs inl) :
    ∀ (d : Nat) (t b rs rt rc rx rm : Int), 0 ≤ t → t + d = n → GoodRun n zs most b rs rt rc rx rm → D0 n zs most t b →
      ∃ r, Ev (fun k => bch_best.l0 k n most inl b n t rs rt rc rx rm) r ∧ BestAns n zs most r := by
  intro d
  induction d with
  | zero =>
    intro t b rs rt rc rx rm ht hd hR hD
    obtain rfl : t = n := by omega
    have hB : IsBest t zs most b := by
      refine ⟨?_, ?_⟩
      · rcases hR with ⟨rfl, _⟩ | ⟨hp, hm, rfl, _⟩
        · exact .inl rfl
        · exact .inr ⟨_, _, _, _, _, hp, hm, rfl⟩
      · intro s t' c x m hp hm
        have a1 := Int.emod_nonneg s (show t ≠ 0 by omega)
        have a2 := Int.emod_lt_of_pos s (show 0 < t by omega)
        have a3 := Int.emod_nonneg t' (show t ≠ 0 by omega)
        have a4 := Int.emod_lt_of_pos t' (show 0 < t by omega)
        have a5 := Int.emod_nonneg x (show t ≠ 0 by omega)
        have a6 := Int.emod_lt_of_pos x (show 0 < t by omega)
        by_cases e : most = 0
        · have em : m = 0 := by have := hp.2.2.1; omega
          subst em
          exact hD _ _ _ 0 0 (Proves_zero (Proves_mod.1 hp)) hm a1 a2 a3 a4 (by omega) (by omega) (fun _ => rfl)
        · exact hD _ _ _ _ _ (Proves_mod.1 hp) hm a1 a2 a3 a4 a5 a6 (fun h => absurd h e)
    by_cases e : rm = 0
    · subst e
      refine ⟨(b, rs, rt, rc, 0, 0, 0), ev_succ (ev_now fun k => by rw [bch_best.l0, if_neg (by omega), if_pos rfl]), b, rs, rt, rc, 0, 0, rfl, ?_, hB, fun _ => rfl⟩
      rcases hR with ⟨rfl, rfl, rfl, rfl, rfl, _⟩ | ⟨hp, hm, rfl, h⟩
      · exact .inl ⟨rfl, rfl, rfl, rfl, rfl, rfl⟩
      · exact .inr ⟨Proves_zero hp, hm, rfl, h.1, h.2.1, h.2.2.1, h.2.2.2.1, by omega, by omega⟩
    · exact ⟨(b, rs, rt, rc, rx, rm, 0), ev_succ (ev_now fun k => by rw [bch_best.l0, if_neg (by omega), if_neg e]), b, rs, rt, rc, rx, rm, rfl, hR, hB, fun h => absurd h e⟩
  | succ d ih =>
    intro t b rs rt rc rx rm ht hd hR hD
    have hdiv := divisor_eq (a := t) h1 h2
    by_cases e : gc (t % n) n = 1
    · obtain ⟨len, hlen, hl1, hl2⟩ := consecutive_eq h1 h2 hin ht (by omega)
      obtain ⟨r, hr, hq⟩ := best_l1 (inl := inl) h1 h2 hm0 hmn hl1 hl2 e ht (by omega) (BestAns n zs most) b (by
        intro b' rs rt rc rx rm hb' hR' hD'
        refine ih (t + 1) b' rs rt rc rx rm (by omega) (by omega) hR' ?_
        intro s2 t2 c2 x2 m2 hp hm2 hs2 hs2' ht2 ht2' hx2 hx2' hmx
        by_cases e : t2 = t
        · subst e; exact hD' _ _ _ _ hp hm2 hs2 hs2' hx2 hx2' hmx
        · have := hD _ _ _ _ _ hp hm2 hs2 hs2' ht2 (by omega) hx2 hx2' hmx; omega) n.toNat 0 b rs rt rc rx rm (by omega) (by omega) (by omega) hR (by
        intro s2 c2 x2 m2 hp hm2 hs2 hs2' hx2 hx2'; omega)
      refine ⟨r, Ev.step (fun k => by rw [bch_best.l0, if_pos (by omega)]) (Ev.bind hdiv (Ev.congr (fun k => by rw [if_pos e]) (Ev.bind hlen hr))), hq⟩
    · obtain ⟨r, hr, hq⟩ := ih (t + 1) b rs rt rc rx rm (by omega) (by omega) hR (by
        intro s2 t2 c2 x2 m2 hp hm2 hs2 hs2' ht2 ht2' hx2 hx2' hmx
        by_cases e' : t2 = t
        · subst e'; exact absurd hp.2.2.2.2.1 e
        · exact hD _ _ _ _ _ hp hm2 hs2 hs2' ht2 (by omega) hx2 hx2' hmx)
      refine ⟨r, Ev.step (fun k => by rw [bch_best.l0, if_pos (by omega)]) (Ev.bind hdiv (Ev.congr (fun k => by rw [if_neg e, w64 (by omega) (by omega)]) hr)), hq⟩
theorem best_eq {n most : Int} {zs : List Int} (h1 : 1 ≤ n) (h2 : n ≤ 64) (hm0 : 0 ≤ most) (hmn : most ≤ n) (hz : zs.length ≤ 4611686018427387904) :
    ∃ r, Ev (fun k => bch_best.f k n zs most) r ∧ BestAns n zs most r := by
  obtain ⟨inl, hi, hin⟩ := members_eq h1 h2 hz
  obtain ⟨r, hr, hq⟩ := best_l0 h1 h2 hm0 hmn hin n.toNat 0 1 0 0 0 0 0 (by omega) (by omega) (.inl ⟨rfl, rfl, rfl, rfl, rfl, rfl⟩) (by
    intro s2 t2 c2 x2 m2 hp hm2 hs2 hs2' ht2 ht2'; omega)
  refine ⟨r, Ev.congr (fun k => by unfold bch_best.f; rw [if_neg (by omega)]) (Ev.step (fun k => by rw [bch_best.j0, if_neg (by simp; omega)]) (Ev.bind hi hr)), hq⟩
theorem best_out {n most : Int} {zs : List Int} (h : n < 1 ∨ 64 < n) : Ev (fun k => bch_best.f k n zs most) (0, 0, 0, 0, 0, 0, 4) := by
  rcases h with h | h
  · exact Ev.congr (fun k => by unfold bch_best.f; rw [if_pos h]) (ev_succ (ev_now fun k => by rw [bch_best.j0, if_pos rfl]))
  · by_cases e : n < 1
    · omega
    · exact Ev.congr (fun k => by unfold bch_best.f; rw [if_neg e]) (ev_succ (ev_now fun k => by rw [bch_best.j0, if_pos (by simpa using h)]))
end Go.Proofs.Ytibbdjkboglepaa.MyBchMultiplies

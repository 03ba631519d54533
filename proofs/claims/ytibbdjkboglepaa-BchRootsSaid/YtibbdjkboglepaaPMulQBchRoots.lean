/- The program's digitsOf, valueOf and multiply (layer 4), over a monic polynomial: the product of residues. No further condition. -/
import Derived.Test.YtibbdjkboglepaaAlgAll
import Derived.Test.YtibbdjkboglepaaFldMulQBchRoots
import Derived.Test.YtibbdjkboglepaaQBchRootsx2
set_option linter.unusedVariables false
set_option linter.unusedSimpArgs false
set_option linter.unusedSectionVars false
namespace Go.Proofs.Ytibbdjkboglepaa.MyQBchRoots
open Go.RowKit Go.Proofs.YtibbdjkboglepaaW.PrintWords Go.Proofs.YtibbdjkboglepaaW.PrintMore Go.Proofs.Ytibbdjkboglepaa.My Go.Proofs.Ytibbdjkboglepaa.Alg Go.Proofs.Ytibbdjkboglepaa.QBchRoots

theorem pdigits_l0 {p : Int} (hp : 2 ≤ p) {n : Int} (hn : n ≤ 1000) {x : Int} (hx : 0 ≤ x) (hx' : x < 9223372036854775808) : ∀ (d : Nat) (i : Nat) (out : List Int), (i : Int) + d = n → (out.length : Int) = n → (∀ j : Int, 0 ≤ j → j < i → rd out j = x / p ^ j.toNat % p) →
    ∃ r, Ev (fun k => field_digitsOf.l0 k (x / p ^ i) p out n i) r ∧ ((r.length : Int) = n ∧ ∀ j : Int, 0 ≤ j → j < n → rd r j = x / p ^ j.toNat % p) := by
  intro d
  induction d with
  | zero =>
    intro i out hi hl h
    exact ⟨out, ev_succ (ev_now fun k => by rw [field_digitsOf.l0, if_neg (by omega)]), hl, fun j h1 h2 => h j h1 (by omega)⟩
  | succ d ih =>
    intro i out hi hl h
    have hpi : 0 < p ^ i := Int.pow_pos (by omega)
    have h0 : 0 ≤ x / p ^ i := Int.ediv_nonneg hx (by omega)
    have h1 : x / p ^ i ≤ x := Int.ediv_le_self _ hx
    have h2 : 0 ≤ x / p ^ i / p := Int.ediv_nonneg h0 (by omega)
    have h3 : x / p ^ i / p ≤ x / p ^ i := Int.ediv_le_self _ h0
    obtain ⟨r, hr, hq⟩ := ih (i + 1) (out.set i (x / p ^ i % p)) (by omega) (by rw [List.length_set]; exact hl) (by
      intro j h1 h2
      by_cases e : j = i
      · subst e
        rw [show out.set i (x / p ^ i % p) = out.set ((i : Int)).toNat (x / p ^ i % p) from rfl, rd_set_self (by omega) (by omega)]
        rfl
      · rw [show out.set i (x / p ^ i % p) = out.set ((i : Int)).toNat (x / p ^ i % p) from rfl, rd_set_ne (by omega) h1 (by omega)]
        exact h j h1 (by omega))
    refine ⟨r, Ev.step (fun k => ?_) hr, hq⟩
    rw [field_digitsOf.l0, if_pos (by omega), if_neg (by omega), if_pos (by omega), if_pos (by omega), tmod_nn h0, Int.tdiv_eq_ediv_of_nonneg h0, w64 (by omega) (by omega), w64 (by omega) (by omega), Int.ediv_ediv, if_neg (by omega), Int.sub_zero, ← Int.pow_succ]
    rfl
theorem pdigits_eq {p : Int} (hp : 2 ≤ p) {n : Int} (hn0 : 0 ≤ n) (hn : n ≤ 1000) {x : Int} (hx : 0 ≤ x) (hx' : x < 9223372036854775808) :
    ∃ r, Ev (fun k => field_digitsOf.f k x p n) r ∧ ((r.length : Int) = n ∧ ∀ j : Int, 0 ≤ j → j < n → rd r j = x / p ^ j.toNat % p) := by
  obtain ⟨r, hr, hq⟩ := pdigits_l0 hp hn hx hx' n.toNat 0 (List.replicate n.toNat 0) (by omega) (by simp; omega) (fun j h1 h2 => by omega)
  rw [show x / p ^ 0 = x by rw [Int.pow_zero, Int.ediv_one]] at hr
  refine ⟨r, Ev.congr (fun k => ?_) hr, hq⟩
  unfold field_digitsOf.f
  rw [if_pos hn0, if_pos (by omega)]
  simp only [Option.bind_some, List.length_replicate]
  rw [show ((n.toNat : Nat) : Int) = n by omega]
  rfl
theorem pvalue_l0 {p : Int} (hp : 2 ≤ p) {l : List Int} (hl : ∀ d ∈ l, 0 ≤ d ∧ d < p) (hb : p ^ l.length ≤ 1000000) (hll : l.length ≤ 1000) : ∀ (i : Nat), i ≤ l.length →
    Ev (fun k => field_valueOf.l0 k l p (lval p (l.drop i)) ((i : Int) - 1)) (lval p l) := by
  intro i
  induction i with
  | zero => intro _; exact ev_succ (ev_now fun k => by rw [field_valueOf.l0, if_neg (by omega)]; rfl)
  | succ i ih =>
    intro hi
    have e : lval p (l.drop i) = lval p (l.drop (i + 1)) * p + rd l i := by
      rw [drop_rd (by omega), lval_cons, Int.mul_comm, Int.add_comm]
    have hd := hl _ (rd_mem (i := (i : Int)) (by omega) (by omega))
    have hbd : ∀ j, 0 ≤ lval p (l.drop j) ∧ lval p (l.drop j) < 1000000 := by
      intro j
      have h1 := lval_bd hp (l := l.drop j) (fun d hd => hl d (List.mem_of_mem_drop hd))
      have h2 : p ^ (l.drop j).length ≤ p ^ l.length := pow_mono (by omega) (by rw [List.length_drop]; omega)
      omega
    have b1 := hbd (i + 1)
    have b2 := hbd i
    have b3 := Int.mul_nonneg b1.1 (show 0 ≤ p by omega)
    refine Ev.step (fun k => ?_) (ih (by omega))
    rw [field_valueOf.l0, if_pos (by omega), if_pos (by omega), if_pos (by omega), show ((i + 1 : Nat) : Int) - 1 = (i : Int) by omega, w64 (x := lval p (l.drop (i + 1)) * p) (by omega) (by omega), ← e, w64 (x := lval p (l.drop i)) (by omega) (by omega), w64 (by omega) (by omega)]
theorem pvalue_eq {p : Int} (hp : 2 ≤ p) {l : List Int} (hl : ∀ d ∈ l, 0 ≤ d ∧ d < p) (hb : p ^ l.length ≤ 1000000) (hl' : l.length ≤ 1000) : Ev (fun k => field_valueOf.f k l p) (lval p l) := by
  have := pvalue_l0 hp hl hb hl' l.length (Nat.le_refl _)
  rw [List.drop_length] at this
  refine Ev.congr (fun k => ?_) this
  unfold field_valueOf.f
  rw [w64 (by omega) (by omega)]
  rfl

/-- A ring of residues as P, M and Mod describe it. -/
structure RC (Q : Pr) (m : Nat) (F : Pol (Zp Q)) (P M : Int) (Mod : List Int) : Prop where
  hp : Q.p = P
  hm : (m : Int) = M
  m1 : 1 ≤ m
  hm8 : M ≤ 8
  p256 : P ≤ 256
  hq : P ^ m ≤ 256
  mon : Monic F m
  f0 : M = 1 → F 0 = 0
  len : 1 < M → (Mod.length : Int) = M
  low : 1 < M → ∀ i : Nat, i < m → rd Mod i = (F i).1
section
variable {Q : Pr} {m : Nat} {F : Pol (Zp Q)} {P M : Int} {Mod : List Int}
theorem rd_shiftL {xs : List Int} {n : Nat} (hl : xs.length = n + 1) {t : Int} (h1 : 1 ≤ t) (h2 : t ≤ n) : rd (shiftL n xs) t = rd xs (t - 1) := by
  unfold shiftL
  rw [show min n (xs.length - 1) = n by omega]
  obtain ⟨s, rfl⟩ : ∃ s : Nat, t = (s : Int) + 1 := ⟨(t - 1).toNat, by omega⟩
  unfold rd
  rw [List.getD_eq_getElem?_getD, List.getD_eq_getElem?_getD, List.getElem?_append_right (by simp; omega), List.getElem?_append_left (by simp; omega), List.getElem?_take_of_lt (by simp; omega)]
  congr 2
  simp; omega
/-- What is added to entry t in a step. -/
def low0 (M : Int) (Mod : List Int) (t : Int) : Int := if M > 1 then rd Mod t else 0
theorem RC.low0 (h : RC Q m F P M Mod) (t : Nat) (ht : t < m) : 0 ≤ MyQBchRoots.low0 M Mod t ∧ MyQBchRoots.low0 M Mod t < P ∧ of Q (MyQBchRoots.low0 M Mod t) = F t := by
  have hp2 := Q.two
  have hp := h.hp
  have hm := h.hm
  unfold MyQBchRoots.low0
  by_cases e : M > 1
  · rw [if_pos e, h.low e t ht]
    have := (F t).2
    exact ⟨this.1, by omega, of_self _⟩
  · rw [if_neg e]
    have hM : M = 1 := by have := h.m1; omega
    have ht0 : t = 0 := by omega
    subst ht0
    exact ⟨by omega, by omega, by rw [h.f0 hM]; rfl⟩
theorem inner (h : RC Q m F P M Mod) {a b : List Int} (ha : DL P M a) (hb : DL P M b) (i : Nat) (hi : i < m) (top : Int) (ht0 : 0 ≤ top) (htP : top < P) (c0 : List Int) (R : Int)
    (hk : ∀ c, DL P M c → (∀ t : Nat, t < m → of Q (rd c t) = of Q (rd c0 t) + (-of Q top * F t + of Q (rd b i) * of Q (rd a t))) → Ev (fun k => field_multiply.l0 k a b c ((i : Int) - 1) P M Mod) R) :
    ∀ (d : Nat) (j : Nat) (c : List Int), j + d = m → DL P M c → (∀ t : Nat, t < m → of Q (rd c t) = if t < j then of Q (rd c0 t) + (-of Q top * F t + of Q (rd b i) * of Q (rd a t)) else of Q (rd c0 t)) →
      Ev (fun k => field_multiply.l1 k a b c i top M j P M Mod) R := by
  have hp := h.hp
  have hp2 := Q.two
  have hm := h.hm
  have hm8 := h.hm8
  have hp256 := h.p256
  intro d
  induction d with
  | zero =>
    intro j c hj hc hs
    refine Ev.step (fun k => by rw [field_multiply.l1, if_neg (by omega), w64 (by omega) (by omega)]) (hk c hc ?_)
    intro t ht
    rw [hs t ht, if_pos (by omega)]
  | succ d ih =>
    intro j c hj hc hs
    have haj := ha.2 j (by omega) (by omega)
    have hbi := hb.2 i (by omega) (by omega)
    have hcj := hc.2 j (by omega) (by omega)
    obtain ⟨hl0, hl1, hl2⟩ := h.low0 j (by omega)
    have hab := mul_bd8 (a := rd b i) (b := rd a j) hbi.1 (by omega) haj.1 (by omega)
    have htl := mul_bd8 (a := P - top) (b := MyQBchRoots.low0 M Mod j) (by omega) (by omega) hl0 (by omega)
    have hcl := hc.1
    have hal := ha.1
    have hbl := hb.1
    let v := (rd c j + (P - top) * MyQBchRoots.low0 M Mod j + rd b i * rd a j) % P
    have he0 := Int.emod_nonneg (rd c j + (P - top) * MyQBchRoots.low0 M Mod j + rd b i * rd a j) (show P ≠ 0 by omega)
    have he1 := Int.emod_lt_of_pos (rd c j + (P - top) * MyQBchRoots.low0 M Mod j + rd b i * rd a j) (show 0 < P by omega)
    refine Ev.step (fun k => ?_) (ih (j + 1) (c.set ((j : Int)).toNat v) (by omega) (hc.set (by omega) (by omega) he0 he1) ?_)
    · rw [field_multiply.l1, if_pos (by omega)]
      show _ = field_multiply.l1 k a b (c.set ((j : Int)).toNat ((rd c j + (P - top) * MyQBchRoots.low0 M Mod j + rd b i * rd a j) % P)) i top M ((j + 1 : Nat) : Int) P M Mod
      by_cases e : M > 1
      · have hml := h.len e
        have e2 : MyQBchRoots.low0 M Mod j = rd Mod j := by unfold MyQBchRoots.low0; rw [if_pos e]
        rw [e2] at htl ⊢
        rw [if_pos e, if_pos (by omega), if_pos (by omega), if_pos (by omega), if_pos (by omega), if_pos (by omega), if_pos (by omega), if_neg (by omega),
          w64 (x := P - top) (by omega) (by omega), w64 (x := (P - top) * rd Mod j) (by omega) (by omega), w64 (x := rd c j + (P - top) * rd Mod j) (by omega) (by omega), w64 (x := rd b i * rd a j) (by omega) (by omega), w64 (x := rd c j + (P - top) * rd Mod j + rd b i * rd a j) (by omega) (by omega), tmod_nn (by omega), w64 (x := (j : Int) + 1) (by omega) (by omega)]
        rfl
      · have e2 : MyQBchRoots.low0 M Mod j = 0 := by unfold MyQBchRoots.low0; rw [if_neg e]
        rw [e2, Int.mul_zero, Int.add_zero]
        rw [if_neg e, if_pos (by omega), if_pos (by omega), if_pos (by omega), if_pos (by omega), if_pos (by omega), if_neg (by omega),
          w64 (x := 0) (by omega) (by omega), Int.add_zero, w64 (x := rd c j) (by omega) (by omega), w64 (x := rd b i * rd a j) (by omega) (by omega), w64 (x := rd c j + rd b i * rd a j) (by omega) (by omega), tmod_nn (by omega), w64 (x := (j : Int) + 1) (by omega) (by omega)]
        rfl
    · intro t ht
      by_cases e : t = j
      · subst e
        rw [rd_set_self (by omega) (by omega), if_pos (by omega)]
        have e1 : of Q v = of Q (rd c t + (P - top) * MyQBchRoots.low0 M Mod t + rd b i * rd a t) := of_eq.2 (by rw [hp]; exact Int.emod_emod_of_dvd _ (Int.dvd_refl P))
        have hs' := hs t ht
        rw [if_neg (by omega)] at hs'
        rw [e1, ← of_add, ← of_add, ← of_mul, ← of_mul, hl2, hs', add_assoc]
        congr 2
        congr 1
        rw [show P - top = -top + P by omega, ← of_add, ← of_neg, show of Q P = 0 from of_eq.2 (by rw [hp]; simp), add_zero]
      · rw [rd_set_ne (by omega) (by omega) (by omega), hs t ht]
        by_cases e2 : t < j
        · rw [if_pos e2, if_pos (by omega)]
        · rw [if_neg e2, if_neg (by omega)]
theorem cong_xmul {α : Type} [CR α] {F f g : Pol α} (h : Cong F f g) : Cong F (xmul f) (xmul g) := by
  obtain ⟨q, n, hq, he⟩ := h
  refine ⟨Alg.xmul q, n + 1, hq.xmul, ?_⟩
  rw [he, xmul_pmul]
  funext i
  cases i with
  | zero => show (0 : α) = 0 + 0; rw [add_zero]
  | succ i => rfl
/-- The coefficients from s on. -/
def tl (s : Nat) (b : Pol (Zp Q)) : Pol (Zp Q) := fun t => b (t + s)
theorem pmul_tl (a b : Pol (Zp Q)) (i : Nat) : pmul a (tl i b) = padd (xmul (pmul a (tl (i + 1) b))) (smul (b i) a) := by
  have e : tl i b = padd (C (b i)) (xmul (tl (i + 1) b)) := by
    rw [Alg.split (tl i b)]
    congr 2
    · show b (0 + i) = b i
      rw [Nat.zero_add]
    · funext t
      show b (t + 1 + i) = b (t + (i + 1))
      rw [show t + 1 + i = t + (i + 1) by omega]
  rw [e, pmul_padd, pmul_comm a (C (b i)), C_pmul, pmul_xmul, padd_comm]
theorem outer (h : RC Q m F P M Mod) {a b : List Int} (ha : DL P M a) (hb : DL P M b) (R : Int)
    (hk : ∀ c, DL P M c → Cong F (pmul (cut Q m a) (cut Q m b)) (cut Q m c) → Ev (fun k => field_multiply.l0 k a b c (-1) P M Mod) R) :
    ∀ (i : Nat) (c : List Int), i ≤ m → DL P M c → Cong F (pmul (cut Q m a) (tl i (cut Q m b))) (cut Q m c) → Ev (fun k => field_multiply.l0 k a b c ((i : Int) - 1) P M Mod) R := by
  have hp := h.hp
  have hp2 := Q.two
  have hm := h.hm
  have hm8 := h.hm8
  have hm1 := h.m1
  intro i
  induction i with
  | zero =>
    intro c hi hc hs
    exact hk c hc hs
  | succ i ih =>
    intro c hi hc hs
    have hcl := hc.1
    have htop := hc.2 (M - 1) (by omega) (by omega)
    have hb0 := hb.2 i (by omega) (by omega)
    have hsl := shiftL_length (m - 1) c
    have hc1 : DL P M ((shiftL (m - 1) c).set (0 : Int).toNat 0) := by
      refine ⟨by rw [List.length_set, hsl]; exact hcl, fun t h0 h1 => ?_⟩
      by_cases e : t = 0
      · subst e
        rw [rd_set_self (by omega) (by rw [hsl]; omega)]
        omega
      · rw [rd_set_ne (by omega) h0 (by omega), rd_shiftL (by omega) (by omega) (by omega)]
        exact hc.2 (t - 1) (by omega) (by omega)
    refine Ev.step (fun k => ?_) (inner h ha hb i (by omega) (rd c (M - 1)) htop.1 htop.2 ((shiftL (m - 1) c).set (0 : Int).toNat 0) R (fun c' hc' hs' => ih c' (by omega) hc' ?_) m 0 _ (by omega) hc1 (fun t ht => by rw [if_neg (by omega)]))
    · rw [field_multiply.l0, if_pos (by omega), w64 (x := M - 1) (by omega) (by omega), if_pos (by omega), if_pos (by omega), if_pos (by omega), if_pos (by omega), if_pos (by omega), show (M - 1).toNat = m - 1 by omega, hcl, show ((i + 1 : Nat) : Int) - 1 = i by omega]
      rfl
    · rw [pmul_tl]
      refine Cong.trans (Cong.add (cong_xmul hs) (Cong.refl F _)) ?_
      refine ⟨C (of Q (rd c (M - 1))), 1, DegLt.C _, ?_⟩
      rw [C_pmul]
      funext t
      show Alg.xmul (cut Q m c) t + cut Q m b i * cut Q m a t = cut Q m c' t + of Q (rd c (M - 1)) * F t
      have hbi : cut Q m b i = of Q (rd b i) := if_pos (by omega)
      rw [hbi]
      by_cases et : t < m
      · have e1 : cut Q m c' t = of Q (rd c' t) := if_pos et
        have e2 : cut Q m a t = of Q (rd a t) := if_pos et
        have e3 : Alg.xmul (cut Q m c) t = of Q (rd ((shiftL (m - 1) c).set (0 : Int).toNat 0) t) := by
          cases t with
          | zero =>
            rw [show ((0 : Nat) : Int) = 0 from rfl, rd_set_self (by omega) (by rw [hsl]; omega)]
            rfl
          | succ t =>
            rw [rd_set_ne (by omega) (by omega) (by omega), rd_shiftL (by omega) (by omega) (by omega), show ((t + 1 : Nat) : Int) - 1 = t by omega]
            exact if_pos (by omega)
        rw [e1, e2, e3, hs' t et, add_assoc, add_comm (-of Q (rd c (M - 1)) * F t), add_assoc, neg_mul, neg_add, add_zero]
      · have e1 : cut Q m c' t = 0 := if_neg et
        have e2 : cut Q m a t = 0 := if_neg et
        rw [e1, e2, mul_zero, add_zero, zero_add]
        cases t with
        | zero => omega
        | succ t =>
          show cut Q m c t = _
          by_cases e4 : t + 1 = m
          · rw [show t + 1 = m from e4, h.mon.1, mul_one]
            have : cut Q m c t = of Q (rd c t) := if_pos (by omega)
            rw [this, show M - 1 = (t : Int) by omega]
          · rw [h.mon.2 (t + 1) (by omega), mul_zero]
            exact if_neg (by omega)
theorem cut_dig (h : RC Q m F P M Mod) {x : Int} (h0 : 0 ≤ x) (hx : x < P ^ m) {l : List Int} (hl : ∀ j : Int, 0 ≤ j → j < M → rd l j = x / P ^ j.toNat % P) : cut Q m l = dig Q x := by
  have hp := h.hp
  have hm := h.hm
  funext t
  unfold cut
  by_cases e : t < m
  · rw [if_pos e, hl t (by omega) (by omega), ← hp]
    exact of_eq.2 (Int.emod_emod_of_dvd _ (Int.dvd_refl _))
  · rw [if_neg e, dig_deg m x h0 (by rw [hp]; exact hx) t (by omega)]
/-- The product of two residues. -/
theorem multiply_cong (h : RC Q m F P M Mod) {x y : Int} (h0 : 0 ≤ x) (hx : x < P ^ m) (h0' : 0 ≤ y) (hy : y < P ^ m) :
    ∃ r, Ev (fun k => field_multiply.f k P M Mod x y) r ∧ 0 ≤ r ∧ r < P ^ m ∧ Cong F (pmul (dig Q x) (dig Q y)) (dig Q r) := by
  have hp := h.hp
  have hp2 := Q.two
  have hm := h.hm
  have hm8 := h.hm8
  have hm1 := h.m1
  have hq := h.hq
  obtain ⟨a, hae, hal, had⟩ := pdigits_eq (p := P) (n := M) (x := x) (by omega) (by omega) (by omega) h0 (by omega)
  obtain ⟨b, hbe, hbl, hbd⟩ := pdigits_eq (p := P) (n := M) (x := y) (by omega) (by omega) (by omega) h0' (by omega)
  have hda : DL P M a := ⟨hal, fun t h1 h2 => by rw [had t h1 h2]; exact ⟨Int.emod_nonneg _ (by omega), Int.emod_lt_of_pos _ (by omega)⟩⟩
  have hdb : DL P M b := ⟨hbl, fun t h1 h2 => by rw [hbd t h1 h2]; exact ⟨Int.emod_nonneg _ (by omega), Int.emod_lt_of_pos _ (by omega)⟩⟩
  have hz : DL P M (List.replicate m 0) := ⟨by rw [List.length_replicate]; exact hm, fun t h1 h2 => by rw [rd_replicate]; omega⟩
  have hz0 : Cong F (pmul (cut Q m a) (tl m (cut Q m b))) (cut Q m (List.replicate m 0)) := by
    have e1 : tl m (cut Q m b) = pzero := funext fun t => if_neg (by omega)
    have e2 : cut Q m (List.replicate m 0) = pzero := by
      funext t
      unfold cut
      rw [rd_replicate]
      split <;> rfl
    rw [e1, e2, pmul_pzero]
    exact Cong.refl F _
  have hex : ∃ R, 0 ≤ R ∧ R < P ^ m ∧ Cong F (pmul (cut Q m a) (cut Q m b)) (dig Q R) ∧ Ev (fun k => field_multiply.l0 k a b (List.replicate m 0) ((m : Int) - 1) P M Mod) R := by
    obtain ⟨r0, hc0, hd0⟩ := Cong.exists (F := F) (f := pmul (cut Q m a) (cut Q m b)) h.mon (DegLt.pmul ((cut_deg Q m a).mono (Nat.le_succ m)) (cut_deg Q m b))
    have hr := pval_range m r0
    refine ⟨pval m r0, hr.1, by rw [← hp]; exact hr.2, by rw [dig_pval m r0 hd0]; exact hc0, ?_⟩
    refine outer h hda hdb _ (fun c hc hs => ?_) m _ (Nat.le_refl m) hz hz0
    have e : cut Q m c = r0 := (hs.symm.trans hc0).unique h.mon (cut_deg Q m c) hd0
    have hcl := hc.1
    have hv : lval P c = pval m r0 := by
      rw [← hp, lval_pval (fun d hd => by rw [hp]; exact hc.mem d hd), show c.length = m by omega, lp_cut, show c.length = m by omega, e]
    have hve := pvalue_eq (p := P) (l := c) (by omega) hc.mem (by rw [show c.length = m by omega]; omega) (by omega)
    rw [hv] at hve
    refine Ev.step (fun k => ?_) (Ev.bind hve (Ev.now _))
    rw [field_multiply.l0, if_neg (by omega)]
  obtain ⟨R, hR0, hR1, hRc, hRe⟩ := hex
  rw [cut_dig h h0 hx had, cut_dig h h0' hy hbd] at hRc
  refine ⟨R, ?_, hR0, hR1, hRc⟩
  refine Ev.congr (fun k => rfl) (Ev.bind hae (Ev.bind hbe (Ev.congr (fun k => ?_) hRe)))
  rw [if_pos (by omega), if_pos (by omega), show M.toNat = m by omega, w64 (by omega) (by omega), hm]
end
end Go.Proofs.Ytibbdjkboglepaa.MyQBchRoots

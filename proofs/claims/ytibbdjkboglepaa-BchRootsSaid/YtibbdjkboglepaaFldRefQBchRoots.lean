/- The printed functions Order, Is, In, Digits, Value, Mul and MulOrder of the reference of layer 4, over a description of a field. No further condition. -/
import Derived.Test.YtibbdjkboglepaaAlgAll
import Derived.Test.YtibbdjkboglepaaQBchRootsx9
set_option linter.unusedVariables false
set_option linter.unusedSimpArgs false
set_option linter.unusedSectionVars false
namespace Go.Proofs.Ytibbdjkboglepaa.MyQBchRoots
open Go.RowKit Go.Proofs.YtibbdjkboglepaaW.PrintWords Go.Proofs.YtibbdjkboglepaaW.PrintMore Go.Proofs.Ytibbdjkboglepaa.My Go.Proofs.Ytibbdjkboglepaa.Alg Go.Proofs.Ytibbdjkboglepaa.QBchRoots

section
variable {D : FD} {P M : Int} {Mod : List Int}
theorem pow_split (p : Int) (i d : Nat) : p ^ (i + d) = p ^ i * p ^ d := Int.pow_add p i d
theorem Order_l0 (h : Desc D P M Mod) : ∀ (d : Nat) (i : Nat), i + d = D.m → Ev (fun k => codewrightref04_Order.l0 k (P ^ i) i P M Mod) D.q := by
  have hp2 := h.p2
  have hp := h.hp
  have hm := h.hm
  have hm8 := h.hm8
  have hq := h.hq
  have hp256 := h.p256
  have hqd : D.q = P ^ D.m := by rw [← hp]; rfl
  intro d
  induction d with
  | zero =>
    intro i hi
    refine ev_succ (ev_now fun k => ?_)
    rw [codewrightref04_Order.l0, if_neg (by omega), hqd, show i = D.m by omega]
  | succ d ih =>
    intro i hi
    have h1 : 0 < P ^ i := Int.pow_pos (by omega)
    have h2 : P ^ i * P ≤ 256 := by
      have h3 := pow_le D.toPr (show i + 1 ≤ D.m by omega)
      rw [hp, Int.pow_succ] at h3
      omega
    have h4 : P ^ i ≤ 256 / P := (Int.le_ediv_iff_mul_le (by omega)).2 h2
    have h5 : 256 / P ≤ 256 := Int.ediv_le_self _ (by omega)
    have h6 : 0 < P ^ i * P := Int.mul_pos h1 (by omega)
    have h7 : 0 ≤ 256 / P := Int.ediv_nonneg (by omega) (by omega)
    refine Ev.step (fun k => ?_) (ih (i + 1) (by omega))
    rw [codewrightref04_Order.l0, if_pos (by omega), if_neg (by omega), Int.tdiv_eq_ediv_of_nonneg (a := (256 : Int)) (by omega), w64 (x := 256 / P) (by omega) (by omega), if_neg (by omega), w64 (x := P ^ i * P) (by omega) (by omega), w64 (by omega) (by omega), Int.pow_succ]
    rfl
theorem Order_eq (h : Desc D P M Mod) : Ev (fun k => codewrightref04_Order.f k P M Mod) D.q := by
  have hp2 := h.p2
  have hm1 := h.m1
  have hm8 := h.hm8
  refine Ev.congr (fun k => by unfold codewrightref04_Order.f; rw [if_neg (by omega), if_neg (by omega), decide_eq_false (by omega)]) ?_
  refine Ev.step (fun k => by rw [codewrightref04_Order.j0, if_neg (by simp)]) ?_
  have := Order_l0 h D.m 0 (by omega)
  rwa [Int.pow_zero] at this
theorem Is_eq (h : Desc D P M Mod) (x : Int) : Ev (fun k => codewrightref04_Is.f k P M Mod x) (decide (0 ≤ x ∧ x < D.q)) := by
  unfold codewrightref04_Is.f
  by_cases e : x ≥ 0
  · refine Ev.congr (fun k => by rw [if_pos e]) (Ev.bind (Order_eq h) (ev_now fun k => ?_))
    congr 1
    rw [decide_eq_decide]
    exact ⟨fun h => ⟨e, h⟩, fun h => h.2⟩
  · refine ev_now fun k => ?_
    rw [if_neg e]
    congr 1
    symm
    rw [decide_eq_false_iff_not]
    omega
theorem In_eq (h : Desc D P M Mod) (x : Int) : Ev (fun k => codewrightref04_In.f k P M Mod x) (inn D x).1 := by
  unfold codewrightref04_In.f
  refine Ev.bind (Is_eq h x) (ev_now fun k => ?_)
  rw [inn_val]
  by_cases e : 0 ≤ x ∧ x < D.q
  · rw [if_pos (by simpa using e), if_pos e]
  · rw [if_neg (by simpa using e), if_neg e]
/-- digits: the n lowest digits. -/
theorem digits_l0 {p : Int} (hp : 2 ≤ p) {n : Int} (hn : n ≤ 1000) {x : Int} (hx : 0 ≤ x) (hx' : x < 9223372036854775808) : ∀ (d : Nat) (i : Nat) (out : List Int), (i : Int) + d = n → (out.length : Int) = n → (∀ j : Int, 0 ≤ j → j < i → rd out j = x / p ^ j.toNat % p) →
    ∃ r, Ev (fun k => codewrightref04_digits.l0 k (x / p ^ i) p n out i) r ∧ ((r.length : Int) = n ∧ ∀ j : Int, 0 ≤ j → j < n → rd r j = x / p ^ j.toNat % p) := by
  intro d
  induction d with
  | zero =>
    intro i out hi hl h
    exact ⟨out, ev_succ (ev_now fun k => by rw [codewrightref04_digits.l0, if_neg (by omega)]), hl, fun j h1 h2 => h j h1 (by omega)⟩
  | succ d ih =>
    intro i out hi hl h
    have hpi : 0 < p ^ i := Int.pow_pos (by omega)
    have h0 : 0 ≤ x / p ^ i := Int.ediv_nonneg hx (by omega)
    have h1 : x / p ^ i ≤ x := Int.ediv_le_self _ hx
    have h2 : 0 ≤ x / p ^ i / p := Int.ediv_nonneg h0 (by omega)
    have h3 : x / p ^ i / p ≤ x / p ^ i := Int.ediv_le_self _ h0
    have h4 := Int.emod_lt_of_pos (x / p ^ i) (show 0 < p by omega)
    obtain ⟨r, hr, hq⟩ := ih (i + 1) (out.set i (x / p ^ i % p)) (by omega) (by rw [List.length_set]; exact hl) (by
      intro j h1 h2
      by_cases e : j = i
      · subst e
        rw [show out.set i (x / p ^ i % p) = out.set ((i : Int)).toNat (x / p ^ i % p) from rfl, rd_set_self (by omega) (by omega)]
        rfl
      · rw [show out.set i (x / p ^ i % p) = out.set ((i : Int)).toNat (x / p ^ i % p) from rfl, rd_set_ne (by omega) h1 (by omega)]
        exact h j h1 (by omega))
    refine ⟨r, Ev.step (fun k => ?_) hr, hq⟩
    rw [codewrightref04_digits.l0, if_pos (by omega), if_neg (by omega), if_pos (by omega), if_pos (by omega), tmod_nn h0, Int.tdiv_eq_ediv_of_nonneg h0, w64 (by omega) (by omega), w64 (by omega) (by omega), Int.ediv_ediv, if_neg (by omega), Int.sub_zero, ← Int.pow_succ]
    rfl
theorem digits_eq {p : Int} (hp : 2 ≤ p) {n : Int} (hn0 : 0 ≤ n) (hn : n ≤ 1000) {x : Int} (hx : 0 ≤ x) (hx' : x < 9223372036854775808) :
    ∃ r, Ev (fun k => codewrightref04_digits.f k x p n) r ∧ ((r.length : Int) = n ∧ ∀ j : Int, 0 ≤ j → j < n → rd r j = x / p ^ j.toNat % p) := by
  obtain ⟨r, hr, hq⟩ := digits_l0 hp hn hx hx' n.toNat 0 (List.replicate n.toNat 0) (by omega) (by simp; omega) (fun j h1 h2 => by omega)
  rw [show x / p ^ 0 = x by rw [Int.pow_zero, Int.ediv_one]] at hr
  exact ⟨r, Ev.congr (fun k => by unfold codewrightref04_digits.f; rw [if_pos hn0, if_pos (by omega)]; rfl) hr, hq⟩
theorem digits_elem (h : Desc D P M Mod) (a : GF D) : Ev (fun k => codewrightref04_digits.f k a.1 P M) (digL a) := by
  have hp2 := h.p2
  have hm := h.hm
  have hm8 := h.hm8
  have hlt := a.lt h
  obtain ⟨r, hr, h1, h2⟩ := digits_eq (p := P) (n := M) (x := a.1) hp2 (by omega) (by omega) hlt.1 (by omega)
  have e : r = digL a := by
    apply list_ext_rd
    · rw [digL_length]; omega
    · intro i hi hi'
      rw [h2 i hi (by omega), digL_div a hi (by omega), h.hp]
  rwa [e] at hr
theorem Digits_eq (h : Desc D P M Mod) (x : Int) : Ev (fun k => codewrightref04_Digits.f k P M Mod x) (digL (inn D x)) := by
  unfold codewrightref04_Digits.f
  exact Ev.bind (In_eq h x) (Ev.bind (digits_elem h _) (ev_now fun k => rfl))
theorem drop_rd {l : List Int} {i : Nat} (h : i < l.length) : l.drop i = rd l i :: l.drop (i + 1) := by
  rw [List.drop_eq_getElem_cons h]
  unfold rd
  rw [List.getD_eq_getElem?_getD, show ((i : Int)).toNat = i from rfl, List.getElem?_eq_getElem h]
  rfl
theorem Value_l0 {p : Int} (hp : 2 ≤ p) {l : List Int} (hl : ∀ d ∈ l, 0 ≤ d ∧ d < p) (hb : p ^ l.length ≤ 1000000) (hll : l.length ≤ 1000) : ∀ (i : Nat), i ≤ l.length →
    Ev (fun k => codewrightref04_Value.l0 k l (lval p (l.drop i)) ((i : Int) - 1) p M Mod) (lval p l) := by
  intro i
  induction i with
  | zero => intro _; exact ev_succ (ev_now fun k => by rw [codewrightref04_Value.l0, if_neg (by omega)]; rfl)
  | succ i ih =>
    intro hi
    have e : lval p (l.drop i) = lval p (l.drop (i + 1)) * p + rd l i := by
      rw [drop_rd (by omega), lval_cons, Int.mul_comm, Int.add_comm]
    have hd := hl _ (rd_mem (i := (i : Int)) (by omega) (by omega))
    have hpl : p ≤ p ^ l.length := by
      obtain ⟨k, hk⟩ : ∃ k, l.length = k + 1 := ⟨l.length - 1, by omega⟩
      have h1 : 0 < p ^ k := Int.pow_pos (by omega)
      have := Int.mul_le_mul_of_nonneg_right (show 1 ≤ p ^ k by omega) (show 0 ≤ p by omega)
      rw [hk, Int.pow_succ]; omega
    have hbd : ∀ j, 0 ≤ lval p (l.drop j) ∧ lval p (l.drop j) < 1000000 := by
      intro j
      have h1 := lval_bd hp (l := l.drop j) (fun d hd => hl d (List.mem_of_mem_drop hd))
      have h2 : p ^ (l.drop j).length ≤ p ^ l.length := by
        rw [List.length_drop]
        obtain ⟨k, hk⟩ : ∃ k, l.length = (l.length - j) + k := ⟨l.length - (l.length - j), by omega⟩
        conv => rhs; rw [hk, Int.pow_add]
        have h3 : 0 < p ^ (l.length - j) := Int.pow_pos (by omega)
        have h4 : 0 < p ^ k := Int.pow_pos (by omega)
        have := Int.mul_le_mul_of_nonneg_left (show 1 ≤ p ^ k by omega) (show 0 ≤ p ^ (l.length - j) by omega)
        omega
      omega
    have b1 := hbd (i + 1)
    have b2 := hbd i
    refine Ev.step (fun k => ?_) (ih (by omega))
    rw [codewrightref04_Value.l0, if_pos (by omega), if_pos (by omega), if_pos (by omega), show ((i + 1 : Nat) : Int) - 1 = (i : Int) by omega, w64 (x := lval p (l.drop (i + 1)) * p) (by omega) (by omega), ← e, w64 (x := lval p (l.drop i)) (by omega) (by omega), w64 (by omega) (by omega)]
theorem Value_eq {p : Int} (hp : 2 ≤ p) {l : List Int} (hl : ∀ d ∈ l, 0 ≤ d ∧ d < p) (hb : p ^ l.length ≤ 1000000) (hl' : l.length ≤ 1000) : Ev (fun k => codewrightref04_Value.f k p M Mod l) (lval p l) := by
  have := Value_l0 (M := M) (Mod := Mod) hp hl hb hl' l.length (Nat.le_refl _)
  rw [List.drop_length] at this
  refine Ev.congr (fun k => ?_) this
  unfold codewrightref04_Value.f
  rw [w64 (by omega) (by omega)]
  rfl
theorem Value_elem (h : Desc D P M Mod) {l : List Int} (hl : l.length = D.m) (hd : ∀ d ∈ l, 0 ≤ d ∧ d < D.p) : Ev (fun k => codewrightref04_Value.f k P M Mod l) (gval D (lp D.toPr l)).1 := by
  have hq := h.hq
  have e : D.p ^ l.length = D.q := by rw [hl]; rfl
  have := Value_eq (M := M) (Mod := Mod) (p := P) h.p2 (l := l) (by rw [← h.hp]; exact hd) (by rw [← h.hp, e]; omega) (by have := h.hm; have := h.hm8; omega)
  rwa [← h.hp, lval_elem hl hd, h.hp] at this
end
end Go.Proofs.Ytibbdjkboglepaa.MyQBchRoots

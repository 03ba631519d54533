/- The program's powers (layer 4): the powers of a residue till one repeats. No further condition. -/
import Derived.Test.YtibbdjkboglepaaPMulQBchRoots
import Derived.Test.YtibbdjkboglepaaQBchRootsx3
set_option linter.unusedVariables false
set_option linter.unusedSimpArgs false
set_option linter.unusedSectionVars false
namespace Go.Proofs.Ytibbdjkboglepaa.MyQBchRoots
open Go.RowKit Go.Proofs.YtibbdjkboglepaaW.PrintWords Go.Proofs.YtibbdjkboglepaaW.PrintMore Go.Proofs.Ytibbdjkboglepaa.My Go.Proofs.Ytibbdjkboglepaa.Alg Go.Proofs.Ytibbdjkboglepaa.QBchRoots
section
variable {Q : Pr} {m : Nat} {F : Pol (Zp Q)} {P M : Int} {Mod : List Int}
/-- A residue. -/
def Res (P : Int) (m : Nat) (x : Int) : Prop := 0 ≤ x ∧ x < P ^ m
open Classical in
/-- The product of two residues. -/
noncomputable def rmul (F : Pol (Zp Q)) (m : Nat) (x y : Int) : Int := if h : ∃ r, Res Q.p m r ∧ Cong F (pmul (dig Q x) (dig Q y)) (dig Q r) then h.choose else 0
theorem RC.rmul (h : RC Q m F P M Mod) {x y : Int} (hx : Res P m x) (hy : Res P m y) : Ev (fun k => field_multiply.f k P M Mod x y) (MyQBchRoots.rmul F m x y) ∧ Res P m (MyQBchRoots.rmul F m x y) ∧ Cong F (pmul (dig Q x) (dig Q y)) (dig Q (MyQBchRoots.rmul F m x y)) := by
  obtain ⟨r, he, h0, h1, hc⟩ := multiply_cong h hx.1 hx.2 hy.1 hy.2
  have hp := h.hp
  have hex : ∃ r, Res Q.p m r ∧ Cong F (pmul (dig Q x) (dig Q y)) (dig Q r) := ⟨r, by rw [hp]; exact ⟨h0, h1⟩, hc⟩
  have e : MyQBchRoots.rmul F m x y = r := by
    unfold MyQBchRoots.rmul
    rw [dif_pos hex]
    have hs := hex.choose_spec
    rw [← hp] at h1
    exact dig_inj m hs.1.1 hs.1.2 h0 h1 ((hs.2.symm.trans hc).unique h.mon (dig_deg m _ hs.1.1 hs.1.2) (dig_deg m _ h0 h1))
  rw [e]
  exact ⟨he, ⟨h0, h1⟩, hc⟩
theorem RC.eq (h : RC Q m F P M Mod) {x y : Int} (hx : Res P m x) (hy : Res P m y) (hc : Cong F (dig Q x) (dig Q y)) : x = y := by
  have hp := h.hp
  unfold Res at hx hy
  rw [← hp] at hx hy
  exact dig_inj m hx.1 hx.2 hy.1 hy.2 (hc.unique h.mon (dig_deg m _ hx.1 hx.2) (dig_deg m _ hy.1 hy.2))
theorem dig_one : dig Q 1 = C (1 : Zp Q) := by
  have h2 := Q.two
  funext t
  show of Q (1 / Q.p ^ t) = if t = 0 then 1 else 0
  by_cases e : t = 0
  · subst e
    rw [if_pos rfl, Int.pow_zero, Int.ediv_one]
    rfl
  · rw [if_neg e]
    have h1 : Q.p ^ 1 ≤ Q.p ^ t := pow_le Q (by omega)
    rw [Int.pow_succ, Int.pow_zero, Int.one_mul] at h1
    rw [Int.ediv_eq_zero_of_lt (by omega) (by omega)]
    rfl
theorem RC.res1 (h : RC Q m F P M Mod) : Res P m 1 := by
  have h2 := Q.two
  have h1 : Q.p ^ 1 ≤ Q.p ^ m := pow_le Q h.m1
  rw [Int.pow_succ, Int.pow_zero, Int.one_mul, h.hp] at h1
  have := h.hp
  exact ⟨by omega, by omega⟩
theorem RC.one_rmul (h : RC Q m F P M Mod) {x : Int} (hx : Res P m x) : MyQBchRoots.rmul F m 1 x = x := by
  obtain ⟨_, h1, h2⟩ := h.rmul h.res1 hx
  rw [dig_one, C_one_pmul] at h2
  exact (h.eq hx h1 h2).symm
/-- The powers of a residue. -/
noncomputable def rpow (F : Pol (Zp Q)) (m : Nat) (x : Int) : Nat → Int
  | 0 => 1
  | n + 1 => rmul F m (rpow F m x n) x
theorem RC.rpow (h : RC Q m F P M Mod) {x : Int} (hx : Res P m x) (n : Nat) : Res P m (MyQBchRoots.rpow F m x n) := by
  induction n with
  | zero => exact h.res1
  | succ n ih => exact (h.rmul ih hx).2.1
/-- What powers hands back. -/
def PowersOf (F : Pol (Zp Q)) (m : Nat) (P x : Int) (L : List Int) : Prop := ∃ n : Nat, 1 ≤ n ∧ L = (List.range n).map (MyQBchRoots.rpow F m x) ∧ L.Nodup ∧ (∀ y ∈ L, 0 < y ∧ y < P ^ m) ∧ (MyQBchRoots.rpow F m x n = 0 ∨ MyQBchRoots.rpow F m x n ∈ L)
theorem nodup_snoc {l : List Int} {a : Int} (h : l.Nodup) (ha : a ∉ l) : (l ++ [a]).Nodup := by
  rw [List.nodup_append]
  exact ⟨h, by simp, fun x hx y hy => by rw [List.mem_singleton] at hy; subst hy; exact fun e => ha (e ▸ hx)⟩
theorem short {q : Int} {l : List Int} (h : l.Nodup) (hm : ∀ y ∈ l, 0 < y ∧ y < q) : (l.length : Int) < q ∨ l = [] := by
  cases l with
  | nil => exact .inr rfl
  | cons a t =>
    left
    have ha := hm a List.mem_cons_self
    have := nodup_le (l' := (List.range (q.toNat - 1)).map fun i : Nat => (i : Int) + 1) h (fun y hy => List.mem_map.2 ⟨(y - 1).toNat, List.mem_range.2 (by have := hm y hy; omega), by have := hm y hy; omega⟩)
    rw [List.length_map, List.length_range] at this
    omega
theorem powers_l0 (h : RC Q m F P M Mod) {x : Int} (hx : Res P m x) : ∀ (d n : Nat) (L : List Int) (seen : List Bool), (d : Int) + n = P ^ m → 1 ≤ n → L = (List.range n).map (MyQBchRoots.rpow F m x) → L.Nodup → (∀ y ∈ L, 0 < y ∧ y < P ^ m) →
    (seen.length : Int) = P ^ m → (∀ y : Int, 0 ≤ y → y < P ^ m → (rdOf false seen y = true ↔ y ∈ L)) →
    ∃ L', Ev (fun k => field_powers.l0 k x L seen (MyQBchRoots.rpow F m x n) P M Mod) L' ∧ PowersOf F m P x L' := by
  have hq := h.hq
  intro d
  induction d with
  | zero =>
    intro n L seen hd hn hL hnd hm hsl hs
    exfalso
    have := short hnd hm
    rw [hL, List.length_map, List.length_range] at this
    rcases this with h1 | h1
    · omega
    · have := congrArg List.length h1
      rw [List.length_map, List.length_range] at this
      simp at this
      omega
  | succ d ih =>
    intro n L seen hd hn hL hnd hm hsl hs
    have hr := h.rpow hx n
    by_cases e0 : MyQBchRoots.rpow F m x n = 0
    · exact ⟨L, Ev.step (fun k => by rw [field_powers.l0, if_pos e0]) (Ev.now _), n, hn, hL, hnd, hm, .inl e0⟩
    · by_cases e1 : rdOf false seen (MyQBchRoots.rpow F m x n) = true
      · exact ⟨L, Ev.step (fun k => by rw [field_powers.l0, if_neg e0, if_pos hr.1, if_pos (by rw [hsl]; exact hr.2), if_pos e1]) (Ev.now _), n, hn, hL, hnd, hm, .inr ((hs _ hr.1 hr.2).1 e1)⟩
      · have hni : MyQBchRoots.rpow F m x n ∉ L := fun hc => e1 ((hs _ hr.1 hr.2).2 hc)
        obtain ⟨he, _⟩ := h.rmul hr hx
        have hll : L.length = n := by rw [hL, List.length_map, List.length_range]
        obtain ⟨L', h1, h2⟩ := ih (n + 1) (L ++ [MyQBchRoots.rpow F m x n]) (seen.set (MyQBchRoots.rpow F m x n).toNat true) (by omega) (by omega) (by rw [List.range_succ, List.map_append, hL]; rfl) (nodup_snoc hnd hni)
          (fun y hy => by
            rcases List.mem_append.1 hy with h3 | h3
            · exact hm y h3
            · rw [List.mem_singleton] at h3; subst h3; exact ⟨by have := hr.1; omega, hr.2⟩)
          (by rw [List.length_set]; exact hsl)
          (fun y h0 hy => by
            by_cases e2 : MyQBchRoots.rpow F m x n = y
            · rw [← e2, rdOf_set_self hr.1 (by rw [hsl]; exact hr.2)]
              simp
            · rw [rdOf_set_ne hr.1 h0 e2, hs y h0 hy]
              rw [List.mem_append, List.mem_singleton]
              exact ⟨Or.inl, fun h => h.elim id (fun e => absurd e.symm e2)⟩)
        refine ⟨L', Ev.step (fun k => ?_) (Ev.bind (f := fun k t => field_powers.l0 k x (L ++ [MyQBchRoots.rpow F m x n]) (seen.set (MyQBchRoots.rpow F m x n).toNat true) t P M Mod) he h1), h2⟩
        rw [field_powers.l0, if_neg e0, if_pos hr.1, if_pos (by rw [hsl]; exact hr.2), if_neg e1, if_pos (by omega)]
theorem powers_eq (h : RC Q m F P M Mod) {x : Int} (hx : Res P m x) : ∃ L, Ev (fun k => field_powers.f k P M Mod (P ^ m) x) L ∧ PowersOf F m P x L := by
  have hq := h.hq
  have h1 := h.res1
  have hp1 : MyQBchRoots.rpow F m x 1 = x := h.one_rmul hx
  obtain ⟨L, h2, h3⟩ := powers_l0 h hx ((P ^ m).toNat - 1) 1 [1] ((List.replicate (P ^ m).toNat false).set (1 : Int).toNat true) (by have := h1.2; omega) (Nat.le_refl 1) rfl (by simp) (fun y hy => by rw [List.mem_singleton] at hy; subst hy; exact ⟨by omega, h1.2⟩)
    (by rw [List.length_set, List.length_replicate]; have := h1.2; omega)
    (fun y h0 hy => by
      by_cases e : (1 : Int) = y
      · rw [← e, rdOf_set_self (by omega) (by rw [List.length_replicate]; have := h1.2; omega)]
        simp
      · rw [rdOf_set_ne (by omega) h0 e]
        have : rdOf false (List.replicate (P ^ m).toNat false) y = false := by
          unfold rdOf
          rw [List.getD_eq_getElem?_getD, List.getElem?_replicate]
          split <;> rfl
        rw [this]
        simp
        exact fun e' => e e'.symm)
  rw [hp1] at h2
  refine ⟨L, Ev.congr (fun k => ?_) h2, h3⟩
  unfold field_powers.f
  have := h1.2
  rw [if_pos (by omega), if_pos (by omega)]
  simp only [Option.bind_some, List.length_replicate]
  rw [if_pos (by omega)]
end
end Go.Proofs.Ytibbdjkboglepaa.MyQBchRoots

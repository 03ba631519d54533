import Derived.Test.YtibbdjkboglepaaM4
import Derived.Maps.OwnIn
set_option maxHeartbeats 8000000
set_option maxRecDepth 100000
set_option linter.unusedVariables false
set_option linter.unusedSimpArgs false
set_option linter.unusedSectionVars false
namespace Go.Proofs.Ytibbdjkboglepaa.MyQBchZeros
open Go Go.RowKit Go.Proofs.YtibbdjkboglepaaW.PrintWords Go.Proofs.YtibbdjkboglepaaW.PrintLast Go.Proofs.YtibbdjkboglepaaW.PrintMore Go.Proofs.Ytibbdjkboglepaa.My Go.Proofs.Ytibbdjkboglepaa.Alg Go.Proofs.Ytibbdjkboglepaa.MyQBchRoots Go.Proofs.Ytibbdjkboglepaa.QBchRoots Go.Proofs.Ytibbdjkboglepaa.QBchZeros Go.Proofs.Ytibbdjkboglepaa.QMat
def fk (E : Nat → Nat → Int) (c : Nat) : Nat → Nat → Nat
 | 0, k => k
 | d + 1, k => if E k c = 0 then fk E c d (k + 1) else k
section
variable {D : FD} {P M : Int} {Mod : List Int}
noncomputable def normE (D : FD) (E : Nat → Nat → Int) (p c : Nat) : Nat → Nat → Int := if E p c = 1 then E else setF E p (scF D (Alg.inv (inn D (E p c))).1 (E p))
noncomputable def clr1 (D : FD) (p c i : Nat) (E : Nat → Nat → Int) : Nat → Nat → Int := if i ≠ p ∧ E i c ≠ 0 then setF E i (adF D (E i) (-inn D (E i c)).1 (E p)) else E
noncomputable def clr (D : FD) (p c : Nat) : Nat → Nat → (Nat → Nat → Int) → (Nat → Nat → Int)
 | 0, _, E => E
 | d + 1, i, E => clr D p c d (i + 1) (clr1 D p c i E)
noncomputable def stepE (D : FD) (m p c k : Nat) (E : Nat → Nat → Int) : Nat → Nat → Int := clr D p c m 0 (normE D (swapF E p k) p c)
noncomputable def elimF (D : FD) (m : Nat) : Nat → Nat → (Nat → Nat → Int) → List Int → (Nat → Nat → Int) × List Int
 | 0, _, E, pv => (E, pv)
 | d + 1, c, E, pv => if pv.length < m then (if fk E c (m - pv.length) pv.length = m then elimF D m d (c + 1) E pv else elimF D m d (c + 1) (stepE D m pv.length c (fk E c (m - pv.length) pv.length) E) (pv ++ [(c : Int)])) else (E, pv)
def Elm (D : FD) (m N : Nat) (E : Nat → Nat → Int) : Prop := ∀ i j, i < m → j < N → 0 ≤ E i j ∧ E i j < D.q
variable {m N : Nat} {E : Nat → Nat → Int}
theorem Elm.swap (h : Elm D m N E) {i k : Nat} (hi : i < m) (hk : k < m) : Elm D m N (swapF E i k) := fun r j hr hj => by
 rw [swapF_sg]
 exact h _ j (sg_lt hi hk hr) hj
theorem Elm.set (h : Elm D m N E) {i : Nat} {f : Nat → Int} (hf : ∀ j, j < N → 0 ≤ f j ∧ f j < D.q) : Elm D m N (setF E i f) := fun r j hr hj => by
 unfold setF
 split
 ·exact hf j hj
 ·exact h r j hr hj
theorem Elm.ad (h : Elm D m N E) {i p : Nat} (hi : i < m) (a : Int) : ∀ j, j < N → 0 ≤ adF D (E i) a (E p) j ∧ adF D (E i) a (E p) j < D.q := fun j hj => by
 unfold adF
 split
 ·exact h i j hi hj
 ·exact (inn D _ + inn D _ * inn D _).2
theorem Elm.clr1 (h : Elm D m N E) {p c i : Nat} (hi : i < m) : Elm D m N (clr1 D p c i E) := by
 unfold MyQBchZeros.clr1
 split
 ·exact h.set (h.ad hi _)
 ·exact h
theorem swapF_self {α : Type} (F : Nat → α) (i : Nat) : swapF F i i = F := by
 funext r
 unfold swapF
 by_cases e : r = i
 ·rw [if_pos e, e]
 ·rw [if_neg e, if_neg e]
theorem inv_one {x : Int} (h0 : 0 ≤ x) (h1 : x < D.q) (hx : inn D x ≠ 0) : (Alg.inv (inn D x)).1 = 1 ↔ x = 1 := by
 have hv := inn_of h0 h1
 constructor
 ·intro e
  have e2 : Alg.inv (inn D x) = 1 := GF.val_one.1 e
  have e3 := Alg.mul_inv (inn D x) hx
  rw [e2, Alg.mul_one] at e3
  rw [← hv, e3]; rfl
 ·intro e
  subst e
  rw [inn_one] at hx ⊢
  rw [Alg.inv_unique hx (Alg.mul_one 1)]; rfl
def Bx (w W : World) (bs : Nat → Nat) (m b : Nat) (v : Value) : Prop := W.heap[b]? = some (.cells #[v] 3 (0, 0)) ∧ w.heap.size ≤ b ∧ ∀ r, r < m → bs r ≠ b
structure ESt (D : FD) (P M : Int) (Mod : List Int) (w0 : World) (g : Nat) (γ : GF D) (w : World) (S0 : Nat → Prop) (b4 b5 b7 : Nat) (A : Option Addr) (m c N R : Nat) (W : World) (bs : Nat → Nat) (E : Nat → Nat → Int) : Prop where
 F : Fs D P M Mod w0 W g γ
 Mt : Mat W w0.heap.size R bs m N E
 K : Kept w W S0
 own : ∀ r, r < m → S0 (bs r) ∨ w.heap.size ≤ bs r
 h4 : W.heap[b4]? = some (.cells #[.pointer (some ⟨g, 0, none⟩)] 63 (0, 0))
 h5 : W.heap[b5]? = some (.cells #[.slice A m c] 47 (0, 0))
 h7 : W.heap[b7]? = some (.cells #[.slice none 0 0] 47 (0, 0))
 ok : Elm D m N E
 hw : w0.heap.size ≤ w.heap.size
 sg : S0 g
 sR : 0 < m → S0 R
variable {w0 w W W1 : World} {g b4 b5 b7 c R : Nat} {γ : GF D} {S0 : Nat → Prop} {A : Option Addr} {bs : Nat → Nat}
theorem Bx.cell {b : Nat} {v : Value} (h : Bx w W bs m b v) : W.cell? ⟨b, 0, none⟩ = some v := bc0 h.1
theorem Bx.froz {b : Nat} {v : Value} (h : Bx w W bs m b v) : W.frozen? ⟨b, 0, none⟩ = false := blk_frozen h.1 0
theorem Bx.lt {b : Nat} {v : Value} (h : Bx w W bs m b v) : b < W.heap.size := blk_lt h.1
theorem Bx.kept {b : Nat} {v : Value} {S : Nat → Prop} (h : Bx w W bs m b v) (hk : Kept W W1 S) (hs : ¬ S b) : Bx w W1 bs m b v := ⟨blk_kept h.1 hk hs, h.2⟩
theorem Bx.below {b : Nat} {v : Value} (h : Bx w W bs m b v) (hb : Below W.heap.size W W1) : Bx w W1 bs m b v := ⟨blk_below h.1 hb, h.2⟩
theorem Bx.swap {b i k : Nat} {v : Value} (h : Bx w W bs m b v) (hi : i < m) (hk : k < m) : Bx w W (swapF bs i k) m b v := ⟨h.1, h.2.1, fun r hr => by rw [swapF_sg]; exact h.2.2 _ (sg_lt hi hk hr)⟩
theorem Bx.rows {b : Nat} {v : Value} {bs' : Nat → Nat} (h : Bx w W bs m b v) (hr : ∀ r, bs' r = bs r ∨ W.heap.size ≤ bs' r) : Bx w W bs' m b v := ⟨h.1, h.2.1, fun r hr' => by
 rcases hr r with e | e
 ·rw [e]; exact h.2.2 r hr'
 ·have := h.lt; omega⟩
theorem Bx.neG {b : Nat} {v : Value} (h : Bx w W bs m b v) (hF : Fs D P M Mod w0 W g γ) : b ≠ g := by
 obtain ⟨cs, hb⟩ := hF.blk
 exact blk_ne h.1 hb (by decide)
theorem Bx.neR {b base : Nat} {v : Value} (h : Bx w W bs m b v) (hM : Mat W base R bs m N E) (hm : 0 < m) : b ≠ R := by
 obtain ⟨cs, hb, _⟩ := hM.hd hm
 exact blk_ne h.1 hb (by decide)
theorem Bx.put {b : Nat} {v : Value} (h : Bx w W bs m b v) (u : Value) : Bx w (W.setCell ⟨b, 0, none⟩ u) bs m b u := ⟨by simpa using blk_set h.1 0 u, h.2⟩
theorem Bx.far {b b' : Nat} {v : Value} (h : Bx w W bs m b v) (hne : b ≠ b') (u : Value) : Bx w (W.setCell ⟨b', 0, none⟩ u) bs m b v := ⟨blk_far h.1 hne u, h.2⟩
theorem ESt.new (h : ESt D P M Mod w0 g γ w S0 b4 b5 b7 A m c N R W bs E) {b : Nat} {v : Value} (hb : W1.heap[b]? = some (.cells #[v] 3 (0, 0))) (he : b = W.heap.size) : Bx w W1 bs m b v :=
 ⟨hb, by rw [he]; exact h.K.1, fun r hr e => by have := h.Mt.lt hr; omega⟩
theorem ESt.step {S : Nat → Prop} (h : ESt D P M Mod w0 g γ w S0 b4 b5 b7 A m c N R W bs E) (hk : Kept W W1 S) (hF : Fs D P M Mod w0 W1 g γ) {bs' : Nat → Nat} {E' : Nat → Nat → Int} (hM : Mat W1 w0.heap.size R bs' m N E') (hE : Elm D m N E')
  (hs : ∀ k, S k → S0 k ∨ w.heap.size ≤ k) (hown : ∀ r, r < m → S0 (bs' r) ∨ w.heap.size ≤ bs' r) (n4 : ¬ S b4) (n5 : ¬ S b5) (n7 : ¬ S b7) : ESt D P M Mod w0 g γ w S0 b4 b5 b7 A m c N R W1 bs' E' :=
 ⟨hF, hM, h.K.then_ hk hs, hown, blk_kept h.h4 hk n4, blk_kept h.h5 hk n5, blk_kept h.h7 hk n7, hE, h.hw, h.sg, h.sR⟩
theorem ESt.below (h : ESt D P M Mod w0 g γ w S0 b4 b5 b7 A m c N R W bs E) (hb : Below W.heap.size W W1) : ESt D P M Mod w0 g γ w S0 b4 b5 b7 A m c N R W1 bs E :=
 h.step (Kept.of_below hb (fun _ => False)) (h.F.below hb) (h.Mt.below hb) h.ok (fun _ h => h.elim) h.own id id id
theorem ESt.ne4 (h : ESt D P M Mod w0 g γ w S0 b4 b5 b7 A m c N R W bs E) {b : Nat} {cs : Array Value} {t : TypeId} (hb : W.heap[b]? = some (.cells cs t (0, 0))) (ht : t ≠ 63 ∧ t ≠ 47) : b4 ≠ b ∧ b5 ≠ b ∧ b7 ≠ b :=
 ⟨blk_ne h.h4 hb (Ne.symm ht.1), blk_ne h.h5 hb (Ne.symm ht.2), blk_ne h.h7 hb (Ne.symm ht.2)⟩
theorem ESt.neG (h : ESt D P M Mod w0 g γ w S0 b4 b5 b7 A m c N R W bs E) : b4 ≠ g ∧ b5 ≠ g ∧ b7 ≠ g := by
 obtain ⟨cs, hb⟩ := h.F.blk
 exact h.ne4 hb ⟨by decide, by decide⟩
theorem ESt.neRR (h : ESt D P M Mod w0 g γ w S0 b4 b5 b7 A m c N R W bs E) (hm : 0 < m) : b4 ≠ R ∧ b5 ≠ R ∧ b7 ≠ R := by
 obtain ⟨cs, hb, _⟩ := h.Mt.hd hm
 exact h.ne4 hb ⟨by decide, by decide⟩
theorem ESt.neB (h : ESt D P M Mod w0 g γ w S0 b4 b5 b7 A m c N R W bs E) {r : Nat} (hr : r < m) : b4 ≠ bs r ∧ b5 ≠ bs r ∧ b7 ≠ bs r := by
 obtain ⟨cs, hb, _⟩ := h.Mt.rw_ r hr
 exact h.ne4 hb ⟨by decide, by decide⟩
theorem ESt.fs (h : ESt D P M Mod w0 g γ w S0 b4 b5 b7 A m c N R W bs E) (hF : Fs D P M Mod w0 W1 g γ) (hk : KeepBut W W1 g none) : ESt D P M Mod w0 g γ w S0 b4 b5 b7 A m c N R W1 bs E :=
 h.step (kept_but hk) hF (h.Mt.fs h.F hk) h.ok (fun k e => .inl (by rw [e]; exact h.sg)) h.own h.neG.1 h.neG.2.1 h.neG.2.2
theorem ESt.put (h : ESt D P M Mod w0 g γ w S0 b4 b5 b7 A m c N R W bs E) {b : Nat} {v : Value} (hb : Bx w W bs m b v) (u : Value) : ESt D P M Mod w0 g γ w S0 b4 b5 b7 A m c N R (W.setCell ⟨b, 0, none⟩ u) bs E := by
 have hk : Kept W (W.setCell ⟨b, 0, none⟩ u) (fun k => k = b) := (Kept.refl W (fun k => k = b)).setCell (p := ⟨b, 0, none⟩) (.inl rfl) u
 have n := h.ne4 hb.1 ⟨by decide, by decide⟩
 exact h.step hk (h.F.store (hb.neG h.F) (Nat.le_trans h.hw hb.2.1) u) (h.Mt.kept hk (fun hm e => hb.neR h.Mt hm e.symm) (fun r hr => hb.2.2 r hr)) h.ok (fun k e => .inr (by rw [e]; exact hb.2.1)) h.own n.1 n.2.1 n.2.2
theorem ESt.c4 (h : ESt D P M Mod w0 g γ w S0 b4 b5 b7 A m c N R W bs E) : W.cell? ⟨b4, 0, none⟩ = some (.pointer (some ⟨g, 0, none⟩)) := bc0 h.h4
theorem ESt.c5 (h : ESt D P M Mod w0 g γ w S0 b4 b5 b7 A m c N R W bs E) : W.cell? ⟨b5, 0, none⟩ = some (.slice A m c) := bc0 h.h5
theorem ESt.c7 (h : ESt D P M Mod w0 g γ w S0 b4 b5 b7 A m c N R W bs E) : W.cell? ⟨b7, 0, none⟩ = some (.slice none 0 0) := bc0 h.h7
theorem ESt.drew (h : ESt D P M Mod w0 g γ w S0 b4 b5 b7 A m c N R W bs E) : ESt D P M Mod w0 g γ w S0 b4 b5 b7 A m c N R W.drew bs E := h.below (below_drew1 (Below.refl _ _))
def S5 (W : World) (b4 b5 ba R bp g m c N ch p cc : Nat) (x : Int) : Prop := W.cell? ⟨b4, 0, none⟩ = some (.pointer (some ⟨g, 0, none⟩)) ∧ W.cell? ⟨b5, 0, none⟩ = some (.slice (some ⟨R, 0, none⟩) m c) ∧ W.cell? ⟨ba, 0, none⟩ = some (.int .i64 (p : Int)) ∧ W.cell? ⟨R, p, none⟩ = some (.slice (some ⟨bp, 0, none⟩) N ch) ∧ W.cell? ⟨bp, cc, none⟩ = some (.int .i64 x)
theorem S5.kept {S : Nat → Prop} {ba bp ch p cc : Nat} {x : Int} (h : S5 W b4 b5 ba R bp g m c N ch p cc x) (hk : Kept W W1 S) (h4 : ¬ S b4) (h5 : ¬ S b5) (ha : ¬ S ba) (hR : ¬ S R) (hp : ¬ S bp) : S5 W1 b4 b5 ba R bp g m c N ch p cc x :=
 ⟨cellR h.1 hk h4, cellR h.2.1 hk h5, cellR h.2.2.1 hk ha, cellR h.2.2.2.1 hk hR, cellR h.2.2.2.2 hk hp⟩
theorem S5.below {ba bp ch p cc : Nat} {x : Int} (h : S5 W b4 b5 ba R bp g m c N ch p cc x) (hb : Below W.heap.size W W1) : S5 W1 b4 b5 ba R bp g m c N ch p cc x := h.kept (Kept.of_below hb (fun _ => False)) id id id id id
theorem ESt.s5 (h : ESt D P M Mod w0 g γ w S0 b4 b5 b7 (some ⟨R, 0, none⟩) m c N R W bs E) {ba p cc : Nat} (hb : Bx w W bs m ba (.int .i64 (p : Int))) (hp : p < m) (hc : cc < N) : ∃ ch, S5 W b4 b5 ba R (bs p) g m c N ch p cc (E p cc) := by
 obtain ⟨ch, _, h1, _⟩ := h.Mt.hcell hp
 exact ⟨ch, h.c4, h.c5, hb.cell, h1, (h.Mt.cell hp hc).1⟩
theorem ESt.s5fs (h : ESt D P M Mod w0 g γ w S0 b4 b5 b7 (some ⟨R, 0, none⟩) m c N R W bs E) {ba p cc ch : Nat} {v : Value} (hb : Bx w W bs m ba v) (hp : p < m) {x : Int} (hs : S5 W b4 b5 ba R (bs p) g m c N ch p cc x) (hk : KeepBut W W1 g none) : S5 W1 b4 b5 ba R (bs p) g m c N ch p cc x :=
 hs.kept (kept_but hk) h.neG.1 h.neG.2.1 (hb.neG h.F) (h.F.neR h.Mt (by omega)) (h.F.neB h.Mt hp)
def Piv (W : World) (base : Nat) (sz R g m : Nat) (bs : Nat → Nat) (v : Value) (pv : List Int) : Prop := Kd.R (Kd.int .i64) 3 W base (fun b => b < sz ∧ b ≠ R ∧ b ≠ g ∧ ∀ r, r < m → bs r ≠ b) v pv
theorem Piv.kept {S : Nat → Prop} {base sz : Nat} {v : Value} {pv : List Int} (h : Piv W base sz R g m bs v pv) (hk : Kept W W1 S) (hs : ∀ b, S b → sz ≤ b ∨ b = R ∨ b = g ∨ ∃ r, r < m ∧ bs r = b) : Piv W1 base sz R g m bs v pv :=
 Kd.R_kept h hk fun b hb hS => by
  obtain ⟨h1, h2, h3, h4⟩ := hb
  rcases hs b hS with e | e | e | ⟨r, hr, e⟩
  ·omega
  ·exact h2 e
  ·exact h3 e
  ·exact h4 r hr e
theorem Piv.below {base sz : Nat} {v : Value} {pv : List Int} (h : Piv W base sz R g m bs v pv) (hb : Below W.heap.size W W1) : Piv W1 base sz R g m bs v pv := Kd.R_below h hb
theorem Piv.put {base sz b : Nat} {v : Value} {pv : List Int} (h : Piv W base sz R g m bs v pv) (hb : sz ≤ b) (u : Value) : Piv (W.setCell ⟨b, 0, none⟩ u) base sz R g m bs v pv :=
 h.kept ((Kept.refl W (fun k => k = b)).setCell (p := ⟨b, 0, none⟩) (.inl rfl) u) fun k e => .inl (by have e2 : k = b := e; omega)
theorem Piv.swap {base sz i k : Nat} {v : Value} {pv : List Int} (h : Piv W base sz R g m bs v pv) (hi : i < m) (hk : k < m) : Piv W base sz R g m (swapF bs i k) v pv :=
 Kd.R_mono h fun b hb => ⟨hb.1, hb.2.1, hb.2.2.1, fun r hr => by rw [swapF_sg]; exact hb.2.2.2 _ (sg_lt hi hk hr)⟩
theorem Piv.rows {base sz : Nat} {v : Value} {pv : List Int} {bs' : Nat → Nat} (h : Piv W base sz R g m bs v pv) (hr : ∀ r, bs' r = bs r ∨ sz ≤ bs' r) : Piv W base sz R g m bs' v pv :=
 Kd.R_mono h fun b hb => ⟨hb.1, hb.2.1, hb.2.2.1, fun r hr2 => by
  rcases hr r with e | e
  ·rw [e]; exact hb.2.2.2 r hr2
  ·have := hb.1; omega⟩
theorem Bx.drew {b : Nat} {v : Value} (h : Bx w W bs m b v) : Bx w W.drew bs m b v := h
theorem Piv.drew {base sz : Nat} {v : Value} {pv : List Int} (h : Piv W base sz R g m bs v pv) : Piv W.drew base sz R g m bs v pv := Kd.R_drew h
theorem Piv.start (h : ESt D P M Mod w0 g γ w S0 b4 b5 b7 A m c N R W bs E) {v : Value} {pv : List Int} (hp : Kd.R (Kd.int .i64) 3 W w.heap.size (fun b => ∀ r, r < m → bs r ≠ b) v pv) (hm : 0 < m) : Piv W w.heap.size W.heap.size R g m bs v pv := by
 refine Ri_ok hp fun k hk => ⟨Kd.R_lt hp k hk, ?_, ?_, hp.1 k hk⟩
 ·obtain ⟨cs, hb, _⟩ := h.Mt.hd hm
  intro e
  exact Kd.R_ne hp hb (by decide) (by rw [hk, e])
 ·obtain ⟨cs, hb⟩ := h.F.blk
  intro e
  exact Kd.R_ne hp hb (by decide) (by rw [hk, e])
theorem ESt.grown (h : ESt D P M Mod w0 g γ w S0 b4 b5 b7 A m c N R W bs E) {row : Option Nat} (hg : W.grownBy W1 row) (hr : ∀ b, row = some b → w.heap.size ≤ b ∧ (∃ cs, W.heap[b]? = some (.cells cs 3 (0, 0))) ∧ ∀ r, r < m → bs r ≠ b) : ESt D P M Mod w0 g γ w S0 b4 b5 b7 A m c N R W1 bs E := by
 have hk : Kept W W1 (fun k => row = some k) := Kept.of_grown hg (Kept.refl W _) (fun k e => .inl e)
 have n : ∀ b, row = some b → b4 ≠ b ∧ b5 ≠ b ∧ b7 ≠ b := fun b e => by
  obtain ⟨_, ⟨cs, hb⟩, _⟩ := hr b e
  exact h.ne4 hb ⟨by decide, by decide⟩
 have ng : ∀ b, row = some b → b ≠ g := fun b e => by
  obtain ⟨_, ⟨cs, hb⟩, _⟩ := hr b e
  obtain ⟨cs', hb'⟩ := h.F.blk
  exact blk_ne hb hb' (by decide)
 refine h.step hk (h.F.kept hk (fun e => ng g e rfl) (h.F.B.grown hg h.F.B.size (fun k e => Nat.le_trans h.hw (hr k e).1))) (h.Mt.kept hk (fun hm e => ?_) (fun r hr2 e => (hr _ e).2.2 r hr2 rfl)) h.ok (fun k e => .inr (hr k e).1) h.own (fun e => (n _ e).1 rfl) (fun e => (n _ e).2.1 rfl) (fun e => (n _ e).2.2 rfl)
 obtain ⟨_, ⟨cs, hb⟩, _⟩ := hr R e
 obtain ⟨cs', hb', _⟩ := h.Mt.hd hm
 exact blk_ne hb hb' (by decide) rfl
theorem ESt.grownP (h : ESt D P M Mod w0 g γ w S0 b4 b5 b7 A m c N R W bs E) {sz : Nat} {v : Value} {pv : List Int} (hp : Piv W w.heap.size sz R g m bs v pv) (hg : W.grownBy W1 v.ownBlock) : ESt D P M Mod w0 g γ w S0 b4 b5 b7 A m c N R W1 bs E := by
 refine h.grown hg fun b e => ?_
 have hb := (Kd.R_bound hp).1 b e
 obtain ⟨h1, h2, h3, q, h4, cs, h5⟩ := hb
 have hq : q = 3 := by
  rcases List.mem_cons.1 h4 with e | e
  ·exact e
  ·exact absurd e List.not_mem_nil
 subst hq
 exact ⟨h2, ⟨cs, h5⟩, h1.2.2.2⟩
theorem ESt.swap (h : ESt D P M Mod w0 g γ w S0 b4 b5 b7 (some ⟨R, 0, none⟩) m c N R W bs E) {i k bk ba : Nat} (hi : i < m) (hk : k < m) (hbk : Bx w W bs m bk (.int .i64 (k : Int))) (hba : Bx w W bs m ba (.int .i64 (i : Int))) :
  Calls Try.prog 151 #[.func (.func 152) #[] #[.pointer (some ⟨bk, 0, none⟩), .pointer (some ⟨ba, 0, none⟩)], .pointer (some ⟨b5, 0, none⟩), .pointer (some ⟨b7, 0, none⟩)] W fun e w' => e = .returned (.tuple #[]) ∧
   (ESt D P M Mod w0 g γ w S0 b4 b5 b7 (some ⟨R, 0, none⟩) m c N R w' (swapF bs i k) (swapF E i k) ∧ Kept W w' (fun b => b = R)) := by
 have hm : 0 < m := by omega
 refine each_152 _ _ _ _ _ _ _ _ h.c5 ((swap_in h.F h.Mt hi hk c bk ba hbk.cell hba.cell (hbk.neR h.Mt hm) (hba.neR h.Mt hm)).mono ?_) (fun w' hq => hq.1.c7)
 rintro e w' ⟨rfl, hF, hM, hK⟩
 refine ⟨rfl, h.step hK hF hM (h.ok.swap hi hk) (fun k e => .inl (by rw [e]; exact h.sR hm)) (fun r hr => ?_) (h.neRR hm).1 (h.neRR hm).2.1 (h.neRR hm).2.2, hK⟩
 rw [swapF_sg]
 exact h.own _ (sg_lt hi hk hr)
theorem ESt.scale (h : ESt D P M Mod w0 g γ w S0 b4 b5 b7 (some ⟨R, 0, none⟩) m c N R W bs E) (hN1 : 1 ≤ N) (hN : N ≤ 1000000) {p ba bv : Nat} (hp : p < m) {a : Int} (hba : Bx w W bs m ba (.int .i64 (p : Int))) (hbv : Bx w W bs m bv (.int .i64 a)) :
  Calls Try.prog 151 #[.func (.func 155) #[] #[.pointer (some ⟨b4, 0, none⟩), .pointer (some ⟨bv, 0, none⟩), .pointer (some ⟨ba, 0, none⟩)], .pointer (some ⟨b5, 0, none⟩), .pointer (some ⟨b7, 0, none⟩)] W fun e w' => e = .returned (.tuple #[]) ∧
   (∃ bs', ESt D P M Mod w0 g γ w S0 b4 b5 b7 (some ⟨R, 0, none⟩) m c N R w' bs' (setF E p (scF D a (E p))) ∧ (∀ r, bs' r = bs r ∨ W.heap.size ≤ bs' r) ∧ Kept W w' (fun b => b = g ∨ b = R)) := by
 have hm : 0 < m := by omega
 refine each_155 _ _ _ _ _ _ _ _ _ h.c5 ((scale_in h.F h.Mt hN1 hN hp a c b4 bv ba h.c4 hbv.cell hba.cell h.neG.1 (hbv.neG h.F) (hba.neG h.F) (h.neRR hm).1 (hbv.neR h.Mt hm) (hba.neR h.Mt hm)).mono ?_) (fun w' hq => by obtain ⟨bs', hE, _⟩ := hq; exact hE.c7)
 rintro e w' ⟨rfl, hF, ⟨bs', hM, hb⟩, hK⟩
 refine ⟨rfl, bs', h.step hK hF hM (h.ok.set fun j _ => (inn D _ * inn D _).2) (fun k e => .inl (by rcases e with e | e; rw [e]; exact h.sg; rw [e]; exact h.sR hm)) (fun r hr => ?_) (fun e => e.elim h.neG.1 (h.neRR hm).1) (fun e => e.elim h.neG.2.1 (h.neRR hm).2.1) (fun e => e.elim h.neG.2.2 (h.neRR hm).2.2), hb, hK⟩
 rcases hb r with e | e
 ·rw [e]; exact h.own r hr
 ·exact .inr (Nat.le_trans h.K.1 e)
theorem ESt.addto (h : ESt D P M Mod w0 g γ w S0 b4 b5 b7 (some ⟨R, 0, none⟩) m c N R W bs E) (hN : N ≤ 1000000) {i p ba bi bx : Nat} (hi : i < m) (hp : p < m) (hne : i ≠ p) {x : Int} (hba : Bx w W bs m ba (.int .i64 (p : Int))) (hbi : Bx w W bs m bi (.int .i64 (i : Int))) (hbx : Bx w W bs m bx (.int .i64 x)) :
  Calls Try.prog 151 #[.func (.func 157) #[] #[.pointer (some ⟨b4, 0, none⟩), .pointer (some ⟨bi, 0, none⟩), .pointer (some ⟨bx, 0, none⟩), .pointer (some ⟨ba, 0, none⟩)], .pointer (some ⟨b5, 0, none⟩), .pointer (some ⟨b7, 0, none⟩)] W fun e w' => e = .returned (.tuple #[]) ∧
   (ESt D P M Mod w0 g γ w S0 b4 b5 b7 (some ⟨R, 0, none⟩) m c N R w' bs (setF E i (adF D (E i) (-inn D x).1 (E p))) ∧ Kept W w' (fun b => b = g ∨ b = bs i)) := by
 have hm : 0 < m := by omega
 refine each_157 _ _ _ _ _ _ _ _ _ _ h.c5 ((addto_in h.F h.Mt hN hi hp hne x c b4 bi bx ba h.c4 hbi.cell hbx.cell hba.cell h.neG.1 (hbi.neG h.F) (hbx.neG h.F) (hba.neG h.F) (h.neB hi).1 (Ne.symm (hbi.2.2 i hi)) (Ne.symm (hbx.2.2 i hi)) (Ne.symm (hba.2.2 i hi))).mono ?_) (fun w' hq => hq.1.c7)
 rintro e w' ⟨rfl, hF, hM, hK⟩
 exact ⟨rfl, h.step hK hF hM (h.ok.set (h.ok.ad hi _)) (fun k e => by rcases e with e | e; exact .inl (by rw [e]; exact h.sg); rw [e]; exact h.own i hi) h.own (fun e => e.elim h.neG.1 (h.neB hi).1) (fun e => e.elim h.neG.2.1 (h.neB hi).2.1) (fun e => e.elim h.neG.2.2 (h.neB hi).2.2), hK⟩
end
section
theorem eql_nil (ad : Addr) (n c : Nat) (w : World) : (binOp BinOp.eql 22 (Value.slice (some ad) n c) (Value.slice none 0 0)).run Try.prog w = .ok (.bool false) w := by
 have hu := Try.underlying22
 unfold binOp
 simp [Op.equal]
 rw [show Op.maxDepth = 9999 + 1 from rfl, Op.equalIn]
 simp [hu]
variable {w : World}
theorem Clone_in (ad : Addr) (c : Nat) (l : List Int) (hr : Kd.C (Kd.int .i64) w (some ad) l.length l) (hl : l.length ≤ 1000000) :
  Calls Try.prog 150 #[.slice (some ad) l.length c] w fun e w' => ∃ v, e = .returned v ∧ Kd.R (Kd.int .i64) 3 w' w.heap.size (fun _ => True) v l ∧ Below w.heap.size w w' := by
 have HR := Aside0.mk hr
 have HL := Aside0.mk hl
 have hq := eql_nil ad l.length c w
 clear hr hl
 go_enter Try.func150, Try.ntmps150
 go_wp2_with (first
  | ((with_reducible refine gate_dst (N := 5) rfl ?_); refine Kd.R_lit (Kd.int .i64) _ 3 ?hg (N := 5) ?hd (xs := ([] : List Int)) (inner := []) (ok := fun _ => True) (okp := fun _ => True) ?hr ?hp (fun _ hk => hk) trivial (Below.refl _ _) (Nat.le_refl _) (by simp) ?_; (case hd => rfl); (case hg => rfl); (case hr => first | (go_simp; done) | (go_simp; rfl)); (case hp => exact (Reps.none _ _)); intro v5 w5 ho hb hg_ hnew_; have HO := Aside0.mk ho; have HB := Aside0.mk hb; clear ho hb hg_ hnew_)
  | ((with_reducible refine gate_builtin (b := .append) (xs := #[.tmp 5, .tmp 6]) rfl ?_); at_builtin; go_loud (refine Kd.R_append_rows (Kd.int .i64) (w0 := w) w.heap.size rfl (.tmp 5) (.tmp 6) 22 3 (.int .i64 0) 8 rfl Try.underlying22 info3 rfl (by decide) (by omega) v5 ([] : List Int) l _ _ _ (fun _ => True) (fun _ => False) rfl rfl HO.out (Kd.C_below HR.out HB.out) (fun _ _ h => h) (fun _ h => h.elim) (fun _ _ => trivial) HB.out (below_size HB.out) (by have := HL.out; simp; omega) ?_); intro v7 w7 ho hb hg hat; have HO7 := Aside0.mk ho; have HB7 := Aside0.mk hb; clear ho hb hg hat))
 go_ret
 exact ⟨_, rfl, HO7.out, HB7.out⟩
def hdrEnc (p : Option Addr × Nat × Nat) : Value := .slice p.1 p.2.1 p.2.2
theorem Mat.push {w : World} {base R j m N : Nat} {bs : Nat → Nat} {E : Nat → Nat → Int} (h : Mat w base R bs j N E) (hR : ∃ cells, w.heap[R]? = some (.cells cells 22 (0, 0)) ∧ m ≤ cells.size) (hj : j < m) (hlo : base ≤ R) {b c : Nat} {cells : Array Value} (hb : w.heap[b]? = some (.cells cells 3 (0, 0))) (hc : ∀ t, t < N → cells[t]? = some (.int .i64 (E j t))) (hN : N ≤ c) (hnew : ∀ k, k < j → bs k ≠ b) (hlb : base ≤ b) :
  Mat (w.setCell ⟨R, j, none⟩ (.slice (some ⟨b, 0, none⟩) N c)) base R (setF bs j b) (j + 1) N E ∧ ∃ cells, (w.setCell ⟨R, j, none⟩ (.slice (some ⟨b, 0, none⟩) N c)).heap[R]? = some (.cells cells 22 (0, 0)) ∧ m ≤ cells.size := by
 obtain ⟨rc, hrc, hsz⟩ := hR
 have hjs : j < rc.size := by omega
 have hbR : b ≠ R := blk_ne hb hrc (by decide)
 have h2 := blk_set hrc j (.slice (some ⟨b, 0, none⟩) N c)
 refine ⟨⟨fun _ => ⟨_, h2, fun k hk => ?_⟩, fun k hk => ?_, fun k l hk hl e => ?_, fun _ => hlo, fun k hk => ?_⟩, _, h2, by simpa using hsz⟩
 ·by_cases e : k = j
  ·subst e
   exact ⟨c, hN, by rw [setF_self]; simp [hjs]⟩
  ·obtain ⟨cells0, hb0, hh0⟩ := h.hd (by omega)
   rw [hrc] at hb0
   injection hb0 with hb0
   injection hb0 with hb0 _ _
   subst hb0
   obtain ⟨c0, h3, h4⟩ := hh0 k (by omega)
   exact ⟨c0, h3, by rw [setF_ne e, ← h4]; simp [Array.getElem?_setIfInBounds, Ne.symm e]⟩
 ·by_cases e : k = j
  ·subst e
   rw [setF_self]
   exact ⟨cells, blk_far hb hbR _, hc⟩
  ·rw [setF_ne e]
   obtain ⟨cells', hb', hc'⟩ := h.rw_ k (by omega)
   exact ⟨cells', blk_far hb' (h.neR (by omega)) _, hc'⟩
 ·by_cases e1 : k = j <;> by_cases e2 : l = j
  ·omega
  ·rw [e1, setF_self, setF_ne e2] at e
   exact absurd e.symm (hnew l (by omega))
  ·rw [e2, setF_self, setF_ne e1] at e
   exact absurd e (hnew k (by omega))
  ·rw [setF_ne e1, setF_ne e2] at e
   exact h.inj k l (by omega) (by omega) e
 ·by_cases e : k = j
  ·subst e; rw [setF_self]; exact hlb
  ·rw [setF_ne e]; exact h.lo k (by omega)
theorem clone_in (A : Option Addr) (m c N : Nat) (L : List (List Int)) (hr : Kd.C (Kd.slice 3 (Kd.int .i64)) w A m L) (hm : m ≤ 256) (hN1 : 1 ≤ N) (hN : N ≤ 256) (hL : ∀ i : Int, 0 ≤ i → i < m → (rd_L1 L i).length = N) :
  Calls Try.prog 147 #[.slice A m c] w fun e w' => ∃ A' R bs c', e = .returned (.slice A' m c') ∧ m ≤ c' ∧ (0 < m → A' = some ⟨R, 0, none⟩) ∧ Mat w' w.heap.size R bs m N (fun i j => rd (rd_L1 L i) j) ∧ Below w.heap.size w w' := by
 have HR := Aside0.mk hr
 have HL := Aside0.mk hL
 have HN := Aside0.mk (And.intro hN1 (And.intro hN hm))
 clear hr hL hN1 hN hm
 have hz : (0 ≤ (m : Int)) = True := eq_true (by omega)
 go_enter Try.func147, Try.ntmps147
 go_wp2_with ((with_reducible refine gate_dst (N := 8) rfl ?_); refine Kd.R_make (Kd.scalar hdrEnc (fun _ => rfl)) _ 22 rfl (N := 8) rfl 47 _ _ rfl (m : Int) rfl rfl Try.underlying47 (.slice none 0 0) 24 info22 rfl (by decide) (by omega) (none, 0, 0) (ok := fun _ => True) (okp := fun _ => True) rfl (fun _ hk => hk) trivial (by omega) (by have := HN.out; omega) (Below.refl w.heap.size w) (Nat.le_refl _) ?_; intro v8 w8 ho hb _ _; have HO := Aside0.mk ho; have HB := Aside0.mk hb; clear ho hb; obtain ⟨A8, c8, e8⟩ := Kd.R_slice HO.out; rw [List.length_replicate, Int.toNat_natCast] at e8; subst e8)
 obtain ⟨R, hRR⟩ : ∃ R, 0 < m → A8 = some ⟨R, 0, none⟩ ∧ w.heap.size ≤ R ∧ ∃ cells, w8.heap[R]? = some (.cells cells 22 (0, 0)) ∧ m ≤ cells.size := by
  by_cases hm0 : 0 < m
  ·obtain ⟨R, cap, e, h1, h2, cells, h3⟩ := Kd.R_form HO.out (by simp; omega)
   injection e with e1 e2 e3
   refine ⟨R, fun _ => ⟨e1, h1, cells, h3, ?_⟩⟩
   have hR := HO.out
   rw [e1] at hR
   have h4 := (Kd.R_celln (none, 0, 0) hR ((m - 1 : Nat) : Int) (by omega) (by omega)).1
   rw [show (((m - 1 : Nat) : Int)).toNat = m - 1 from rfl, blk_cell h3] at h4
   have := (Array.getElem?_eq_some_iff.1 h4).1
   omega
  ·exact ⟨0, fun h => absurd h hm0⟩
 have hc8 : m ≤ c8 := by have := (Kd.R_reads' HO.out).2.1; simpa using this
 have HC8 := Aside0.mk hc8
 have HRR := Aside0.mk (fun h => (hRR h).1 : 0 < m → A8 = some ⟨R, 0, none⟩)
 have HRS := Aside0.mk (fun h => (hRR h).2.1 : 0 < m → w.heap.size ≤ R)
 have HRB := Aside0.mk (fun h => (hRR h).2.2 : 0 < m → ∃ cells, w8.heap[R]? = some (.cells cells 22 (0, 0)) ∧ m ≤ cells.size)
 clear hRR hc8 HO
 go_wp2
 go_loopg [11] (m + 1) (fun kq v11 w' => ∃ (j : Nat) (bs : Nat → Nat), v11 = .int .i64 (j : Int) ∧ Aside0 (j ≤ m ∧ j + kq = m + 1) ∧ Aside0 (Mat w' w.heap.size R bs j N (fun i j => rd (rd_L1 L i) j)) ∧ Aside0 (0 < m → ∃ cells, w'.heap[R]? = some (.cells cells 22 (0, 0)) ∧ m ≤ cells.size) ∧ Aside0 (Below w.heap.size w w'))
 case atStart => exact ⟨0, fun _ => 0, rfl, ⟨by omega, by omega⟩, ⟨⟨fun h => absurd h (by omega), fun i h => absurd h (by omega), fun i j h => absurd h (by omega), fun h => absurd h (by omega), fun i h => absurd h (by omega)⟩⟩, HRB, HB⟩
 case round =>
  clear HB HRB
  obtain ⟨j, bs, rfl, HJ, HM, HRB, HB⟩ := hrel
  cases gk with
  | zero => exact absurd HJ.out.2 (by have := HJ.out.1; omega)
  | succ k1 =>
   by_cases hj : j < m
   ·have c1 : decide ((j : Int) < (m : Int)) = true := decide_eq_true (by omega)
    have p6 : (0 ≤ (j : Int)) = True := eq_true (by omega)
    have p7 : ((j : Int) < (m : Int)) = True := eq_true (by omega)
    have hwn : wrap64 ((j : Int) + 1) = ((j + 1 : Nat) : Int) := by have := HN.out; rw [w64] <;> omega
    obtain rfl := HRR.out (by omega)
    obtain ⟨cells, hcl, hsz⟩ := HRB.out (by omega)
    obtain ⟨ad, A0, c0, eA, hcell, hle, hC⟩ := at_L1 (Kd.C_below HR.out HB.out) (j : Int) (by omega) (by omega)
    have hlen := HL.out (j : Int) (by omega) (by omega)
    subst eA
    obtain ⟨ad0, eA0, _⟩ := hC.2.2 (by have := HN.out; omega)
    subst eA0
    have HCL := Aside0.mk (Clone_in (w := wr) ad0 c0 (rd_L1 L (j : Int)) hC (by have := HN.out; omega))
    rw [hlen] at HCL hcell hle
    rw [Int.toNat_natCast] at hcell
    have HJB := Aside0.mk (And.intro hcl hsz)
    have HLE := Aside0.mk hlen
    clear hC hlen hcl hsz hle
    go_wp2_with (go_at_call 150; refine HCL.out.mono ?_; rintro e w15 ⟨v, rfl, hr, hb⟩; obtain ⟨gn, cn, rfl, h1, h2, cs, h3⟩ := Kd.R_form hr (by have := HN.out; have := HLE.out; omega); rw [HLE.out] at hr ⊢; have HV := Aside0.mk hr; have HV3 := Aside0.mk h3; have HV1 := Aside0.mk h1; have HBV := Aside0.mk hb; clear hr hb h1 h2 h3; have hRc := blk_below HJB.out.1 HBV.out; have hxR : w15.cell? ⟨R, j, none⟩ = some (cells[j]'(by have := HJB.out.2; omega)) := (blk_cell hRc j).trans (Array.getElem?_eq_getElem _); have hfR := blk_frozen hRc j; clear hRc)
    have HMW := HM.out.below HBV.out
    have hpush := HMW.push (m := m) ⟨cells, blk_below HJB.out.1 HBV.out, HJB.out.2⟩ hj (HRS.out (by omega)) HV3.out (c := cn) (fun t ht => by
     have h1 := (Kd.R_celln 0 HV.out (t : Int) (by omega) (by omega)).1
     rw [show ((t : Int)).toNat = t from rfl, blk_cell HV3.out] at h1
     rw [h1]; rfl) (by have := (Kd.R_reads' HV.out).2.1; have := HLE.out; omega) (fun k hk => Nat.ne_of_lt (Nat.lt_of_lt_of_le (HM.out.lt hk) HV1.out)) (Nat.le_trans (below_size HB.out) HV1.out)
    have HP := Aside0.mk hpush
    have HBN := Aside0.mk (below_set (j := j) (v := .slice (some ⟨gn, 0, none⟩) N cn) (below_step HB.out HBV.out) (HRS.out (by omega)))
    clear hpush HMW
    rw [hwn]
    go_roundg k1
    case measure => omega
    case rel => exact ⟨j + 1, _, rfl, ⟨by have := HJ.out; omega⟩, ⟨HP.out.1⟩, ⟨fun _ => HP.out.2⟩, HBN⟩
   ·have c1 : decide ((j : Int) < (m : Int)) = false := decide_eq_false (by omega)
    obtain rfl : j = m := by have := HJ.out; omega
    go_wp2
    go_ret
    exact ⟨A8, R, bs, c8, rfl, HC8.out, HRR.out, HM.out, HB.out⟩
end
section
variable {D : FD} {P M : Int} {Mod : List Int} {w0 w : World} {g : Nat} {γ : GF D}
def allIn (D : FD) (l : List Int) : Bool := l.all fun x => decide (0 ≤ x ∧ x < D.q)
def shpOk (cols : Int) (L : List (List Int)) : Bool := decide (0 ≤ cols ∧ cols ≤ 256 ∧ L.length ≤ 256) && L.all fun l => decide ((l.length : Int) = cols)
def chk (D : FD) (cols : Int) (L : List (List Int)) : Int := if shpOk cols L = true then (if L.all (allIn D) = true then 0 else 2) else 3
theorem entries_l0 (E G : List Int) (l : List Int) (hl : l.length ≤ 1000000) : ∀ (d : Nat) (i : Int), 0 ≤ i → i + d = l.length → (∀ t : Int, 0 ≤ t → t < i → 0 ≤ rd l t ∧ rd l t < D.q) →
  Ev (fun k => matrix_entries.l0 k l l.length i P M Mod D.q E G) (if allIn D l = true then 0 else 2, P, M, D.q) := by
 intro d
 induction d with
 | zero =>
  intro i h0 hd ht
  have h : allIn D l = true := by
   unfold allIn
   rw [List.all_eq_true]
   intro x hx
   obtain ⟨t, h1, h2, rfl⟩ := mem_rd hx
   have := ht t h1 (by omega)
   simpa using this
  rw [if_pos h]
  exact ev_succ (ev_now fun k => by rw [matrix_entries.l0, if_neg (by omega)])
 | succ d ih =>
  intro i h0 hd ht
  by_cases e : 0 ≤ rd l i ∧ rd l i < D.q
  ·refine Ev.step (fun k => ?_) (ih (i + 1) (by omega) (by omega) (fun t h1 h2 => ?_))
   ·rw [matrix_entries.l0, if_pos (by omega), if_pos h0, if_pos (by omega), gf_is]
    simp only [Option.bind_some]
    rw [if_pos (decide_eq_true e), w64 (by omega) (by omega)]
   ·by_cases e2 : t = i
    ·subst e2; exact e
    ·exact ht t h1 (by omega)
  ·have h : ¬ allIn D l = true := by
    intro h
    unfold allIn at h
    rw [List.all_eq_true] at h
    exact e (by simpa using h _ (rd_mem h0 (by omega)))
   rw [if_neg h]
   refine ev_succ (ev_now fun k => ?_)
   rw [matrix_entries.l0, if_pos (by omega), if_pos h0, if_pos (by omega), gf_is]
   simp only [Option.bind_some]
   rw [if_neg (by simpa using e)]
theorem Fs.entries (h : Fs D P M Mod w0 w g γ) {A : Option Addr} {c : Nat} {l : List Int} (hr : Kd.C (Kd.int .i64) w A l.length l) (hc : l.length ≤ c) (hl : l.length ≤ 1000000) (hne : ∀ ad, A = some ad → 0 < l.length → ad.block ≠ g) :
  Calls Try.prog 149 #[.pointer (some ⟨g, 0, none⟩), .slice A l.length c] w fun e w' => e = .returned (.int .i64 (if allIn D l = true then 0 else 2)) ∧ Fs D P M Mod w0 w' g γ ∧ KeepBut w w' g none := by
 have hev := entries_l0 (P := P) (M := M) (Mod := Mod) (D := D) (expL γ) (LG γ) l hl l.length 0 (by omega) (by omega) (fun t _ _ => by omega)
 obtain ⟨k, hk⟩ := hev.rounds
 refine (matrix_entries.calls k g _ _ _ _ _ _ A c l _ _ _ _ w0 w h.I h.B hr hc hne hk).mono ?_
 rintro e w' ⟨rfl, hI, hB, hk⟩
 exact ⟨rfl, ⟨h.h, h.hg, hI, hB⟩, hk⟩
theorem came_row {A : Option Addr} {m : Nat} {L : List (List Int)} (hr : Kd.C (Kd.slice 3 (Kd.int .i64)) w0 A m L) (hB : Below w0.heap.size w0 w) {i : Int} (h0 : 0 ≤ i) (h1 : i < m) :
  ∃ ad A0 c0, A = some ad ∧ w.cell? (ad.add i.toNat) = some (.slice A0 (rd_L1 L i).length c0) ∧ (rd_L1 L i).length ≤ c0 ∧ Kd.C (Kd.int .i64) w A0 (rd_L1 L i).length (rd_L1 L i) ∧ ∀ a, A0 = some a → 0 < (rd_L1 L i).length → a.block < w0.heap.size := by
 obtain ⟨ad, A0, c0, e, hcell, hle, hC⟩ := at_L1 hr i h0 h1
 have lt : ∀ {p : Addr} {v : Value}, w0.cell? p = some v → p.block < w0.heap.size := fun hc => World.block_lt_of_cell? _ _ hc
 refine ⟨ad, A0, c0, e, (hB.cell (lt hcell)).trans hcell, hle, Kd.C_below hC hB, fun a ea hp => ?_⟩
 obtain ⟨a', ea', hx⟩ := Kd.at_int hC 0 (by omega) (by omega)
 rw [ea] at ea'
 injection ea' with ea'
 subst ea'
 have := lt hx
 rwa [add_block] at this
theorem check_in (hF : Fs D P M Mod w0 w g γ) (A : Option Addr) (m c : Nat) (cols : Int) (L : List (List Int)) (hr : Kd.C (Kd.slice 3 (Kd.int .i64)) w0 A m L) (hgw : w0.heap.size ≤ g) :
  Calls Try.prog 146 #[.pointer (some ⟨g, 0, none⟩), .agg #[.int .i64 cols, .slice A m c]] w fun e w' => e = .returned (.int .i64 (chk D cols L)) ∧ Fs D P M Mod w0 w' g γ ∧ Kept w w' (fun b => b = g) := by
 have HF := Aside0.mk hF
 have HR := Aside0.mk hr
 have HG := Aside0.mk hgw
 have hm : L.length = m := hr.1
 have HM := Aside0.mk (And.intro hm hr.2.1)
 clear hF hr hgw hm
 by_cases hsh : 0 ≤ cols ∧ cols ≤ 256 ∧ m ≤ 256
 ·have d1 : decide (cols < 0) = false := decide_eq_false (by omega)
  have d2 : decide (cols > 256) = false := decide_eq_false (by omega)
  have d2' : decide (256 < cols) = false := decide_eq_false (by omega)
  have d3 : decide ((m : Int) > 256) = false := decide_eq_false (by omega)
  have d3' : decide (256 < (m : Int)) = false := decide_eq_false (by omega)
  go_enter Try.func146, Try.ntmps146
  go_wp2_with (refine bx 3 #[.int .i64 cols, .slice A m c] 101 ?_; intro b3 hb3 w3 hbox hb; have B3 := Aside0.mk hbox; have HB := Aside0.mk hb; have HF3 := Aside0.mk (HF.out.below hb); have hc0 := bc0 hbox; have hc1 := bc1 hbox; clear hbox hb hb3)
  have hNP : m ≤ 256 := hsh.2.2
  by_cases hall : ∀ i : Int, 0 ≤ i → i < m → ((rd_L1 L i).length : Int) = cols
  ·have hok : shpOk cols L = true := by
    unfold shpOk
    rw [Bool.and_eq_true]
    refine ⟨decide_eq_true (by rw [HM.out.1]; exact hsh), List.all_eq_true.2 fun l hl => ?_⟩
    obtain ⟨n, hn, rfl⟩ := List.getElem_of_mem hl
    have h1 := hall (n : Int) (by omega) (by have := HM.out.1; omega)
    have h2 : rd_L1 L (n : Int) = L[n] := by
     show L.getD n [] = _
     rw [List.getD_eq_getElem?_getD, List.getElem?_eq_getElem hn]; rfl
    rw [h2] at h1
    exact decide_eq_true h1
   have HALL := Aside0.mk hall
   have HOK := Aside0.mk hok
   clear hall hok
   go_loopg [27] (m + 1) (fun kq v27 w' => ∃ j : Nat, v27 = .int .i64 (j : Int) ∧ Aside0 (j ≤ m ∧ j + kq = m + 1) ∧ Aside0 (w' = w3))
   case atStart => exact ⟨0, rfl, ⟨by omega, by omega⟩, ⟨rfl⟩⟩
   case round =>
    obtain ⟨j, rfl, HJ, HW⟩ := hrel
    obtain rfl := HW.out
    cases gk with
    | zero => exact absurd HJ.out.2 (by have := HJ.out.1; omega)
    | succ k1 =>
     by_cases hj : j < m
     ·have c1 : decide ((j : Int) < (m : Int)) = true := decide_eq_true (by omega)
      have p6 : (0 ≤ (j : Int)) = True := eq_true (by omega)
      have p7 : ((j : Int) < (m : Int)) = True := eq_true (by omega)
      have hwn : wrap64 ((j : Int) + 1) = ((j + 1 : Nat) : Int) := by rw [w64] <;> omega
      obtain ⟨ad, A0, c0, eA, hcell, hle, hC, hbk⟩ := came_row HR.out HF3.out.B (i := (j : Int)) (by omega) (by omega)
      subst eA
      rw [Int.toNat_natCast] at hcell
      have hq1 := HALL.out (j : Int) (by omega) (by omega)
      have q1 : (((rd_L1 L (j : Int)).length : Int) == cols) = true := by simpa using hq1
      have q2 : (((rd_L1 L (j : Int)).length : Int) != cols) = false := by simpa using hq1
      clear hq1 hC hbk hle
      go_wp2
      go_roundg k1
      case measure => omega
      case rel => exact ⟨j + 1, rY, ⟨by have := HJ.out; omega⟩, ⟨rfl⟩⟩
     ·have c1 : decide ((j : Int) < (m : Int)) = false := decide_eq_false (by omega)
      go_wp2
      go_loopg [40] (m + 1) (fun kq v40 w' => ∃ j : Nat, v40 = .int .i64 (j : Int) ∧ Aside0 (j ≤ m ∧ j + kq = m + 1) ∧ Aside0 (∀ i : Int, 0 ≤ i → i < j → allIn D (rd_L1 L i) = true) ∧ Aside0 (Fs D P M Mod w0 w' g γ) ∧ Aside0 (Kept w w' (fun b => b = g)))
      case atStart => exact ⟨0, rfl, ⟨by omega, by omega⟩, ⟨fun i _ _ => by omega⟩, HF3, ⟨Kept.of_below HB.out _⟩⟩
      case round =>
       clear HF3 HB HW HJ hj c1
       obtain ⟨j2, rfl, HJ, HAI, HF3, HK⟩ := hrel
       cases gk with
       | zero => exact absurd HJ.out.2 (by have := HJ.out.1; omega)
       | succ k2 =>
        by_cases hj : j2 < m
        ·have c1 : decide ((j2 : Int) < (m : Int)) = true := decide_eq_true (by omega)
         have p6 : (0 ≤ (j2 : Int)) = True := eq_true (by omega)
         have p7 : ((j2 : Int) < (m : Int)) = True := eq_true (by omega)
         have hwn : wrap64 ((j2 : Int) + 1) = ((j2 + 1 : Nat) : Int) := by rw [w64] <;> omega
         obtain ⟨ad, A0, c0, eA, hcell, hle, hC, hbk⟩ := came_row HR.out HF3.out.B (i := (j2 : Int)) (by omega) (by omega)
         subst eA
         rw [Int.toNat_natCast] at hcell
         have hq1 := HALL.out (j2 : Int) (by omega) (by omega)
         have HE := Aside0.mk (HF3.out.entries hC hle (by omega) (fun a ea hp => by have := hbk a ea hp; have := HG.out; omega))
         clear hq1 hC hbk hle
         by_cases hai : allIn D (rd_L1 L (j2 : Int)) = true
         ·rw [if_pos hai] at HE
          go_wp2_with (go_at_call 149; refine HE.out.mono ?_; rintro e w5 ⟨rfl, hf, hk⟩; have HK5 := Aside0.mk (HK.out.then_ (kept_but hk) (fun k e => .inl e)); have HF5 := Aside0.mk hf; clear hf hk)
          go_roundg k2
          case measure => omega
          case rel => exact ⟨j2 + 1, rY, ⟨by have := HJ.out; omega⟩, ⟨fun i h0 h1 => by
           by_cases e : i = (j2 : Int)
           ·subst e; exact hai
           ·exact HAI.out i h0 (by omega)⟩, HF5, HK5⟩
         ·rw [if_neg hai] at HE
          go_wp2_with (go_at_call 149; refine HE.out.mono ?_; rintro e w5 ⟨rfl, hf, hk⟩; have HK5 := Aside0.mk (HK.out.then_ (kept_but hk) (fun k e => .inl e)); have HF5 := Aside0.mk hf; clear hf hk)
          go_ret
          have hchk : chk D cols L = 2 := by
           unfold chk
           rw [if_pos HOK.out, if_neg]
           intro h
           rw [List.all_eq_true] at h
           refine hai (h _ ?_)
           have hlt : j2 < L.length := by have := HM.out.1; omega
           show L.getD j2 [] ∈ L
           rw [List.getD_eq_getElem?_getD, List.getElem?_eq_getElem hlt]
           exact List.getElem_mem hlt
          exact ⟨by rw [hchk]; rfl, HF5.out, HK5.out⟩
        ·have c1 : decide ((j2 : Int) < (m : Int)) = false := decide_eq_false (by omega)
         go_wp2
         go_ret
         have hchk : chk D cols L = 0 := by
          unfold chk
          rw [if_pos HOK.out, if_pos]
          rw [List.all_eq_true]
          intro l hl
          obtain ⟨n, hn, rfl⟩ := List.getElem_of_mem hl
          have h1 := HAI.out (n : Int) (by omega) (by have := HM.out.1; have := HJ.out; omega)
          have h2 : rd_L1 L (n : Int) = L[n] := by
           show L.getD n [] = _
           rw [List.getD_eq_getElem?_getD, List.getElem?_eq_getElem hn]; rfl
          rw [h2] at h1
          exact h1
         exact ⟨by rw [hchk]; rfl, HF3.out, HK.out⟩
  ·have hex : ∃ n : Nat, n < m ∧ ((rd_L1 L (n : Int)).length : Int) ≠ cols ∧ ∀ i : Nat, i < n → ((rd_L1 L (i : Int)).length : Int) = cols := by
    have h1 : ∃ i : Int, 0 ≤ i ∧ i < m ∧ ((rd_L1 L i).length : Int) ≠ cols := Classical.byContradiction fun hno => hall fun i h0 h1 => Classical.byContradiction fun h2 => hno ⟨i, h0, h1, h2⟩
    obtain ⟨i, h0, h1, h2⟩ := h1
    obtain ⟨k, hk, hs, hmin⟩ := Alg.least_nat (fun n => ((rd_L1 L (n : Int)).length : Int) ≠ cols) i.toNat (by rw [show ((i.toNat : Nat) : Int) = i by omega]; exact h2)
    exact ⟨k, by omega, hs, fun i hi => Classical.byContradiction fun h => hmin i hi h⟩
   obtain ⟨n, hn, hne, hmin⟩ := hex
   have hchk : chk D cols L = 3 := by
    unfold chk
    rw [if_neg]
    intro h
    unfold shpOk at h
    rw [Bool.and_eq_true, List.all_eq_true] at h
    have hlt : n < L.length := by have := HM.out.1; omega
    have h3 := h.2 L[n] (List.getElem_mem hlt)
    have h2 : rd_L1 L (n : Int) = L[n] := by
     show L.getD n [] = _
     rw [List.getD_eq_getElem?_getD, List.getElem?_eq_getElem hlt]; rfl
    rw [h2] at hne
    exact hne (of_decide_eq_true h3)
   have HMIN := Aside0.mk hmin
   have HNE := Aside0.mk hne
   have HCK := Aside0.mk hchk
   clear hmin hne hchk hall
   go_loopg [27] (m + 1) (fun kq v27 w' => ∃ j : Nat, v27 = .int .i64 (j : Int) ∧ Aside0 (j ≤ n ∧ j + kq = m + 1) ∧ Aside0 (w' = w3))
   case atStart => exact ⟨0, rfl, ⟨by omega, by omega⟩, ⟨rfl⟩⟩
   case round =>
    obtain ⟨j, rfl, HJ, HW⟩ := hrel
    obtain rfl := HW.out
    cases gk with
    | zero => exact absurd HJ.out.2 (by have := HJ.out.1; omega)
    | succ k1 =>
     have hj : j < m := by have := HJ.out; omega
     have c1 : decide ((j : Int) < (m : Int)) = true := decide_eq_true (by omega)
     have p6 : (0 ≤ (j : Int)) = True := eq_true (by omega)
     have p7 : ((j : Int) < (m : Int)) = True := eq_true (by omega)
     have hwn : wrap64 ((j : Int) + 1) = ((j + 1 : Nat) : Int) := by rw [w64] <;> omega
     obtain ⟨ad, A0, c0, eA, hcell, hle, hC, hbk⟩ := came_row HR.out HF3.out.B (i := (j : Int)) (by omega) (by omega)
     subst eA
     rw [Int.toNat_natCast] at hcell
     clear hC hbk hle
     by_cases hjn : j < n
     ·have hq1 := HMIN.out j hjn
      have q1 : (((rd_L1 L (j : Int)).length : Int) == cols) = true := by simpa using hq1
      have q2 : (((rd_L1 L (j : Int)).length : Int) != cols) = false := by simpa using hq1
      clear hq1
      go_wp2
      go_roundg k1
      case measure => omega
      case rel => exact ⟨j + 1, rY, ⟨by have := HJ.out; omega⟩, ⟨rfl⟩⟩
     ·have hjn2 : n = j := by have := HJ.out; omega
      subst hjn2
      have hq1 := HNE.out
      have q1 : (((rd_L1 L (n : Int)).length : Int) == cols) = false := by simpa using hq1
      have q2 : (((rd_L1 L (n : Int)).length : Int) != cols) = true := by simpa using hq1
      clear hq1
      go_wp2
      go_ret
      exact ⟨by rw [HCK.out]; rfl, HF3.out, Kept.of_below HB.out _⟩
 ·have hchk : chk D cols L = 3 := by
   unfold chk
   rw [if_neg]
   intro h
   unfold shpOk at h
   rw [Bool.and_eq_true] at h
   have h1 := of_decide_eq_true h.1
   rw [HM.out.1] at h1
   exact hsh h1
  have HCK := Aside0.mk hchk
  have hd : decide (cols < 0) = true ∨ (decide (cols < 0) = false ∧ decide (cols > 256) = true) ∨ (decide (cols < 0) = false ∧ decide (cols > 256) = false ∧ decide ((m : Int) > 256) = true) := by
   by_cases h1 : cols < 0
   ·exact .inl (decide_eq_true h1)
   ·by_cases h2 : cols > 256
    ·exact .inr (.inl ⟨decide_eq_false h1, decide_eq_true h2⟩)
    ·exact .inr (.inr ⟨decide_eq_false h1, decide_eq_false h2, decide_eq_true (by omega)⟩)
  clear hchk hsh
  rcases hd with d1 | ⟨d1, d2⟩ | ⟨d1, d2, d3⟩
  all_goals
   go_enter Try.func146, Try.ntmps146
   go_wp2_with (refine bx 3 #[.int .i64 cols, .slice A m c] 101 ?_; intro b3 hb3 w3 hbox hb; have B3 := Aside0.mk hbox; have HB := Aside0.mk hb; have HF3 := Aside0.mk (HF.out.below hb); have hc0 := bc0 hbox; have hc1 := bc1 hbox; clear hbox hb hb3)
   go_ret
   exact ⟨by rw [HCK.out]; rfl, HF3.out, Kept.of_below HB.out _⟩
end
def Eli15.T : Bool × List (List Nat × List Nat) := (true, [([], []), ([], []), ([], []), ([], []), ([2, 3], [2, 3]), ([4], [4]), ([], []), ([5, 6], [5, 6]), ([7], [7]), ([0, 1, 8], [0, 1, 8]), ([9, 9, 0, 1, 2, 3, 4, 5, 6, 7, 8, 9], [1, 9])])
def Eli15.B : List Nat := [0, 0, 0, 0, 12, 28, 0, 124, 252, 511, 1023]
theorem Eli15.tab : rtab .any (opsOf Try.f148 15) = Eli15.T := by kernel_rfl
theorem Eli15.bits : waitsOk Eli15.T.2 Eli15.B = true := by kernel_rfl
def Eli16.T : Bool × List (List Nat × List Nat) := (true, [([], []), ([], []), ([], []), ([1, 2], [1, 2]), ([3], [3]), ([], []), ([4, 5], [4, 5]), ([6], [6]), ([0, 7], [0, 7]), ([8], [8]), ([9], [9]), ([9], [9]), ([], []), ([12, 10, 8, 0, 1, 2, 3, 4, 5, 6, 7, 8, 9, 10, 12], [10, 12]), ([11, 13, 0, 1, 2, 3, 4, 5, 6, 7, 8, 9, 10, 11, 12, 13], [11])])
def Eli16.B : List Nat := [0, 0, 0, 6, 14, 0, 62, 126, 255, 511, 1023, 1023, 0, 6143, 16383]
theorem Eli16.tab : rtab .any (opsOf Try.f148 16) = Eli16.T := by kernel_rfl
theorem Eli16.bits : waitsOk Eli16.T.2 Eli16.B = true := by kernel_rfl
section
variable {D : FD} {P M : Int} {Mod : List Int} {w0 w : World} {g R m N c : Nat} {bs : Nat → Nat} {E : Nat → Nat → Int} {γ : GF D} {A : Option Addr} {S0 : Nat → Prop}
theorem Eliminate_in (hF : Fs D P M Mod w0 w g γ) (hM : Mat w w0.heap.size R bs m N E) (hN1 : 1 ≤ N) (hN : N ≤ 256) (hm : m ≤ 256) (hA : 0 < m → A = some ⟨R, 0, none⟩) (hE : Elm D m N E) (hg : S0 g) (hR : 0 < m → S0 R) (hbs : ∀ r, r < m → S0 (bs r)) :
  Calls Try.prog 148 #[.pointer (some ⟨g, 0, none⟩), .slice A m c, .int .i64 (N : Int), .slice none 0 0] w fun e w' => ∃ v d bs', e = .returned (.tuple #[v, .int .i64 d]) ∧ Fs D P M Mod w0 w' g γ ∧ Mat w' w0.heap.size R bs' m N (elimF D m N 0 E []).1 ∧ Elm D m N (elimF D m N 0 E []).1 ∧
   Kd.R (Kd.int .i64) 3 w' w.heap.size (fun _ => True) v (elimF D m N 0 E []).2 ∧ Kept w w' S0 ∧ (∀ r, r < m → S0 (bs' r) ∨ w.heap.size ≤ bs' r) := by
 have HF := Aside0.mk hF
 have HM := Aside0.mk hM
 have HE := Aside0.mk hE
 have HS := Aside0.mk (And.intro hg (And.intro hR hbs))
 have HA := Aside0.mk hA
 have HN := Aside0.mk (And.intro hN1 (And.intro hN hm))
 have HW := Aside0.mk (Below.refl w.heap.size w)
 clear hF hM hE hg hR hbs hA hN1 hN hm
 go_enter Try.func148, Try.ntmps148
 go_wp2_with (first
  | (refine bx 4 #[.pointer (some ⟨g, 0, none⟩)] 63 ?_; intro b4 hb4 w4 hbox hb; have B4 := Aside0.mk hbox; have H4 := Aside0.mk hb; clear hbox hb hb4)
  | (refine bx 5 #[.slice A m c] 47 ?_; intro b5 hb5 w5 hbox hb; have B5 := Aside0.mk hbox; have H5 := Aside0.mk hb; clear hbox hb hb5)
  | (refine bx 7 #[.slice none 0 0] 47 ?_; intro b7 hb7 w7 hbox hb; have B7 := Aside0.mk hbox; have H7 := Aside0.mk hb; clear hbox hb hb7))
 have HWW := Aside0.mk (below_step (below_step H4.out H5.out) H7.out)
 have HST := Aside0.mk (ESt.mk (D := D) (γ := γ) (S0 := S0) (A := A) (c := c) (w := w) (HF.out.below HWW.out) (HM.out.below HWW.out) (Kept.of_below HWW.out S0) (fun r hr => .inl (HS.out.2.2 r hr)) (blk_below (blk_below B4.out H5.out) H7.out) (blk_below B5.out H7.out) B7.out HE.out HF.out.B.size HS.out.1 HS.out.2.1)
 have HNIL := Aside0.mk (Kd.R_nil (Kd.int .i64) 3 w7 w.heap.size (fun _ => True))
 clear HF HM HE B4 B5 B7 H4 H5 H7
 go_loopg [10, 12, 13] (N + 1) (fun kq v10 v12 v13 w' => ∃ (d : Int) (cc : Nat) (bs' : Nat → Nat) (E' : Nat → Nat → Int) (pv : List Int), v10 = .int .i64 d ∧ v13 = .int .i64 (cc : Int) ∧ Aside0 (cc ≤ N ∧ cc + kq = N + 1 ∧ pv.length ≤ cc ∧ pv.length ≤ m) ∧ Aside0 (elimF D m (N - cc) cc E' pv = elimF D m N 0 E []) ∧
  Aside0 (ESt D P M Mod w0 g γ w S0 b4 b5 b7 A m c N R w' bs' E') ∧ Aside0 (Kd.R (Kd.int .i64) 3 w' w.heap.size (fun b => ∀ r, r < m → bs' r ≠ b) v12 pv))
 case atStart => exact ⟨1, 0, bs, E, [], rfl, rfl, ⟨by omega, by omega, by simp, by simp⟩, ⟨rfl⟩, HST, ⟨Kd.R_nil _ _ _ _ _⟩⟩
 case round =>
  obtain ⟨d, cc, bs', E', pv, rfl, rfl, HJ, HEL, HST, HPV⟩ := hrel
  cases gk with
  | zero => exact absurd HJ.out.2.1 (by have := HJ.out.1; omega)
  | succ k1 =>
   have fin : ∀ {d2 : Nat}, (¬ (cc < N) ∨ ¬ (pv.length < m)) → N - cc = d2 → elimF D m N 0 E [] = (E', pv) := fun {d2} ho hd => by
    rw [← HEL.out, hd]
    cases d2 with
    | zero => rfl
    | succ d2 =>
     rw [elimF, if_neg]
     omega
   obtain ⟨Ap, cp, rfl⟩ := Kd.R_slice HPV.out
   by_cases hc : cc < N
   ·have c1 : decide ((cc : Int) < (N : Int)) = true := decide_eq_true (by omega)
    have hx5 := HST.out.c5
    by_cases hp : pv.length < m
    ·have c2 : decide ((pv.length : Int) < (m : Int)) = true := decide_eq_true (by omega)
     obtain rfl := HA.out (by omega)
     obtain ⟨sz, hsz⟩ : ∃ sz, wr.heap.size = sz := ⟨_, rfl⟩
     have HPO := Aside0.mk (hsz ▸ Piv.start HST.out HPV.out (by omega) : Piv wr w.heap.size sz R g m bs' (.slice Ap pv.length cp) pv)
     have HSZ := Aside0.mk hsz
     clear HPV hsz
     go_wp2_with (first
      | (refine bx 14 #[.int .i64 0] 3 ?_; intro ba hba w14 hbox hb; have HBA := Aside0.mk (HST.out.new hbox hba); have HGA := Aside0.mk (show sz ≤ ba by rw [hba, HSZ.out]; exact Nat.le_refl _); have HPO := Aside0.mk (HPO.out.below hb); have HST := Aside0.mk (HST.out.below hb); clear hbox hb hba hx5; have hx14 := HBA.out.cell; have hf14 := HBA.out.froz)
      | (refine bx 15 #[.int .i64 0] 3 ?_; intro bk hbk w15 hbox hb
         have HBP := Aside0.mk (HBA.out.put (.int .i64 (pv.length : Int)))
         have HSP := Aside0.mk (HST.out.put HBA.out (.int .i64 (pv.length : Int)))
         have HBK := Aside0.mk (HSP.out.new hbox hbk)
         have HAK := Aside0.mk (show ba ≠ bk from Nat.ne_of_lt (by rw [hbk]; exact HBP.out.lt))
         have HPO2 := Aside0.mk ((HPO.out.put HGA.out (.int .i64 (pv.length : Int))).below hb)
         have HBA2 := Aside0.mk (HBP.out.below hb)
         have HST2 := Aside0.mk (HSP.out.below hb)
         have HGK := Aside0.mk (show sz ≤ bk from Nat.le_of_lt (Nat.lt_of_le_of_lt HGA.out (by rw [hbk]; exact HBP.out.lt)))
         clear hbox hb hbk hx14 hf14 HBP HSP
         have hx15 := HBK.out.cell
         have hf15 := HBK.out.froz))
     have HST3 := Aside0.mk (HST2.out.put HBK.out (.int .i64 (pv.length : Int)))
     have HBA3 := Aside0.mk (HBA2.out.far HAK.out (.int .i64 (pv.length : Int)))
     have HBK3 := Aside0.mk (HBK.out.put (.int .i64 (pv.length : Int)))
     have HPO3 := Aside0.mk (HPO2.out.put HGK.out (.int .i64 (pv.length : Int)))
     clear hx15 hf15
     go_loopg [] (m + 1) (fun kq w' => ∃ k : Nat, Aside0 (pv.length ≤ k ∧ k ≤ m ∧ k + kq = pv.length + m + 1) ∧ Aside0 (fk E' cc (m - k) k = fk E' cc (m - pv.length) pv.length) ∧ Aside0 (ESt D P M Mod w0 g γ w S0 b4 b5 b7 (some ⟨R, 0, none⟩) m c N R w' bs' E') ∧ Aside0 (Bx w w' bs' m ba (.int .i64 (pv.length : Int))) ∧ Aside0 (Bx w w' bs' m bk (.int .i64 (k : Int))) ∧
      Aside0 (Piv w' w.heap.size sz R g m bs' (.slice Ap pv.length cp) pv))
     case atStart => exact ⟨pv.length, ⟨by omega, by omega, by omega⟩, ⟨rfl⟩, HST3, HBA3, HBK3, HPO3⟩
     case round =>
      clear HST3 HBA3 HBK3 HPO3 HST2 HBA2 HBK HPO2
      obtain ⟨k, HK, HFK, HST, HBA, HBK, HPO⟩ := hrel
      have hx5 := HST.out.c5
      have hxk := HBK.out.cell
      have hfk := HBK.out.froz
      cases gk with
      | zero => exact absurd HK.out.2.2 (by have := HK.out.2.1; omega)
      | succ k2 =>
       have d1 : (0 ≤ (k : Int)) = True := eq_true (by omega)
       have d2 : (0 ≤ (cc : Int)) = True := eq_true (by omega)
       have d3 : ((cc : Int) < (N : Int)) = True := eq_true (by omega)
       have hwk : wrap64 ((k : Int) + 1) = ((k + 1 : Nat) : Int) := by have := HN.out; have := HK.out; rw [w64] <;> omega
       by_cases hkm : k < m
       ·have d4 : decide ((k : Int) < (m : Int)) = true := decide_eq_true (by omega)
        have d5 : ((k : Int) < (m : Int)) = True := eq_true (by omega)
        obtain ⟨ck, _, hhk, _⟩ := HST.out.Mt.hcell hkm
        have hek := (HST.out.Mt.cell hkm hc).1
        by_cases hz : E' k cc = 0
        ·have d6 : (E' k cc == 0) = true := by simpa using hz
         go_wp2
         have HST4 := Aside0.mk (HST.out.put HBK.out (.int .i64 ((k + 1 : Nat) : Int)))
         have HBA4 := Aside0.mk (HBA.out.far HAK.out (.int .i64 ((k + 1 : Nat) : Int)))
         have HBK4 := Aside0.mk (HBK.out.put (.int .i64 ((k + 1 : Nat) : Int)))
         have HPO4 := Aside0.mk (HPO.out.put HGK.out (.int .i64 ((k + 1 : Nat) : Int)))
         rw [hwk]
         go_roundg k2
         case measure => omega
         case rel => exact ⟨k + 1, ⟨by have := HK.out; omega⟩, ⟨by rw [← HFK.out, show m - k = (m - (k + 1)) + 1 by omega, fk, if_pos hz]⟩, HST4, HBA4, HBK4, HPO4⟩
        ·have d6 : (E' k cc == 0) = false := by simpa using hz
         have hfk : fk E' cc (m - pv.length) pv.length = k := by rw [← HFK.out, show m - k = (m - (k + 1)) + 1 by omega, fk, if_neg hz]
         have d7 : ((k : Int) == (m : Int)) = false := by simp; omega
         have hxa := HBA.out.cell
         obtain ⟨E2, hE2⟩ : ∃ E2, swapF E' pv.length k = E2 := ⟨_, rfl⟩
         obtain ⟨bs2, hb2⟩ : ∃ b2, swapF bs' pv.length k = b2 := ⟨_, rfl⟩
         have HX := Aside0.mk (And.intro hE2 hfk)
         have hE2p : E2 pv.length cc = E' k cc := by rw [← hE2]; unfold swapF; rw [if_pos rfl]
         have hzz : inn D (E2 pv.length cc) ≠ 0 := by
          have h1 := HST.out.ok k cc hkm hc
          intro e
          have h2 := inn_of h1.1 h1.2
          rw [hE2p] at e
          rw [e] at h2
          exact hz h2.symm
         clear hE2p
         have HEL3 : Aside0 (∀ E4, E4 = clr D pv.length cc m 0 (normE D E2 pv.length cc) → elimF D m (N - (cc + 1)) (cc + 1) E4 (pv ++ [(cc : Int)]) = elimF D m N 0 E []) := ⟨fun E4 he => by
          rw [← HEL.out, show N - cc = (N - (cc + 1)) + 1 by omega, elimF, if_pos hp, hfk, if_neg (by omega), he]
          unfold stepE
          rw [hE2]⟩
         rcases Classical.em (k = pv.length) with hkp | hkp
         focus
          subst hkp
          have d8 : ((pv.length : Int) == (pv.length : Int)) = true := by simp
          have d9 : ((pv.length : Int) != (pv.length : Int)) = false := by simp
          go_wp2
          rw [swapF_self] at hE2 hb2
          replace hE2 := hE2.symm
          replace hb2 := hb2.symm
          subst hE2 hb2
          generalize d = dd
          clear hx5 hxk hfk hhk hek hxa
         rotate_left
         focus
          have d8 : ((k : Int) == (pv.length : Int)) = false := by simp; omega
          have d9 : ((k : Int) != (pv.length : Int)) = true := by simp; omega
          go_wp2_with (first
           | (go_at_call 151; refine (HST.out.swap hp hkm HBK.out HBA.out).mono ?_; rintro e w21 ⟨rfl, hS, hK⟩; rw [hE2, hb2] at hS; have HPO5 := Aside0.mk ((HPO.out.kept hK (fun b e => .inr (.inl e))).swap hp hkm); have HBA5 := Aside0.mk ((HBA.out.kept hK (HBA.out.neR HST.out.Mt (by omega))).swap hp hkm); rw [hb2] at HPO5 HBA5; have HST5 := Aside0.mk hS; clear hS hK HPO HBA HST HBK hx5 hxk hfk hhk hek hxa; have hx4 := HST5.out.c4)
           | (go_at_call 153; refine (HST5.out.F.neg d).mono ?_; rintro e wr ⟨rfl, hf, hk⟩; have HPO := Aside0.mk (HPO5.out.kept (kept_but hk) (fun b e => .inr (.inr (.inl e)))); have HBA := Aside0.mk (HBA5.out.kept (kept_but hk) (HBA5.out.neG HST5.out.F)); have HST := Aside0.mk (HST5.out.fs hf hk); clear hf hk HPO5 HBA5 HST5 hx4))
          generalize (-inn D d).1 = dd
         all_goals
          have HST := Aside0.mk HST.out.drew
          have HBA := Aside0.mk HBA.out.drew
          have HPO := Aside0.mk HPO.out.drew
          obtain ⟨ch, hs5⟩ := HST.out.s5 HBA.out hp hc
          have e1 : (0 ≤ (pv.length : Int)) = True := eq_true (by omega)
          have e2 : ((pv.length : Int) < (m : Int)) = True := eq_true (by omega)
          refine start_ (n := 11) (S := fun w' => S5 w' b4 b5 ba R (bs2 pv.length) g m c N ch pv.length cc (E2 pv.length cc)) (ds := [9]) (bb 11 0) (by kernel_rfl) rfl rfl hs5 (fun hHeld => ?_); refine with_tabW Eli15.tab Eli15.bits (fun HT_ HW_ => ?_)
          generalize wr.drew = w31 at HST HBA HPO hHeld ⊢
          clear hs5
          refine tq HT_ HW_ hHeld 0 65 (bb 11 1) ?_
          refine pq HT_ 1 66 (bb 11 3) ?_
          refine tq HT_ HW_ hHeld 2 67 (bb 11 7) ?_
          refine tq HT_ HW_ hHeld 3 68 (bb 11 15) ?_
          refine pq HT_ 4 69 (bb 11 31) ?_
          refine tq HT_ HW_ hHeld 5 70 (bb 11 63) ?_
          refine pq HT_ 6 71 (bb 11 127) ?_
          refine pq HT_ 7 72 (bb 11 255) ?_
          refine tq HT_ HW_ hHeld 8 73 (bb 11 511) ?_
          refine lq HT_ 9 (some 74) (bb 11 1023) (fun K hK => ?_)
          refine gq Try.func116 #[.pointer (some ⟨g, 0, none⟩), .int .i64 dd, .int .i64 (E2 pv.length cc)] ?_
          refine (HST.out.F.mul dd (E2 pv.length cc)).mono ?_
          rintro e w32 ⟨rfl, hf, hk⟩
          refine ⟨_, rfl, ?_⟩
          have HPO := Aside0.mk (HPO.out.kept (kept_but hk) (fun b e => .inr (.inr (.inl e))))
          have HBA := Aside0.mk (HBA.out.kept (kept_but hk) (HBA.out.neG HST.out.F))
          have HST := Aside0.mk (HST.out.fs hf hk)
          clear hf hk hHeld
          refine hK.out _ _ ?_
          clear hK K
          refine nq 74 ?_
          refine pq HT_ 10 10 (bb 11 2047) ?_
          refine dq HT_ ?_
          clear HT_ HW_
          go_wp2
          have HST := Aside0.mk HST.out.drew
          have HBA := Aside0.mk HBA.out.drew
          have HPO := Aside0.mk HPO.out.drew
          obtain ⟨ch2, hs6⟩ := HST.out.s5 HBA.out hp hc
          refine start_ (n := 15) (S := fun w' => S5 w' b4 b5 ba R (bs2 pv.length) g m c N ch2 pv.length cc (E2 pv.length cc)) (ds := []) (bb 15 0) (by kernel_rfl) rfl rfl hs6 (fun hHeld => ?_); refine with_tabW Eli16.tab Eli16.bits (fun HT_ HW_ => ?_)
          generalize w32.drew = w33 at HST HBA HPO hHeld ⊢
          clear hs6
          refine tq HT_ HW_ hHeld 0 76 (bb 15 1) ?_
          refine tq HT_ HW_ hHeld 1 77 (bb 15 3) ?_
          refine tq HT_ HW_ hHeld 2 78 (bb 15 7) ?_
          refine pq HT_ 3 79 (bb 15 15) ?_
          refine tq HT_ HW_ hHeld 4 80 (bb 15 31) ?_
          refine pq HT_ 5 81 (bb 15 63) ?_
          refine pq HT_ 6 82 (bb 15 127) ?_
          refine tq HT_ HW_ hHeld 7 83 (bb 15 255) ?_
          refine two_ (i := 8) (j := 12) (Ni := some 84) (Nj := some 16) (bb 15 511) (bb 15 4351) rfl rfl rfl rfl (two_of HT_.out (by kernel_rfl)) (by decide) (by decide) (fun K hK => ?_) (fun K hK => ?_)
          focus
           refine gq Try.func154 #[.pointer (some ⟨g, 0, none⟩), .int .i64 (E2 pv.length cc)] ?_
           refine (HST.out.F.inv hzz).mono ?_
           rintro e w34 ⟨rfl, hf, hk⟩
           refine ⟨_, rfl, ?_⟩
           have hs6 := HST.out.s5fs HBA.out hp hHeld hk
           have HPO := Aside0.mk (HPO.out.kept (kept_but hk) (fun b e => .inr (.inr (.inl e))))
           have HBA := Aside0.mk (HBA.out.kept (kept_but hk) (HBA.out.neG HST.out.F))
           have HST := Aside0.mk (HST.out.fs hf hk)
           clear hf hk hHeld
           refine hK.out _ _ hs6 (fun hHeld => ?_)
           clear hK K hs6
           refine nq 84 ?_
           refine pq HT_ 9 75 (bb 15 1023) ?_
           refine pq HT_ 10 85 (bb 15 2047) ?_
           refine pq HT_ 11 86 (bb 15 4095) ?_
           refine oq HT_ 12 (some 16) (bb 15 8191) (fun K hK => ?_)
           refine event_step (v := .pointer (some ⟨w34.heap.size, 0, none⟩)) (w1 := w34.alloc (.cells #[.int .i64 0] 3 (0, 0))) (by rfl) ?_ ?_
           ·go_simp
            try rfl
           have hbox := blk_new w34 (.cells #[.int .i64 0] 3 (0, 0))
           have hbl := below_alloc (Below.refl w34.heap.size w34) (.cells #[.int .i64 0] 3 (0, 0))
           have HBI := Aside0.mk (HST.out.new hbox rfl)
           have HLI := Aside0.mk (Nat.ne_of_lt HBA.out.lt)
           have HGI := Aside0.mk (Nat.le_trans HGA.out (Nat.le_of_lt HBA.out.lt))
           have hs6 := hHeld.below hbl
           have HPO := Aside0.mk (HPO.out.below hbl)
           have HBA := Aside0.mk (HBA.out.below hbl)
           have HST := Aside0.mk (HST.out.below hbl)
           clear hHeld hbox hbl
           refine hK.out _ _ hs6 (fun hHeld => ?_)
           clear hK K hs6
           generalize w34.alloc (.cells #[.int .i64 0] 3 (0, 0)) = w35 at HST HBA HPO HBI hHeld ⊢
           generalize w34.heap.size = bi at HBI HLI HGI ⊢
           have hxi := HBI.out.cell
           have hfi := HBI.out.froz
           refine nq 16 ?_
           refine oq HT_ 13 none (bb 15 16383) (fun K hK => ?_)
           refine skip_ (w1 := w35.setCell ⟨bi, 0, none⟩ (.int .i64 (Alg.inv (inn D (E2 pv.length cc))).1)) (by rfl) rfl ?_ ?_
           ·go_simp
            try rfl
           have nn := HST.out.ne4 HBI.out.1 ⟨by decide, by decide⟩
           have hs6 := hHeld.kept ((Kept.refl w35 (fun k => k = bi)).setCell (p := ⟨bi, 0, none⟩) (.inl rfl) (.int .i64 (Alg.inv (inn D (E2 pv.length cc))).1)) nn.1 nn.2.1 HLI.out (fun e => HBI.out.neR HST.out.Mt (by omega) e.symm) (HBI.out.2.2 _ hp)
           have HPO := Aside0.mk (HPO.out.put HGI.out (.int .i64 (Alg.inv (inn D (E2 pv.length cc))).1))
           have HBA := Aside0.mk (HBA.out.far HLI.out (.int .i64 (Alg.inv (inn D (E2 pv.length cc))).1))
           have HST := Aside0.mk (HST.out.put HBI.out (.int .i64 (Alg.inv (inn D (E2 pv.length cc))).1))
           have HBI := Aside0.mk (HBI.out.put (.int .i64 (Alg.inv (inn D (E2 pv.length cc))).1))
           clear hHeld hxi hfi nn
           refine hK.out _ _ hs6 (fun hHeld => ?_)
           clear hK K hs6
           generalize w35.setCell ⟨bi, 0, none⟩ (.int .i64 (Alg.inv (inn D (E2 pv.length cc))).1) = w37 at HST HBA HPO HBI hHeld ⊢
           refine pq HT_ 14 17 (bb 15 32767) ?_
           refine dq HT_ ?_
           clear HT_ HW_ hHeld
          rotate_left
          focus
           refine event_step (v := .pointer (some ⟨w33.heap.size, 0, none⟩)) (w1 := w33.alloc (.cells #[.int .i64 0] 3 (0, 0))) (by rfl) ?_ ?_
           ·go_simp
            try rfl
           have hbox := blk_new w33 (.cells #[.int .i64 0] 3 (0, 0))
           have hbl := below_alloc (Below.refl w33.heap.size w33) (.cells #[.int .i64 0] 3 (0, 0))
           have HBI := Aside0.mk (HST.out.new hbox rfl)
           have HLI := Aside0.mk (Nat.ne_of_lt HBA.out.lt)
           have HGI := Aside0.mk (Nat.le_trans HGA.out (Nat.le_of_lt HBA.out.lt))
           have hs6 := hHeld.below hbl
           have HPO := Aside0.mk (HPO.out.below hbl)
           have HBA := Aside0.mk (HBA.out.below hbl)
           have HST := Aside0.mk (HST.out.below hbl)
           clear hHeld hbox hbl
           refine hK.out _ _ hs6 (fun hHeld => ?_)
           clear hK K hs6
           generalize w33.alloc (.cells #[.int .i64 0] 3 (0, 0)) = w34 at HST HBA HPO HBI hHeld ⊢
           generalize w33.heap.size = bi at HBI HLI HGI ⊢
           refine nq 16 ?_
           refine oq HT_ 8 (some 84) (bb 15 4607) (fun K hK => ?_)
           refine gq Try.func154 #[.pointer (some ⟨g, 0, none⟩), .int .i64 (E2 pv.length cc)] ?_
           refine (HST.out.F.inv hzz).mono ?_
           rintro e w35 ⟨rfl, hf, hk⟩
           refine ⟨_, rfl, ?_⟩
           have hs6 := HST.out.s5fs HBA.out hp hHeld hk
           have HPO := Aside0.mk (HPO.out.kept (kept_but hk) (fun b e => .inr (.inr (.inl e))))
           have HBA := Aside0.mk (HBA.out.kept (kept_but hk) (HBA.out.neG HST.out.F))
           have HBI := Aside0.mk (HBI.out.kept (kept_but hk) (HBI.out.neG HST.out.F))
           have HST := Aside0.mk (HST.out.fs hf hk)
           clear hf hk hHeld
           refine hK.out _ _ hs6 (fun hHeld => ?_)
           clear hK K hs6
           have hxi := HBI.out.cell
           have hfi := HBI.out.froz
           refine nq 84 ?_
           refine pq HT_ 9 75 (bb 15 5119) ?_
           refine pq HT_ 10 85 (bb 15 6143) ?_
           refine pq HT_ 11 86 (bb 15 8191) ?_
           refine oq HT_ 13 none (bb 15 16383) (fun K hK => ?_)
           refine skip_ (w1 := w35.setCell ⟨bi, 0, none⟩ (.int .i64 (Alg.inv (inn D (E2 pv.length cc))).1)) (by rfl) rfl ?_ ?_
           ·go_simp
            try rfl
           have nn := HST.out.ne4 HBI.out.1 ⟨by decide, by decide⟩
           have hs6 := hHeld.kept ((Kept.refl w35 (fun k => k = bi)).setCell (p := ⟨bi, 0, none⟩) (.inl rfl) (.int .i64 (Alg.inv (inn D (E2 pv.length cc))).1)) nn.1 nn.2.1 HLI.out (fun e => HBI.out.neR HST.out.Mt (by omega) e.symm) (HBI.out.2.2 _ hp)
           have HPO := Aside0.mk (HPO.out.put HGI.out (.int .i64 (Alg.inv (inn D (E2 pv.length cc))).1))
           have HBA := Aside0.mk (HBA.out.far HLI.out (.int .i64 (Alg.inv (inn D (E2 pv.length cc))).1))
           have HST := Aside0.mk (HST.out.put HBI.out (.int .i64 (Alg.inv (inn D (E2 pv.length cc))).1))
           have HBI := Aside0.mk (HBI.out.put (.int .i64 (Alg.inv (inn D (E2 pv.length cc))).1))
           clear hHeld hxi hfi nn
           refine hK.out _ _ hs6 (fun hHeld => ?_)
           clear hK K hs6
           generalize w35.setCell ⟨bi, 0, none⟩ (.int .i64 (Alg.inv (inn D (E2 pv.length cc))).1) = w37 at HST HBA HPO HBI hHeld ⊢
           refine pq HT_ 14 17 (bb 15 32767) ?_
           refine dq HT_ ?_
           clear HT_ HW_ hHeld
          all_goals
           have hxi := HBI.out.cell
           have hr2 := HST.out.ok pv.length cc hp hc
           have hio := inv_one hr2.1 hr2.2 hzz
           clear hr2
           rcases Classical.em (E2 pv.length cc = 1) with hv1 | hv1
           focus
            have q1 : (((Alg.inv (inn D (E2 pv.length cc))).1) == 1) = true := by rw [hio.2 hv1]; rfl
            have q2 : (((Alg.inv (inn D (E2 pv.length cc))).1) != 1) = false := by rw [hio.2 hv1]; rfl
            have HNE := Aside0.mk (show normE D E2 pv.length cc = E2 from if_pos hv1)
            clear hio hv1
            have hx5 := HST.out.c5
            go_wp2
            have HST : Aside0 (ESt D P M Mod w0 g γ w S0 b4 b5 b7 (some ⟨R, 0, none⟩) m c N R w37 bs2 (normE D E2 pv.length cc)) := ⟨by rw [HNE.out]; exact HST.out⟩
            clear hxi hx5 HNE HBI
           rotate_left
           focus
            have q1 : (((Alg.inv (inn D (E2 pv.length cc))).1) == 1) = false := by simpa using (fun e => hv1 (hio.1 e))
            have q2 : (((Alg.inv (inn D (E2 pv.length cc))).1) != 1) = true := by simpa using (fun e => hv1 (hio.1 e))
            have HNE := Aside0.mk (show normE D E2 pv.length cc = setF E2 pv.length (scF D (Alg.inv (inn D (E2 pv.length cc))).1 (E2 pv.length)) from if_neg hv1)
            clear hio hv1
            go_wp2_with (go_at_call 151; refine (HST.out.scale HN.out.1 (by have := HN.out.2.1; omega) hp HBA.out HBI.out).mono ?_; rintro e w37 ⟨rfl, bs2, hS, hb3, hK⟩; have HPO := Aside0.mk ((HPO.out.kept hK (fun b e => e.elim (fun e => .inr (.inr (.inl e))) (fun e => .inr (.inl e)))).rows (fun r => (hb3 r).imp id (fun h => Nat.le_trans HGA.out (Nat.le_trans (Nat.le_of_lt HBA.out.lt) h)))); have HBA := Aside0.mk ((HBA.out.rows (fun r => (hb3 r))).kept hK (fun e => e.elim (HBA.out.neG HST.out.F) (HBA.out.neR HST.out.Mt (by omega)))); have HST := Aside0.mk hS; clear hS hb3 hK hxi; have hx5 := HST.out.c5)
            have HST : Aside0 (ESt D P M Mod w0 g γ w S0 b4 b5 b7 (some ⟨R, 0, none⟩) m c N R w37 bs2 (normE D E2 pv.length cc)) := ⟨by rw [HNE.out]; exact HST.out⟩
            clear hx5 HNE HBI
           all_goals
            go_loopg [98] (m + 1) (fun kq v98 w' => ∃ (i : Nat) (E4 : Nat → Nat → Int), v98 = .int .i64 (i : Int) ∧ Aside0 (i ≤ m ∧ i + kq = m + 1) ∧ Aside0 (clr D pv.length cc (m - i) i E4 = clr D pv.length cc m 0 (normE D E2 pv.length cc)) ∧ Aside0 (ESt D P M Mod w0 g γ w S0 b4 b5 b7 (some ⟨R, 0, none⟩) m c N R w' bs2 E4) ∧ Aside0 (Bx w w' bs2 m ba (.int .i64 (pv.length : Int))) ∧
             Aside0 (Piv w' w.heap.size sz R g m bs2 (.slice Ap pv.length cp) pv))
            case atStart => exact ⟨0, _, rfl, ⟨by omega, by omega⟩, ⟨rfl⟩, HST, HBA, HPO⟩
            case round =>
             clear HST HBA HPO
             obtain ⟨i, E4, rfl, HI, HCL, HST, HBA, HPO⟩ := hrel
             cases gk with
             | zero => exact absurd HI.out.2 (by have := HI.out.1; omega)
             | succ k3 =>
              by_cases hi : i < m
              ·have r1 : decide ((i : Int) < (m : Int)) = true := decide_eq_true (by omega)
               have r2 : (0 ≤ (i : Int)) = True := eq_true (by omega)
               have r3 : ((i : Int) < (m : Int)) = True := eq_true (by omega)
               have hwi : wrap64 ((i : Int) + 1) = ((i + 1 : Nat) : Int) := by have := HN.out; rw [w64] <;> omega
               obtain ⟨ci, _, hhi, _⟩ := HST.out.Mt.hcell hi
               have hei := (HST.out.Mt.cell hi hc).1
               have HHI := Aside0.mk (And.intro hhi hei)
               clear hhi hei
               have HRI := Aside0.mk (And.intro (HST.out.Mt.neR hi) hi)
               have hcl : clr D pv.length cc (m - (i + 1)) (i + 1) (clr1 D pv.length cc i E4) = clr D pv.length cc m 0 (normE D E2 pv.length cc) := by rw [← HCL.out, show m - i = (m - (i + 1)) + 1 by omega]; rfl
               have HCL2 := Aside0.mk hcl
               clear hcl
               have hcases : (i = pv.length ∨ (i ≠ pv.length ∧ E4 i cc = 0)) ∨ (i ≠ pv.length ∧ E4 i cc ≠ 0) := by
                rcases Classical.em (i = pv.length) with h1 | h1
                ·exact .inl (.inl h1)
                ·rcases Classical.em (E4 i cc = 0) with h2 | h2
                 ·exact .inl (.inr ⟨h1, h2⟩)
                 ·exact .inr ⟨h1, h2⟩
               have hq : ∃ b1 b2 : Bool, ((i : Int) == (pv.length : Int)) = b1 ∧ ((i : Int) != (pv.length : Int)) = (!b1) ∧ (E4 i cc == 0) = b2 ∧ (E4 i cc != 0) = (!b2) := ⟨_, _, rfl, rfl, rfl, rfl⟩
               rcases hcases with hsk | ⟨hne, hxz⟩
               focus
                have hE5 : clr1 D pv.length cc i E4 = E4 := if_neg (fun h => hsk.elim (fun e => h.1 e) (fun e => h.2 e.2))
                rw [hE5] at HCL2
                have hqq : (((i : Int) == (pv.length : Int)) = true ∧ ((i : Int) != (pv.length : Int)) = false) ∨ (((i : Int) == (pv.length : Int)) = false ∧ ((i : Int) != (pv.length : Int)) = true ∧ (E4 i cc == 0) = true ∧ (E4 i cc != 0) = false) := by
                 rcases hsk with h1 | ⟨h1, h2⟩
                 ·left; constructor <;> simp <;> omega
                 ·right; refine ⟨by simp; omega, by simp; omega, by simpa using h2, by simpa using h2⟩
                clear hsk hE5 hq
                rcases hqq with ⟨q3, q4⟩ | ⟨q3, q4, q5, q6⟩
                all_goals
                 go_wp2_with (first
                  | (refine bx 18 #[.int .i64 0] 3 ?_; intro bj hbj w41 hbox hb; have HHI := Aside0.mk (And.intro (cellR HHI.out.1 (Kept.of_below hb (fun _ => False)) id) (cellR HHI.out.2 (Kept.of_below hb (fun _ => False)) id)); have HBJ := Aside0.mk (HST.out.new hbox hbj); have HLJ := Aside0.mk (show ba ≠ bj from Nat.ne_of_lt (by rw [hbj]; exact HBA.out.lt)); have HGJ := Aside0.mk (show sz ≤ bj from Nat.le_of_lt (Nat.lt_of_le_of_lt HGA.out (by rw [hbj]; exact HBA.out.lt))); have HPO := Aside0.mk (HPO.out.below hb); have HBA := Aside0.mk (HBA.out.below hb); have HST := Aside0.mk (HST.out.below hb); clear hbox hb hbj; have hxj := HBJ.out.cell; have hfj := HBJ.out.froz)
                  | ((with_reducible refine gate_store (t := 3) (p := 18) rfl ?_); refine store_event (t := 3) (p := 18) (v := ?vo) (w1 := w41.setCell ⟨bj, 0, none⟩ (.int .i64 (i : Int))) ?hg ?ho ?hn ?hr ?_; (case ho => rfl); (case hg => rfl); (case hn => rfl); (case hr => first | (go_simp; done) | (go_simp; rfl)); intro w42 hw; have hkj := (Kept.refl w41 (fun k => k = bj)).setCell (p := ⟨bj, 0, none⟩) (.inl rfl) (.int .i64 (i : Int)); rw [← hw] at hkj; have HHI := Aside0.mk (And.intro (cellR HHI.out.1 hkj (fun e => HBJ.out.neR HST.out.Mt (by omega) e.symm)) (cellR HHI.out.2 hkj (HBJ.out.2.2 i hi))); have HPO := Aside0.mk (hw ▸ HPO.out.put HGJ.out (.int .i64 (i : Int)) : Piv w42 w.heap.size sz R g m bs2 (.slice Ap pv.length cp) pv); have HBA := Aside0.mk (HBA.out.kept hkj HLJ.out); have HST := Aside0.mk (hw ▸ HST.out.put HBJ.out (.int .i64 (i : Int)) : ESt D P M Mod w0 g γ w S0 b4 b5 b7 (some ⟨R, 0, none⟩) m c N R w42 bs2 E4); have HBJ := Aside0.mk (hw ▸ HBJ.out.put (.int .i64 (i : Int)) : Bx w w42 bs2 m bj (.int .i64 (i : Int))); clear hw hkj hxj hfj; have hx5 := HST.out.c5; have hxj := HBJ.out.cell; have hhi := HHI.out.1; have hei := HHI.out.2)
                  | (refine bx 19 #[.int .i64 0] 3 ?_; intro bx hbx w43 hbox hb; have HBX := Aside0.mk (HST.out.new hbox hbx); have HLX := Aside0.mk (show ba ≠ bx from Nat.ne_of_lt (by rw [hbx]; exact HBA.out.lt)); have HLY := Aside0.mk (show bj ≠ bx from Nat.ne_of_lt (by rw [hbx]; exact HBJ.out.lt)); have HGX := Aside0.mk (show sz ≤ bx from Nat.le_of_lt (Nat.lt_of_le_of_lt HGA.out (by rw [hbx]; exact HBA.out.lt))); have HPO := Aside0.mk (HPO.out.below hb); have HBA := Aside0.mk (HBA.out.below hb); have HBJ := Aside0.mk (HBJ.out.below hb); have HST := Aside0.mk (HST.out.below hb); clear hbox hb hbx hx5 hxj hhi hei; have hxx := HBX.out.cell; have hfx := HBX.out.froz; have hxj := (HBJ.out.far HLY.out (.int .i64 (E4 i cc))).cell; have hxx2 := (HBX.out.put (.int .i64 (E4 i cc))).cell; have hxa := (HBA.out.far HLX.out (.int .i64 (E4 i cc))).cell; have HPO := Aside0.mk (HPO.out.put HGX.out (.int .i64 (E4 i cc))); have HBA := Aside0.mk (HBA.out.far HLX.out (.int .i64 (E4 i cc))); have HBJ := Aside0.mk (HBJ.out.far HLY.out (.int .i64 (E4 i cc))); have HST := Aside0.mk (HST.out.put HBX.out (.int .i64 (E4 i cc))); have HBX := Aside0.mk (HBX.out.put (.int .i64 (E4 i cc)))))
                 rw [hwi]
                 go_roundg k3
                 case measure => omega
                 case rel => exact ⟨i + 1, E4, rfl, ⟨by have := HI.out; omega⟩, HCL2, HST, HBA, HPO⟩
               rotate_left
               focus
                have hE5 : clr1 D pv.length cc i E4 = setF E4 i (adF D (E4 i) (-inn D (E4 i cc)).1 (E4 pv.length)) := if_pos ⟨hne, hxz⟩
                rw [hE5] at HCL2
                have q3 : ((i : Int) == (pv.length : Int)) = false := by simp; omega
                have q4 : ((i : Int) != (pv.length : Int)) = true := by simp; omega
                have q5 : (E4 i cc == 0) = false := by simpa using hxz
                have q6 : (E4 i cc != 0) = true := by simpa using hxz
                have HNE := Aside0.mk hne
                clear hxz hE5 hq hne
                go_wp2_with (first
                 | (refine bx 18 #[.int .i64 0] 3 ?_; intro bj hbj w41 hbox hb; have HHI := Aside0.mk (And.intro (cellR HHI.out.1 (Kept.of_below hb (fun _ => False)) id) (cellR HHI.out.2 (Kept.of_below hb (fun _ => False)) id)); have HBJ := Aside0.mk (HST.out.new hbox hbj); have HLJ := Aside0.mk (show ba ≠ bj from Nat.ne_of_lt (by rw [hbj]; exact HBA.out.lt)); have HGJ := Aside0.mk (show sz ≤ bj from Nat.le_of_lt (Nat.lt_of_le_of_lt HGA.out (by rw [hbj]; exact HBA.out.lt))); have HPO := Aside0.mk (HPO.out.below hb); have HBA := Aside0.mk (HBA.out.below hb); have HST := Aside0.mk (HST.out.below hb); clear hbox hb hbj; have hxj := HBJ.out.cell; have hfj := HBJ.out.froz)
                 | ((with_reducible refine gate_store (t := 3) (p := 18) rfl ?_); refine store_event (t := 3) (p := 18) (v := ?vo) (w1 := w41.setCell ⟨bj, 0, none⟩ (.int .i64 (i : Int))) ?hg ?ho ?hn ?hr ?_; (case ho => rfl); (case hg => rfl); (case hn => rfl); (case hr => first | (go_simp; done) | (go_simp; rfl)); intro w42 hw; have hkj := (Kept.refl w41 (fun k => k = bj)).setCell (p := ⟨bj, 0, none⟩) (.inl rfl) (.int .i64 (i : Int)); rw [← hw] at hkj; have HHI := Aside0.mk (And.intro (cellR HHI.out.1 hkj (fun e => HBJ.out.neR HST.out.Mt (by omega) e.symm)) (cellR HHI.out.2 hkj (HBJ.out.2.2 i hi))); have HPO := Aside0.mk (hw ▸ HPO.out.put HGJ.out (.int .i64 (i : Int)) : Piv w42 w.heap.size sz R g m bs2 (.slice Ap pv.length cp) pv); have HBA := Aside0.mk (HBA.out.kept hkj HLJ.out); have HST := Aside0.mk (hw ▸ HST.out.put HBJ.out (.int .i64 (i : Int)) : ESt D P M Mod w0 g γ w S0 b4 b5 b7 (some ⟨R, 0, none⟩) m c N R w42 bs2 E4); have HBJ := Aside0.mk (hw ▸ HBJ.out.put (.int .i64 (i : Int)) : Bx w w42 bs2 m bj (.int .i64 (i : Int))); clear hw hkj hxj hfj; have hx5 := HST.out.c5; have hxj := HBJ.out.cell; have hhi := HHI.out.1; have hei := HHI.out.2)
                 | (refine bx 19 #[.int .i64 0] 3 ?_; intro bx hbx w43 hbox hb; have HBX := Aside0.mk (HST.out.new hbox hbx); have HLX := Aside0.mk (show ba ≠ bx from Nat.ne_of_lt (by rw [hbx]; exact HBA.out.lt)); have HLY := Aside0.mk (show bj ≠ bx from Nat.ne_of_lt (by rw [hbx]; exact HBJ.out.lt)); have HGX := Aside0.mk (show sz ≤ bx from Nat.le_of_lt (Nat.lt_of_le_of_lt HGA.out (by rw [hbx]; exact HBA.out.lt))); have HPO := Aside0.mk (HPO.out.below hb); have HBA := Aside0.mk (HBA.out.below hb); have HBJ := Aside0.mk (HBJ.out.below hb); have HST := Aside0.mk (HST.out.below hb); clear hbox hb hbx hx5 hxj hhi hei; have hxx := HBX.out.cell; have hfx := HBX.out.froz; have hxj := (HBJ.out.far HLY.out (.int .i64 (E4 i cc))).cell; have hxx2 := (HBX.out.put (.int .i64 (E4 i cc))).cell; have hxa := (HBA.out.far HLX.out (.int .i64 (E4 i cc))).cell; have HPO := Aside0.mk (HPO.out.put HGX.out (.int .i64 (E4 i cc))); have HBA := Aside0.mk (HBA.out.far HLX.out (.int .i64 (E4 i cc))); have HBJ := Aside0.mk (HBJ.out.far HLY.out (.int .i64 (E4 i cc))); have HST := Aside0.mk (HST.out.put HBX.out (.int .i64 (E4 i cc))); have HBX := Aside0.mk (HBX.out.put (.int .i64 (E4 i cc))))
                 | (go_at_call 151; refine (HST.out.addto (by have := HN.out.2.1; omega) hi hp HNE.out HBA.out HBJ.out HBX.out).mono ?_; rintro e w46 ⟨rfl, hS, hK⟩; have HPO := Aside0.mk (HPO.out.kept hK (fun b e => e.elim (fun e => .inr (.inr (.inl e))) (fun e => .inr (.inr (.inr ⟨i, hi, e.symm⟩))))); have HBA := Aside0.mk (HBA.out.kept hK (fun e => e.elim (HBA.out.neG HST.out.F) (fun e => HBA.out.2.2 i hi e.symm))); have HST := Aside0.mk hS; clear hS hK))
                rw [hwi]
                go_roundg k3
                case measure => omega
                case rel => exact ⟨i + 1, _, rfl, ⟨by have := HI.out; omega⟩, HCL2, HST, HBA, HPO⟩
              ·have r1 : decide ((i : Int) < (m : Int)) = false := decide_eq_false (by omega)
               have him : i = m := by have := HI.out; omega
               have hE6 : E4 = clr D pv.length cc m 0 (normE D E2 pv.length cc) := by
                have h1 := HCL.out
                rw [him, Nat.sub_self] at h1
                exact h1
               have HEL2 := Aside0.mk (HEL3.out E4 hE6)
               clear hE6 him
               go_wp2_with ((with_reducible refine gate_builtin (b := .append) (xs := #[.tmp 119, .tmp 121]) rfl ?_); at_builtin; go_loud (refine Kd.R_append (Kd.int .i64) (w0 := wr) w.heap.size rfl (.tmp 119) (.tmp 121) 22 3 (.int .i64 0) 8 rfl Try.underlying22 info3 rfl (by decide) (by omega) (.slice Ap pv.length cp) pv (cc : Int) [.int .i64 (cc : Int)] (fun b => ∀ r, r < m → bs2 r ≠ b) (fun _ => False) rfl rfl rfl (fun _ hk => hk.elim) (fun b hb r hr e => by have := HST.out.Mt.lt hr; omega) (Kd.R_mono HPO.out fun b hb => hb.2.2.2) (Below.refl _ _) HST.out.K.1 (by have := HJ.out; have := HN.out; omega) ?_); intro v47 w47 ho _ hg _; have HPN := Aside0.mk ho; have HST := Aside0.mk (HST.out.grownP HPO.out hg); clear ho hg HPO)
               have hwc : wrap64 ((cc : Int) + 1) = ((cc + 1 : Nat) : Int) := by have := HN.out; rw [w64] <;> omega
               rw [hwc]
               go_roundg k1
               case measure => omega
               case rel => exact ⟨_, cc + 1, bs2, E4, pv ++ [(cc : Int)], rfl, rfl, ⟨by have := HJ.out; simp; omega⟩, HEL2, HST, HPN⟩
       ·have d4 : decide ((k : Int) < (m : Int)) = false := decide_eq_false (by omega)
        obtain rfl : k = m := by have := HK.out; omega
        have hfk : fk E' cc (k - pv.length) pv.length = k := by rw [← HFK.out, Nat.sub_self]; rfl
        have d7 : ((k : Int) == (k : Int)) = true := by simp
        go_wp2
        have hwc : wrap64 ((cc : Int) + 1) = ((cc + 1 : Nat) : Int) := by have := HN.out; rw [w64] <;> omega
        go_roundg k1
        case measure => omega
        case rel => exact ⟨d, cc + 1, bs', E', pv, rfl, (by rw [hwc]), ⟨by have := HJ.out; omega⟩, ⟨by rw [← HEL.out, show N - cc = (N - (cc + 1)) + 1 by omega, elimF, if_pos hp, if_pos hfk]⟩, HST, ⟨Kd.R_mono HPO.out fun b hb => hb.2.2.2⟩⟩
    ·have c2 : decide ((pv.length : Int) < (m : Int)) = false := decide_eq_false (by omega)
     go_wp2
     go_ret2
     rw [fin (.inr hp) rfl]
     exact ⟨_, _, bs', rfl, HST.out.F, HST.out.Mt, HST.out.ok, Kd.R_mono HPV.out (fun _ _ => trivial), HST.out.K, HST.out.own⟩
   ·have c1 : decide ((cc : Int) < (N : Int)) = false := decide_eq_false (by omega)
    go_wp2
    go_ret2
    rw [fin (.inl hc) rfl]
    exact ⟨_, _, bs', rfl, HST.out.F, HST.out.Mt, HST.out.ok, Kd.R_mono HPV.out (fun _ _ => trivial), HST.out.K, HST.out.own⟩
end
section
variable {D : FD} {P M : Int} {Mod : List Int} {w0 w : World} {g : Nat} {γ : GF D}
theorem elimF_len (m : Nat) : ∀ (d c : Nat) (E : Nat → Nat → Int) (pv : List Int), pv.length ≤ m → (elimF D m d c E pv).2.length ≤ m
 | 0, _, _, pv, h => h
 | d + 1, c, E, pv, h => by
  rw [elimF]
  split
  ·split
   ·exact elimF_len m d _ _ _ h
   ·exact elimF_len m d _ _ _ (by simp; omega)
  ·exact h
def rowsL (k N : Nat) (E : Nat → Nat → Int) : List (List Int) := (List.range k).map fun i => rowL N (E i)
theorem rowsL_length (k N : Nat) (E : Nat → Nat → Int) : (rowsL k N E).length = k := by simp [rowsL]
theorem Mat.toC {base R m N k : Nat} {bs : Nat → Nat} {E : Nat → Nat → Int} (h : Mat w base R bs m N E) (hN : N ≤ 256) (hk : k ≤ m) (hm : m ≤ 256) {A : Option Addr} (hA : 0 < k → A = some ⟨R, 0, none⟩) : Kd.C (Kd.slice 3 (Kd.int .i64)) w A k (rowsL k N E) := by
 refine ⟨rowsL_length _ _ _, by omega, fun hn => ⟨_, hA hn, fun j p hj => ?_⟩⟩
 have hjk : j < k := by
  rw [List.getElem?_eq_some_iff] at hj
  obtain ⟨h1, _⟩ := hj
  rwa [rowsL_length] at h1
 have hp : p = rowL N (E j) := by
  unfold rowsL at hj
  rw [List.getElem?_map, List.getElem?_range hjk] at hj
  exact (Option.some.inj hj).symm
 subst hp
 obtain ⟨c, hc, hcell, _⟩ := h.hcell (show j < m by omega)
 refine ⟨[.slice (some ⟨bs j, 0, none⟩) (rowL N (E j)).length c], rfl, ⟨some ⟨bs j, 0, none⟩, c, rfl, by rw [rowL_length]; exact hc, ?_⟩, fun i u hu => ?_⟩
 ·rw [rowL_length]
  exact h.C (by omega) (by omega)
 ·cases i with
  | zero =>
   injection hu with hu
   subst hu
   rw [rowL_length]
   have e : ((⟨R, 0, none⟩ : Addr).add (j * (Kd.slice 3 (Kd.int .i64)).sz + 0)) = ⟨R, j, none⟩ := by
    rw [show (Kd.slice 3 (Kd.int .i64)).sz = 1 from rfl, Nat.mul_one, Nat.add_zero, add_plain]
   rw [e]
   exact hcell
  | succ i => cases hu
theorem canon_in (hF : Fs D P M Mod w0 w g γ) (A : Option Addr) (m c N : Nat) (L : List (List Int)) (hr : Kd.C (Kd.slice 3 (Kd.int .i64)) w A m L) (hm : m ≤ 256) (hN1 : 1 ≤ N) (hN : N ≤ 256) (hL : ∀ i : Int, 0 ≤ i → i < m → (rd_L1 L i).length = N) (hE : Elm D m N (fun i j => rd (rd_L1 L i) j)) :
  Calls Try.prog 144 #[.pointer (some ⟨g, 0, none⟩), .slice A m c, .int .i64 (N : Int)] w fun e w' => ∃ A' v, (∃ Av nv cv, v = .slice Av nv cv) ∧ e = .returned (.tuple #[.slice A' (elimF D m N 0 (fun i j => rd (rd_L1 L i) j) []).2.length (elimF D m N 0 (fun i j => rd (rd_L1 L i) j) []).2.length, v]) ∧
   (∀ W', Kept w' W' (fun b => b < w.heap.size) → Kd.C (Kd.slice 3 (Kd.int .i64)) W' A' (elimF D m N 0 (fun i j => rd (rd_L1 L i) j) []).2.length (rowsL (elimF D m N 0 (fun i j => rd (rd_L1 L i) j) []).2.length N (elimF D m N 0 (fun i j => rd (rd_L1 L i) j) []).1)) ∧ Below w0.heap.size w0 w' ∧ Kept w w' (fun b => b = g) := by
 have HF := Aside0.mk hF
 have HC := Aside0.mk (clone_in A m c N L hr hm hN1 hN hL)
 have HN := Aside0.mk (And.intro hN1 (And.intro hN hm))
 have HE := Aside0.mk hE
 obtain ⟨R0, hR0⟩ : ∃ x, elimF D m N 0 (fun i j => rd (rd_L1 L i) j) [] = x := ⟨_, rfl⟩
 have hk := elimF_len (D := D) m N 0 (fun i j => rd (rd_L1 L i) j) [] (by simp)
 rw [hR0] at hk ⊢
 have HR0 := Aside0.mk hR0
 have HK := Aside0.mk hk
 clear hF hr hm hN1 hN hL hE hR0 hk
 go_enter Try.func144, Try.ntmps144
 go_wp2_with (first
  | (go_at_call 147; refine HC.out.mono ?_; rintro e w1 ⟨A', R, bs, c', rfl, hc', hA', hM, hb⟩; have HM := Aside0.mk hM; have HB := Aside0.mk hb; have HA := Aside0.mk hA'; have HCC := Aside0.mk hc'; clear hM hb hA' hc')
  | (go_at_call 148; have HEL := Eliminate_in (S0 := fun b => b = g ∨ w.heap.size ≤ b) (c := c') (HF.out.below HB.out) (show Mat w1 w0.heap.size R bs m N (fun i j => rd (rd_L1 L i) j) from ⟨HM.out.hd, HM.out.rw_, HM.out.inj, fun h => Nat.le_trans HF.out.B.size (HM.out.loR h), fun i h => Nat.le_trans HF.out.B.size (HM.out.lo i h)⟩) HN.out.1 HN.out.2.1 HN.out.2.2 HA.out HE.out (.inl rfl) (fun h => .inr (HM.out.loR h)) (fun r h => .inr (HM.out.lo r h)); rw [HR0.out] at HEL; refine HEL.mono ?_; clear HEL; rintro e w2 ⟨v, d, bs', rfl, hF2, hM2, _, hR, hK, hown⟩; have HOWN := Aside0.mk (fun r (h : r < m) => (hown r h).elim (fun e => e.elim (fun e => absurd e (hF2.neB hM2 h)) id) (fun e => Nat.le_trans (below_size HB.out) e) : ∀ r, r < m → w.heap.size ≤ bs' r); clear hown; have HF2 := Aside0.mk hF2; have HM2 := Aside0.mk hM2; have HR := Aside0.mk hR; have HKK := Aside0.mk hK; clear hF2 hM2 hR hK; obtain ⟨Ap, cp, rfl⟩ := Kd.R_slice HR.out; have b1 : (R0.2.length ≤ c') = True := eq_true (Nat.le_trans HK.out HCC.out); have b2 : ((R0.2.length : Int) ≤ (c' : Int)) = True := eq_true (by have := Nat.le_trans HK.out HCC.out; omega); have b3 : (0 ≤ (R0.2.length : Int)) = True := eq_true (by omega)))
 go_ret2
 exact ⟨A', _, ⟨_, _, _, rfl⟩, rfl, fun W' hk' => (HM2.out.kept hk' (fun hm h => by have h1 := HM.out.loR hm; have h2 : R < w.heap.size := h; omega) (fun r hr h => by have h1 := HOWN.out r hr; have h2 : bs' r < w.heap.size := h; omega)).toC HN.out.2.1 HK.out HN.out.2.2 (fun h => HA.out (Nat.lt_of_lt_of_le h HK.out)), HF2.out.B, (Kept.of_below HB.out _).then_ HKK.out (fun k e => e)⟩
end
section
variable {D : FD} {P M : Int} {Mod : List Int} {w : World} {γ : GF D}
structure FOk (D : FD) (P M : Int) (Mod : List Int) (γ : GF D) (A : Option Addr) (c : Nat) : Prop where
 h : Desc D P M Mod
 hg : IsOrd γ (D.q - 1).toNat
 N : NewSaysOk P M D.q A c Mod (expL γ) (LG γ)
theorem FOk.new {A : Option Addr} {c : Nat} (hF : FOk D P M Mod γ A c) (hr : Kd.C (Kd.int .i64) w A Mod.length Mod) : Calls Try.prog 37 #[.agg #[.int .i64 P, .int .i64 M, .slice A Mod.length c]] w fun e w' => ∃ (g : Nat) (w0 : World), e = .returned (.tuple #[.pointer (some ⟨g, 0, none⟩), .int .i64 0]) ∧ Fs D P M Mod w0 w' g γ ∧ w.heap.size ≤ w0.heap.size ∧ w0.heap.size ≤ g ∧ Below w.heap.size w w' := by
 refine (hF.N w hr).mono ?_
 rintro e w' ⟨g, w0, rfl, hI, hB, hw, hb⟩
 exact ⟨g, w0, rfl, ⟨hF.h, hF.hg, hI, hB⟩, hw, hI.ge, hb⟩
theorem came_w0 {w' w0 : World} {A : Option Addr} {m : Nat} {L : List (List Int)} (hr : Kd.C (Kd.slice 3 (Kd.int .i64)) w A m L) (hw : w.heap.size ≤ w0.heap.size) (hB : Below w0.heap.size w0 w') (hb : Below w.heap.size w w') : Kd.C (Kd.slice 3 (Kd.int .i64)) w0 A m L :=
 (Kd.heap_slice 3 (Kd.heap_int .i64)).C (fun k hk => ((hB.block k (Nat.lt_of_lt_of_le hk hw)).symm.trans (hb.block k hk))) hr
theorem below_keepG {w wr w9 w5 w0 : World} {g b9 : Nat} {u0 u1 : Value} (h3 : Below w.heap.size w wr) (h9 : Below wr.heap.size wr w9) (hl : wr.heap.size ≤ b9) (hf : Fs D P M Mod w0 w5 g γ) (hk : Kept ((w9.setCell ⟨b9, 0, none⟩ u0).setCell ⟨b9, 1, none⟩ u1) w5 (fun b => b = g)) (hg : w.heap.size ≤ g) (h0 : Below w0.heap.size w0 wr) : Below w.heap.size w w5 := by
 have h1 : Below w.heap.size w ((w9.setCell ⟨b9, 0, none⟩ u0).setCell ⟨b9, 1, none⟩ u1) := below_set (below_set (below_step h3 h9) (Nat.le_trans (below_size h3) hl)) (Nat.le_trans (below_size h3) hl)
 exact ⟨hf.B.os.trans (h0.os.symm.trans h3.os), hf.B.tape.trans (h0.tape.symm.trans h3.tape), hf.B.output.trans (h0.output.symm.trans h3.output), Nat.le_trans h1.size hk.1, fun k hlt => (hk.2 k (Nat.lt_of_lt_of_le hlt h1.size) (fun e => by have e2 : k = g := e; omega)).trans (h1.block k hlt)⟩
theorem open_in {AM : Option Addr} {cM : Nat} (hF : FOk D P M Mod γ AM cM) (hMr : Kd.C (Kd.int .i64) w AM Mod.length Mod) (A : Option Addr) (m c b : Nat) (cols : Int) (L : List (List Int)) (hr : Kd.C (Kd.slice 3 (Kd.int .i64)) w A m L)
  (hb0 : w.cell? ⟨b, 0, none⟩ = some (.int .i64 cols)) (hb1 : w.cell? ⟨b, 1, none⟩ = some (.slice A m c)) :
  Calls Try.prog 143 #[.agg #[.int .i64 P, .int .i64 M, .slice AM Mod.length cM], .slice (some ⟨b, 0, none⟩) 1 1] w fun e w' => Below w.heap.size w w' ∧ ((chk D cols L = 0 ∧ ∃ g w0, e = .returned (.tuple #[.pointer (some ⟨g, 0, none⟩), .int .i64 0]) ∧ Fs D P M Mod w0 w' g γ ∧ w.heap.size ≤ w0.heap.size ∧ w0.heap.size ≤ g) ∨ (chk D cols L ≠ 0 ∧ e = .returned (.tuple #[.pointer none, .int .i64 (chk D cols L)]))) := by
 have HF := Aside0.mk hF
 have HMR := Aside0.mk hMr
 have HR := Aside0.mk hr
 have HB := Aside0.mk (Below.refl w.heap.size w)
 have hblt : b < w.heap.size := World.block_lt_of_cell? _ _ hb0
 have HC := Aside0.mk (And.intro hb0 (And.intro hb1 hblt))
 obtain ⟨ck, hck⟩ : ∃ x, chk D cols L = x := ⟨_, rfl⟩
 rw [hck]
 have HCK := Aside0.mk hck
 clear hF hMr hr hb0 hb1 hblt hck
 go_enter Try.func143, Try.ntmps143
 go_wp2_with (first
  | (refine bx 2 #[.int .i64 P, .int .i64 M, .slice AM Mod.length cM] 36 ?_; intro b2 hb2 w2 hbox hb; have H2 := Aside0.mk hb; have hc0 := bc0 hbox; have hc1 := bc1 hbox; have hc2 := bc2 hbox; clear hbox hb hb2)
  | (go_at_call 37; refine (HF.out.new (Kd.C_below HMR.out H2.out)).mono ?_; rintro e w3 ⟨g, w0, rfl, hf, hw, hg, hb⟩; have HFS := Aside0.mk hf; have HG := Aside0.mk (And.intro (Nat.le_trans (below_size H2.out) hw) hg); have H3 := Aside0.mk (below_step H2.out hb); have HR0 := Aside0.mk (came_w0 (Kd.C_below HR.out H2.out) hw hf.B hb); clear hf hw hg hb H2 hc0 hc1 hc2))
 go_loopg [20] 2 (fun kq v20 w' => ∃ j : Nat, v20 = .int .i64 (j : Int) ∧ Aside0 (j ≤ 1 ∧ j + kq = 2) ∧ Aside0 (Fs D P M Mod w0 w' g γ) ∧ Aside0 (Below w.heap.size w w') ∧ Aside0 (j = 1 → ck = 0))
 case atStart => exact ⟨0, rfl, ⟨by omega, by omega⟩, HFS, H3, ⟨fun h => absurd h (by omega)⟩⟩
 case round =>
  clear HFS H3
  obtain ⟨j, rfl, HJ, HFS, H3, HZ⟩ := hrel
  cases gk with
  | zero => exact absurd HJ.out.2 (by have := HJ.out.1; omega)
  | succ k1 =>
   by_cases hj : j = 0
   ·subst hj
    have hb0 : wr.cell? ⟨b, 0, none⟩ = some (.int .i64 cols) := (H3.out.cell HC.out.2.2).trans HC.out.1
    have hb1 : wr.cell? ⟨b, 1, none⟩ = some (.slice A m c) := (H3.out.cell HC.out.2.2).trans HC.out.2.1
    rcases Classical.em (ck = 0) with hz | hz
    focus
     have z1 : (ck == 0) = true := by simpa using hz
     have z2 : (ck != 0) = false := by simpa using hz
     have HZ0 := Aside0.mk hz
     clear hz
     go_wp2_with (first
      | (refine bx 9 #[.int .i64 0, .slice none 0 0] 101 ?_; intro b9 hb9 w9 hbox hb; have B9 := Aside0.mk hbox; have H9 := Aside0.mk hb; obtain ⟨hx0, hx1, hf0, hf1⟩ := bq2 hbox; have HN9 := Aside0.mk (show b9 ≠ g from by obtain ⟨cs, hcs⟩ := HFS.out.blk; exact blk_ne hbox (blk_below hcs hb) (by decide)); have HL9 := Aside0.mk (show wr.heap.size ≤ b9 by rw [hb9]; exact Nat.le_refl _); clear hbox hb hb9)
      | (go_at_call 146; refine (check_in (((HFS.out.below H9.out).store (j := 0) HN9.out (Nat.le_trans HFS.out.B.size HL9.out) (.int .i64 cols)).store (j := 1) HN9.out (Nat.le_trans HFS.out.B.size HL9.out) (.slice A m c)) A m c cols L HR0.out HG.out.2).mono ?_; rintro e w5 ⟨rfl, hf, hk⟩; rw [HCK.out]; have HF5 := Aside0.mk hf; have HK5 := Aside0.mk hk; clear hf hk))
     go_roundg k1
     case measure => omega
     case rel => exact ⟨1, rfl, ⟨by have := HJ.out; omega⟩, HF5, ⟨below_keepG H3.out H9.out HL9.out HF5.out HK5.out (Nat.le_trans HG.out.1 HG.out.2) HFS.out.B⟩, ⟨fun _ => HZ0.out⟩⟩
    rotate_left
    focus
     have z1 : (ck == 0) = false := by simpa using hz
     have z2 : (ck != 0) = true := by simpa using hz
     have HZ0 := Aside0.mk hz
     clear hz
     go_wp2_with (first
      | (refine bx 9 #[.int .i64 0, .slice none 0 0] 101 ?_; intro b9 hb9 w9 hbox hb; have B9 := Aside0.mk hbox; have H9 := Aside0.mk hb; obtain ⟨hx0, hx1, hf0, hf1⟩ := bq2 hbox; have HN9 := Aside0.mk (show b9 ≠ g from by obtain ⟨cs, hcs⟩ := HFS.out.blk; exact blk_ne hbox (blk_below hcs hb) (by decide)); have HL9 := Aside0.mk (show wr.heap.size ≤ b9 by rw [hb9]; exact Nat.le_refl _); clear hbox hb hb9)
      | (go_at_call 146; refine (check_in (((HFS.out.below H9.out).store (j := 0) HN9.out (Nat.le_trans HFS.out.B.size HL9.out) (.int .i64 cols)).store (j := 1) HN9.out (Nat.le_trans HFS.out.B.size HL9.out) (.slice A m c)) A m c cols L HR0.out HG.out.2).mono ?_; rintro e w5 ⟨rfl, hf, hk⟩; rw [HCK.out]; have HF5 := Aside0.mk hf; have HK5 := Aside0.mk hk; clear hf hk))
     go_ret2
     exact ⟨below_keepG H3.out H9.out HL9.out HF5.out HK5.out (Nat.le_trans HG.out.1 HG.out.2) HFS.out.B, .inr ⟨HZ0.out, rfl⟩⟩
   ·obtain rfl : j = 1 := by have := HJ.out.1; omega
    have HZ2 := Aside0.mk (HZ.out rfl)
    go_wp2
    go_ret2
    exact ⟨H3.out, .inl (by first | exact ⟨HZ2.out, g, w0, rfl, HFS.out, HG.out.1, HG.out.2⟩ | exact ⟨HZ2.out, g, rfl, w0, HFS.out, HG.out.1, HG.out.2⟩)⟩
end
section
variable {D : FD} {P M : Int} {Mod : List Int} {w : World} {γ : GF D}
noncomputable def canonR (D : FD) (N : Nat) (L : List (List Int)) : List (List Int) := rowsL (elimF D L.length N 0 (fun i j => rd (rd_L1 L i) j) []).2.length N (elimF D L.length N 0 (fun i j => rd (rd_L1 L i) j) []).1
theorem canonR_len (N : Nat) (L : List (List Int)) : (canonR D N L).length = (elimF D L.length N 0 (fun i j => rd (rd_L1 L i) j) []).2.length := rowsL_length _ _ _
theorem chk_zero {cols : Int} {L : List (List Int)} (h : chk D cols L = 0) : (0 ≤ cols ∧ cols ≤ 256 ∧ L.length ≤ 256) ∧ (∀ i : Int, 0 ≤ i → i < L.length → ((rd_L1 L i).length : Int) = cols) ∧ Elm D L.length cols.toNat (fun i j => rd (rd_L1 L i) j) := by
 unfold chk at h
 by_cases hs : shpOk cols L = true
 ·rw [if_pos hs] at h
  by_cases ha : L.all (allIn D) = true
  ·unfold shpOk at hs
   rw [Bool.and_eq_true, List.all_eq_true] at hs
   have hmem : ∀ i : Int, 0 ≤ i → i < L.length → rd_L1 L i ∈ L := fun i h0 h1 => by
    have hlt : i.toNat < L.length := by omega
    show L.getD i.toNat [] ∈ L
    rw [List.getD_eq_getElem?_getD, List.getElem?_eq_getElem hlt]
    exact List.getElem_mem hlt
   have hl : ∀ i : Int, 0 ≤ i → i < L.length → ((rd_L1 L i).length : Int) = cols := fun i h0 h1 => of_decide_eq_true (hs.2 _ (hmem i h0 h1))
   refine ⟨of_decide_eq_true hs.1, hl, fun i j hi hj => ?_⟩
   rw [List.all_eq_true] at ha
   have h1 := ha _ (hmem (i : Int) (by omega) (by omega))
   unfold allIn at h1
   rw [List.all_eq_true] at h1
   have h2 := hl (i : Int) (by omega) (by omega)
   exact of_decide_eq_true (h1 _ (rd_mem (by omega) (by omega)))
  ·rw [if_neg ha] at h; omega
 ·rw [if_neg hs] at h; omega
theorem below_keepF {w w5 w6 w0 : World} {g : Nat} (h5 : Below w.heap.size w w5) (hk : Kept w5 w6 (fun b => b = g)) (hg : w.heap.size ≤ g) (h0 : Below w0.heap.size w0 w5) (h6 : Below w0.heap.size w0 w6) : Below w.heap.size w w6 :=
 ⟨h6.os.trans (h0.os.symm.trans h5.os), h6.tape.trans (h0.tape.symm.trans h5.tape), h6.output.trans (h0.output.symm.trans h5.output), Nat.le_trans h5.size hk.1, fun k hlt => (hk.2 k (Nat.lt_of_lt_of_le hlt h5.size) (fun e => by have e2 : k = g := e; omega)).trans (h5.block k hlt)⟩
theorem results_cell2 {fn : Func} {p r s : Tmp} {t : TypeId} (h : fn.results = #[.cell p t, .tmp r, .tmp s]) {tmps : Array Value} {w : World} {a : Addr} {x : Value}
  (ha : tmps.getD p undef = .pointer (some a)) (Pr : Program) (hx : (loadVar t a).run Pr w = .ok x w) : (results fn tmps).run Pr w = .ok (.tuple #[x, tmps.getD r undef, tmps.getD s undef]) w := by
 have ha' : (asAddr (tmps.getD p undef)).run Pr w = .ok a w := by rw [ha]; rfl
 simp only [results, h]
 simp only [Sem.run_bind, Result.andThen, List.mapM_toArray]
 simp only [Array.getD_eq_getD_getElem?] at ha'
 simp [Sem.run_bind, Result.andThen, ha', hx]
theorem load101 {W : World} {b : Nat} {x y : Value} (hb : W.heap[b]? = some (.cells #[x, y] 101 (0, 0))) (h1 : x.oneCell' = true) (h2 : y.oneCell' = true) : (loadVar 101 ⟨b, 0, none⟩).run Try.prog W = .ok (.agg #[x, y]) W := by
 have hu := Try.underlying101
 have c0 : W.cell? ⟨b, 0, none⟩ = some x := bc0 hb
 have c1 : W.cell? ⟨b, 1, none⟩ = some y := bc1 hb
 unfold loadVar
 go_simp
theorem canonical_in {AM : Option Addr} {cM : Nat} (hF : FOk D P M Mod γ AM cM) (hMr : Kd.C (Kd.int .i64) w AM Mod.length Mod) (A : Option Addr) (c : Nat) (cols : Int) (L : List (List Int)) (hc1 : 1 ≤ cols) (hr : Kd.C (Kd.slice 3 (Kd.int .i64)) w A L.length L) :
  Calls Try.prog 132 #[.agg #[.int .i64 P, .int .i64 M, .slice AM Mod.length cM], .agg #[.int .i64 cols, .slice A L.length c]] w fun e w' => Below w.heap.size w w' ∧ ((chk D cols L = 0 ∧ ∃ A' v, (∃ Av nv cv, v = .slice Av nv cv) ∧ e = .returned (.tuple #[.agg #[.int .i64 cols, .slice A' (canonR D cols.toNat L).length (canonR D cols.toNat L).length], v, .int .i64 0]) ∧ Kd.C (Kd.slice 3 (Kd.int .i64)) w' A' (canonR D cols.toNat L).length (canonR D cols.toNat L)) ∨
   (chk D cols L ≠ 0 ∧ e = .returned (.tuple #[.agg #[.int .i64 0, .slice none 0 0], .slice none 0 0, .int .i64 (chk D cols L)]))) := by
 have HF := Aside0.mk hF
 have HMR := Aside0.mk hMr
 have HR := Aside0.mk hr
 have HC1 := Aside0.mk hc1
 clear hF hMr hr hc1
 obtain ⟨ck, hck⟩ : ∃ x, chk D cols L = x := ⟨_, rfl⟩
 have HCK := Aside0.mk hck
 rw [hck]
 clear hck
 rcases Classical.em (ck = 0) with hz | hz
 ·have z1 : (ck == 0) = true := by simpa using hz
  have z2 : (ck != 0) = false := by simpa using hz
  have HZ0 := Aside0.mk hz
  have hch := chk_zero (D := D) (cols := cols) (L := L) (by rw [HCK.out]; exact hz)
  have HCH := Aside0.mk hch
  obtain ⟨N, hN⟩ : ∃ N : Nat, cols = (N : Int) := ⟨cols.toNat, by have := hch.1; omega⟩
  subst hN
  rw [Int.toNat_natCast] at HCH ⊢
  clear hz hch
  go_enter Try.func132, Try.ntmps132
  go_wp2_with (first
   | (refine bx 2 #[.int .i64 P, .int .i64 M, .slice AM Mod.length cM] 36 ?_; intro b2 hb2 w2 hbox hb; have B2 := Aside0.mk hbox; have H2 := Aside0.mk hb; clear hbox hb hb2)
   | (refine bx 3 #[.int .i64 (N : Int), .slice A L.length c] 101 ?_; intro b3 hb3 w3 hbox hb; have B3 := Aside0.mk hbox; have B2 := Aside0.mk (blk_below B2.out hb); have H3 := Aside0.mk (below_step H2.out hb); clear hbox hb hb3)
   | (refine bx 4 #[.int .i64 0, .slice none 0 0] 101 ?_; intro b4 hb4 w4 hbox hb; have B4 := Aside0.mk hbox; have B2 := Aside0.mk (blk_below B2.out hb); have B3 := Aside0.mk (blk_below B3.out hb); have H4 := Aside0.mk (below_step H3.out hb); have HL4 := Aside0.mk (show w.heap.size ≤ b4 from Nat.le_trans (below_size H3.out) (by rw [hb4]; exact Nat.le_refl _)); clear hbox hb hb4; have hc20 := bc0 B2.out; have hc21 := bc1 B2.out; have hc22 := bc2 B2.out; have hc30 := bc0 B3.out; have hc31 := bc1 B3.out)
   | (go_at_call 143; refine (open_in (w := w4.alloc (.cells #[.int .i64 (N : Int), .slice A L.length c] 101 (0, 0))) HF.out (Kd.C_below HMR.out (below_alloc H4.out _)) A L.length c w4.heap.size (N : Int) L (Kd.C_below HR.out (below_alloc H4.out _)) ((blk_cell (blk_new w4 _) 0).trans rfl) ((blk_cell (blk_new w4 _) 1).trans rfl)).mono ?_; rintro e w5 ⟨hb5, h5⟩; rcases h5 with ⟨_, g, w0, rfl, hf, hw, hg⟩ | ⟨hne, _⟩; rotate_left; exact absurd (HCK.out.trans HZ0.out) hne; have HF5 := Aside0.mk hf; have HG5 := Aside0.mk (And.intro hw hg); have H5 := Aside0.mk hb5; have B3 := Aside0.mk (blk_below (blk_alloc B3.out _) hb5); have B4 := Aside0.mk (blk_below (blk_alloc B4.out _) hb5); clear hf hw hg hb5 hc20 hc21 hc22 hc30 hc31; have hc30 := bc0 B3.out; have hc31 := bc1 B3.out)
   | (go_at_call 144; go_loud (have HCN := (canon_in HF5.out A L.length c N L (Kd.C_below HR.out (below_step (below_alloc H4.out _) H5.out)) HCH.out.1.2.2 (by have := HC1.out; omega) (by have := HCH.out.1; omega) (fun i h0 h1 => by have := HCH.out.2.1 i h0 h1; omega) HCH.out.2.2)); go_loud (refine HCN.mono ?_); clear HCN; rintro e w6 ⟨A', v, hv, rfl, hC, hB, hK⟩; have HV := Aside0.mk hv; clear hv; have HC6 := Aside0.mk hC; have HB6 := Aside0.mk hB; have HK6 := Aside0.mk hK; have hng : ∀ b cs, w5.heap[b]? = some (.cells cs 101 (0, 0)) → b ≠ g := (fun b cs hh => by obtain ⟨cs', hcs⟩ := HF5.out.blk; exact blk_ne hh hcs (by decide)); have HNG4 := Aside0.mk (hng b4 _ B4.out); have B3 := Aside0.mk (blk_kept B3.out hK (hng b3 _ B3.out)); have HL5 := Aside0.mk (blk_lt B4.out); have B4 := Aside0.mk (blk_kept B4.out hK (hng b4 _ B4.out)); clear hC hB hK hng hc30 hc31; have hc30 := bc0 B3.out; obtain ⟨hx0, hx1, hf0, hf1⟩ := bq2 B4.out))
  rw [canonR_len]
  refine bodyPost_ret (v := .tuple #[.agg #[.int .i64 (N : Int), .slice A' (elimF D L.length N 0 (fun i j => rd (rd_L1 L i) j) []).2.length (elimF D L.length N 0 (fun i j => rd (rd_L1 L i) j) []).2.length], v, .int .i64 0]) ?_ rfl ⟨?_, .inl ⟨HZ0.out, A', v, HV.out, rfl, ?_⟩⟩
  ·exact results_cell2 (p := 4) (r := 5) (s := 6) (t := 101) rfl rfl _ (load101 (by simpa using blk_set (blk_set B4.out 0 (.int .i64 (N : Int))) 1 (.slice A' (elimF D L.length N 0 (fun i j => rd (rd_L1 L i) j) []).2.length (elimF D L.length N 0 (fun i j => rd (rd_L1 L i) j) []).2.length)) rfl rfl)
  ·exact below_set (below_set (below_keepF (below_step (below_alloc H4.out _) H5.out) HK6.out (Nat.le_trans (Nat.le_trans (below_size (below_alloc H4.out _)) HG5.out.1) HG5.out.2) HF5.out.B HB6.out) HL4.out) HL4.out
  ·exact HC6.out _ (((Kept.refl w6 (fun b => b < w5.heap.size)).setCell (p := ⟨b4, 0, none⟩) (.inl HL5.out) _).setCell (p := ⟨b4, 1, none⟩) (.inl HL5.out) _)
 ·have z1 : (ck == 0) = false := by simpa using hz
  have z2 : (ck != 0) = true := by simpa using hz
  have HZ0 := Aside0.mk hz
  clear hz
  go_enter Try.func132, Try.ntmps132
  go_wp2_with (first
   | (refine bx 2 #[.int .i64 P, .int .i64 M, .slice AM Mod.length cM] 36 ?_; intro b2 hb2 w2 hbox hb; have B2 := Aside0.mk hbox; have H2 := Aside0.mk hb; clear hbox hb hb2)
   | (refine bx 3 #[.int .i64 cols, .slice A L.length c] 101 ?_; intro b3 hb3 w3 hbox hb; have B3 := Aside0.mk hbox; have B2 := Aside0.mk (blk_below B2.out hb); have H3 := Aside0.mk (below_step H2.out hb); clear hbox hb hb3)
   | (refine bx 4 #[.int .i64 0, .slice none 0 0] 101 ?_; intro b4 hb4 w4 hbox hb; have B4 := Aside0.mk hbox; have B2 := Aside0.mk (blk_below B2.out hb); have B3 := Aside0.mk (blk_below B3.out hb); have H4 := Aside0.mk (below_step H3.out hb); have HL4 := Aside0.mk (show w.heap.size ≤ b4 from Nat.le_trans (below_size H3.out) (by rw [hb4]; exact Nat.le_refl _)); clear hbox hb hb4; have hc20 := bc0 B2.out; have hc21 := bc1 B2.out; have hc22 := bc2 B2.out; have hc30 := bc0 B3.out; have hc31 := bc1 B3.out)
   | (go_at_call 143; refine (open_in (w := w4.alloc (.cells #[.int .i64 cols, .slice A L.length c] 101 (0, 0))) HF.out (Kd.C_below HMR.out (below_alloc H4.out _)) A L.length c w4.heap.size cols L (Kd.C_below HR.out (below_alloc H4.out _)) ((blk_cell (blk_new w4 _) 0).trans rfl) ((blk_cell (blk_new w4 _) 1).trans rfl)).mono ?_; rintro e w5 ⟨hb5, h5⟩; rcases h5 with ⟨he, _⟩ | ⟨_, rfl⟩; exact absurd (HCK.out.symm.trans he) HZ0.out; rw [HCK.out]; have H5 := Aside0.mk hb5; have B4 := Aside0.mk (blk_below (blk_alloc B4.out _) hb5); clear hb5 hc20 hc21 hc22 hc30 hc31; obtain ⟨hx0, hx1, hf0, hf1⟩ := bq2 B4.out))
  refine bodyPost_ret (v := .tuple #[.agg #[.int .i64 0, .slice none 0 0], .slice none 0 0, .int .i64 ck]) ?_ rfl ⟨?_, .inr ⟨HZ0.out, rfl⟩⟩
  ·exact results_cell2 (p := 4) (r := 5) (s := 6) (t := 101) rfl rfl _ (load101 (by simpa using blk_set (blk_set B4.out 0 (.int .i64 0)) 1 (.slice none 0 0)) rfl rfl)
  ·exact below_set (below_set (below_step (below_alloc H4.out _) H5.out) HL4.out) HL4.out
end
theorem eq_l0 (l1 l2 : List Int) (hl : l1.length = l2.length) (hb : l1.length ≤ 4611686018427387904) : ∀ (d : Nat) (i : Int), 0 ≤ i → i + d = l1.length → (∀ t : Int, 0 ≤ t → t < i → rd l1 t = rd l2 t) → Ev (fun k => slices_Equal_int_int.l0 k l1 l2 l1.length i) (decide (l1 = l2)) := by
 intro d
 induction d with
 | zero =>
  intro i h0 hd ht
  have e : l1 = l2 := list_ext_rd hl fun t h1 h2 => ht t h1 (by omega)
  rw [decide_eq_true e]
  exact ev_succ (ev_now fun k => by rw [slices_Equal_int_int.l0, if_neg (by omega)])
 | succ d ih =>
  intro i h0 hd ht
  by_cases e : rd l1 i = rd l2 i
  ·refine Ev.step (fun k => ?_) (ih (i + 1) (by omega) (by omega) (fun t h1 h2 => ?_))
   ·rw [slices_Equal_int_int.l0, if_pos (by omega), if_pos h0, if_pos (by omega), if_pos (by omega), if_pos e, w64 (by omega) (by omega)]
   ·by_cases e2 : t = i
    ·subst e2; exact e
    ·exact ht t h1 (by omega)
  ·have hne : l1 ≠ l2 := fun h => e (by rw [h])
   rw [decide_eq_false hne]
   exact ev_succ (ev_now fun k => by rw [slices_Equal_int_int.l0, if_pos (by omega), if_pos h0, if_pos (by omega), if_pos (by omega), if_neg e])
theorem eq_f (l1 l2 : List Int) (hb : l1.length ≤ 4611686018427387904) : Ev (fun k => slices_Equal_int_int.f k l1 l2) (decide (l1 = l2)) := by
 by_cases hl : l1.length = l2.length
 ·refine Ev.congr (fun k => ?_) (eq_l0 l1 l2 hl hb l1.length 0 (by omega) (by omega) (fun t _ _ => by omega))
  unfold slices_Equal_int_int.f
  rw [if_pos (by omega)]
 ·rw [decide_eq_false (fun h => hl (by rw [h]))]
  refine ev_now fun k => ?_
  unfold slices_Equal_int_int.f
  rw [if_neg (by omega)]
theorem si_l0 (l1 l2 : List Int) (hl : l1.length = l2.length) (hb : l1.length ≤ 4611686018427387904) : ∀ (d : Nat) (i : Int), 0 ≤ i → i + d = l1.length → (∀ t : Int, 0 ≤ t → t < i → rd l1 t = rd l2 t) → Ev (fun k => r9_SameInts.l0 k l1 l2 i) (decide (l1 = l2)) := by
 intro d
 induction d with
 | zero =>
  intro i h0 hd ht
  have e : l1 = l2 := list_ext_rd hl fun t h1 h2 => ht t h1 (by omega)
  rw [decide_eq_true e]
  exact ev_succ (ev_now fun k => by rw [r9_SameInts.l0, if_neg (by omega)])
 | succ d ih =>
  intro i h0 hd ht
  by_cases e : rd l1 i = rd l2 i
  ·refine Ev.step (fun k => ?_) (ih (i + 1) (by omega) (by omega) (fun t h1 h2 => ?_))
   ·rw [r9_SameInts.l0, if_pos (by omega), if_pos h0, if_pos (by omega), if_pos e, w64 (by omega) (by omega)]
   ·by_cases e2 : t = i
    ·subst e2; exact e
    ·exact ht t h1 (by omega)
  ·have hne : l1 ≠ l2 := fun h => e (by rw [h])
   rw [decide_eq_false hne]
   exact ev_succ (ev_now fun k => by rw [r9_SameInts.l0, if_pos (by omega), if_pos h0, if_pos (by omega), if_neg e])
theorem SameInts_eq (l1 l2 : List Int) (hb : l1.length ≤ 4611686018427387904) : Ev (fun k => r9_SameInts.f k l1 l2) (decide (l1 = l2)) := by
 by_cases hl : l1.length = l2.length
 ·refine Ev.congr (fun k => ?_) (si_l0 l1 l2 hl hb l1.length 0 (by omega) (by omega) (fun t _ _ => by omega))
  unfold r9_SameInts.f
  rw [if_pos (by omega)]
 ·rw [decide_eq_false (fun h => hl (by rw [h]))]
  refine ev_now fun k => ?_
  unfold r9_SameInts.f
  rw [if_neg (by omega)]
theorem rd_L1_mem {L : List (List Int)} {i : Int} (h0 : 0 ≤ i) (h1 : i < L.length) : rd_L1 L i ∈ L := by
 have hlt : i.toNat < L.length := by omega
 show L.getD i.toNat [] ∈ L
 rw [List.getD_eq_getElem?_getD, List.getElem?_eq_getElem hlt]
 exact List.getElem_mem hlt
theorem rows_ext {L1 L2 : List (List Int)} (h : L1.length = L2.length) (he : ∀ i : Int, 0 ≤ i → i < L1.length → rd_L1 L1 i = rd_L1 L2 i) : L1 = L2 := by
 apply List.ext_getElem h
 intro i h1 h2
 have h3 := he (i : Int) (by omega) (by omega)
 have e1 : rd_L1 L1 (i : Int) = L1[i] := by show L1.getD i [] = _; rw [List.getD_eq_getElem?_getD, List.getElem?_eq_getElem h1]; rfl
 have e2 : rd_L1 L2 (i : Int) = L2[i] := by show L2.getD i [] = _; rw [List.getD_eq_getElem?_getD, List.getElem?_eq_getElem h2]; rfl
 rw [← e1, ← e2, h3]
theorem sr_l0 (L1 L2 : List (List Int)) (hl : L1.length = L2.length) (hb : L1.length ≤ 4611686018427387904) (hr : ∀ l ∈ L1, l.length ≤ 4611686018427387904) : ∀ (d : Nat) (i : Int), 0 ≤ i → i + d = L1.length → (∀ t : Int, 0 ≤ t → t < i → rd_L1 L1 t = rd_L1 L2 t) → Ev (fun k => r9_SameRows.l0 k L1 L2 i) (decide (L1 = L2)) := by
 intro d
 induction d with
 | zero =>
  intro i h0 hd ht
  have e : L1 = L2 := rows_ext hl fun t h1 h2 => ht t h1 (by omega)
  rw [decide_eq_true e]
  exact ev_succ (ev_now fun k => by rw [r9_SameRows.l0, if_neg (by omega)])
 | succ d ih =>
  intro i h0 hd ht
  have hs := SameInts_eq (rd_L1 L1 i) (rd_L1 L2 i) (hr _ (rd_L1_mem h0 (by omega)))
  refine Ev.step (fun k => by rw [r9_SameRows.l0, if_pos (by omega), if_pos h0, if_pos (by omega)]) (Ev.bind hs ?_)
  by_cases e : rd_L1 L1 i = rd_L1 L2 i
  ·refine Ev.congr (fun k => ?_) (ih (i + 1) (by omega) (by omega) (fun t h1 h2 => ?_))
   ·rw [decide_eq_true e, if_pos rfl, w64 (by omega) (by omega)]
   ·by_cases e2 : t = i
    ·subst e2; exact e
    ·exact ht t h1 (by omega)
  ·have hne : L1 ≠ L2 := fun h => e (by rw [h])
   rw [decide_eq_false hne]
   exact ev_now fun k => by rw [decide_eq_false e, if_neg (by simp)]
theorem SameRows_eq (L1 L2 : List (List Int)) (hb : L1.length ≤ 4611686018427387904) (hr : ∀ l ∈ L1, l.length ≤ 4611686018427387904) : Ev (fun k => r9_SameRows.f k L1 L2) (decide (L1 = L2)) := by
 by_cases hl : L1.length = L2.length
 ·refine Ev.congr (fun k => ?_) (sr_l0 L1 L2 hl hb hr L1.length 0 (by omega) (by omega) (fun t _ _ => by omega))
  unfold r9_SameRows.f
  rw [if_pos (by omega)]
 ·rw [decide_eq_false (fun h => hl (by rw [h]))]
  refine ev_now fun k => ?_
  unfold r9_SameRows.f
  rw [if_neg (by omega)]
section
variable {w : World}
theorem EqualFunc_in (A1 A2 : Option Addr) (c1 c2 : Nat) (L1 L2 : List (List Int)) (h1 : Kd.C (Kd.slice 3 (Kd.int .i64)) w A1 L1.length L1) (h2 : Kd.C (Kd.slice 3 (Kd.int .i64)) w A2 L2.length L2) (hb : L1.length ≤ 256) (hr : ∀ l ∈ L1, l.length ≤ 4611686018427387904) :
  Calls Try.prog 133 #[.slice A1 L1.length c1, .slice A2 L2.length c2, .func (.func 134) #[] #[]] w fun e w' => e = .returned (.bool (decide (L1 = L2))) ∧ Below w.heap.size w w' := by
 have H1 := Aside0.mk h1
 have H2 := Aside0.mk h2
 have HR := Aside0.mk hr
 have HB := Aside0.mk hb
 clear h1 h2 hr hb
 by_cases hl : L1.length = L2.length
 ·have q1 : ((L1.length : Int) == (L2.length : Int)) = true := by simp; omega
  have q2 : ((L1.length : Int) != (L2.length : Int)) = false := by simp; omega
  have HL := Aside0.mk hl
  clear hl
  go_enter Try.func133, Try.ntmps133
  go_wp2
  go_loopg [17] (L1.length + 1) (fun kq v17 w' => ∃ j : Nat, v17 = .int .i64 (j : Int) ∧ Aside0 (j ≤ L1.length ∧ j + kq = L1.length + 1) ∧ Aside0 (∀ i : Int, 0 ≤ i → i < j → rd_L1 L1 i = rd_L1 L2 i) ∧ Aside0 (Below w.heap.size w w'))
  case atStart => exact ⟨0, rfl, ⟨by omega, by omega⟩, ⟨fun i _ _ => by omega⟩, ⟨Below.refl _ _⟩⟩
  case round =>
   obtain ⟨j, rfl, HJ, HE, HW⟩ := hrel
   cases gk with
   | zero => exact absurd HJ.out.2 (by have := HJ.out.1; omega)
   | succ k1 =>
    by_cases hj : j < L1.length
    ·have d1 : decide ((j : Int) < (L1.length : Int)) = true := decide_eq_true (by omega)
     have p6 : (0 ≤ (j : Int)) = True := eq_true (by omega)
     have p7 : ((j : Int) < (L1.length : Int)) = True := eq_true (by omega)
     have p8 : ((j : Int) < (L2.length : Int)) = True := eq_true (by have := HL.out; omega)
     have hwn : wrap64 ((j : Int) + 1) = ((j + 1 : Nat) : Int) := by have := HB.out; rw [w64] <;> omega
     obtain ⟨ad1, B1, b1, e1, hc1, hle1, hC1⟩ := at_L1 (Kd.C_below H1.out HW.out) (j : Int) (by omega) (by omega)
     obtain ⟨ad2, B2, b2, e2, hc2, hle2, hC2⟩ := at_L1 (Kd.C_below H2.out HW.out) (j : Int) (by omega) (by have := HL.out; omega)
     subst e1 e2
     rw [Int.toNat_natCast] at hc1 hc2
     obtain ⟨k, hk⟩ := (eq_f (rd_L1 L1 (j : Int)) (rd_L1 L2 (j : Int)) (HR.out _ (rd_L1_mem (by omega) (by omega)))).rounds
     have HC := Aside0.mk (slices_Equal_int_int.calls k B1 b1 _ B2 b2 _ _ wr hC1 hle1 hC2 hle2 hk)
     clear hC1 hC2 hle1 hle2 hk
     by_cases he : rd_L1 L1 (j : Int) = rd_L1 L2 (j : Int)
     ·rw [decide_eq_true he] at HC
      have HE2 := Aside0.mk he
      clear he
      go_wp2_with (go_at_call 134; refine HC.out.mono ?_; rintro e w5 ⟨rfl, hd⟩; have HW5 := Aside0.mk (below_step HW.out hd.below); clear hd)
      go_roundg k1
      case measure => omega
      case rel => exact ⟨j + 1, rY, ⟨by have := HJ.out; omega⟩, ⟨fun i h0 h1 => by
       by_cases e : i = (j : Int)
       ·subst e; exact HE2.out
       ·exact HE.out i h0 (by omega)⟩, HW5⟩
     ·rw [decide_eq_false he] at HC
      have HNE := Aside0.mk (fun h => he (by rw [h]) : L1 ≠ L2)
      clear he
      go_wp2_with (go_at_call 134; refine HC.out.mono ?_; rintro e w5 ⟨rfl, hd⟩; have HW5 := Aside0.mk (below_step HW.out hd.below); clear hd)
      go_ret
      exact ⟨by rw [decide_eq_false HNE.out]; rfl, HW5.out⟩
    ·have d1 : decide ((j : Int) < (L1.length : Int)) = false := decide_eq_false (by omega)
     have heq : L1 = L2 := rows_ext HL.out fun i h0 h1 => HE.out i h0 (by omega)
     have HQ := Aside0.mk heq
     clear heq
     go_wp2
     go_ret
     exact ⟨by rw [decide_eq_true HQ.out]; rfl, HW.out⟩
 ·have q1 : ((L1.length : Int) == (L2.length : Int)) = false := by simp; omega
  have q2 : ((L1.length : Int) != (L2.length : Int)) = true := by simp; omega
  have HNE := Aside0.mk (fun h => hl (by rw [h]) : L1 ≠ L2)
  clear hl
  go_enter Try.func133, Try.ntmps133
  go_wp2
  go_ret
  exact ⟨by rw [decide_eq_false HNE.out]; rfl, Below.refl _ _⟩
end
def Fck1.T : Bool × List (List Nat × List Nat) := (true, [([], []), ([0], [0]), ([1], [1]), ([2, 1], [2]), ([3], [3]), ([3], [3]), ([5, 3], [3, 5]), ([3], [3]), ([7, 3], [3, 7]), ([6, 8, 3, 3], [3, 6, 8]), ([4, 9, 9, 3], [3, 4, 9]), ([10, 3], [3, 10]), ([3, 11], [3, 11])])
def Fck1.B : List Nat := [0, 1, 3, 7, 15, 15, 47, 15, 143, 495, 1023, 2047, 4095]
theorem Fck1.tab : rtab .any (opsOf Try.f76 1) = Fck1.T := by kernel_rfl
theorem Fck1.bits : waitsOk Fck1.T.2 Fck1.B = true := by kernel_rfl
section
variable {w : World} {P M : Int} {Mod : List Int} {A : Option Addr} {c : Nat}
theorem eql_nn (w : World) : (binOp BinOp.eql 22 (Value.slice none 0 0) (Value.slice none 0 0)).run Try.prog w = .ok (.bool true) w := by
 have hu := Try.underlying22
 unfold binOp
 simp [Op.equal]
 rw [show Op.maxDepth = 9999 + 1 from rfl, Op.equalIn]
 simp [hu]
theorem Check_shape (k : Nat) (hr : Kd.C (Kd.int .i64) w A Mod.length Mod) (hc : Mod.length ≤ c) (hs : field_shape.f k P M Mod = some false) :
  Calls Try.prog 76 #[.agg #[.int .i64 P, .int .i64 M, .slice A Mod.length c]] w fun e w' => e = .returned (.int .i64 1) ∧ Below w.heap.size w w' := by
 have HR := Aside0.mk hr
 have HC := Aside0.mk hc
 have HS := Aside0.mk hs
 have hu36 := Try.underlying36
 clear hr hc hs
 go_enter Try.func76, Try.ntmps76
 go_wp2_with (refine bx 1 #[.int .i64 P, .int .i64 M, .slice A Mod.length c] 36 ?_; intro b1 hb1 w1 hbox hb; have B1 := Aside0.mk hbox; have HB := Aside0.mk hb; clear hbox hb hb1)
 have B1 := Aside0.mk (blk_drew B1.out)
 have HB := Aside0.mk (below_drew1 HB.out)
 refine start_ (n := 13) (S := fun w' => w'.cell? ⟨b1, 0, none⟩ = some (.int .i64 P) ∧ w'.cell? ⟨b1, 1, none⟩ = some (.int .i64 M) ∧ w'.cell? ⟨b1, 2, none⟩ = some (.slice A Mod.length c)) (ds := []) (bb 13 0) (by kernel_rfl) rfl rfl ⟨bc0 B1.out, bc1 B1.out, bc2 B1.out⟩ (fun hHeld => ?_); refine with_tabW Fck1.tab Fck1.bits (fun HT_ HW_ => ?_)
 generalize w1.drew = w2 at B1 HB hHeld ⊢
 refine tq HT_ HW_ hHeld 0 3 (bb 13 1) ?_
 refine oq HT_ 1 (some 4) (bb 13 3) (fun K hK => ?_)
 refine gq Try.func62 #[.agg #[.int .i64 P, .int .i64 M, .slice A Mod.length c]] ?_
 refine (field_shape.calls k P M A c Mod false _ (Kd.C_below HR.out HB.out) HC.out HS.out).mono ?_
 rintro e w3 ⟨rfl, hb⟩
 refine ⟨_, rfl, ?_⟩
 have B1 := Aside0.mk (blk_below B1.out hb)
 have HB := Aside0.mk (below_step HB.out hb)
 clear hb hHeld
 refine hK.out _ _ ⟨bc0 B1.out, bc1 B1.out, bc2 B1.out⟩ (fun hHeld => ?_)
 clear hK K
 refine nq 4 ?_
 refine pq HT_ 2 5 (bb 13 7) ?_
 refine pq HT_ 3 6 (bb 13 15) ?_
 refine tu HT_ HW_ hHeld 4 7 (bb 13 31) ?_
 refine pu HT_ 5 8 (bb 13 63) ?_
 refine tu HT_ HW_ hHeld 6 9 (bb 13 127) ?_
 refine pu HT_ 7 10 (bb 13 255) ?_
 refine tu HT_ HW_ hHeld 8 11 (bb 13 511) ?_
 refine oq HT_ 9 (some 12) (bb 13 1023) (fun K hK => ?_)
 rw [if_neg (Bool.eq_false_iff.1 (by rfl))]
 refine hK.out _ _ hHeld (fun hHeld => ?_)
 clear hK K
 refine nq 12 ?_
 refine oq HT_ 10 (some 13) (bb 13 2047) (fun K hK => ?_)
 rw [if_neg (Bool.eq_false_iff.1 (by rfl))]
 refine hK.out _ _ hHeld (fun hHeld => ?_)
 clear hK K
 refine nq 13 ?_
 refine pu HT_ 11 14 (bb 13 4095) ?_
 refine pq HT_ 12 15 (bb 13 8191) ?_
 refine dq HT_ ?_
 clear HT_ HW_
 go_wp2
 go_ret
 exact ⟨rfl, HB.out⟩
theorem Check_gen (k : Nat) (q : Int) (r : List Int) (hr : Kd.C (Kd.int .i64) w A Mod.length Mod) (hc : Mod.length ≤ c) (hs : field_shape.f k P M Mod = some true) (ho : field_order.f k P M = some q) (hg : field_generator.f k P M Mod q = some r) (rb : Bool) (hrb : decide (r = []) = rb) :
  Calls Try.prog 76 #[.agg #[.int .i64 P, .int .i64 M, .slice A Mod.length c]] w fun e w' => e = .returned (.int .i64 (if rb = true then 1 else 0)) ∧ Below w.heap.size w w' := by
 have HR := Aside0.mk hr
 have HC := Aside0.mk hc
 have HS := Aside0.mk hs
 have HO := Aside0.mk ho
 have HG := Aside0.mk hg
 have HRB := Aside0.mk hrb
 have hu36 := Try.underlying36
 clear hr hc hs ho hg hrb
 go_enter Try.func76, Try.ntmps76
 go_wp2_with (refine bx 1 #[.int .i64 P, .int .i64 M, .slice A Mod.length c] 36 ?_; intro b1 hb1 w1 hbox hb; have B1 := Aside0.mk hbox; have HB := Aside0.mk hb; clear hbox hb hb1)
 have B1 := Aside0.mk (blk_drew B1.out)
 have HB := Aside0.mk (below_drew1 HB.out)
 refine start_ (n := 13) (S := fun w' => w'.cell? ⟨b1, 0, none⟩ = some (.int .i64 P) ∧ w'.cell? ⟨b1, 1, none⟩ = some (.int .i64 M) ∧ w'.cell? ⟨b1, 2, none⟩ = some (.slice A Mod.length c)) (ds := []) (bb 13 0) (by kernel_rfl) rfl rfl ⟨bc0 B1.out, bc1 B1.out, bc2 B1.out⟩ (fun hHeld => ?_); refine with_tabW Fck1.tab Fck1.bits (fun HT_ HW_ => ?_)
 generalize w1.drew = w2 at B1 HB hHeld ⊢
 refine tq HT_ HW_ hHeld 0 3 (bb 13 1) ?_
 refine oq HT_ 1 (some 4) (bb 13 3) (fun K hK => ?_)
 refine gq Try.func62 #[.agg #[.int .i64 P, .int .i64 M, .slice A Mod.length c]] ?_
 refine (field_shape.calls k P M A c Mod true _ (Kd.C_below HR.out HB.out) HC.out HS.out).mono ?_
 rintro e w3 ⟨rfl, hb⟩
 refine ⟨_, rfl, ?_⟩
 have B1 := Aside0.mk (blk_below B1.out hb)
 have HB := Aside0.mk (below_step HB.out hb)
 clear hb hHeld
 refine hK.out _ _ ⟨bc0 B1.out, bc1 B1.out, bc2 B1.out⟩ (fun hHeld => ?_)
 clear hK K
 refine nq 4 ?_
 refine pq HT_ 2 5 (bb 13 7) ?_
 refine pq HT_ 3 6 (bb 13 15) ?_
 refine tq HT_ HW_ hHeld 4 7 (bb 13 31) ?_
 refine pq HT_ 5 8 (bb 13 63) ?_
 refine tq HT_ HW_ hHeld 6 9 (bb 13 127) ?_
 refine pq HT_ 7 10 (bb 13 255) ?_
 refine tq HT_ HW_ hHeld 8 11 (bb 13 511) ?_
 refine oq HT_ 9 (some 12) (bb 13 1023) (fun K hK => ?_)
 refine gq Try.func63 #[.int .i64 P, .int .i64 M] ?_
 refine (field_order.calls k P M q _ HO.out).mono ?_
 rintro e w4 ⟨rfl, hd⟩
 refine ⟨_, rfl, ?_⟩
 have hb := hd.below
 have B1 := Aside0.mk (blk_below B1.out hb)
 have HB := Aside0.mk (below_step HB.out hb)
 clear hb hd hHeld
 refine hK.out _ _ ⟨bc0 B1.out, bc1 B1.out, bc2 B1.out⟩ (fun hHeld => ?_)
 clear hK K
 refine nq 12 ?_
 refine oq HT_ 10 (some 13) (bb 13 2047) (fun K hK => ?_)
 refine gq Try.func64 #[.agg #[.int .i64 P, .int .i64 M, .slice A Mod.length c], .int .i64 q] ?_
 refine (field_generator.calls k P M A c Mod q r _ (Kd.C_below HR.out HB.out) HC.out HG.out).mono ?_
 rintro e w5 ⟨v, rfl, hv, hb, hnil⟩
 refine ⟨_, rfl, ?_⟩
 have B1 := Aside0.mk (blk_below B1.out hb)
 have HB := Aside0.mk (below_step HB.out hb)
 have hq : ∀ w', (binOp BinOp.eql 22 v (Value.slice none 0 0)).run Try.prog w' = .ok (.bool rb) w' := fun w' => by
  rw [← HRB.out]
  by_cases e : r = []
  ·rw [hnil e, decide_eq_true e]; exact eql_nn w'
  ·obtain ⟨g, cap, rfl, _⟩ := Kd.R_form hv (List.length_pos_iff.2 e)
   rw [decide_eq_false e]; exact eql_nil _ _ _ w'
 have hge : ∀ w', (eqGuard BinOp.eql 22 (Operand.tmp 13) (Operand.const (Value.slice none 0 0)) v (Value.slice none 0 0)).run Try.prog w' = .ok () w' := fun w' => by
  by_cases e : r = []
  ·rw [hnil e]; simp [eqGuard]
  ·obtain ⟨g, cap, rfl, _⟩ := Kd.R_form hv (List.length_pos_iff.2 e)
   simp [eqGuard]
 clear hb hHeld hv hnil
 refine hK.out _ _ ⟨bc0 B1.out, bc1 B1.out, bc2 B1.out⟩ (fun hHeld => ?_)
 clear hK K
 refine nq 13 ?_
 refine pq HT_ 11 14 (bb 13 4095) ?_
 refine pq HT_ 12 15 (bb 13 8191) ?_
 refine dq HT_ ?_
 skip
 cases rb with
 | true =>
  go_wp2
  go_ret
  exact ⟨rfl, HB.out⟩
 | false =>
  go_wp2
  go_ret
  exact ⟨rfl, HB.out⟩
theorem fldCheck_in (hr : Kd.C (Kd.int .i64) w A Mod.length Mod) (hc : Mod.length ≤ c) : ∃ r : Int, ((r = 0 ∧ ∃ D, Desc D P M Mod) ∨ (r = 1 ∧ ¬ ∃ D, Desc D P M Mod)) ∧
  Calls Try.prog 76 #[.agg #[.int .i64 P, .int .i64 M, .slice A Mod.length c]] w fun e w' => e = .returned (.int .i64 r) ∧ Below w.heap.size w w' := by
 by_cases hD : ∃ D, Desc D P M Mod
 ·obtain ⟨D, h⟩ := hD
  refine ⟨0, .inl ⟨rfl, D, h⟩, ?_⟩
  obtain ⟨g, hg, hge⟩ := gen_FD h
  have hs := h.shp
  have hq2 := D.two_q
  have hm := h.hm
  have hqe : P ^ M.toNat = D.q := by rw [← h.hp, show M.toNat = D.m by omega]; rfl
  obtain ⟨b, hb, hbq⟩ := pshape P M Mod
  rw [hbq.2 hs] at hb
  obtain ⟨q, hq, hor⟩ := porder P M
  rcases hor with ⟨_, hR⟩ | ⟨rfl, _⟩
  ·exact absurd hs.1 hR
  ·obtain ⟨K, hK⟩ := ev_two hb hq
   obtain ⟨K', hK'⟩ := hge
   refine Check_gen (max K K') _ _ hr hc (hK _ (Nat.le_max_left _ _)).1 (hK _ (Nat.le_max_left _ _)).2 (hK' _ (Nat.le_max_right _ _)) false (decide_eq_false fun e => ?_)
   have := congrArg List.length e
   rw [List.length_map, List.length_range, List.length_nil] at this
   omega
 ·refine ⟨1, .inr ⟨rfl, hD⟩, ?_⟩
  obtain ⟨b, hb, hbq⟩ := pshape P M Mod
  cases b with
  | false =>
   obtain ⟨k, hk⟩ := hb.rounds
   exact Check_shape k hr hc hk
  | true =>
   have hs := hbq.1 rfl
   obtain ⟨q, hq, hor⟩ := porder P M
   rcases hor with ⟨_, hR⟩ | ⟨rfl, _⟩
   ·exact absurd hs.1 hR
   ·obtain ⟨K, hK⟩ := ev_two hb hq
    obtain ⟨K', hK'⟩ := gen_none hs hD
    exact Check_gen (max K K') _ _ hr hc (hK _ (Nat.le_max_left _ _)).1 (hK _ (Nat.le_max_left _ _)).2 (hK' _ (Nat.le_max_right _ _)) true (decide_eq_true rfl)
end
section
variable {D : FD} {P M : Int} {Mod : List Int} {w : World} {γ : GF D}
open Classical in
noncomputable def spc (D : FD) (cols : Int) (L : List (List Int)) : Int := if chk D cols L ≠ 0 then chk D cols L else if canonR D cols.toNat L = L then 0 else 5
theorem results_cell1 {fn : Func} {p r : Tmp} {t : TypeId} (h : fn.results = #[.cell p t, .tmp r]) {tmps : Array Value} {w : World} {a : Addr} {x : Value}
  (ha : tmps.getD p undef = .pointer (some a)) (Pr : Program) (hx : (loadVar t a).run Pr w = .ok x w) : (results fn tmps).run Pr w = .ok (.tuple #[x, tmps.getD r undef]) w := by
 have ha' : (asAddr (tmps.getD p undef)).run Pr w = .ok a w := by rw [ha]; rfl
 simp only [results, h]
 simp only [Sem.run_bind, Result.andThen, List.mapM_toArray]
 simp only [Array.getD_eq_getD_getElem?] at ha'
 simp [Sem.run_bind, Result.andThen, ha', hx]
theorem load130 {W : World} {b : Nat} {x y z u : Value} (hb : W.heap[b]? = some (.cells #[x, y, z, u] 130 (0, 0))) (h1 : x.oneCell' = true) (h2 : y.oneCell' = true) (h3 : z.oneCell' = true) (h4 : u.oneCell' = true) : (loadVar 130 ⟨b, 0, none⟩).run Try.prog W = .ok (.agg #[x, y, z, u]) W := by
 have hu := Try.underlying130
 have c0 : W.cell? ⟨b, 0, none⟩ = some x := bc0 hb
 have c1 : W.cell? ⟨b, 1, none⟩ = some y := bc1 hb
 have c2 : W.cell? ⟨b, 2, none⟩ = some z := bc2 hb
 have c3 : W.cell? ⟨b, 3, none⟩ = some u := bc3 hb
 unfold loadVar
 go_simp
theorem put130 {W : World} {b : Nat} {x y z u x' y' z' u' : Value} (hb : W.heap[b]? = some (.cells #[x, y, z, u] 130 (0, 0))) : ((((W.setCell ⟨b, 0, none⟩ x').setCell ⟨b, 1, none⟩ y').setCell ⟨b, 2, none⟩ z').setCell ⟨b, 3, none⟩ u').heap[b]? = some (.cells #[x', y', z', u'] 130 (0, 0)) := by
 simpa using blk_set (blk_set (blk_set (blk_set hb 0 x') 1 y') 2 z') 3 u'
theorem canonR_mem {N : Nat} {L : List (List Int)} {l : List Int} (h : l ∈ canonR D N L) : l.length = N := by
 unfold canonR rowsL at h
 obtain ⟨i, _, rfl⟩ := List.mem_map.mp h
 simp [rowL]
theorem sopen_in {AM : Option Addr} {cM : Nat} (hF : FOk D P M Mod γ AM cM) (hMr : Kd.C (Kd.int .i64) w AM Mod.length Mod) (A : Option Addr) (c : Nat) (cols : Int) (L : List (List Int)) (hc1 : 1 ≤ cols) (hr : Kd.C (Kd.slice 3 (Kd.int .i64)) w A L.length L) :
  Calls Try.prog 112 #[.agg #[.int .i64 P, .int .i64 M, .slice AM Mod.length cM], .agg #[.int .i64 cols, .slice A L.length c]] w fun e w' => Below w.heap.size w w' ∧ ∃ (p : Option Addr) (i : Int) (A1 : Option Addr) (n1 c1 : Nat) (A2 : Option Addr) (n2 c2 : Nat), e = .returned (.tuple #[.agg #[.pointer p, .int .i64 i, .slice A1 n1 c1, .slice A2 n2 c2], .int .i64 (spc D cols L)]) := by
 have HF := Aside0.mk hF
 have HMR := Aside0.mk hMr
 have HR := Aside0.mk hr
 have HC1 := Aside0.mk hc1
 clear hF hMr hr hc1
 obtain ⟨ck, hck⟩ : ∃ x, chk D cols L = x := ⟨_, rfl⟩
 have HCK := Aside0.mk hck
 clear hck
 rcases Classical.em (ck = 0) with hz | hz
 ·have hch := chk_zero (D := D) (cols := cols) (L := L) (by rw [HCK.out]; exact hz)
  have hkm : (canonR D cols.toNat L).length ≤ 256 := by
   rw [canonR_len]; exact Nat.le_trans (elimF_len (D := D) L.length cols.toNat 0 _ [] (by simp)) hch.1.2.2
  have hrl : ∀ l ∈ canonR D cols.toNat L, l.length ≤ 4611686018427387904 := by
   intro l hl
   have h1 := canonR_mem hl
   rw [h1]
   have := hch.1
   omega
  obtain ⟨L', hL'⟩ : ∃ x, canonR D cols.toNat L = x := ⟨_, rfl⟩
  rw [hL'] at hkm hrl
  have HL' := Aside0.mk hL'
  have HKM := Aside0.mk hkm
  have HRL := Aside0.mk hrl
  have z2 : (ck != 0) = false := by simpa using hz
  have HSP : Aside0 (spc D cols L = if L' = L then 0 else 5) := ⟨by unfold spc; rw [HCK.out, if_neg (by simpa using hz), HL'.out]⟩
  have HZ0 := Aside0.mk hz
  clear hz hch hkm hrl hL'
  rw [HSP.out]
  rcases Classical.em (L' = L) with hq | hq
  all_goals have HQ := Aside0.mk hq
  all_goals clear hq
  ·rw [if_pos HQ.out]
   go_enter Try.func112, Try.ntmps112
   go_wp2_with (first
    | (refine bx 2 #[.int .i64 P, .int .i64 M, .slice AM Mod.length cM] 36 ?_; intro b2 hb2 w2 hbox hb; have B2 := Aside0.mk hbox; have H2 := Aside0.mk hb; clear hbox hb hb2)
    | (refine bx 3 #[.int .i64 cols, .slice A L.length c] 101 ?_; intro b3 hb3 w3 hbox hb; have B3 := Aside0.mk hbox; have B2 := Aside0.mk (blk_below B2.out hb); have H3 := Aside0.mk (below_step H2.out hb); clear hbox hb hb3)
    | (refine bx 4 #[.pointer none, .int .i64 0, .slice none 0 0, .slice none 0 0] 130 ?_; intro b4 hb4 w4 hbox hb; have B4 := Aside0.mk hbox; have B2 := Aside0.mk (blk_below B2.out hb); have B3 := Aside0.mk (blk_below B3.out hb); have H4 := Aside0.mk (below_step H3.out hb); have HL4 := Aside0.mk (show w.heap.size ≤ b4 from Nat.le_trans (below_size H3.out) (by rw [hb4]; exact Nat.le_refl _)); clear hbox hb hb4; have hc20 := bc0 B2.out; have hc21 := bc1 B2.out; have hc22 := bc2 B2.out; have hc30 := bc0 B3.out; have hc31 := bc1 B3.out)
    | (go_at_call 132; refine (canonical_in HF.out (Kd.C_below HMR.out H4.out) A c cols L HC1.out (Kd.C_below HR.out H4.out)).mono ?_; rintro e w5 ⟨hb5, h5⟩; rw [HL'.out] at h5; rcases h5 with ⟨_, A', _, ⟨Av, nv, cv, rfl⟩, rfl, hC⟩ | ⟨hne, _⟩; rotate_left; exact absurd (HCK.out.trans HZ0.out) hne; have HC6 := Aside0.mk hC; have H5 := Aside0.mk (below_step H4.out hb5); have B2 := Aside0.mk (blk_below B2.out hb5); have B3 := Aside0.mk (blk_below B3.out hb5); have B4 := Aside0.mk (blk_below B4.out hb5); clear hb5 hC hc20 hc21 hc22 hc30 hc31)
    | (refine bx 6 #[.int .i64 0, .slice none 0 0] 101 ?_; intro b6 hb6 w6 hbox hb; have B6 := Aside0.mk hbox; have H56 := Aside0.mk hb; have HN3 := Aside0.mk (show b3 ≠ b6 from (by have := blk_lt B3.out; rw [hb6]; exact Nat.ne_of_lt this)); have H6 := Aside0.mk (below_step H5.out hb); have B2 := Aside0.mk (blk_below B2.out hb); have B3 := Aside0.mk (blk_below B3.out hb); have B4 := Aside0.mk (blk_below B4.out hb); have HL56 := Aside0.mk (show w5.heap.size ≤ b6 from (by rw [hb6]; exact Nat.le_refl _)); have HL6 := Aside0.mk (show w.heap.size ≤ b6 from Nat.le_trans (below_size H5.out) HL56.out); have HN4 := Aside0.mk (show b4 ≠ b6 from blk_ne B4.out B6.out (by decide)); have HN2 := Aside0.mk (show b2 ≠ b6 from blk_ne B2.out B6.out (by decide)); clear hbox hb hb6; obtain ⟨hx60, hx61, hf60, hf61⟩ := bq2 B6.out; have BB2 := Aside0.mk (blk_far (blk_far B2.out (p := ⟨b6, 0, none⟩) HN2.out (.int .i64 cols)) (p := ⟨b6, 1, none⟩) HN2.out (.slice A' L'.length L'.length)); have BB3 := Aside0.mk (blk_far (blk_far B3.out (p := ⟨b6, 0, none⟩) HN3.out (.int .i64 cols)) (p := ⟨b6, 1, none⟩) HN3.out (.slice A' L'.length L'.length)); have BB4 := Aside0.mk (blk_far (blk_far B4.out (p := ⟨b6, 0, none⟩) HN4.out (.int .i64 cols)) (p := ⟨b6, 1, none⟩) HN4.out (.slice A' L'.length L'.length)); have hx31 : ((w6.setCell ⟨b6, 0, none⟩ (.int .i64 cols)).setCell ⟨b6, 1, none⟩ (.slice A' L'.length L'.length)).cell? ⟨b3, 1, none⟩ = some (.slice A L.length c) := bc1 BB3.out; have hx6n : ((w6.setCell ⟨b6, 0, none⟩ (.int .i64 cols)).setCell ⟨b6, 1, none⟩ (.slice A' L'.length L'.length)).cell? ⟨b6, 1, none⟩ = some (.slice A' L'.length L'.length) := (blk_cell (blk_set (blk_set B6.out 0 (.int .i64 cols)) 1 (.slice A' L'.length L'.length)) 1).trans rfl; have HB56 := Aside0.mk (below_set (below_set H56.out HL56.out) HL56.out : Below w5.heap.size w5 ((w6.setCell ⟨b6, 0, none⟩ (.int .i64 cols)).setCell ⟨b6, 1, none⟩ (.slice A' L'.length L'.length))); have HB06 := Aside0.mk (below_set (below_set H6.out HL6.out) HL6.out : Below w.heap.size w ((w6.setCell ⟨b6, 0, none⟩ (.int .i64 cols)).setCell ⟨b6, 1, none⟩ (.slice A' L'.length L'.length))))
    | (go_at_call 133; go_loud (refine (EqualFunc_in A' A L'.length c L' L (Kd.C_below HC6.out HB56.out) (Kd.C_below HR.out HB06.out) HKM.out HRL.out).mono ?_); rintro e w8 ⟨rfl, hb⟩; have B4 := Aside0.mk (blk_below BB4.out hb); have B2 := Aside0.mk (blk_below BB2.out hb); have B3 := Aside0.mk (blk_below BB3.out hb); have H8 := Aside0.mk (below_step HB06.out hb); clear hb hx61 hx31; have hc20 := bc0 B2.out; have hc21 := bc1 B2.out; have hc22 := bc2 B2.out; have z3 : decide (L' = L) = true := by (rw [HQ.out]; simp))
    | (go_at_call 37; go_loud (refine (FOk.new HF.out (Kd.C_below HMR.out H8.out)).mono ?_); rintro e w9 ⟨g, w0, rfl, hf, hw, hg, hb⟩; have B4 := Aside0.mk (blk_below B4.out hb); have B3 := Aside0.mk (blk_below B3.out hb); have H9 := Aside0.mk (below_step H8.out hb); clear hf hw hg hb hc20 hc21 hc22; have hc30 := bc0 B3.out; have hc31 := bc1 B3.out; have hx40 := bc0 B4.out; have hf40 := blk_frozen B4.out 0; have hx41 := bc1 B4.out; have hf41 := blk_frozen B4.out 1; have hx42 := bc2 B4.out; have hf42 := blk_frozen B4.out 2; have hx43 := bc3 B4.out; have hf43 := blk_frozen B4.out 3))
   refine bodyPost_ret (v := .tuple #[.agg #[.pointer (some ⟨g, 0, none⟩), .int .i64 cols, .slice A L.length c, .slice Av nv cv], .int .i64 0]) ?_ rfl ⟨?_, _, _, _, _, _, _, _, _, rfl⟩
   ·exact results_cell1 (p := 4) (r := 5) (t := 130) rfl rfl _ (load130 (put130 B4.out) rfl rfl rfl rfl)
   ·exact below_set (below_set (below_set (below_set H9.out HL4.out) HL4.out) HL4.out) HL4.out
  ·rw [if_neg HQ.out]
   go_enter Try.func112, Try.ntmps112
   go_wp2_with (first
    | (refine bx 2 #[.int .i64 P, .int .i64 M, .slice AM Mod.length cM] 36 ?_; intro b2 hb2 w2 hbox hb; have B2 := Aside0.mk hbox; have H2 := Aside0.mk hb; clear hbox hb hb2)
    | (refine bx 3 #[.int .i64 cols, .slice A L.length c] 101 ?_; intro b3 hb3 w3 hbox hb; have B3 := Aside0.mk hbox; have B2 := Aside0.mk (blk_below B2.out hb); have H3 := Aside0.mk (below_step H2.out hb); clear hbox hb hb3)
    | (refine bx 4 #[.pointer none, .int .i64 0, .slice none 0 0, .slice none 0 0] 130 ?_; intro b4 hb4 w4 hbox hb; have B4 := Aside0.mk hbox; have B2 := Aside0.mk (blk_below B2.out hb); have B3 := Aside0.mk (blk_below B3.out hb); have H4 := Aside0.mk (below_step H3.out hb); have HL4 := Aside0.mk (show w.heap.size ≤ b4 from Nat.le_trans (below_size H3.out) (by rw [hb4]; exact Nat.le_refl _)); clear hbox hb hb4; have hc20 := bc0 B2.out; have hc21 := bc1 B2.out; have hc22 := bc2 B2.out; have hc30 := bc0 B3.out; have hc31 := bc1 B3.out)
    | (go_at_call 132; refine (canonical_in HF.out (Kd.C_below HMR.out H4.out) A c cols L HC1.out (Kd.C_below HR.out H4.out)).mono ?_; rintro e w5 ⟨hb5, h5⟩; rw [HL'.out] at h5; rcases h5 with ⟨_, A', _, ⟨Av, nv, cv, rfl⟩, rfl, hC⟩ | ⟨hne, _⟩; rotate_left; exact absurd (HCK.out.trans HZ0.out) hne; have HC6 := Aside0.mk hC; have H5 := Aside0.mk (below_step H4.out hb5); have B2 := Aside0.mk (blk_below B2.out hb5); have B3 := Aside0.mk (blk_below B3.out hb5); have B4 := Aside0.mk (blk_below B4.out hb5); clear hb5 hC hc20 hc21 hc22 hc30 hc31)
    | (refine bx 6 #[.int .i64 0, .slice none 0 0] 101 ?_; intro b6 hb6 w6 hbox hb; have B6 := Aside0.mk hbox; have H56 := Aside0.mk hb; have HN3 := Aside0.mk (show b3 ≠ b6 from (by have := blk_lt B3.out; rw [hb6]; exact Nat.ne_of_lt this)); have H6 := Aside0.mk (below_step H5.out hb); have B2 := Aside0.mk (blk_below B2.out hb); have B3 := Aside0.mk (blk_below B3.out hb); have B4 := Aside0.mk (blk_below B4.out hb); have HL56 := Aside0.mk (show w5.heap.size ≤ b6 from (by rw [hb6]; exact Nat.le_refl _)); have HL6 := Aside0.mk (show w.heap.size ≤ b6 from Nat.le_trans (below_size H5.out) HL56.out); have HN4 := Aside0.mk (show b4 ≠ b6 from blk_ne B4.out B6.out (by decide)); have HN2 := Aside0.mk (show b2 ≠ b6 from blk_ne B2.out B6.out (by decide)); clear hbox hb hb6; obtain ⟨hx60, hx61, hf60, hf61⟩ := bq2 B6.out; have BB2 := Aside0.mk (blk_far (blk_far B2.out (p := ⟨b6, 0, none⟩) HN2.out (.int .i64 cols)) (p := ⟨b6, 1, none⟩) HN2.out (.slice A' L'.length L'.length)); have BB3 := Aside0.mk (blk_far (blk_far B3.out (p := ⟨b6, 0, none⟩) HN3.out (.int .i64 cols)) (p := ⟨b6, 1, none⟩) HN3.out (.slice A' L'.length L'.length)); have BB4 := Aside0.mk (blk_far (blk_far B4.out (p := ⟨b6, 0, none⟩) HN4.out (.int .i64 cols)) (p := ⟨b6, 1, none⟩) HN4.out (.slice A' L'.length L'.length)); have hx31 : ((w6.setCell ⟨b6, 0, none⟩ (.int .i64 cols)).setCell ⟨b6, 1, none⟩ (.slice A' L'.length L'.length)).cell? ⟨b3, 1, none⟩ = some (.slice A L.length c) := bc1 BB3.out; have hx6n : ((w6.setCell ⟨b6, 0, none⟩ (.int .i64 cols)).setCell ⟨b6, 1, none⟩ (.slice A' L'.length L'.length)).cell? ⟨b6, 1, none⟩ = some (.slice A' L'.length L'.length) := (blk_cell (blk_set (blk_set B6.out 0 (.int .i64 cols)) 1 (.slice A' L'.length L'.length)) 1).trans rfl; have HB56 := Aside0.mk (below_set (below_set H56.out HL56.out) HL56.out : Below w5.heap.size w5 ((w6.setCell ⟨b6, 0, none⟩ (.int .i64 cols)).setCell ⟨b6, 1, none⟩ (.slice A' L'.length L'.length))); have HB06 := Aside0.mk (below_set (below_set H6.out HL6.out) HL6.out : Below w.heap.size w ((w6.setCell ⟨b6, 0, none⟩ (.int .i64 cols)).setCell ⟨b6, 1, none⟩ (.slice A' L'.length L'.length))))
    | (go_at_call 133; go_loud (refine (EqualFunc_in A' A L'.length c L' L (Kd.C_below HC6.out HB56.out) (Kd.C_below HR.out HB06.out) HKM.out HRL.out).mono ?_); rintro e w8 ⟨rfl, hb⟩; have B4 := Aside0.mk (blk_below BB4.out hb); have H8 := Aside0.mk (below_step HB06.out hb); clear hb hx61 hx31; have z3 : decide (L' = L) = false := (decide_eq_false HQ.out); have hx40 := bc0 B4.out; have hf40 := blk_frozen B4.out 0; have hx41 := bc1 B4.out; have hf41 := blk_frozen B4.out 1; have hx42 := bc2 B4.out; have hf42 := blk_frozen B4.out 2; have hx43 := bc3 B4.out; have hf43 := blk_frozen B4.out 3))
   refine bodyPost_ret (v := .tuple #[.agg #[.pointer none, .int .i64 0, .slice none 0 0, .slice none 0 0], .int .i64 5]) ?_ rfl ⟨?_, none, 0, none, 0, 0, none, 0, 0, rfl⟩
   ·exact results_cell1 (p := 4) (r := 5) (t := 130) rfl rfl _ (load130 (put130 B4.out) rfl rfl rfl rfl)
   ·exact below_set (below_set (below_set (below_set H8.out HL4.out) HL4.out) HL4.out) HL4.out
 ·have z1 : (ck == 0) = false := by simpa using hz
  have z2 : (ck != 0) = true := by simpa using hz
  have HSP : Aside0 (spc D cols L = ck) := ⟨by unfold spc; rw [HCK.out, if_pos hz]⟩
  have HZ0 := Aside0.mk hz
  clear hz
  rw [HSP.out]
  go_enter Try.func112, Try.ntmps112
  go_wp2_with (first
   | (refine bx 2 #[.int .i64 P, .int .i64 M, .slice AM Mod.length cM] 36 ?_; intro b2 hb2 w2 hbox hb; have B2 := Aside0.mk hbox; have H2 := Aside0.mk hb; clear hbox hb hb2)
   | (refine bx 3 #[.int .i64 cols, .slice A L.length c] 101 ?_; intro b3 hb3 w3 hbox hb; have B3 := Aside0.mk hbox; have B2 := Aside0.mk (blk_below B2.out hb); have H3 := Aside0.mk (below_step H2.out hb); clear hbox hb hb3)
   | (refine bx 4 #[.pointer none, .int .i64 0, .slice none 0 0, .slice none 0 0] 130 ?_; intro b4 hb4 w4 hbox hb; have B4 := Aside0.mk hbox; have B2 := Aside0.mk (blk_below B2.out hb); have B3 := Aside0.mk (blk_below B3.out hb); have H4 := Aside0.mk (below_step H3.out hb); have HL4 := Aside0.mk (show w.heap.size ≤ b4 from Nat.le_trans (below_size H3.out) (by rw [hb4]; exact Nat.le_refl _)); clear hbox hb hb4; have hc20 := bc0 B2.out; have hc21 := bc1 B2.out; have hc22 := bc2 B2.out; have hc30 := bc0 B3.out; have hc31 := bc1 B3.out)
   | (go_at_call 132; refine (canonical_in HF.out (Kd.C_below HMR.out H4.out) A c cols L HC1.out (Kd.C_below HR.out H4.out)).mono ?_; rintro e w5 ⟨hb5, h5⟩; rcases h5 with ⟨he, _⟩ | ⟨_, rfl⟩; exact absurd (HCK.out.symm.trans he) HZ0.out; rw [HCK.out]; have H5 := Aside0.mk (below_step H4.out hb5); have B4 := Aside0.mk (blk_below B4.out hb5); clear hb5 hc20 hc21 hc22 hc30 hc31)
   | (refine bx 6 #[.int .i64 0, .slice none 0 0] 101 ?_; intro b6 hb6 w6 hbox hb; have B6 := Aside0.mk hbox; have H6 := Aside0.mk (below_step H5.out hb); have B4 := Aside0.mk (blk_below B4.out hb); have HL6 := Aside0.mk (show w.heap.size ≤ b6 from Nat.le_trans (below_size H5.out) (by rw [hb6]; exact Nat.le_refl _)); have HN6 := Aside0.mk (show b4 ≠ b6 from blk_ne B4.out B6.out (by decide)); clear hbox hb hb6; obtain ⟨hx60, hx61, hf60, hf61⟩ := bq2 B6.out; have B4W := blk_far (blk_far B4.out (p := ⟨b6, 0, none⟩) HN6.out (.int .i64 0)) (p := ⟨b6, 1, none⟩) HN6.out (.slice none 0 0); have hx40 : ((w6.setCell ⟨b6, 0, none⟩ (.int .i64 0)).setCell ⟨b6, 1, none⟩ (.slice none 0 0)).cell? ⟨b4, 0, none⟩ = some (.pointer none) := bc0 B4W; have hf40 := blk_frozen B4W 0; have hx41 : ((w6.setCell ⟨b6, 0, none⟩ (.int .i64 0)).setCell ⟨b6, 1, none⟩ (.slice none 0 0)).cell? ⟨b4, 1, none⟩ = some (.int .i64 0) := bc1 B4W; have hf41 := blk_frozen B4W 1; have hx42 : ((w6.setCell ⟨b6, 0, none⟩ (.int .i64 0)).setCell ⟨b6, 1, none⟩ (.slice none 0 0)).cell? ⟨b4, 2, none⟩ = some (.slice none 0 0) := bc2 B4W; have hf42 := blk_frozen B4W 2; have hx43 : ((w6.setCell ⟨b6, 0, none⟩ (.int .i64 0)).setCell ⟨b6, 1, none⟩ (.slice none 0 0)).cell? ⟨b4, 3, none⟩ = some (.slice none 0 0) := bc3 B4W; have hf43 := blk_frozen B4W 3; have BB4 := Aside0.mk B4W; clear B4W))
  refine bodyPost_ret (v := .tuple #[.agg #[.pointer none, .int .i64 0, .slice none 0 0, .slice none 0 0], .int .i64 ck]) ?_ rfl ⟨?_, none, 0, none, 0, 0, none, 0, 0, rfl⟩
  ·exact results_cell1 (p := 4) (r := 5) (t := 130) rfl rfl _ (load130 (put130 BB4.out) rfl rfl rfl rfl)
  ·exact below_set (below_set (below_set (below_set (below_set (below_set H6.out HL6.out) HL6.out) HL4.out) HL4.out) HL4.out) HL4.out
end
section
variable {D : FD} {P M : Int} {Mod : List Int} {w : World} {γ : GF D}
theorem FOk.of {A : Option Addr} {c : Nat} (hc : Mod.length ≤ c) (h : Desc D P M Mod) : ∃ γ : GF D, FOk D P M Mod γ A c := by
 obtain ⟨g, hg, hN⟩ := new_makes (A := A) hc h
 exact ⟨g, h, hg, hN⟩
theorem spcCheck_in {AM : Option Addr} {cM : Nat} (hF : FOk D P M Mod γ AM cM) (hMr : Kd.C (Kd.int .i64) w AM Mod.length Mod) (A : Option Addr) (c : Nat) (cols : Int) (L : List (List Int)) (hc1 : 1 ≤ cols) (hr : Kd.C (Kd.slice 3 (Kd.int .i64)) w A L.length L) :
  Calls Try.prog 78 #[.agg #[.int .i64 P, .int .i64 M, .slice AM Mod.length cM], .agg #[.int .i64 cols, .slice A L.length c]] w fun e w' => e = .returned (.int .i64 (spc D cols L)) ∧ Below w.heap.size w w' := by
 have HF := Aside0.mk hF
 have HMR := Aside0.mk hMr
 have HR := Aside0.mk hr
 have HC1 := Aside0.mk hc1
 clear hF hMr hr hc1
 go_enter Try.func78, Try.ntmps78
 go_wp2_with (first
  | (refine bx 2 #[.int .i64 P, .int .i64 M, .slice AM Mod.length cM] 36 ?_; intro b2 hb2 w2 hbox hb; have B2 := Aside0.mk hbox; have H2 := Aside0.mk hb; clear hbox hb hb2)
  | (refine bx 3 #[.int .i64 cols, .slice A L.length c] 101 ?_; intro b3 hb3 w3 hbox hb; have B3 := Aside0.mk hbox; have B2 := Aside0.mk (blk_below B2.out hb); have H3 := Aside0.mk (below_step H2.out hb); clear hbox hb hb3; have hc20 := bc0 B2.out; have hc21 := bc1 B2.out; have hc22 := bc2 B2.out; have hc30 := bc0 B3.out; have hc31 := bc1 B3.out)
  | (go_at_call 112; refine (sopen_in HF.out (Kd.C_below HMR.out H3.out) A c cols L HC1.out (Kd.C_below HR.out H3.out)).mono ?_; rintro e w5 ⟨hb5, p, i, A1, n1, c1, A2, n2, c2, rfl⟩; have H5 := Aside0.mk (below_step H3.out hb5); clear hb5 hc20 hc21 hc22 hc30 hc31)
  | (refine bx 5 #[.pointer none, .int .i64 0, .slice none 0 0, .slice none 0 0] 130 ?_; intro b4 hb4 w4 hbox hb; have B4 := Aside0.mk hbox; have HL4 := Aside0.mk (show w.heap.size ≤ b4 from Nat.le_trans (below_size H5.out) (by rw [hb4]; exact Nat.le_refl _)); have H4 := Aside0.mk (below_step H5.out hb); clear hbox hb hb4; have hx40 := bc0 B4.out; have hf40 := blk_frozen B4.out 0; have hx41 := bc1 B4.out; have hf41 := blk_frozen B4.out 1; have hx42 := bc2 B4.out; have hf42 := blk_frozen B4.out 2; have hx43 := bc3 B4.out; have hf43 := blk_frozen B4.out 3))
 go_ret
 exact ⟨rfl, below_set (below_set (below_set (below_set H4.out HL4.out) HL4.out) HL4.out) HL4.out⟩
theorem gen_in (P M : Int) (AM : Option Addr) (mM cM : Nat) (n : Int) (A : Option Addr) (m c : Nat) :
  Calls Try.prog 79 #[.agg #[.int .i64 P, .int .i64 M, .slice AM mM cM, .int .i64 n, .slice A m c]] w fun e w' => e = .returned (.agg #[.int .i64 n, .slice A m c]) ∧ Below w.heap.size w w' := by
 have hu49 := Try.underlying49
 go_enter Try.func79, Try.ntmps79
 go_wp2_with (first
  | (refine bx 1 #[.int .i64 P, .int .i64 M, .slice AM mM cM, .int .i64 n, .slice A m c] 49 ?_; intro b2 hb2 w2 hbox hb; have B2 := Aside0.mk hbox; have H2 := Aside0.mk hb; clear hbox hb hb2)
  | (refine bx 2 #[.int .i64 0, .slice none 0 0] 101 ?_; intro b3 hb3 w3 hbox hb; have B3 := Aside0.mk hbox; have B2 := Aside0.mk (blk_below B2.out hb); have HL3 := Aside0.mk (show w.heap.size ≤ b3 from Nat.le_trans (below_size H2.out) (by rw [hb3]; exact Nat.le_refl _)); have H3 := Aside0.mk (below_step H2.out hb); clear hbox hb hb3; have hc23 := bc3 B2.out; have hc24 := bc4 B2.out; obtain ⟨hx0, hx1, hf0, hf1⟩ := bq2 B3.out))
 refine bodyPost_ret (v := .agg #[.int .i64 n, .slice A m c]) ?_ rfl ⟨rfl, ?_⟩
 ·exact results_cell_row rfl _ _ b3 101 #[.int .i64 n, .slice A m c] (0, 0) _ rfl (by simpa using blk_set (blk_set B3.out 0 (.int .i64 n)) 1 (.slice A m c)) Try.underlying101 rfl (by kernel_rfl)
 ·exact below_set (below_set H3.out HL3.out) HL3.out
noncomputable def codeR (D : FD) (n : Int) (L : List (List Int)) : Int := if n < 1 then 4 else if n > 64 then 4 else spc D n L
def CodeAns (P M : Int) (Mod : List Int) (n : Int) (L : List (List Int)) (r : Int) : Prop := (∃ D, Desc D P M Mod ∧ r = codeR D n L) ∨ ((¬ ∃ D, Desc D P M Mod) ∧ r = 1)
theorem codeAns_ex (P M : Int) (Mod : List Int) (n : Int) (L : List (List Int)) : ∃ r, CodeAns P M Mod n L r := by
 by_cases h : ∃ D, Desc D P M Mod
 ·obtain ⟨D, hd⟩ := h
  exact ⟨_, .inl ⟨D, hd, rfl⟩⟩
 ·exact ⟨1, .inr ⟨h, rfl⟩⟩
def CodeC6.T : Bool × List (List Nat × List Nat) := (true, [([], []), ([0], [0]), ([], []), ([2], [2]), ([1, 3, 3], [1, 3]), ([4, 4, 0, 1, 2, 3, 4], [4])])
def CodeC6.B : List Nat := [0, 1, 0, 4, 15, 31]
theorem CodeC6.tab : rtab .any (opsOf Try.f51 6) = CodeC6.T := by kernel_rfl
theorem CodeC6.bits : waitsOk CodeC6.T.2 CodeC6.B = true := by kernel_rfl
theorem codeCheck_in {AM : Option Addr} {cM : Nat} (hMr : Kd.C (Kd.int .i64) w AM Mod.length Mod) (hcM : Mod.length ≤ cM) (A : Option Addr) (c : Nat) (n : Int) (L : List (List Int)) (hr : Kd.C (Kd.slice 3 (Kd.int .i64)) w A L.length L) {r : Int} (hrr : CodeAns P M Mod n L r) :
  Calls Try.prog 51 #[.agg #[.int .i64 P, .int .i64 M, .slice AM Mod.length cM, .int .i64 n, .slice A L.length c]] w fun e w' => e = .returned (.int .i64 r) ∧ Below w.heap.size w w' := by
 have hu49 := Try.underlying49
 have hu36 := Try.underlying36
 have HMR := Aside0.mk hMr
 have HCM := Aside0.mk hcM
 have HR := Aside0.mk hr
 clear hMr hcM hr
 rcases hrr with ⟨D, hd, rfl⟩ | ⟨hD, rfl⟩
 ·have HD : Aside0 (∃ D, Desc D P M Mod) := ⟨D, hd⟩
  have HDD := Aside0.mk hd
  clear hd
  obtain ⟨γ, hF⟩ := FOk.of (A := AM) HCM.out HDD.out
  have HF := Aside0.mk hF
  clear hF
  by_cases hn : 1 ≤ n ∧ n ≤ 64
  ·have HN := Aside0.mk hn
   have HRR := Aside0.mk (show codeR D n L = spc D n L by unfold codeR; rw [if_neg (by omega), if_neg (by omega)])
   have HLN := Aside0.mk (show code_length.f n = some 0 by unfold code_length.f; rw [if_neg (by omega), if_neg (by omega)])
   rw [HRR.out]
   clear hn
   go_enter Try.func51, Try.ntmps51
   go_wp2_with (first
    | (refine bx 1 #[.int .i64 P, .int .i64 M, .slice AM Mod.length cM, .int .i64 n, .slice A L.length c] 49 ?_; intro b2 hb2 w2 hbox hb; have B2 := Aside0.mk hbox; have H2 := Aside0.mk hb; clear hbox hb hb2; have hc20 := bc0 B2.out; have hc21 := bc1 B2.out; have hc22 := bc2 B2.out)
    | (go_at_call 76; obtain ⟨r1, hr1, hcl⟩ := fldCheck_in (w := w2) (P := P) (M := M) (Kd.C_below HMR.out H2.out) HCM.out; rcases hr1 with ⟨rfl, _⟩ | ⟨_, hno⟩; rotate_left; exact absurd HD.out hno; refine hcl.mono ?_; clear hcl; rintro e w3 ⟨rfl, hb3⟩; have B2 := Aside0.mk (blk_below B2.out hb3); have H3 := Aside0.mk (below_step H2.out hb3); clear hb3 hc20 hc21 hc22; have hc23 := bc3 B2.out)
    | (go_at_call 77; refine (code_length.calls n 0 w3 HLN.out).mono ?_; rintro e w4 ⟨rfl, hdr⟩; have B2 := Aside0.mk (blk_below B2.out hdr.below); have H4 := Aside0.mk (below_step H3.out hdr.below); clear hdr hc23))
   have HL := Aside0.mk H4.out.size
   have HMR4 := Aside0.mk (Kd.C_drew (Kd.C_below HMR.out H4.out))
   have HR4 := Aside0.mk (Kd.C_drew (Kd.C_below HR.out H4.out))
   have H4d := Aside0.mk (below_drew1 H4.out)
   have B2d := Aside0.mk (blk_drew B2.out)
   clear B2 H4
   refine start_ (n := 6) (S := fun w' => w'.cell? ⟨b2, 0, none⟩ = some (.int .i64 P) ∧ w'.cell? ⟨b2, 1, none⟩ = some (.int .i64 M) ∧ w'.cell? ⟨b2, 2, none⟩ = some (.slice AM Mod.length cM) ∧ w'.cell? ⟨b2, 3, none⟩ = some (.int .i64 n) ∧ w'.cell? ⟨b2, 4, none⟩ = some (.slice A L.length c)) (ds := [4]) (bb 6 0) (by kernel_rfl) rfl rfl ⟨bc0 B2d.out, bc1 B2d.out, bc2 B2d.out, bc3 B2d.out, bc4 B2d.out⟩ (fun hHeld => ?_); refine with_tabW CodeC6.tab CodeC6.bits (fun HT_ HW_ => ?_)
   generalize w4.drew = w11 at HMR4 HR4 H4d B2d hHeld ⊢
   refine pq HT_ 0 14 (bb 6 1) ?_
   refine tq HT_ HW_ hHeld 1 15 (bb 6 3) ?_
   refine tq HT_ HW_ hHeld 2 16 (bb 6 7) ?_
   refine oq HT_ 3 (some 17) (bb 6 15) (fun K hK => ?_)
   refine gq Try.func79 #[.agg #[.int .i64 P, .int .i64 M, .slice AM Mod.length cM, .int .i64 n, .slice A L.length c]] ?_
   refine (gen_in P M AM Mod.length cM n A L.length c).mono ?_
   rintro e w12 ⟨rfl, hb⟩
   refine ⟨_, rfl, ?_⟩
   have B2e := Aside0.mk (blk_below B2d.out hb)
   have HMR5 := Aside0.mk (Kd.C_below HMR4.out hb)
   have HR5 := Aside0.mk (Kd.C_below HR4.out hb)
   have H5 := Aside0.mk (below_step H4d.out hb)
   clear hb B2d HMR4 HR4 H4d
   refine hK.out _ _ ⟨bc0 B2e.out, bc1 B2e.out, bc2 B2e.out, bc3 B2e.out, bc4 B2e.out⟩ (fun hHeld => ?_)
   clear hK K
   refine nq 17 ?_
   refine lq HT_ 4 (some 18) (bb 6 31) (fun K hK => ?_)
   refine gq Try.func78 #[.agg #[.int .i64 P, .int .i64 M, .slice AM Mod.length cM], .agg #[.int .i64 n, .slice A L.length c]] ?_
   refine (spcCheck_in HF.out HMR5.out A c n L HN.out.1 HR5.out).mono ?_
   rintro e w13 ⟨rfl, hb⟩
   refine ⟨_, rfl, ?_⟩
   have H6 := Aside0.mk (below_step H5.out hb)
   clear hb
   refine hK.out _ _ ?_
   clear hK K
   refine nq 18 ?_
   refine pq HT_ 5 2 (bb 6 63) ?_
   refine dq HT_ ?_
   go_wp2
   go_ret
   exact ⟨rfl, H6.out⟩
  ·have HRR := Aside0.mk (show codeR D n L = 4 by unfold codeR; by_cases h1 : n < 1; rw [if_pos h1]; rw [if_neg h1, if_pos (by omega)])
   have HLN := Aside0.mk (show code_length.f n = some 4 by unfold code_length.f; by_cases h1 : n < 1; rw [if_pos h1]; rw [if_neg h1, if_pos (by omega)])
   rw [HRR.out]
   clear hn
   go_enter Try.func51, Try.ntmps51
   go_wp2_with (first
    | (refine bx 1 #[.int .i64 P, .int .i64 M, .slice AM Mod.length cM, .int .i64 n, .slice A L.length c] 49 ?_; intro b2 hb2 w2 hbox hb; have B2 := Aside0.mk hbox; have H2 := Aside0.mk hb; clear hbox hb hb2; have hc20 := bc0 B2.out; have hc21 := bc1 B2.out; have hc22 := bc2 B2.out)
    | (go_at_call 76; obtain ⟨r1, hr1, hcl⟩ := fldCheck_in (w := w2) (P := P) (M := M) (Kd.C_below HMR.out H2.out) HCM.out; rcases hr1 with ⟨rfl, _⟩ | ⟨_, hno⟩; rotate_left; exact absurd HD.out hno; refine hcl.mono ?_; clear hcl; rintro e w3 ⟨rfl, hb3⟩; have B2 := Aside0.mk (blk_below B2.out hb3); have H3 := Aside0.mk (below_step H2.out hb3); clear hb3 hc20 hc21 hc22; have hc23 := bc3 B2.out)
    | (go_at_call 77; refine (code_length.calls n 4 w3 HLN.out).mono ?_; rintro e w4 ⟨rfl, hdr⟩; have H4 := Aside0.mk (below_step H3.out hdr.below); clear hdr hc23))
   go_ret
   exact ⟨rfl, H4.out⟩
 ·have HD := Aside0.mk hD
  clear hD
  go_enter Try.func51, Try.ntmps51
  go_wp2_with (first
   | (refine bx 1 #[.int .i64 P, .int .i64 M, .slice AM Mod.length cM, .int .i64 n, .slice A L.length c] 49 ?_; intro b2 hb2 w2 hbox hb; have B2 := Aside0.mk hbox; have H2 := Aside0.mk hb; clear hbox hb hb2; have hc20 := bc0 B2.out; have hc21 := bc1 B2.out; have hc22 := bc2 B2.out)
   | (go_at_call 76; obtain ⟨r1, hr1, hcl⟩ := fldCheck_in (w := w2) (P := P) (M := M) (Kd.C_below HMR.out H2.out) HCM.out; rcases hr1 with ⟨_, hyes⟩ | ⟨rfl, _⟩; exact absurd hyes HD.out; refine hcl.mono ?_; clear hcl; rintro e w3 ⟨rfl, hb3⟩; have H3 := Aside0.mk (below_step H2.out hb3); clear hb3 hc20 hc21 hc22))
  go_ret
  exact ⟨rfl, H3.out⟩
end
section
variable {D : FD} {P M : Int} {Mod : List Int}
theorem rscale_l0 (h : Desc D P M Mod) (a : Int) (l : List Int) (hl : l.length ≤ 1000000) : ∀ (d : Nat) (i : Int) (out : List Int), 0 ≤ i → i + d = l.length → out.length = l.length → (∀ t : Int, 0 ≤ t → t < i → rd out t = scF D a (fun j => rd l j) t.toNat) →
  Ev (fun k => r9_scale.l0 k a l out i P M Mod) (rowL l.length (scF D a (fun j => rd l j))) := by
 intro d
 induction d with
 | zero =>
  intro i out h0 hd ho ht
  have e : out = rowL l.length (scF D a (fun j => rd l j)) := list_ext_rd (by rw [ho, rowL_length]) fun t h1 h2 => by rw [ht t h1 (by omega), rowL_rd h1 (by omega)]
  rw [← e]
  exact ev_succ (ev_now fun k => by rw [r9_scale.l0, if_neg (by omega)])
 | succ d ih =>
  intro i out h0 hd ho ht
  refine Ev.step (fun k => by rw [r9_scale.l0, if_pos (by omega), if_pos h0]) (Ev.bind (Mul_eq h a (rd l i)) (Ev.congr (fun k => ?_) (ih (i + 1) (out.set i.toNat (inn D a * inn D (rd l i)).1) (by omega) (by omega) (by simp [ho]) (fun t h1 h2 => ?_))))
  ·rw [if_pos (by omega), w64 (by omega) (by omega)]
  ·by_cases e : t = i
   ·subst e
    rw [rd_set_self h0 (by omega)]
    show (inn D a * inn D (rd l t)).1 = (inn D a * inn D (rd l ((t.toNat : Nat) : Int))).1
    rw [Int.toNat_of_nonneg h0]
   ·rw [rd_set_ne h0 h1 (Ne.symm e)]
    exact ht t h1 (by omega)
theorem rscale_eq (h : Desc D P M Mod) (a : Int) (l : List Int) (hl : l.length ≤ 1000000) : Ev (fun k => r9_scale.f k P M Mod a l) (rowL l.length (scF D a (fun j => rd l j))) := by
 refine Ev.congr (fun k => ?_) (rscale_l0 h a l hl l.length 0 (List.replicate ((l.length : Int)).toNat 0) (by omega) (by omega) (by simp) (fun t _ _ => by omega))
 unfold r9_scale.f
 rw [if_pos (by omega), if_pos (by omega)]
theorem raddto_l0 (h : Desc D P M Mod) (a : Int) (l u : List Int) (hl : l.length ≤ 1000000) (hu : u.length = l.length) : ∀ (d : Nat) (i : Int) (out : List Int), 0 ≤ i → i + d = l.length → out.length = l.length → (∀ t : Int, 0 ≤ t → t < i → rd out t = adF D (fun j => rd l j) a (fun j => rd u j) t.toNat) →
  Ev (fun k => r9_AddTo.l0 k l a u out i P M Mod) (rowL l.length (adF D (fun j => rd l j) a (fun j => rd u j))) := by
 intro d
 induction d with
 | zero =>
  intro i out h0 hd ho ht
  have e : out = rowL l.length (adF D (fun j => rd l j) a (fun j => rd u j)) := list_ext_rd (by rw [ho, rowL_length]) fun t h1 h2 => by rw [ht t h1 (by omega), rowL_rd h1 (by omega)]
  rw [← e]
  exact ev_succ (ev_now fun k => by rw [r9_AddTo.l0, if_neg (by omega)])
 | succ d ih =>
  intro i out h0 hd ho ht
  have hb : (if rd u i = 0 then rd l i else (inn D (rd l i) + inn D a * inn D (rd u i)).1) = adF D (fun j => rd l j) a (fun j => rd u j) i.toNat := by
   show _ = if rd u ((i.toNat : Nat) : Int) = 0 then rd l ((i.toNat : Nat) : Int) else (inn D (rd l ((i.toNat : Nat) : Int)) + inn D a * inn D (rd u ((i.toNat : Nat) : Int))).1
   rw [Int.toNat_of_nonneg h0]
  have hrec : ∀ v : Int, v = adF D (fun j => rd l j) a (fun j => rd u j) i.toNat → Ev (fun k => r9_AddTo.l0 k l a u (out.set i.toNat v) (i + 1) P M Mod) (rowL l.length (adF D (fun j => rd l j) a (fun j => rd u j))) := fun v hv =>
   ih (i + 1) (out.set i.toNat v) (by omega) (by omega) (by simp [ho]) (fun t h1 h2 => by
    by_cases e : t = i
    ·subst e
     rw [rd_set_self h0 (by omega), hv]
    ·rw [rd_set_ne h0 h1 (Ne.symm e)]
     exact ht t h1 (by omega))
  refine Ev.step (fun k => by rw [r9_AddTo.l0, if_pos (by omega), if_pos h0, if_pos (by omega), Option.bind_some, if_pos (by omega)]) ?_
  by_cases e : rd u i = 0
  ·refine Ev.congr (fun k => ?_) (hrec (rd l i) (by rw [← hb, if_pos e]))
   rw [if_pos e, w64 (by omega) (by omega)]
  ·have hm := Mul_eq h a (rd u i)
   have ha := Add_eq h (rd l i) (inn D a * inn D (rd u i)).1
   rw [inn_self] at ha
   refine Ev.congr (fun k => if_neg e) (Ev.bind hm (Ev.bind ha (Ev.congr (fun k => ?_) (hrec _ (by rw [← hb, if_neg e])))))
   rw [w64 (by omega) (by omega), List.set_set]
theorem raddto_eq (h : Desc D P M Mod) (a : Int) (l u : List Int) (hl : l.length ≤ 1000000) (hu : u.length = l.length) : Ev (fun k => r9_AddTo.f k P M Mod l a u) (rowL l.length (adF D (fun j => rd l j) a (fun j => rd u j))) := by
 refine Ev.congr (fun k => ?_) (raddto_l0 h a l u hl hu l.length 0 (List.replicate ((l.length : Int)).toNat 0) (by omega) (by omega) (by simp) (fun t _ _ => by omega))
 unfold r9_AddTo.f
 rw [if_pos (by omega), if_pos (by omega)]
theorem rcopy_l0 (L : List (List Int)) (hL : L.length ≤ 1000000) (hr : ∀ l ∈ L, l.length ≤ 1000000) : ∀ (d : Nat) (i : Int), 0 ≤ i → i + d = L.length → Ev (fun k => r9_Copy.l0 k L (L.take i.toNat) i) L := by
 intro d
 induction d with
 | zero =>
  intro i h0 hd
  rw [List.take_of_length_le (by omega)]
  exact ev_succ (ev_now fun k => by rw [r9_Copy.l0, if_neg (by omega)])
 | succ d ih =>
  intro i h0 hd
  have hlt : i.toNat < L.length := by omega
  have hm := hr _ (rd_L1_mem h0 (by omega) : rd_L1 L i ∈ L)
  have ht : L.take i.toNat ++ [[] ++ rd_L1 L i] = L.take (i + 1).toNat := by
   rw [show (i + 1).toNat = i.toNat + 1 by omega, List.take_succ_eq_append_getElem hlt, List.nil_append]
   unfold rd_L1
   rw [List.getD_eq_getElem?_getD, List.getElem?_eq_getElem hlt]
   rfl
  refine Ev.step (fun k => ?_) (ih (i + 1) (by omega) (by omega))
  rw [r9_Copy.l0, if_pos (by omega), Option.bind_some, if_pos h0, if_pos (by simp; omega), if_pos (by simp; omega), ht, w64 (by omega) (by omega)]
theorem rcopy_eq (L : List (List Int)) (hL : L.length ≤ 1000000) (hr : ∀ l ∈ L, l.length ≤ 1000000) : Ev (fun k => r9_Copy.f k L) L := rcopy_l0 L hL hr L.length 0 (by omega) (by omega)
theorem rentries_l0 (h : Desc D P M Mod) (l : List Int) (hl : l.length ≤ 1000000) : ∀ (d : Nat) (i : Int), 0 ≤ i → i + d = l.length → (∀ t : Int, 0 ≤ t → t < i → 0 ≤ rd l t ∧ rd l t < D.q) →
  Ev (fun k => r9_Entries.l0 k l i P M Mod) (if allIn D l = true then 0 else 2) := by
 intro d
 induction d with
 | zero =>
  intro i h0 hd ht
  have hh : allIn D l = true := by
   unfold allIn
   rw [List.all_eq_true]
   intro x hx
   obtain ⟨t, h1, h2, rfl⟩ := mem_rd hx
   have := ht t h1 (by omega)
   simpa using this
  rw [if_pos hh]
  exact ev_succ (ev_now fun k => by rw [r9_Entries.l0, if_neg (by omega)])
 | succ d ih =>
  intro i h0 hd ht
  refine Ev.step (fun k => by rw [r9_Entries.l0, if_pos (by omega), if_pos h0]) (Ev.bind (Is_eq h (rd l i)) ?_)
  by_cases e : 0 ≤ rd l i ∧ rd l i < D.q
  ·refine Ev.congr (fun k => ?_) (ih (i + 1) (by omega) (by omega) (fun t h1 h2 => ?_))
   ·rw [if_pos (decide_eq_true e), w64 (by omega) (by omega)]
   ·by_cases e2 : t = i
    ·subst e2; exact e
    ·exact ht t h1 (by omega)
  ·have hh : ¬ allIn D l = true := by
    intro hh
    unfold allIn at hh
    rw [List.all_eq_true] at hh
    exact e (by simpa using hh _ (rd_mem h0 (by omega)))
   rw [if_neg hh]
   exact ev_now fun k => by rw [if_neg (by simpa using e)]
theorem rentries_eq (h : Desc D P M Mod) (l : List Int) (hl : l.length ≤ 1000000) : Ev (fun k => r9_Entries.f k P M Mod l) (if allIn D l = true then 0 else 2) := rentries_l0 h l hl l.length 0 (by omega) (by omega) (fun t _ _ => by omega)
theorem mem_rdL {L : List (List Int)} {l : List Int} (h : l ∈ L) : ∃ t : Int, 0 ≤ t ∧ t < L.length ∧ rd_L1 L t = l := by
 obtain ⟨n, hn, rfl⟩ := List.getElem_of_mem h
 refine ⟨n, by omega, by omega, ?_⟩
 unfold rd_L1
 rw [List.getD_eq_getElem?_getD, Int.toNat_natCast, List.getElem?_eq_getElem hn]
 rfl
theorem rcheck_l1 (h : Desc D P M Mod) (cols : Int) (L : List (List Int)) (hL : L.length ≤ 1000000) (hr : ∀ l ∈ L, l.length ≤ 1000000) : ∀ (d : Nat) (i : Int), 0 ≤ i → i + d = L.length → (∀ t : Int, 0 ≤ t → t < i → allIn D (rd_L1 L t) = true) →
  Ev (fun k => r9_Check.l1 k i P M Mod cols L) (if L.all (allIn D) = true then 0 else 2) := by
 intro d
 induction d with
 | zero =>
  intro i h0 hd ht
  have hh : L.all (allIn D) = true := by
   rw [List.all_eq_true]
   intro x hx
   obtain ⟨t, h1, h2, rfl⟩ := mem_rdL hx
   exact ht t h1 (by omega)
  rw [if_pos hh]
  exact ev_succ (ev_now fun k => by rw [r9_Check.l1, if_neg (by omega)])
 | succ d ih =>
  intro i h0 hd ht
  refine Ev.step (fun k => by rw [r9_Check.l1, if_pos (by omega), if_pos h0]) (Ev.bind (rentries_eq h (rd_L1 L i) (hr _ (rd_L1_mem h0 (by omega)))) ?_)
  by_cases e : allIn D (rd_L1 L i) = true
  ·refine Ev.congr (fun k => ?_) (ih (i + 1) (by omega) (by omega) (fun t h1 h2 => ?_))
   ·rw [if_pos e, if_pos rfl, w64 (by omega) (by omega)]
   ·by_cases e2 : t = i
    ·subst e2; exact e
    ·exact ht t h1 (by omega)
  ·have hh : ¬ L.all (allIn D) = true := by
    intro hh
    rw [List.all_eq_true] at hh
    exact e (hh _ (rd_L1_mem h0 (by omega)))
   rw [if_neg hh]
   exact ev_now fun k => by rw [if_neg e, if_neg (by decide)]
theorem rcheck_l0 (h : Desc D P M Mod) (cols : Int) (L : List (List Int)) (hc : 0 ≤ cols ∧ cols ≤ 256) (hL : L.length ≤ 256) : ∀ (d : Nat) (i : Int), 0 ≤ i → i + d = L.length → (∀ t : Int, 0 ≤ t → t < i → ((rd_L1 L t).length : Int) = cols) →
  Ev (fun k => r9_Check.l0 k i P M Mod cols L) (chk D cols L) := by
 intro d
 induction d with
 | zero =>
  intro i h0 hd ht
  have hh : ∀ l ∈ L, (l.length : Int) = cols := by
   intro x hx
   obtain ⟨t, h1, h2, rfl⟩ := mem_rdL hx
   exact ht t h1 (by omega)
  have hs : shpOk cols L = true := by
   unfold shpOk
   rw [Bool.and_eq_true, List.all_eq_true]
   exact ⟨decide_eq_true ⟨hc.1, hc.2, hL⟩, fun l hl => decide_eq_true (hh l hl)⟩
  unfold chk
  rw [if_pos hs]
  refine Ev.step (fun k => by rw [r9_Check.l0, if_neg (by omega)]) (rcheck_l1 h cols L (by omega) (fun l hl => by have := hh l hl; omega) L.length 0 (by omega) (by omega) (fun t _ _ => by omega))
 | succ d ih =>
  intro i h0 hd ht
  by_cases e : ((rd_L1 L i).length : Int) = cols
  ·refine Ev.step (fun k => ?_) (ih (i + 1) (by omega) (by omega) (fun t h1 h2 => ?_))
   ·rw [r9_Check.l0, if_pos (by omega), if_pos h0, if_pos e, w64 (by omega) (by omega)]
   ·by_cases e2 : t = i
    ·subst e2; exact e
    ·exact ht t h1 (by omega)
  ·have hs : ¬ shpOk cols L = true := by
    unfold shpOk
    rw [Bool.and_eq_true, List.all_eq_true]
    intro hh
    exact e (of_decide_eq_true (hh.2 _ (rd_L1_mem h0 (by omega))))
   unfold chk
   rw [if_neg hs]
   exact ev_succ (ev_now fun k => by rw [r9_Check.l0, if_pos (by omega), if_pos h0, if_neg e])
theorem rcheck_eq (h : Desc D P M Mod) (hc4 : Ev (fun k => r4_Check.f k P M Mod) 0) (cols : Int) (L : List (List Int)) : Ev (fun k => r9_Check.f k P M Mod cols L) (chk D cols L) := by
 refine Ev.bind hc4 ?_
 have bad : (¬ (0 ≤ cols ∧ cols ≤ 256 ∧ L.length ≤ 256)) → chk D cols L = 3 := fun hb => by
  have hs : ¬ shpOk cols L = true := by
   unfold shpOk
   rw [Bool.and_eq_true]
   intro hh
   exact hb (of_decide_eq_true hh.1)
  unfold chk
  rw [if_neg hs]
 by_cases h1 : cols < 0
 ·rw [bad (by omega)]
  exact Ev.congr (fun k => by rw [if_pos rfl, if_pos h1]) (ev_succ (g := fun k => r9_Check.j0 k true P M Mod cols L) (ev_now fun k => by rw [r9_Check.j0, if_pos rfl]))
 ·by_cases h2 : cols > 256
  ·rw [bad (by omega)]
   exact Ev.congr (fun k => by rw [if_pos rfl, if_neg h1, if_pos h2]) (ev_succ (g := fun k => r9_Check.j0 k true P M Mod cols L) (ev_now fun k => by rw [r9_Check.j0, if_pos rfl]))
  ·by_cases h3 : (L.length : Int) > 256
   ·rw [bad (by omega)]
    exact Ev.congr (fun k => by rw [if_pos rfl, if_neg h1, if_neg h2, decide_eq_true h3]) (ev_succ (g := fun k => r9_Check.j0 k true P M Mod cols L) (ev_now fun k => by rw [r9_Check.j0, if_pos rfl]))
   ·refine Ev.congr (fun k => by rw [if_pos rfl, if_neg h1, if_neg h2, decide_eq_false h3]) (Ev.step (g := fun k => r9_Check.j0 k false P M Mod cols L) (fun k => by rw [r9_Check.j0, if_neg (by simp)]) (rcheck_l0 h cols L ⟨by omega, by omega⟩ (by omega) L.length 0 (by omega) (by omega) (fun t _ _ => by omega)))
end
section
theorem row_cells {w : World} {base : Nat} {ok : Nat → Prop} {v : Value} {l : List Int} (h : Kd.R (Kd.int .i64) 3 w base ok v l) (hn : 0 < l.length) :
  ∃ g c, v = .slice (some ⟨g, 0, none⟩) l.length c ∧ base ≤ g ∧ l.length ≤ c ∧ ok g ∧ ∃ cs, w.heap[g]? = some (.cells cs 3 (0, 0)) ∧ ∀ j : Nat, j < l.length → cs[j]? = some (.int .i64 (rd l (j : Int))) := by
 obtain ⟨g, c, rfl, h1, h2, cs, h3⟩ := Kd.R_form h hn
 refine ⟨g, c, rfl, h1, by have := (Kd.R_reads' h).2.1; omega, h.1 g (by simp [Value.ownBlock]), cs, h3, fun j hj => ?_⟩
 have h4 := (Kd.R_celln 0 h (j : Int) (by omega) (by omega)).1
 rw [show ((j : Int)).toNat = j from rfl, blk_cell h3] at h4
 rw [h4]; rfl
theorem S_Mat {w : World} {base : Nat} {ok : Nat → Prop} {v : Value} {L : List (List Int)} {N : Nat} (h : Kd.S (Kd.slice 3 (Kd.int .i64)) 22 w base ok v L) (hN1 : 1 ≤ N) (hL : ∀ i : Int, 0 ≤ i → i < L.length → (rd_L1 L i).length = N) :
  ∃ A R bs c, v = .slice A L.length c ∧ L.length ≤ c ∧ (0 < L.length → A = some ⟨R, 0, none⟩) ∧ Mat w base R bs L.length N (fun i j => rd (rd_L1 L i) j) := by
 have hR0 := Kd.S_R h
 by_cases hm : 0 < L.length
 ·obtain ⟨f, hf⟩ := h
  obtain ⟨R, cap, rfl, h1, h2, cells, h3⟩ := Kd.R_form hR0 hm
  have key : ∀ i : Nat, i < L.length → ∃ b c, cells[i]? = some (.slice (some ⟨b, 0, none⟩) N c) ∧ N ≤ c ∧ base ≤ b ∧ f b = i ∧ ∃ cs, w.heap[b]? = some (.cells cs 3 (0, 0)) ∧ ∀ j : Nat, j < N → cs[j]? = some (.int .i64 (rd (rd_L1 L (i : Int)) (j : Int))) := by
   intro i hi
   obtain ⟨c, hcl, hM, hcc⟩ := Kd.R_getA hf ([], 0) (i : Int) (by omega) (Int.ofNat_lt.2 hi)
   have hz : L.zipIdx.getD ((i : Int)).toNat ([], 0) = (rd_L1 L (i : Int), i) := by
    unfold rd_L1
    rw [List.getD_eq_getElem?_getD, List.getD_eq_getElem?_getD, Int.toNat_natCast, List.getElem?_zipIdx, List.getElem?_eq_getElem hi]
    simp
   rw [hz] at hM
   obtain ⟨u, rfl, hu⟩ := hM
   have hlen := hL (i : Int) (by omega) (by omega)
   obtain ⟨b, cb, rfl, b1, b2, b3, cs, b4, b5⟩ := row_cells hu (show 0 < (rd_L1 L (i : Int)).length by omega)
   have hcell := hcc 0 _ rfl
   rw [add_at, Nat.zero_add, Int.toNat_natCast] at hcell
   have hcell2 : w.cell? ⟨R, i, none⟩ = some (.slice (some ⟨b, 0, none⟩) (rd_L1 L (i : Int)).length cb) := by
    have e : i * (Kd.tag f (Kd.slice 3 (Kd.int .i64))).sz + 0 = i := by
     show i * 1 + 0 = i
     omega
    rw [e] at hcell
    exact hcell
   rw [blk_cell h3] at hcell2
   rw [hlen] at hcell2 b2 b5
   exact ⟨b, cb, hcell2, b2, b1, b3.2, cs, b4, b5⟩
  refine ⟨_, R, fun i => if hi : i < L.length then Classical.choose (key i hi) else 0, cap, rfl, (Kd.R_reads' hR0).2.1, fun _ => rfl, fun _ => ⟨cells, h3, fun i hi => ?_⟩, fun i hi => ?_, fun i j hi hj e => ?_, fun _ => h1, fun i hi => ?_⟩
  ·simp only [dif_pos hi]
   obtain ⟨c, p1, p2, _⟩ := Classical.choose_spec (key i hi)
   exact ⟨c, p2, p1⟩
  ·simp only [dif_pos hi]
   obtain ⟨c, p1, p2, p3, p4, cs, p5, p6⟩ := Classical.choose_spec (key i hi)
   exact ⟨cs, p5, p6⟩
  ·simp only [dif_pos hi, dif_pos hj] at e
   obtain ⟨c, _, _, _, p4, _⟩ := Classical.choose_spec (key i hi)
   obtain ⟨c', _, _, _, p4', _⟩ := Classical.choose_spec (key j hj)
   rw [e] at p4
   omega
  ·simp only [dif_pos hi]
   obtain ⟨c, p1, p2, p3, _⟩ := Classical.choose_spec (key i hi)
   exact p3
 ·obtain ⟨A, c, rfl⟩ := Kd.R_slice hR0
  exact ⟨A, 0, fun _ => 0, c, rfl, (Kd.R_reads' hR0).2.1, fun h => absurd h hm, fun h => absurd h hm, fun i hi => absurd hi (by omega), fun i j hi => absurd hi (by omega), fun h => absurd h hm, fun i hi => absurd hi (by omega)⟩
end
section
variable {D : FD} {P M : Int} {AM : Option Addr} {ml cM b3 m N R : Nat} {w W W1 : World} {bs : Nat → Nat} {E : Nat → Nat → Int}
structure RSt (D : FD) (P M : Int) (AM : Option Addr) (ml cM : Nat) (w : World) (b3 m N R : Nat) (W : World) (bs : Nat → Nat) (E : Nat → Nat → Int) : Prop where
 Mt : Mat W w.heap.size R bs m N E
 ok : Elm D m N E
 h3 : W.heap[b3]? = some (.cells #[.int .i64 P, .int .i64 M, .slice AM ml cM] 36 (0, 0))
 HB : Below w.heap.size w W
theorem RSt.below (h : RSt D P M AM ml cM w b3 m N R W bs E) (hb : Below W.heap.size W W1) : RSt D P M AM ml cM w b3 m N R W1 bs E := ⟨h.Mt.below hb, h.ok, blk_below h.h3 hb, below_step h.HB hb⟩
theorem RSt.drew (h : RSt D P M AM ml cM w b3 m N R W bs E) : RSt D P M AM ml cM w b3 m N R W.drew bs E := h.below (below_drew1 (Below.refl _ _))
theorem RSt.ne3 (h : RSt D P M AM ml cM w b3 m N R W bs E) (hm : 0 < m) : b3 ≠ R := by
 obtain ⟨cs, hb, _⟩ := h.Mt.hd hm
 exact blk_ne h.h3 hb (by decide)
theorem RSt.put (h : RSt D P M AM ml cM w b3 m N R W bs E) (hm : 0 < m) {i : Nat} {v : Value} {bs' : Nat → Nat} {E' : Nat → Nat → Int} (hM : Mat (W.setCell ⟨R, i, none⟩ v) w.heap.size R bs' m N E') (hE : Elm D m N E') :
  RSt D P M AM ml cM w b3 m N R (W.setCell ⟨R, i, none⟩ v) bs' E' := ⟨hM, hE, blk_far h.h3 (h.ne3 hm) _, below_set h.HB (h.Mt.loR hm)⟩
theorem RSt.swap (h : RSt D P M AM ml cM w b3 m N R W bs E) {i k ci ck : Nat} (hi : i < m) (hk : k < m) (hci : N ≤ ci) (hck : N ≤ ck) :
  RSt D P M AM ml cM w b3 m N R ((W.setCell ⟨R, i, none⟩ (.slice (some ⟨bs k, 0, none⟩) N ck)).setCell ⟨R, k, none⟩ (.slice (some ⟨bs i, 0, none⟩) N ci)) (swapF bs i k) (swapF E i k) :=
 ⟨h.Mt.swap hi hk hci hck, h.ok.swap hi hk, blk_far (blk_far h.h3 (h.ne3 (by omega)) _) (h.ne3 (by omega)) _, below_set (below_set h.HB (h.Mt.loR (by omega))) (h.Mt.loR (by omega))⟩
theorem RSt.replace (h : RSt D P M AM ml cM w b3 m N R W bs E) (hb : Below W.heap.size W W1) {p g c : Nat} {f : Nat → Int} (hp : p < m) (hg : W.heap.size ≤ g) {cells : Array Value} (hc : W1.heap[g]? = some (.cells cells 3 (0, 0))) (hf : ∀ j : Nat, j < N → cells[j]? = some (.int .i64 (f j))) (hN : N ≤ c) (hE : ∀ j, j < N → 0 ≤ f j ∧ f j < D.q) :
  RSt D P M AM ml cM w b3 m N R (W1.setCell ⟨R, p, none⟩ (.slice (some ⟨g, 0, none⟩) N c)) (setF bs p g) (setF E p f) :=
 (h.below hb).put (by omega) ((h.Mt.below hb).replace hp hc hf hN (fun k hk _ => Nat.ne_of_lt (Nat.lt_of_lt_of_le (h.Mt.lt hk) hg)) (Nat.le_trans (below_size h.HB) hg)) (h.ok.set hE)
def PV (W : World) (base m : Nat) (bs : Nat → Nat) (v : Value) (pv : List Int) : Prop := Kd.R (Kd.int .i64) 3 W base (fun b => ∀ r, r < m → bs r ≠ b) v pv
variable {v : Value} {pv : List Int} {base : Nat}
theorem PV.below (h : PV W base m bs v pv) (hb : Below W.heap.size W W1) : PV W1 base m bs v pv := Kd.R_below h hb
theorem PV.drew (h : PV W base m bs v pv) : PV W.drew base m bs v pv := h.below (below_drew1 (Below.refl _ _))
theorem PV.hdr (h : PV W base m bs v pv) {cs : Array Value} (hb : W.heap[R]? = some (.cells cs 22 (0, 0))) (i : Nat) (u : Value) : PV (W.setCell ⟨R, i, none⟩ u) base m bs v pv :=
 Kd.R_mono (Kd.R_far (p := ⟨R, i, none⟩) (Kd.R_types h hb (by intro q hq; rcases List.mem_cons.1 hq with e | e; rw [e]; decide; exact absurd e List.not_mem_nil)) (fun k hk => hk.2) u) (fun k hk => hk.1)
theorem PV.exch (h : PV W base m bs v pv) (hM : Mat W base R bs m N E) {i k : Nat} (hi : i < m) (hk : k < m) (u u' : Value) : PV ((W.setCell ⟨R, i, none⟩ u).setCell ⟨R, k, none⟩ u') base m (swapF bs i k) v pv := by
 obtain ⟨cs, hb, _⟩ := hM.hd (by omega)
 exact Kd.R_mono ((h.hdr hb i u).hdr (blk_set hb i u) k u') fun b hb r hr => by rw [swapF_sg]; exact hb _ (sg_lt hi hk hr)
theorem PV.swap (h : PV W base m bs v pv) {i k : Nat} (hi : i < m) (hk : k < m) : PV W base m (swapF bs i k) v pv :=
 Kd.R_mono h fun b hb r hr => by rw [swapF_sg]; exact hb _ (sg_lt hi hk hr)
theorem PV.rep (h : PV W base m bs v pv) {p g : Nat} (hg : W.heap.size ≤ g) : PV W base m (setF bs p g) v pv :=
 Kd.R_mono (Kd.R_bound h) fun b hb r hr => by
  by_cases e : r = p
  ·subst e; rw [setF_self]; have := hb.2.2.1; omega
  ·rw [setF_ne e]; exact hb.1 r hr
theorem PV.replace (h : PV W w.heap.size m bs v pv) (hS : RSt D P M AM ml cM w b3 m N R W bs E) (hb : Below W.heap.size W W1) {p g : Nat} (hp : p < m) (hg : W.heap.size ≤ g) (u : Value) : PV (W1.setCell ⟨R, p, none⟩ u) w.heap.size m (setF bs p g) v pv := by
 obtain ⟨cs, hR, _⟩ := hS.Mt.hd (by omega)
 exact Kd.R_mono (Kd.R_far (p := ⟨R, p, none⟩) (Kd.R_types ((h.rep hg).below hb) (blk_below hR hb) (by intro q hq; rcases List.mem_cons.1 hq with e | e; rw [e]; decide; exact absurd e List.not_mem_nil)) (fun k hk => hk.2) u) (fun k hk => hk.1)
theorem RSt.grown (h : RSt D P M AM ml cM w b3 m N R W bs E) (hp : PV W w.heap.size m bs v pv) (hg : W.grownBy W1 v.ownBlock) : RSt D P M AM ml cM w b3 m N R W1 bs E := by
 have key : ∀ b, v.ownBlock = some b → w.heap.size ≤ b ∧ (∃ cs, W.heap[b]? = some (.cells cs 3 (0, 0))) ∧ ∀ r, r < m → bs r ≠ b := fun b e => by
  obtain ⟨h1, h2, h3, q, h4, cs, h5⟩ := (Kd.R_bound hp).1 b e
  have hq : q = 3 := by
   rcases List.mem_cons.1 h4 with e | e
   ·exact e
   ·exact absurd e List.not_mem_nil
  subst hq
  exact ⟨h2, ⟨cs, h5⟩, h1⟩
 have hk : Kept W W1 (fun k => v.ownBlock = some k) := Kept.of_grown hg (Kept.refl W _) (fun k e => .inl e)
 refine ⟨h.Mt.kept hk (fun hm e => ?_) (fun r hr e => (key _ e).2.2 r hr rfl), h.ok, blk_kept h.h3 hk (fun e => ?_), h.HB.grown hg (below_size h.HB) (fun k e => (key k e).1)⟩
 ·obtain ⟨_, ⟨cs, hb⟩, _⟩ := key R e
  obtain ⟨cs', hb', _⟩ := h.Mt.hd hm
  exact blk_ne hb hb' (by decide) rfl
 ·obtain ⟨_, ⟨cs, hb⟩, _⟩ := key b3 e
  exact blk_ne hb h.h3 (by decide) rfl
def S8 (W : World) (P M : Int) (AM : Option Addr) (ml cM b3 R bp bi N cp ci p i cc : Nat) (x : Int) : Prop := W.cell? ⟨b3, 0, none⟩ = some (.int .i64 P) ∧ W.cell? ⟨b3, 1, none⟩ = some (.int .i64 M) ∧ W.cell? ⟨b3, 2, none⟩ = some (.slice AM ml cM) ∧ W.cell? ⟨R, p, none⟩ = some (.slice (some ⟨bp, 0, none⟩) N cp) ∧ W.cell? ⟨R, i, none⟩ = some (.slice (some ⟨bi, 0, none⟩) N ci) ∧ W.cell? ⟨bi, cc, none⟩ = some (.int .i64 x)
theorem S8.below {bp bi cp ci p i cc : Nat} {x : Int} (h : S8 W P M AM ml cM b3 R bp bi N cp ci p i cc x) (hb : Below W.heap.size W W1) : S8 W1 P M AM ml cM b3 R bp bi N cp ci p i cc x := by
 have hk := Kept.of_below hb (fun _ => False)
 exact ⟨cellR h.1 hk id, cellR h.2.1 hk id, cellR h.2.2.1 hk id, cellR h.2.2.2.1 hk id, cellR h.2.2.2.2.1 hk id, cellR h.2.2.2.2.2 hk id⟩
theorem Mat.caps (h : Mat W base R bs m N E) : ∃ ch : Nat → Nat, ∀ i, i < m → N ≤ ch i ∧ W.cell? ⟨R, i, none⟩ = some (.slice (some ⟨bs i, 0, none⟩) N (ch i)) ∧ W.frozen? ⟨R, i, none⟩ = false := by
 refine ⟨fun i => if hi : i < m then Classical.choose (h.hcell hi) else 0, fun i hi => ?_⟩
 simp only [dif_pos hi]
 exact Classical.choose_spec (h.hcell hi)
theorem RSt.s8 (h : RSt D P M AM ml cM w b3 m N R W bs E) : ∃ ch : Nat → Nat, (∀ i, i < m → N ≤ ch i ∧ W.frozen? ⟨R, i, none⟩ = false) ∧ ∀ p i cc, p < m → i < m → cc < N → S8 W P M AM ml cM b3 R (bs p) (bs i) N (ch p) (ch i) p i cc (E i cc) := by
 obtain ⟨ch, hch⟩ := h.Mt.caps
 exact ⟨ch, fun i hi => ⟨(hch i hi).1, (hch i hi).2.2⟩, fun p i cc hp hi hc => ⟨bc0 h.h3, bc1 h.h3, bc2 h.h3, (hch p hp).2.1, (hch i hi).2.1, (h.Mt.cell hi hc).1⟩⟩
theorem rscale_row {Mod : List Int} (h : Desc D P M Mod) (a : Int) (f : Nat → Int) (hN : N ≤ 1000000) : Ev (fun k => r9_scale.f k P M Mod a (rowL N f)) (rowL N (scF D a f)) := by
 have := rscale_eq h a (rowL N f) (by rw [rowL_length]; exact hN)
 rw [rowL_length] at this
 refine ev_of_eq this (rowL_congr fun j hj => ?_)
 show (inn D a * inn D (rd (rowL N f) (j : Int))).1 = (inn D a * inn D (f j)).1
 rw [rowL_rd (by omega) (by omega), Int.toNat_natCast]
theorem raddto_row {Mod : List Int} (h : Desc D P M Mod) (a : Int) (f g : Nat → Int) (hN : N ≤ 1000000) : Ev (fun k => r9_AddTo.f k P M Mod (rowL N f) a (rowL N g)) (rowL N (adF D f a g)) := by
 have := raddto_eq h a (rowL N f) (rowL N g) (by rw [rowL_length]; exact hN) (by rw [rowL_length, rowL_length])
 rw [rowL_length] at this
 refine ev_of_eq this (rowL_congr fun j hj => ?_)
 show (if rd (rowL N g) (j : Int) = 0 then rd (rowL N f) (j : Int) else (inn D (rd (rowL N f) (j : Int)) + inn D a * inn D (rd (rowL N g) (j : Int))).1) = if g j = 0 then f j else (inn D (f j) + inn D a * inn D (g j)).1
 rw [rowL_rd (by omega) (by omega), rowL_rd (by omega) (by omega), Int.toNat_natCast]
end
section
variable {D : FD} {P M : Int} {Mod : List Int} {w : World}
theorem rw_nat {a : Nat} (h : a ≤ 1000000) : wrap64 ((a : Int) + 1) = ((a + 1 : Nat) : Int) := by rw [w64] <;> omega
def Re11.T : Bool × List (List Nat × List Nat) := (true, [([], []), ([], []), ([], []), ([], []), ([], []), ([], []), ([4, 5], [4, 5]), ([6], [6]), ([], []), ([], []), ([8, 9], [8, 9]), ([10], [10]), ([0, 1, 0, 1, 4, 5, 6, 7, 11], [0, 1]), ([12, 7, 0, 1, 4, 5, 6, 7, 11], [7, 12]), ([2, 3, 0, 1, 2, 3, 4, 5, 6, 7, 8, 9, 10, 11, 12, 13], [2, 3]), ([14, 11, 13, 0, 1, 2, 3, 4, 5, 6, 7, 8, 9, 10, 11, 12, 13], [11, 14])])
def Re11.B : List Nat := [0, 0, 0, 0, 0, 0, 48, 112, 0, 0, 768, 1792, 4083, 8179, 16383, 32767]
theorem Re11.tab : rtab .any (opsOf Try.f131 11) = Re11.T := by kernel_rfl
theorem Re11.bits : waitsOk Re11.T.2 Re11.B = true := by kernel_rfl
def Re13.T : Bool × List (List Nat × List Nat) := (true, [([], []), ([], []), ([], []), ([], []), ([], []), ([], []), ([4, 5], [4, 5]), ([6], [6]), ([], []), ([7, 8], [7, 8]), ([9], [9]), ([3, 10], [3, 10]), ([], []), ([], []), ([12, 13], [12, 13]), ([14], [14]), ([2, 11, 15, 11], [2, 11, 15]), ([0, 1, 0, 1, 2, 3, 4, 5, 6, 7, 8, 9, 10, 11, 12, 13, 14, 15, 16], [0, 1]), ([17, 16, 16, 0, 1, 2, 3, 4, 5, 6, 7, 8, 9, 10, 11, 12, 13, 14, 15, 16], [16, 17])])
def Re13.B : List Nat := [0, 0, 0, 0, 0, 0, 48, 112, 0, 496, 1008, 2040, 0, 0, 12288, 28672, 65532, 131071, 262143]
theorem Re13.tab : rtab .any (opsOf Try.f131 13) = Re13.T := by kernel_rfl
theorem Re13.bits : waitsOk Re13.T.2 Re13.B = true := by kernel_rfl
def Re18.T : Bool × List (List Nat × List Nat) := (true, [([], []), ([], []), ([], []), ([], []), ([], []), ([3, 4], [3, 4]), ([5], [5]), ([], []), ([], []), ([], []), ([8, 9], [8, 9]), ([10], [10]), ([], []), ([11, 12], [11, 12]), ([13], [13]), ([7, 14], [7, 14]), ([], []), ([], []), ([16, 17], [16, 17]), ([18], [18]), ([2, 6, 15, 19, 15], [2, 6, 15, 19]), ([0, 1, 0, 1, 2, 3, 4, 5, 6, 7, 8, 9, 10, 11, 12, 13, 14, 15, 16, 17, 18, 19, 20], [0, 1]), ([21, 20, 20, 0, 1, 2, 3, 4, 5, 6, 7, 8, 9, 10, 11, 12, 13, 14, 15, 16, 17, 18, 19, 20], [20, 21])])
def Re18.B : List Nat := [0, 0, 0, 0, 0, 24, 56, 0, 0, 0, 768, 1792, 0, 7936, 16128, 32640, 0, 0, 196608, 458752, 1048572, 2097151, 4194303]
theorem Re18.tab : rtab .any (opsOf Try.f131 18) = Re18.T := by kernel_rfl
theorem Re18.bits : waitsOk Re18.T.2 Re18.B = true := by kernel_rfl
theorem relim_in (hd : Desc D P M Mod) {AM : Option Addr} {cM : Nat} (hMr : Kd.C (Kd.int .i64) w AM Mod.length Mod) (hcM : Mod.length ≤ cM) (A : Option Addr) (c N : Nat) (L : List (List Int)) (hr : Kd.C (Kd.slice 3 (Kd.int .i64)) w A L.length L) (hc : L.length ≤ c) (hm : L.length ≤ 256) (hN1 : 1 ≤ N) (hN : N ≤ 256)
  (hL : ∀ i : Int, 0 ≤ i → i < L.length → (rd_L1 L i).length = N) (hE : Elm D L.length N (fun i j => rd (rd_L1 L i) j)) :
  Calls Try.prog 131 #[.agg #[.int .i64 P, .int .i64 M, .slice AM Mod.length cM], .slice A L.length c, .int .i64 (N : Int)] w fun e w' => ∃ A' R bs c' v, e = .returned (.tuple #[.slice A' L.length c', v]) ∧ L.length ≤ c' ∧ (0 < L.length → A' = some ⟨R, 0, none⟩) ∧
   Mat w' w.heap.size R bs L.length N (elimF D L.length N 0 (fun i j => rd (rd_L1 L i) j) []).1 ∧ Kd.R (Kd.int .i64) 3 w' w.heap.size (fun _ => True) v (elimF D L.length N 0 (fun i j => rd (rd_L1 L i) j) []).2 ∧ Below w.heap.size w w' := by
 obtain ⟨kcp, hcp⟩ := (rcopy_eq L (by omega) (fun l hl => by obtain ⟨t, h0, h1, rfl⟩ := mem_rdL hl; rw [hL t h0 h1]; omega)).rounds
 have HCP := Aside0.mk hcp
 have HD := Aside0.mk hd
 have HMR := Aside0.mk hMr
 have HCM := Aside0.mk hcM
 have HR := Aside0.mk hr
 have HC := Aside0.mk hc
 have HL := Aside0.mk hL
 have HE := Aside0.mk hE
 have HN := Aside0.mk (And.intro hN1 (And.intro hN hm))
 obtain ⟨m, hm0⟩ : ∃ m, L.length = m := ⟨_, rfl⟩
 obtain ⟨E, hE0⟩ : ∃ E : Nat → Nat → Int, (fun (i j : Nat) => rd (rd_L1 L (i : Int)) (j : Int)) = E := ⟨_, rfl⟩
 have HM0 := Aside0.mk hm0
 have HE0 := Aside0.mk hE0
 clear hd hMr hcM hr hc hL hE hN1 hN hm hcp
 rw [hE0, hm0]
 clear hm0 hE0
 go_enter Try.func131, Try.ntmps131
 go_wp2_with (first
  | (refine bx 3 #[.int .i64 P, .int .i64 M, .slice AM Mod.length cM] 36 ?_; intro b3 hb3 w3 hbox hb; have B3 := Aside0.mk hbox; have H3 := Aside0.mk hb; clear hbox hb hb3)
  | (go_at_call 138; go_loud (rw [← HM0.out]; refine (r9_Copy.calls kcp A c L L w3 (Kd.C_below HR.out H3.out) HC.out HCP.out).mono ?_); rintro e w5 ⟨v, rfl, hS, hb⟩; obtain ⟨A', R, bs, c', rfl, hcc, hA, hMt⟩ := S_Mat hS HN.out.1 HL.out; have B3 := Aside0.mk (blk_below B3.out hb); have H5 := Aside0.mk (below_step H3.out hb); rw [HM0.out] at hcc hA hMt ⊢; rw [HE0.out] at hMt; have HST := Aside0.mk (RSt.mk (D := D) (P := P) (M := M) (AM := AM) (ml := Mod.length) (cM := cM) (w := w) (b3 := b3) ⟨hMt.hd, hMt.rw_, hMt.inj, fun h => Nat.le_trans (below_size H3.out) (hMt.loR h), fun i h => Nat.le_trans (below_size H3.out) (hMt.lo i h)⟩ (by have := HE.out; rw [HE0.out, HM0.out] at this; exact this) B3.out H5.out); have HCC := Aside0.mk hcc; have HA := Aside0.mk hA; clear hcc hA hMt hS hb B3 H5))
 have HNM := Aside0.mk (show 1 ≤ N ∧ N ≤ 256 ∧ m ≤ 256 by have := HN.out; have := HM0.out; omega)
 clear HN
 go_loopg [9, 10, 11] (N + 1) (fun kq v9 v10 v11 w' => ∃ (cc : Nat) (bs' : Nat → Nat) (E' : Nat → Nat → Int) (pv : List Int), v10 = .int .i64 (pv.length : Int) ∧ v11 = .int .i64 (cc : Int) ∧ Aside0 (cc ≤ N ∧ cc + kq = N + 1 ∧ pv.length ≤ cc ∧ pv.length ≤ m) ∧ Aside0 (elimF D m (N - cc) cc E' pv = elimF D m N 0 E []) ∧
  Aside0 (RSt D P M AM Mod.length cM w b3 m N R w' bs' E') ∧ Aside0 (PV w' w.heap.size m bs' v9 pv))
 case atStart => exact ⟨0, bs, E, [], rfl, rfl, ⟨by omega, by omega, by simp, by simp⟩, ⟨rfl⟩, HST, ⟨Kd.R_nil _ _ _ _ _⟩⟩
 case round =>
  clear HST
  obtain ⟨cc, bs', E', pv, rfl, rfl, HJ, HEL, HST, HPV⟩ := hrel
  cases gk with
  | zero => exact absurd HJ.out.2.1 (by have := HJ.out.1; omega)
  | succ k1 =>
   have fin : ∀ {d2 : Nat}, (¬ (cc < N) ∨ ¬ (pv.length < m)) → N - cc = d2 → elimF D m N 0 E [] = (E', pv) := fun {d2} ho hd => by
    rw [← HEL.out, hd]
    cases d2 with
    | zero => rfl
    | succ d2 =>
     rw [elimF, if_neg]
     omega
   obtain ⟨Ap, cp, rfl⟩ := Kd.R_slice HPV.out
   by_cases hc : cc < N
   ·have c1 : decide ((cc : Int) < (N : Int)) = true := decide_eq_true (by omega)
    by_cases hp : pv.length < m
    ·have c2 : decide ((pv.length : Int) < (m : Int)) = true := decide_eq_true (by omega)
     obtain rfl := HA.out (by omega)
     go_wp2
     go_loopg [12] (m + 1) (fun kq v12 w' => ∃ k : Nat, v12 = .int .i64 (k : Int) ∧ Aside0 (pv.length ≤ k ∧ k ≤ m ∧ k + kq = pv.length + m + 1) ∧ Aside0 (fk E' cc (m - k) k = fk E' cc (m - pv.length) pv.length) ∧ Aside0 (RSt D P M AM Mod.length cM w b3 m N R w' bs' E') ∧ Aside0 (PV w' w.heap.size m bs' (.slice Ap pv.length cp) pv))
     case atStart => exact ⟨pv.length, rfl, ⟨by omega, by omega, by omega⟩, ⟨rfl⟩, HST, HPV⟩
     case round =>
      clear HST HPV
      obtain ⟨k, rfl, HK, HFK, HST, HPV⟩ := hrel
      cases gk with
      | zero => exact absurd HK.out.2.2 (by have := HK.out.2.1; omega)
      | succ k2 =>
       have d1 : (0 ≤ (k : Int)) = True := eq_true (by omega)
       have d2 : (0 ≤ (cc : Int)) = True := eq_true (by omega)
       have d3 : ((cc : Int) < (N : Int)) = True := eq_true (by omega)
       have hwk := rw_nat (a := k) (by have := HNM.out; have := HK.out; omega)
       by_cases hkm : k < m
       ·have d4 : decide ((k : Int) < (m : Int)) = true := decide_eq_true (by omega)
        have d5 : ((k : Int) < (m : Int)) = True := eq_true (by omega)
        obtain ⟨ck, _, hhk, _⟩ := HST.out.Mt.hcell hkm
        have hek := (HST.out.Mt.cell hkm hc).1
        by_cases hz : E' k cc = 0
        ·have d6 : (E' k cc == 0) = true := by simpa using hz
         go_wp2
         rw [hwk]
         go_roundg k2
         case measure => omega
         case rel => exact ⟨k + 1, rfl, ⟨by have := HK.out; omega⟩, ⟨by rw [← HFK.out, show m - k = (m - (k + 1)) + 1 by omega, fk, if_pos hz]⟩, HST, HPV⟩
        ·have d6 : (E' k cc == 0) = false := by simpa using hz
         have hfk : fk E' cc (m - pv.length) pv.length = k := by rw [← HFK.out, show m - k = (m - (k + 1)) + 1 by omega, fk, if_neg hz]
         have d7 : ((k : Int) == (m : Int)) = false := by simp; omega
         have e1 : (0 ≤ (pv.length : Int)) = True := eq_true (by omega)
         have e2 : ((pv.length : Int) < (m : Int)) = True := eq_true (by omega)
         go_wp2
         have HSN := Aside0.mk HST.out.drew
         have HPN := Aside0.mk HPV.out.drew
         obtain ⟨ch, hch, hs8⟩ := HSN.out.s8
         have hs11 := hs8 k pv.length cc hkm hp hc
         have HCH := Aside0.mk (And.intro (hch k hkm).1 (hch pv.length hp).1)
         have hfz := (hch pv.length hp).2
         clear HST HPV hhk hek hs8 hch
         refine start_ (n := 16) (S := fun w' => S8 w' P M AM Mod.length cM b3 R (bs' k) (bs' pv.length) N (ch k) (ch pv.length) k pv.length cc (E' pv.length cc)) (ds := [13, 15]) (bb 16 0) (by kernel_rfl) rfl rfl hs11 (fun hHeld => ?_); refine with_tabW Re11.tab Re11.bits (fun HT_ HW_ => ?_)
         generalize wr.drew = w11 at HSN HPN hfz hHeld ⊢
         clear hs11
         refine pq HT_ 0 48 (bb 16 1) ?_
         refine pq HT_ 1 49 (bb 16 3) ?_
         refine pq HT_ 2 50 (bb 16 7) ?_
         refine pq HT_ 3 51 (bb 16 15) ?_
         refine pq HT_ 4 52 (bb 16 31) ?_
         refine pq HT_ 5 53 (bb 16 63) ?_
         refine pq HT_ 6 54 (bb 16 127) ?_
         refine tq HT_ HW_ hHeld 7 55 (bb 16 255) ?_
         refine pq HT_ 8 56 (bb 16 511) ?_
         refine pq HT_ 9 57 (bb 16 1023) ?_
         refine pq HT_ 10 58 (bb 16 2047) ?_
         refine tq HT_ HW_ hHeld 11 59 (bb 16 4095) ?_
         refine pq HT_ 12 60 (bb 16 8191) ?_
         refine lq HT_ 13 none (bb 16 16383) (fun K hK => ?_)
         obtain ⟨_, _, _, s3, s4, _⟩ := hHeld
         refine skip_ (w1 := w11.setCell ⟨R, pv.length, none⟩ (.slice (some ⟨bs' k, 0, none⟩) N (ch k))) (by rfl) rfl ?_ ?_
         ·go_simp
          try rfl
         refine hK.out _ _ ?_
         clear hK K s3 s4
         obtain ⟨v2, hc2, hf2⟩ := hdr2 HSN.out.Mt hp hkm (.slice (some ⟨bs' k, 0, none⟩) N (ch k))
         refine pq HT_ 14 61 (bb 16 32767) ?_
         refine lq HT_ 15 none (bb 16 65535) (fun K hK => ?_)
         refine skip_ (w1 := (w11.setCell ⟨R, pv.length, none⟩ (.slice (some ⟨bs' k, 0, none⟩) N (ch k))).setCell ⟨R, k, none⟩ (.slice (some ⟨bs' pv.length, 0, none⟩) N (ch pv.length))) (by rfl) rfl ?_ ?_
         ·go_simp
          try rfl
         refine hK.out _ _ ?_
         clear hK K hc2 hf2 hfz
         refine dq HT_ ?_
         clear HT_ HW_
         have HST := Aside0.mk (HSN.out.swap hp hkm HCH.out.2 HCH.out.1)
         have HPV := Aside0.mk (HPN.out.exch HSN.out.Mt hp hkm (.slice (some ⟨bs' k, 0, none⟩) N (ch k)) (.slice (some ⟨bs' pv.length, 0, none⟩) N (ch pv.length)))
         clear HSN HPN HCH
         generalize (w11.setCell ⟨R, pv.length, none⟩ (.slice (some ⟨bs' k, 0, none⟩) N (ch k))).setCell ⟨R, k, none⟩ (.slice (some ⟨bs' pv.length, 0, none⟩) N (ch pv.length)) = wx at HST HPV ⊢
         obtain ⟨E2, hE2⟩ : ∃ E2, swapF E' pv.length k = E2 := ⟨_, rfl⟩
         obtain ⟨bs2, hb2⟩ : ∃ b2, swapF bs' pv.length k = b2 := ⟨_, rfl⟩
         rw [hE2, hb2] at HST
         rw [hb2] at HPV
         have hE2p : E2 pv.length cc = E' k cc := by rw [← hE2]; unfold swapF; rw [if_pos rfl]
         have hzz : inn D (E2 pv.length cc) ≠ 0 := by
          have h1 := HST.out.ok pv.length cc hp hc
          intro e
          have h2 := inn_of h1.1 h1.2
          rw [e] at h2
          exact hz (by rw [← hE2p]; exact h2.symm)
         have HEL3 : Aside0 (∀ E4, E4 = clr D pv.length cc m 0 (normE D E2 pv.length cc) → elimF D m (N - (cc + 1)) (cc + 1) E4 (pv ++ [(cc : Int)]) = elimF D m N 0 E []) := ⟨fun E4 he => by
          rw [← HEL.out, show N - cc = (N - (cc + 1)) + 1 by omega, elimF, if_pos hp, hfk, if_neg (by omega), he]
          unfold stepE
          rw [hE2]⟩
         have HZZ := Aside0.mk hzz
         clear hE2p hE2 hb2 hzz hz d6 d7 hfk hwk HK HFK HEL
         obtain ⟨ch, hch, hs8⟩ := HST.out.s8
         have hs13 := hs8 pv.length pv.length cc hp hp hc
         have HS13 := Aside0.mk hs13
         have hfz := (hch pv.length hp).2
         have hhp := hs13.2.2.2.1
         have hep := hs13.2.2.2.2.2
         clear hs8 hs13
         by_cases hone : E2 pv.length cc = 1
         focus
          have o1 : (E2 pv.length cc != 1) = false := by simpa using hone
          have HNE : Aside0 (normE D E2 pv.length cc = E2) := ⟨if_pos hone⟩
          go_wp2
          rw [← HNE.out] at HST
          clear HNE HS13 hfz hhp hep hch hone o1
         rotate_left
         focus
          have o1 : (E2 pv.length cc != 1) = true := by simpa using hone
          have HNE : Aside0 (normE D E2 pv.length cc = setF E2 pv.length (scF D (Alg.inv (inn D (E2 pv.length cc))).1 (E2 pv.length))) := ⟨if_neg hone⟩
          go_wp2
          have hs13 := (HS13.out.below (below_drew1 (Below.refl _ _)))
          have HST := Aside0.mk HST.out.drew
          have HPV := Aside0.mk HPV.out.drew
          have HCH := Aside0.mk (hch pv.length hp).1
          clear HS13 hfz hhp hep hch
          refine start_ (n := 19) (S := fun w' => S8 w' P M AM Mod.length cM b3 R (bs2 pv.length) (bs2 pv.length) N (ch pv.length) (ch pv.length) pv.length pv.length cc (E2 pv.length cc)) (ds := [18]) (bb 19 0) (by kernel_rfl) rfl rfl hs13 (fun hHeld => ?_); refine with_tabW Re13.tab Re13.bits (fun HT_ HW_ => ?_)
          generalize wx.drew = w31 at HST HPV hHeld ⊢
          clear hs13
          refine pq HT_ 0 70 (bb 19 1) ?_
          refine pq HT_ 1 71 (bb 19 3) ?_
          refine tq HT_ HW_ hHeld 2 72 (bb 19 7) ?_
          refine tq HT_ HW_ hHeld 3 73 (bb 19 15) ?_
          refine pq HT_ 4 74 (bb 19 31) ?_
          refine pq HT_ 5 75 (bb 19 63) ?_
          refine pq HT_ 6 76 (bb 19 127) ?_
          refine tq HT_ HW_ hHeld 7 77 (bb 19 255) ?_
          refine pq HT_ 8 78 (bb 19 511) ?_
          refine pq HT_ 9 79 (bb 19 1023) ?_
          refine tq HT_ HW_ hHeld 10 80 (bb 19 2047) ?_
          refine pq HT_ 12 82 (bb 19 6143) ?_
          refine pq HT_ 13 83 (bb 19 14335) ?_
          refine pq HT_ 14 84 (bb 19 30719) ?_
          refine tq HT_ HW_ hHeld 15 85 (bb 19 63487) ?_
          refine oq HT_ 11 (some 81) (bb 19 65535) (fun K hK => ?_)
          obtain ⟨kI, hkI⟩ := (Inv_eq HD.out HZZ.out).rounds
          refine gq Try.func140 #[.agg #[.int .i64 P, .int .i64 M, .slice AM Mod.length cM], .int .i64 (E2 pv.length cc)] ?_
          refine (r4_Inv.calls kI P M AM cM Mod (E2 pv.length cc) _ w31 (Kd.C_below HMR.out HST.out.HB) HCM.out hkI).mono ?_
          rintro e w32 ⟨rfl, hb⟩
          refine ⟨_, rfl, ?_⟩
          have hh := hHeld.below hb
          have HST := Aside0.mk (HST.out.below hb)
          have HPV := Aside0.mk (HPV.out.below hb)
          clear hb hHeld hkI
          refine hK.out _ _ hh (fun hHeld => ?_)
          clear hK K hh
          refine nq 81 ?_
          refine oq HT_ 16 (some 86) (bb 19 131071) (fun K hK => ?_)
          obtain ⟨kS, hkS⟩ := (rscale_row HD.out (Alg.inv (inn D (E2 pv.length cc))).1 (E2 pv.length) (show N ≤ 1000000 by have := HNM.out; omega)).rounds
          refine gq Try.func139 #[.agg #[.int .i64 P, .int .i64 M, .slice AM Mod.length cM], .int .i64 (Alg.inv (inn D (E2 pv.length cc))).1, .slice (some ⟨bs2 pv.length, 0, none⟩) N (ch pv.length)] ?_
          have HCL := r9_scale.calls kS P M AM cM Mod (Alg.inv (inn D (E2 pv.length cc))).1 (some ⟨bs2 pv.length, 0, none⟩) (ch pv.length) (rowL N (E2 pv.length)) _ w32 (Kd.C_below HMR.out HST.out.HB) HCM.out (by rw [rowL_length]; exact HST.out.Mt.C (by have := HNM.out; omega) hp) (by rw [rowL_length]; exact HCH.out) hkS
          rw [rowL_length] at HCL
          refine HCL.mono ?_
          clear HCL hkS
          rintro e w33 ⟨v, rfl, hr, hb⟩
          refine ⟨_, rfl, ?_⟩
          obtain ⟨gn, cn, rfl, hlo, hcn, _, cells, hcells, hrow⟩ := row_cells hr (by rw [rowL_length]; have := HNM.out; omega)
          rw [rowL_length] at hcn hrow ⊢
          have hrow2 : ∀ j : Nat, j < N → cells[j]? = some (.int .i64 (scF D (Alg.inv (inn D (E2 pv.length cc))).1 (E2 pv.length) j)) := fun j hj => by
           rw [hrow j hj, rowL_rd (by omega) (by omega), Int.toNat_natCast]
          have hh := hHeld.below hb
          obtain ⟨_, _, _, hfz⟩ := (HST.out.below hb).Mt.hcell hp
          have HSX := Aside0.mk HST.out
          have HST := Aside0.mk (HST.out.replace hb hp hlo hcells hrow2 hcn (fun j _ => (inn D (Alg.inv (inn D (E2 pv.length cc))).1 * inn D (E2 pv.length j)).2))
          have HPV := Aside0.mk (HPV.out.replace HSX.out hb hp hlo (.slice (some ⟨gn, 0, none⟩) N cn))
          clear hb hHeld hr hlo hcn hcells hrow hrow2 HSX
          refine hK.out _ _ hh (fun hHeld => ?_)
          clear hK K hh
          refine nq 86 ?_
          refine pq HT_ 17 87 (bb 19 262143) ?_
          refine lq HT_ 18 none (bb 19 524287) (fun K hK => ?_)
          obtain ⟨_, _, _, s3, _, _⟩ := hHeld
          refine skip_ (w1 := w33.setCell ⟨R, pv.length, none⟩ (.slice (some ⟨gn, 0, none⟩) N cn)) (by rfl) rfl ?_ ?_
          ·go_simp
           try rfl
          refine hK.out _ _ ?_
          clear hK K s3 hfz
          refine dq HT_ ?_
          clear HT_ HW_
          go_wp2
          rw [← HNE.out] at HST
          generalize setF bs2 pv.length gn = bs2 at HST HPV
          clear HNE hone o1 HCH
         all_goals
          clear HZZ
          go_loopg [13] (m + 1) (fun kq v13 w' => ∃ (i : Nat) (bs4 : Nat → Nat) (E4 : Nat → Nat → Int), v13 = .int .i64 (i : Int) ∧ Aside0 (i ≤ m ∧ i + kq = m + 1) ∧ Aside0 (clr D pv.length cc (m - i) i E4 = clr D pv.length cc m 0 (normE D E2 pv.length cc)) ∧ Aside0 (RSt D P M AM Mod.length cM w b3 m N R w' bs4 E4) ∧ Aside0 (PV w' w.heap.size m bs4 (.slice Ap pv.length cp) pv))
          case atStart => exact ⟨0, bs2, _, rfl, ⟨by omega, by omega⟩, ⟨rfl⟩, HST, HPV⟩
          case round =>
           clear HST HPV
           obtain ⟨i, bs4, E4, rfl, HI, HCL, HST, HPV⟩ := hrel
           cases gk with
           | zero => exact absurd HI.out.2 (by have := HI.out.1; omega)
           | succ k3 =>
            by_cases hi : i < m
            ·have r1 : decide ((i : Int) < (m : Int)) = true := decide_eq_true (by omega)
             have r2 : (0 ≤ (i : Int)) = True := eq_true (by omega)
             have r3 : ((i : Int) < (m : Int)) = True := eq_true (by omega)
             have hwi := rw_nat (a := i) (by have := HNM.out; omega)
             have HCL2 := Aside0.mk (show clr D pv.length cc (m - (i + 1)) (i + 1) (clr1 D pv.length cc i E4) = clr D pv.length cc m 0 (normE D E2 pv.length cc) by rw [← HCL.out, show m - i = (m - (i + 1)) + 1 by omega]; rfl)
             clear HCL
             obtain ⟨ch, hch, hs8⟩ := HST.out.s8
             have hs18 := hs8 pv.length i cc hp hi hc
             have HS18 := Aside0.mk hs18
             have HCH := Aside0.mk (And.intro (hch pv.length hp).1 (hch i hi).1)
             have hhi := hs18.2.2.2.2.1
             have hei := hs18.2.2.2.2.2
             clear hs8 hs18 hch
             have hcases : (i = pv.length ∨ (i ≠ pv.length ∧ E4 i cc = 0)) ∨ (i ≠ pv.length ∧ E4 i cc ≠ 0) := by
              rcases Classical.em (i = pv.length) with h1 | h1
              ·exact .inl (.inl h1)
              ·rcases Classical.em (E4 i cc = 0) with h2 | h2
               ·exact .inl (.inr ⟨h1, h2⟩)
               ·exact .inr ⟨h1, h2⟩
             rcases hcases with hsk | ⟨hne, hxz⟩
             focus
              have hE5 : clr1 D pv.length cc i E4 = E4 := if_neg (fun h => hsk.elim (fun e => h.1 e) (fun e => h.2 e.2))
              rw [hE5] at HCL2
              have hqq : (((i : Int) != (pv.length : Int)) = false) ∨ (((i : Int) != (pv.length : Int)) = true ∧ (E4 i cc != 0) = false) := by
               rcases hsk with h1 | ⟨h1, h2⟩
               ·left; simp; omega
               ·right; exact ⟨by simp; omega, by simpa using h2⟩
              clear hsk hE5
              rcases hqq with q4 | ⟨q4, q6⟩
              all_goals
               go_wp2
               rw [hwi]
               go_roundg k3
               case measure => omega
               case rel => exact ⟨i + 1, bs4, E4, rfl, ⟨by have := HI.out; omega⟩, HCL2, HST, HPV⟩
             rotate_left
             focus
              have hE5 : clr1 D pv.length cc i E4 = setF E4 i (adF D (E4 i) (-inn D (E4 i cc)).1 (E4 pv.length)) := if_pos ⟨hne, hxz⟩
              rw [hE5] at HCL2
              have q4 : ((i : Int) != (pv.length : Int)) = true := by simp; omega
              have q6 : (E4 i cc != 0) = true := by simpa using hxz
              clear hxz hE5 hne
              go_wp2
              have hs18 := (HS18.out.below (below_drew1 (Below.refl _ _)))
              have HST := Aside0.mk HST.out.drew
              have HPV := Aside0.mk HPV.out.drew
              clear HS18 hhi hei
              refine start_ (n := 23) (S := fun w' => S8 w' P M AM Mod.length cM b3 R (bs4 pv.length) (bs4 i) N (ch pv.length) (ch i) pv.length i cc (E4 i cc)) (ds := [22]) (bb 23 0) (by kernel_rfl) rfl rfl hs18 (fun hHeld => ?_); refine with_tabW Re18.tab Re18.bits (fun HT_ HW_ => ?_)
              generalize wr.drew = w41 at HST HPV hHeld ⊢
              clear hs18
              refine pq HT_ 0 107 (bb 23 1) ?_
              refine pq HT_ 1 108 (bb 23 3) ?_
              refine tq HT_ HW_ hHeld 2 109 (bb 23 7) ?_
              refine pq HT_ 3 110 (bb 23 15) ?_
              refine pq HT_ 4 111 (bb 23 31) ?_
              refine pq HT_ 5 112 (bb 23 63) ?_
              refine tq HT_ HW_ hHeld 6 113 (bb 23 127) ?_
              refine tq HT_ HW_ hHeld 7 114 (bb 23 255) ?_
              refine pq HT_ 8 115 (bb 23 511) ?_
              refine pq HT_ 9 116 (bb 23 1023) ?_
              refine pq HT_ 10 117 (bb 23 2047) ?_
              refine tq HT_ HW_ hHeld 11 118 (bb 23 4095) ?_
              refine pq HT_ 12 119 (bb 23 8191) ?_
              refine pq HT_ 13 120 (bb 23 16383) ?_
              refine tq HT_ HW_ hHeld 14 121 (bb 23 32767) ?_
              refine pq HT_ 16 123 (bb 23 98303) ?_
              refine pq HT_ 17 124 (bb 23 229375) ?_
              refine pq HT_ 18 125 (bb 23 491519) ?_
              refine tq HT_ HW_ hHeld 19 126 (bb 23 1015807) ?_
              refine oq HT_ 15 (some 122) (bb 23 1048575) (fun K hK => ?_)
              obtain ⟨kI, hkI⟩ := (Neg_eq HD.out (E4 i cc)).rounds
              refine gq Try.func142 #[.agg #[.int .i64 P, .int .i64 M, .slice AM Mod.length cM], .int .i64 (E4 i cc)] ?_
              refine (r4_Neg.calls kI P M AM cM Mod (E4 i cc) _ w41 (Kd.C_below HMR.out HST.out.HB) HCM.out hkI).mono ?_
              rintro e w42 ⟨rfl, hb⟩
              refine ⟨_, rfl, ?_⟩
              have hh := hHeld.below hb
              have HST := Aside0.mk (HST.out.below hb)
              have HPV := Aside0.mk (HPV.out.below hb)
              clear hb hHeld hkI
              refine hK.out _ _ hh (fun hHeld => ?_)
              clear hK K hh
              refine nq 122 ?_
              refine oq HT_ 20 (some 127) (bb 23 2097151) (fun K hK => ?_)
              obtain ⟨kS, hkS⟩ := (raddto_row HD.out (-inn D (E4 i cc)).1 (E4 i) (E4 pv.length) (show N ≤ 1000000 by have := HNM.out; omega)).rounds
              refine gq Try.func141 #[.agg #[.int .i64 P, .int .i64 M, .slice AM Mod.length cM], .slice (some ⟨bs4 i, 0, none⟩) N (ch i), .int .i64 (-inn D (E4 i cc)).1, .slice (some ⟨bs4 pv.length, 0, none⟩) N (ch pv.length)] ?_
              have HCL := r9_AddTo.calls kS P M AM cM Mod (some ⟨bs4 i, 0, none⟩) (ch i) (rowL N (E4 i)) (-inn D (E4 i cc)).1 (some ⟨bs4 pv.length, 0, none⟩) (ch pv.length) (rowL N (E4 pv.length)) _ w42 (Kd.C_below HMR.out HST.out.HB) HCM.out (by rw [rowL_length]; exact HST.out.Mt.C (by have := HNM.out; omega) hi) (by rw [rowL_length]; exact HCH.out.2) (by rw [rowL_length]; exact HST.out.Mt.C (by have := HNM.out; omega) hp) (by rw [rowL_length]; exact HCH.out.1) hkS
              rw [rowL_length, rowL_length] at HCL
              refine HCL.mono ?_
              clear HCL hkS
              rintro e w43 ⟨v, rfl, hr, hb⟩
              refine ⟨_, rfl, ?_⟩
              obtain ⟨gn, cn, rfl, hlo, hcn, _, cells, hcells, hrow⟩ := row_cells hr (by rw [rowL_length]; have := HNM.out; omega)
              rw [rowL_length] at hcn hrow ⊢
              have hrow2 : ∀ j : Nat, j < N → cells[j]? = some (.int .i64 (adF D (E4 i) (-inn D (E4 i cc)).1 (E4 pv.length) j)) := fun j hj => by
               rw [hrow j hj, rowL_rd (by omega) (by omega), Int.toNat_natCast]
              have hh := hHeld.below hb
              obtain ⟨_, _, _, hfz⟩ := (HST.out.below hb).Mt.hcell hi
              have HSX := Aside0.mk HST.out
              have HST := Aside0.mk (HST.out.replace hb hi hlo hcells hrow2 hcn (HST.out.ok.ad hi _))
              have HPV := Aside0.mk (HPV.out.replace HSX.out hb hi hlo (.slice (some ⟨gn, 0, none⟩) N cn))
              clear hb hHeld hr hlo hcn hcells hrow hrow2 HSX
              refine hK.out _ _ hh (fun hHeld => ?_)
              clear hK K hh
              refine nq 127 ?_
              refine pq HT_ 21 128 (bb 23 4194303) ?_
              refine lq HT_ 22 none (bb 23 8388607) (fun K hK => ?_)
              obtain ⟨_, _, _, _, s4, _⟩ := hHeld
              refine skip_ (w1 := w43.setCell ⟨R, i, none⟩ (.slice (some ⟨gn, 0, none⟩) N cn)) (by rfl) rfl ?_ ?_
              ·go_simp
               try rfl
              refine hK.out _ _ ?_
              clear hK K s4 hfz
              refine dq HT_ ?_
              clear HT_ HW_
              go_wp2
              rw [hwi]
              go_roundg k3
              case measure => omega
              case rel => exact ⟨i + 1, _, _, rfl, ⟨by have := HI.out; omega⟩, HCL2, HST, HPV⟩
            ·have r1 : decide ((i : Int) < (m : Int)) = false := decide_eq_false (by omega)
             have him : i = m := by have := HI.out; omega
             have hE6 : E4 = clr D pv.length cc m 0 (normE D E2 pv.length cc) := by
              have h1 := HCL.out
              rw [him, Nat.sub_self] at h1
              exact h1
             have HEL2 := Aside0.mk (HEL3.out E4 hE6)
             clear hE6 him
             have hwp := rw_nat (a := pv.length) (by have := HNM.out; omega)
             have hwc := rw_nat (a := cc) (by have := HNM.out; omega)
             go_wp2_with ((with_reducible refine gate_builtin (b := .append) (xs := #[.tmp 129, .tmp 131]) rfl ?_); at_builtin; go_loud (refine Kd.R_append (Kd.int .i64) (w0 := wr) w.heap.size rfl (.tmp 129) (.tmp 131) 22 3 (.int .i64 0) 8 rfl Try.underlying22 info3 rfl (by decide) (by omega) (.slice Ap pv.length cp) pv (cc : Int) [.int .i64 (cc : Int)] (fun b => ∀ r, r < m → bs4 r ≠ b) (fun _ => False) rfl rfl rfl (fun _ hk => hk.elim) (fun b hb r hr e => by have := HST.out.Mt.lt hr; omega) HPV.out (Below.refl _ _) (below_size HST.out.HB) (by have := HJ.out; have := HNM.out; omega) ?_); intro v47 w47 ho _ hg _; have HST := Aside0.mk (HST.out.grown HPV.out hg); have HPN := Aside0.mk ho; clear ho hg HPV)
             rw [hwc]
             go_roundg k1
             case measure => omega
             case rel => exact ⟨cc + 1, bs4, E4, pv ++ [(cc : Int)], (by rw [hwp]; simp), rfl, ⟨by have := HJ.out; simp; omega⟩, HEL2, HST, HPN⟩
       ·have d4 : decide ((k : Int) < (m : Int)) = false := decide_eq_false (by omega)
        obtain rfl : k = m := by have := HK.out; omega
        have hfk : fk E' cc (k - pv.length) pv.length = k := by rw [← HFK.out, Nat.sub_self]; rfl
        have d7 : ((k : Int) == (k : Int)) = true := by simp
        go_wp2
        have hwc := rw_nat (a := cc) (by have := HNM.out; omega)
        go_roundg k1
        case measure => omega
        case rel => exact ⟨cc + 1, bs', E', pv, rfl, (by rw [hwc]), ⟨by have := HJ.out; omega⟩, ⟨by rw [← HEL.out, show N - cc = (N - (cc + 1)) + 1 by omega, elimF, if_pos hp, if_pos hfk]⟩, HST, HPV⟩
    ·have c2 : decide ((pv.length : Int) < (m : Int)) = false := decide_eq_false (by omega)
     go_wp2
     go_ret2
     rw [fin (.inr hp) rfl]
     exact ⟨_, _, bs', _, _, rfl, HCC.out, HA.out, HST.out.Mt, Kd.R_mono HPV.out (fun _ _ => trivial), HST.out.HB⟩
   ·have c1 : decide ((cc : Int) < (N : Int)) = false := decide_eq_false (by omega)
    go_wp2
    go_ret2
    rw [fin (.inl hc) rfl]
    exact ⟨_, _, bs', _, _, rfl, HCC.out, HA.out, HST.out.Mt, Kd.R_mono HPV.out (fun _ _ => trivial), HST.out.HB⟩
end
section
variable {D : FD} {P M : Int} {Mod : List Int} {w : World}
theorem rcanon_in (hd : Desc D P M Mod) {AM : Option Addr} {cM : Nat} (hMr : Kd.C (Kd.int .i64) w AM Mod.length Mod) (hcM : Mod.length ≤ cM) (A : Option Addr) (c N : Nat) (L : List (List Int)) (hr : Kd.C (Kd.slice 3 (Kd.int .i64)) w A L.length L) (hc : L.length ≤ c) (hm : L.length ≤ 256) (hN1 : 1 ≤ N) (hN : N ≤ 256)
  (hL : ∀ i : Int, 0 ≤ i → i < L.length → (rd_L1 L i).length = N) (hE : Elm D L.length N (fun i j => rd (rd_L1 L i) j)) :
  Calls Try.prog 110 #[.agg #[.int .i64 P, .int .i64 M, .slice AM Mod.length cM], .slice A L.length c, .int .i64 (N : Int)] w fun e w' => ∃ A' c' A2 n2 c2, e = .returned (.tuple #[.slice A' (canonR D N L).length c', .slice A2 n2 c2]) ∧ (canonR D N L).length ≤ c' ∧ Kd.C (Kd.slice 3 (Kd.int .i64)) w' A' (canonR D N L).length (canonR D N L) ∧ Below w.heap.size w w' := by
 have HD := Aside0.mk hd
 have HMR := Aside0.mk hMr
 have HCM := Aside0.mk hcM
 have HR := Aside0.mk hr
 have HC := Aside0.mk hc
 have HL := Aside0.mk hL
 have HE := Aside0.mk hE
 have HN := Aside0.mk (And.intro hN1 (And.intro hN hm))
 clear hd hMr hcM hr hc hL hE hN1 hN hm
 rw [canonR_len]
 unfold canonR
 have hk := elimF_len (D := D) L.length N 0 (fun i j => rd (rd_L1 L i) j) [] (by simp)
 obtain ⟨R0, hR0⟩ : ∃ x, elimF D L.length N 0 (fun i j => rd (rd_L1 L i) j) [] = x := ⟨_, rfl⟩
 rw [hR0] at hk ⊢
 have HR0 := Aside0.mk hR0
 have HK := Aside0.mk hk
 clear hR0 hk
 go_enter Try.func110, Try.ntmps110
 go_wp2_with (first
  | (refine bx 3 #[.int .i64 P, .int .i64 M, .slice AM Mod.length cM] 36 ?_; intro b2 hb2 w2 hbox hb; have B2 := Aside0.mk hbox; have H2 := Aside0.mk hb; have hc20 := bc0 B2.out; have hc21 := bc1 B2.out; have hc22 := bc2 B2.out; clear hbox hb hb2)
  | (go_at_call 131; refine (relim_in HD.out (Kd.C_below HMR.out H2.out) HCM.out A c N L (Kd.C_below HR.out H2.out) HC.out HN.out.2.2 HN.out.1 HN.out.2.1 HL.out HE.out).mono ?_; rintro e w5 ⟨A', R, bs, c', v, rfl, hcc, hA, hMt, hv, hb⟩; rw [HR0.out] at hMt hv; obtain ⟨Ap, cp, rfl⟩ := Kd.R_slice hv; have HCC := Aside0.mk hcc; have HA := Aside0.mk hA; have HMT := Aside0.mk hMt; have HB := Aside0.mk (below_step H2.out hb); have b1 : (R0.2.length ≤ c') = True := eq_true (Nat.le_trans HK.out hcc); have b2' : ((R0.2.length : Int) ≤ (c' : Int)) = True := eq_true (by have := Nat.le_trans HK.out hcc; omega); have b3' : (0 ≤ (R0.2.length : Int)) = True := eq_true (by omega); clear hcc hA hMt hv hb hc20 hc21 hc22))
 go_ret2
 exact ⟨_, _, _, _, _, rfl, Nat.le_trans HK.out HCC.out, HMT.out.toC HN.out.2.1 HK.out HN.out.2.2 (fun h => HA.out (Nat.lt_of_lt_of_le h HK.out)), HB.out⟩
theorem rspc_in (hd : Desc D P M Mod) {AM : Option Addr} {cM : Nat} (hMr : Kd.C (Kd.int .i64) w AM Mod.length Mod) (hcM : Mod.length ≤ cM) (A : Option Addr) (c : Nat) (cols : Int) (L : List (List Int)) (hr : Kd.C (Kd.slice 3 (Kd.int .i64)) w A L.length L) (hc : L.length ≤ c) (hc1 : 1 ≤ cols) :
  Calls Try.prog 75 #[.agg #[.int .i64 P, .int .i64 M, .slice AM Mod.length cM], .agg #[.int .i64 cols, .slice A L.length c]] w fun e w' => e = .returned (.int .i64 (spc D cols L)) ∧ Below w.heap.size w w' := by
 obtain ⟨r4, hr4, hor⟩ := Check_eq P M Mod
 have h4 : Ev (fun k => r4_Check.f k P M Mod) 0 := by
  rcases hor with ⟨rfl, _⟩ | ⟨_, hno⟩
  ·exact hr4
  ·exact absurd ⟨D, hd⟩ hno
 clear hr4 hor
 obtain ⟨k9, hk9⟩ := (rcheck_eq hd h4 cols L).rounds
 have HK9 := Aside0.mk hk9
 have HD := Aside0.mk hd
 have HMR := Aside0.mk hMr
 have HCM := Aside0.mk hcM
 have HR := Aside0.mk hr
 have HC := Aside0.mk hc
 have HC1 := Aside0.mk hc1
 clear hd hMr hcM hr hc hc1 h4 hk9
 obtain ⟨ck, hck⟩ : ∃ x, chk D cols L = x := ⟨_, rfl⟩
 have HCK := Aside0.mk hck
 clear hck
 rcases Classical.em (ck = 0) with hz | hz
 ·have z2 : (ck != 0) = false := by simpa using hz
  have HSP : Aside0 (spc D cols L = if canonR D cols.toNat L = L then 0 else 5) := ⟨by unfold spc; rw [HCK.out, if_neg (by simpa using hz)]⟩
  have HCH := Aside0.mk (chk_zero (D := D) (cols := cols) (L := L) (by rw [HCK.out]; exact hz))
  have HZ0 := Aside0.mk hz
  clear hz
  rw [HSP.out]
  obtain ⟨N, hN⟩ : ∃ N : Nat, cols = (N : Int) := ⟨cols.toNat, by have := HC1.out; omega⟩
  subst hN
  rw [Int.toNat_natCast] at HCH ⊢
  have hkm : (canonR D N L).length ≤ 256 := by
   rw [canonR_len]; exact Nat.le_trans (elimF_len (D := D) L.length N 0 _ [] (by simp)) HCH.out.1.2.2
  have hrl : ∀ l ∈ canonR D N L, l.length ≤ 4611686018427387904 := by
   intro l hl
   rw [canonR_mem hl]
   have := HCH.out.1
   omega
  obtain ⟨kr, hkr⟩ := (SameRows_eq (canonR D N L) L (by omega) hrl).rounds
  have HKR := Aside0.mk hkr
  have hH : ∀ i : Int, 0 ≤ i → i < L.length → (rd_L1 L i).length = N := fun i h0 h1 => by have := HCH.out.2.1 i h0 h1; omega
  have HLN := Aside0.mk hH
  obtain ⟨L', hL'⟩ : ∃ x, canonR D N L = x := ⟨_, rfl⟩
  have HL' := Aside0.mk hL'
  rw [hL'] at HKR ⊢
  clear hkm hrl hkr hL' hH
  rcases Classical.em (L' = L) with hq | hq
  all_goals have HQ := Aside0.mk hq
  ·have z3 : decide (L' = L) = true := decide_eq_true hq
   rw [if_pos hq]
   clear hq
   go_enter Try.func75, Try.ntmps75
   go_wp2_with (first
    | (refine bx 2 #[.int .i64 P, .int .i64 M, .slice AM Mod.length cM] 36 ?_; intro b2 hb2 w2 hbox hb; have B2 := Aside0.mk hbox; have H2 := Aside0.mk hb; clear hbox hb hb2)
    | (refine bx 3 #[.int .i64 (N : Int), .slice A L.length c] 101 ?_; intro b3 hb3 w3 hbox hb; have B3 := Aside0.mk hbox; have B2 := Aside0.mk (blk_below B2.out hb); have H3 := Aside0.mk (below_step H2.out hb); have hc20 := bc0 B2.out; have hc21 := bc1 B2.out; have hc22 := bc2 B2.out; have hc30 := bc0 B3.out; have hc31 := bc1 B3.out; clear hbox hb hb3)
    | (go_at_call 109; refine (r9_Check.calls k9 P M AM cM Mod (N : Int) A c L _ w3 (Kd.C_below HMR.out H3.out) HCM.out (Kd.C_below HR.out H3.out) HC.out HK9.out).mono ?_; rintro e w5 ⟨rfl, hb⟩; rw [HCK.out]; have B2 := Aside0.mk (blk_below B2.out hb); have B3 := Aside0.mk (blk_below B3.out hb); have H5 := Aside0.mk (below_step H3.out hb); clear hb hc20 hc21 hc22 hc30 hc31; have hc20 := bc0 B2.out; have hc21 := bc1 B2.out; have hc22 := bc2 B2.out; have hc30 := bc0 B3.out; have hc31 := bc1 B3.out)
    | (go_at_call 110; refine (rcanon_in HD.out (Kd.C_below HMR.out H5.out) HCM.out A c N L (Kd.C_below HR.out H5.out) HC.out HCH.out.1.2.2 (by have := HC1.out; omega) (by have := HCH.out.1; omega) HLN.out HCH.out.2.2).mono ?_; rintro e w6 ⟨A', c', A2, n2, c2, rfl, hcc, hC, hb⟩; rw [HL'.out] at hcc hC ⊢; have HCC := Aside0.mk hcc; have HC6 := Aside0.mk hC; have B3 := Aside0.mk (blk_below B3.out hb); have H6 := Aside0.mk (below_step H5.out hb); clear hb hcc hC hc20 hc21 hc22 hc30 hc31; have hc31 := bc1 B3.out)
    | (go_at_call 111; refine (r9_SameRows.calls kr A' c' L' A c L _ w6 HC6.out HCC.out (Kd.C_below HR.out H6.out) HC.out HKR.out).mono ?_; rintro e w7 ⟨rfl, hdr⟩; have H7 := Aside0.mk (below_step H6.out hdr.below); clear hdr))
   go_ret
   exact ⟨rfl, H7.out⟩
  ·have z3 : decide (L' = L) = false := decide_eq_false hq
   rw [if_neg hq]
   clear hq
   go_enter Try.func75, Try.ntmps75
   go_wp2_with (first
    | (refine bx 2 #[.int .i64 P, .int .i64 M, .slice AM Mod.length cM] 36 ?_; intro b2 hb2 w2 hbox hb; have B2 := Aside0.mk hbox; have H2 := Aside0.mk hb; clear hbox hb hb2)
    | (refine bx 3 #[.int .i64 (N : Int), .slice A L.length c] 101 ?_; intro b3 hb3 w3 hbox hb; have B3 := Aside0.mk hbox; have B2 := Aside0.mk (blk_below B2.out hb); have H3 := Aside0.mk (below_step H2.out hb); have hc20 := bc0 B2.out; have hc21 := bc1 B2.out; have hc22 := bc2 B2.out; have hc30 := bc0 B3.out; have hc31 := bc1 B3.out; clear hbox hb hb3)
    | (go_at_call 109; refine (r9_Check.calls k9 P M AM cM Mod (N : Int) A c L _ w3 (Kd.C_below HMR.out H3.out) HCM.out (Kd.C_below HR.out H3.out) HC.out HK9.out).mono ?_; rintro e w5 ⟨rfl, hb⟩; rw [HCK.out]; have B2 := Aside0.mk (blk_below B2.out hb); have B3 := Aside0.mk (blk_below B3.out hb); have H5 := Aside0.mk (below_step H3.out hb); clear hb hc20 hc21 hc22 hc30 hc31; have hc20 := bc0 B2.out; have hc21 := bc1 B2.out; have hc22 := bc2 B2.out; have hc30 := bc0 B3.out; have hc31 := bc1 B3.out)
    | (go_at_call 110; refine (rcanon_in HD.out (Kd.C_below HMR.out H5.out) HCM.out A c N L (Kd.C_below HR.out H5.out) HC.out HCH.out.1.2.2 (by have := HC1.out; omega) (by have := HCH.out.1; omega) HLN.out HCH.out.2.2).mono ?_; rintro e w6 ⟨A', c', A2, n2, c2, rfl, hcc, hC, hb⟩; rw [HL'.out] at hcc hC ⊢; have HCC := Aside0.mk hcc; have HC6 := Aside0.mk hC; have B3 := Aside0.mk (blk_below B3.out hb); have H6 := Aside0.mk (below_step H5.out hb); clear hb hcc hC hc20 hc21 hc22 hc30 hc31; have hc31 := bc1 B3.out)
    | (go_at_call 111; refine (r9_SameRows.calls kr A' c' L' A c L _ w6 HC6.out HCC.out (Kd.C_below HR.out H6.out) HC.out HKR.out).mono ?_; rintro e w7 ⟨rfl, hdr⟩; have H7 := Aside0.mk (below_step H6.out hdr.below); clear hdr))
   go_ret
   exact ⟨rfl, H7.out⟩
 ·have z2 : (ck != 0) = true := by simpa using hz
  have HSP : Aside0 (spc D cols L = ck) := ⟨by unfold spc; rw [HCK.out, if_pos hz]⟩
  rw [HSP.out]
  clear hz
  go_enter Try.func75, Try.ntmps75
  go_wp2_with (first
   | (refine bx 2 #[.int .i64 P, .int .i64 M, .slice AM Mod.length cM] 36 ?_; intro b2 hb2 w2 hbox hb; have B2 := Aside0.mk hbox; have H2 := Aside0.mk hb; clear hbox hb hb2)
   | (refine bx 3 #[.int .i64 cols, .slice A L.length c] 101 ?_; intro b3 hb3 w3 hbox hb; have B3 := Aside0.mk hbox; have B2 := Aside0.mk (blk_below B2.out hb); have H3 := Aside0.mk (below_step H2.out hb); have hc20 := bc0 B2.out; have hc21 := bc1 B2.out; have hc22 := bc2 B2.out; have hc30 := bc0 B3.out; have hc31 := bc1 B3.out; clear hbox hb hb3)
   | (go_at_call 109; refine (r9_Check.calls k9 P M AM cM Mod cols A c L _ w3 (Kd.C_below HMR.out H3.out) HCM.out (Kd.C_below HR.out H3.out) HC.out HK9.out).mono ?_; rintro e w5 ⟨rfl, hb⟩; rw [HCK.out]; have H5 := Aside0.mk (below_step H3.out hb); clear hb hc20 hc21 hc22 hc30 hc31))
  go_ret
  exact ⟨rfl, H5.out⟩
theorem rcode_in {AM : Option Addr} {cM : Nat} (hMr : Kd.C (Kd.int .i64) w AM Mod.length Mod) (hcM : Mod.length ≤ cM) (A : Option Addr) (c : Nat) (n : Int) (L : List (List Int)) (hr : Kd.C (Kd.slice 3 (Kd.int .i64)) w A L.length L) (hc : L.length ≤ c) {r : Int} (hrr : CodeAns P M Mod n L r) :
  Calls Try.prog 49 #[.agg #[.int .i64 P, .int .i64 M, .slice AM Mod.length cM, .int .i64 n, .slice A L.length c]] w fun e w' => e = .returned (.int .i64 r) ∧ Below w.heap.size w w' := by
 have hu49 := Try.underlying49
 have hu36 := Try.underlying36
 have hu101 := Try.underlying101
 have HMR := Aside0.mk hMr
 have HCM := Aside0.mk hcM
 have HR := Aside0.mk hr
 have HC := Aside0.mk hc
 clear hMr hcM hr hc
 obtain ⟨r4, hr4, hor⟩ := Check_eq P M Mod
 obtain ⟨k4, hk4⟩ := hr4.rounds
 have HK4 := Aside0.mk hk4
 clear hr4 hk4
 rcases hrr with ⟨D, hd, rfl⟩ | ⟨hno, rfl⟩
 ·obtain rfl : r4 = 0 := hor.elim (fun h => h.1) (fun h => absurd ⟨D, hd⟩ h.2)
  have HDD := Aside0.mk hd
  clear hd hor
  have hcs : (n < 1 ∧ codeR D n L = 4) ∨ ((¬ n < 1 ∧ n > 64) ∧ codeR D n L = 4) ∨ ((1 ≤ n ∧ n ≤ 64) ∧ codeR D n L = spc D n L) := by
   unfold codeR
   by_cases h1 : n < 1
   ·exact .inl ⟨h1, if_pos h1⟩
   ·by_cases h2 : n > 64
    ·exact .inr (.inl ⟨⟨h1, h2⟩, by rw [if_neg h1, if_pos h2]⟩)
    ·exact .inr (.inr ⟨by omega, by rw [if_neg h1, if_neg h2]⟩)
  rcases hcs with ⟨h1, he⟩ | ⟨⟨h1, h2⟩, he⟩ | ⟨hn, he⟩
  ·have n1 : decide (n < 1) = true := decide_eq_true h1
   have HE := Aside0.mk he
   rw [HE.out]
   clear he h1
   go_enter Try.func49, Try.ntmps49
   go_wp2_with (first
    | (refine bx 1 #[.int .i64 P, .int .i64 M, .slice AM Mod.length cM, .int .i64 n, .slice A L.length c] 49 ?_; intro b2 hb2 w2 hbox hb; have B2 := Aside0.mk hbox; have H2 := Aside0.mk hb; clear hbox hb hb2; have hc20 := bc0 B2.out; have hc21 := bc1 B2.out; have hc22 := bc2 B2.out)
    | (go_at_call 40; refine (r4_Check.calls k4 P M AM cM Mod _ w2 (Kd.C_below HMR.out H2.out) HCM.out HK4.out).mono ?_; rintro e w3 ⟨rfl, hb3⟩; have B2 := Aside0.mk (blk_below B2.out hb3); have H3 := Aside0.mk (below_step H2.out hb3); clear hb3 hc20 hc21 hc22; have hc20 := bc0 B2.out; have hc21 := bc1 B2.out; have hc22 := bc2 B2.out; have hc23 := bc3 B2.out; have hc24 := bc4 B2.out))
   go_ret
   exact ⟨rfl, H3.out⟩
  ·have n1 : decide (n < 1) = false := decide_eq_false h1
   have n2 : decide (n > 64) = true := decide_eq_true h2
   have n3 : decide (64 < n) = true := decide_eq_true h2
   have HE := Aside0.mk he
   rw [HE.out]
   clear he h1 h2
   go_enter Try.func49, Try.ntmps49
   go_wp2_with (first
    | (refine bx 1 #[.int .i64 P, .int .i64 M, .slice AM Mod.length cM, .int .i64 n, .slice A L.length c] 49 ?_; intro b2 hb2 w2 hbox hb; have B2 := Aside0.mk hbox; have H2 := Aside0.mk hb; clear hbox hb hb2; have hc20 := bc0 B2.out; have hc21 := bc1 B2.out; have hc22 := bc2 B2.out)
    | (go_at_call 40; refine (r4_Check.calls k4 P M AM cM Mod _ w2 (Kd.C_below HMR.out H2.out) HCM.out HK4.out).mono ?_; rintro e w3 ⟨rfl, hb3⟩; have B2 := Aside0.mk (blk_below B2.out hb3); have H3 := Aside0.mk (below_step H2.out hb3); clear hb3 hc20 hc21 hc22; have hc20 := bc0 B2.out; have hc21 := bc1 B2.out; have hc22 := bc2 B2.out; have hc23 := bc3 B2.out; have hc24 := bc4 B2.out))
   go_ret
   exact ⟨rfl, H3.out⟩
  ·have n1 : decide (n < 1) = false := decide_eq_false (by omega)
   have n2 : decide (n > 64) = false := decide_eq_false (by omega)
   have n3 : decide (64 < n) = false := decide_eq_false (by omega)
   have HN := Aside0.mk hn
   have HE := Aside0.mk he
   rw [HE.out]
   clear he hn
   go_enter Try.func49, Try.ntmps49
   go_wp2_with (first
    | (refine bx 1 #[.int .i64 P, .int .i64 M, .slice AM Mod.length cM, .int .i64 n, .slice A L.length c] 49 ?_; intro b2 hb2 w2 hbox hb; have B2 := Aside0.mk hbox; have H2 := Aside0.mk hb; clear hbox hb hb2; have hc20 := bc0 B2.out; have hc21 := bc1 B2.out; have hc22 := bc2 B2.out)
    | (go_at_call 40; refine (r4_Check.calls k4 P M AM cM Mod _ w2 (Kd.C_below HMR.out H2.out) HCM.out HK4.out).mono ?_; rintro e w3 ⟨rfl, hb3⟩; have B2 := Aside0.mk (blk_below B2.out hb3); have H3 := Aside0.mk (below_step H2.out hb3); clear hb3 hc20 hc21 hc22; have hc20 := bc0 B2.out; have hc21 := bc1 B2.out; have hc22 := bc2 B2.out; have hc23 := bc3 B2.out; have hc24 := bc4 B2.out)
    | (go_at_call 75; refine (rspc_in HDD.out (Kd.C_below HMR.out H3.out) HCM.out A c n L (Kd.C_below HR.out H3.out) HC.out HN.out.1).mono ?_; rintro e w4 ⟨rfl, hb⟩; have H4 := Aside0.mk (below_step H3.out hb); clear hb hc20 hc21 hc22 hc23 hc24))
   go_ret
   exact ⟨rfl, H4.out⟩
 ·obtain rfl : r4 = 1 := hor.elim (fun h => absurd h.2 hno) (fun h => h.1)
  clear hno hor
  go_enter Try.func49, Try.ntmps49
  go_wp2_with (first
   | (refine bx 1 #[.int .i64 P, .int .i64 M, .slice AM Mod.length cM, .int .i64 n, .slice A L.length c] 49 ?_; intro b2 hb2 w2 hbox hb; have B2 := Aside0.mk hbox; have H2 := Aside0.mk hb; clear hbox hb hb2; have hc20 := bc0 B2.out; have hc21 := bc1 B2.out; have hc22 := bc2 B2.out)
   | (go_at_call 40; refine (r4_Check.calls k4 P M AM cM Mod _ w2 (Kd.C_below HMR.out H2.out) HCM.out HK4.out).mono ?_; rintro e w3 ⟨rfl, hb3⟩; have B2 := Aside0.mk (blk_below B2.out hb3); have H3 := Aside0.mk (below_step H2.out hb3); clear hb3 hc20 hc21 hc22))
  go_ret
  exact ⟨rfl, H3.out⟩
end
section
variable {D : FD} {P M : Int} {Mod : List Int}
def co (D : FD) (l : List Int) : Pol (GF D) := fun t => inn D (rd l (t : Int))
noncomputable def evL (D : FD) (l : List Int) (x : GF D) : GF D := Alg.ev l.length (co D l) x
def sh {α : Type} (f : Pol α) (i : Nat) : Pol α := fun t => f (i + t)
theorem tail_sh {α : Type} (f : Pol α) (i : Nat) : Alg.tail (sh f i) = sh f (i + 1) := funext fun t => congrArg f (show i + (t + 1) = i + 1 + t by omega)
theorem sh_zero {α : Type} (f : Pol α) : sh f 0 = f := funext fun t => congrArg f (Nat.zero_add t)
theorem ev_step {α : Type} [CR α] {n i : Nat} (f : Pol α) (x : α) (h : i < n) : Alg.ev (n - i) (sh f i) x = f i + x * Alg.ev (n - (i + 1)) (sh f (i + 1)) x := by
 rw [show n - i = (n - (i + 1)) + 1 by omega, Alg.ev_succ, tail_sh]
 rfl
theorem evL_sum (l : List Int) (x : GF D) : evL D l x = Alg.sum l.length (fun t => inn D (rd l (t : Int)) * Alg.pow x t) := Alg.ev_sum _ _ _
theorem geval_l0 (h : Desc D P M Mod) {γ : GF D} (hg : IsOrd γ (D.q - 1).toNat) (l : List Int) (a : Int) (hl : l.length ≤ 1000000) : ∀ i : Nat, i ≤ l.length →
  Ev (fun k => poly_Eval.l0 k l a (Alg.ev (l.length - i) (sh (co D l) i) (inn D a)).1 ((i : Int) - 1) P M Mod D.q (expL γ) (LG γ)) ((evL D l (inn D a)).1, P, M, D.q) := by
 intro i
 induction i with
 | zero =>
  intro hi
  have e : (Alg.ev (l.length - 0) (sh (co D l) 0) (inn D a)) = evL D l (inn D a) := by
   rw [Nat.sub_zero, sh_zero]
   rfl
  rw [e]
  exact ev_succ (ev_now fun k => by rw [poly_Eval.l0, if_neg (by omega)])
 | succ i ih =>
  intro hi
  have hstep := ev_step (n := l.length) (i := i) (co D l) (inn D a) (by omega)
  have hm := gf_mul h hg (Alg.ev (l.length - (i + 1)) (sh (co D l) (i + 1)) (inn D a)).1 a
  have ha := gf_add h (expL γ) (LG γ) ((Alg.ev (l.length - (i + 1)) (sh (co D l) (i + 1)) (inn D a)) * inn D a).1 (rd l (i : Int))
  rw [inn_self] at hm ha
  have hv : Alg.ev (l.length - (i + 1)) (sh (co D l) (i + 1)) (inn D a) * inn D a + inn D (rd l (i : Int)) = Alg.ev (l.length - i) (sh (co D l) i) (inn D a) := by
   rw [hstep, Alg.add_comm, Alg.mul_comm]; rfl
  rw [hv] at ha
  refine Ev.step (fun k => by rw [poly_Eval.l0, if_pos (by omega), hm, Option.bind_some, if_pos (by omega), if_pos (by omega), show ((i + 1 : Nat) : Int) - 1 = (i : Int) by omega]) (Ev.bind ha (Ev.congr (fun k => ?_) (ih (by omega))))
  rw [w64 (by omega) (by omega)]
theorem gf_eval (h : Desc D P M Mod) {γ : GF D} (hg : IsOrd γ (D.q - 1).toNat) (l : List Int) (a : Int) (hl : l.length ≤ 1000000) : Ev (fun k => poly_Eval.f k P M Mod D.q (expL γ) (LG γ) l a) ((evL D l (inn D a)).1, P, M, D.q) := by
 have h0 := geval_l0 h hg l a hl l.length (Nat.le_refl _)
 rw [Nat.sub_self] at h0
 refine Ev.congr (fun k => ?_) h0
 unfold poly_Eval.f
 rw [w64 (by omega) (by omega)]
 rfl
theorem gdot_l0 (h : Desc D P M Mod) {γ : GF D} (hg : IsOrd γ (D.q - 1).toNat) (l1 l2 : List Int) (n : Nat) (h1 : l1.length = n) (h2 : l2.length = n) (hl : n ≤ 1000000) : ∀ (d i : Nat), i + d = n →
  Ev (fun k => field_GF_Dot.l0 k l1 l2 (Alg.sum i (fun t => inn D (rd l1 (t : Int)) * inn D (rd l2 (t : Int)))).1 n i P M Mod D.q (expL γ) (LG γ)) ((Alg.sum n (fun t => inn D (rd l1 (t : Int)) * inn D (rd l2 (t : Int)))).1, P, M, D.q) := by
 intro d
 induction d with
 | zero =>
  intro i hi
  obtain rfl : i = n := by omega
  exact ev_succ (ev_now fun k => by rw [field_GF_Dot.l0, if_neg (by omega)])
 | succ d ih =>
  intro i hi
  have hm := gf_mul h hg (rd l1 (i : Int)) (rd l2 (i : Int))
  have ha := gf_add h (expL γ) (LG γ) (Alg.sum i (fun t => inn D (rd l1 (t : Int)) * inn D (rd l2 (t : Int)))).1 (inn D (rd l1 (i : Int)) * inn D (rd l2 (i : Int))).1
  rw [inn_self, inn_self] at ha
  refine Ev.step (fun k => by rw [field_GF_Dot.l0, if_pos (by omega), if_pos (by omega), if_pos (by omega), if_pos (by omega), hm, Option.bind_some]) (Ev.bind ha (Ev.congr (fun k => ?_) (ih (i + 1) (by omega))))
  rw [w64 (by omega) (by omega)]; rfl
theorem gf_dot (h : Desc D P M Mod) {γ : GF D} (hg : IsOrd γ (D.q - 1).toNat) (l1 l2 : List Int) (n : Nat) (h1 : l1.length = n) (h2 : l2.length = n) (hl : n ≤ 1000000) : Ev (fun k => field_GF_Dot.f k P M Mod D.q (expL γ) (LG γ) l1 l2) ((Alg.sum n (fun t => inn D (rd l1 (t : Int)) * inn D (rd l2 (t : Int)))).1, P, M, D.q) := by
 refine Ev.congr (fun k => ?_) (gdot_l0 h hg l1 l2 n h1 h2 hl n 0 (by omega))
 unfold field_GF_Dot.f mn
 rw [if_neg (by omega), h1]
 rfl
theorem trim_id (l : List Int) (hl : l.length ≤ 1000000) (h0 : 0 < l.length) (hlast : rd l ((l.length : Int) - 1) ≠ 0) : Ev (fun k => poly_trim.f k l) l := by
 refine ev_succ (ev_now fun k => ?_)
 unfold poly_trim.f
 rw [poly_trim.l0, w64 (by omega) (by omega), if_pos (by omega), if_pos (by omega), if_pos (by omega), if_neg hlast]
theorem gcanon_l0 (h : Desc D P M Mod) (E L : List Int) (l : List Int) (hl : l.length ≤ 1000000) (h0 : 0 < l.length) (hlast : rd l ((l.length : Int) - 1) ≠ 0) (hr : ∀ t : Int, 0 ≤ t → t < l.length → 0 ≤ rd l t ∧ rd l t < D.q) : ∀ (d : Nat) (i : Int) (out : List Int), 0 ≤ i → i + d = l.length → out.length = l.length → (∀ t : Int, 0 ≤ t → t < i → rd out t = rd l t) →
  Ev (fun k => poly_Canon.l0 k out l l.length i P M Mod D.q E L) (l, P, M, D.q) := by
 intro d
 induction d with
 | zero =>
  intro i out hi hd ho ht
  have e : out = l := list_ext_rd ho fun t h1 h2 => ht t h1 (by omega)
  subst e
  exact Ev.step (fun k => by rw [poly_Canon.l0, if_neg (by omega)]) (Ev.bind (trim_id out hl h0 hlast) (ev_now fun k => rfl))
 | succ d ih =>
  intro i out hi hd ho ht
  refine Ev.step (fun k => ?_) (ih (i + 1) (out.set i.toNat (rd l i)) (by omega) (by omega) (by simp [ho]) (fun t h1 h2 => ?_))
  ·rw [poly_Canon.l0, if_pos (by omega), if_pos hi, if_pos (by omega), gf_is, Option.bind_some, if_pos (decide_eq_true (hr i hi (by omega))), if_pos (by omega), w64 (by omega) (by omega)]
  ·by_cases e : t = i
   ·subst e; rw [rd_set_self hi (by omega)]
   ·rw [rd_set_ne hi h1 (Ne.symm e)]; exact ht t h1 (by omega)
theorem gf_canon (h : Desc D P M Mod) (E L : List Int) (l : List Int) (hl : l.length ≤ 1000000) (h0 : 0 < l.length) (hlast : rd l ((l.length : Int) - 1) ≠ 0) (hr : ∀ t : Int, 0 ≤ t → t < l.length → 0 ≤ rd l t ∧ rd l t < D.q) : Ev (fun k => poly_Canon.f k P M Mod D.q E L l) (l, P, M, D.q) := by
 refine Ev.congr (fun k => ?_) (gcanon_l0 h E L l hl h0 hlast hr l.length 0 (List.replicate ((l.length : Int)).toNat 0) (by omega) (by omega) (by simp) (fun t _ _ => by omega))
 unfold poly_Canon.f
 rw [if_pos (by omega), if_pos (by omega)]
theorem reval_l0 (h : Desc D P M Mod) (l : List Int) (a : Int) (hl : l.length ≤ 1000000) : ∀ (d i : Nat), i + d = l.length →
  Ev (fun k => r5_Eval.l0 k l a (Alg.sum i (fun t => inn D (rd l (t : Int)) * Alg.pow (inn D a) t)).1 (Alg.pow (inn D a) i).1 i P M Mod) (evL D l (inn D a)).1 := by
 intro d
 induction d with
 | zero =>
  intro i hi
  rw [evL_sum, ← show i = l.length by omega]
  exact ev_succ (ev_now fun k => by rw [r5_Eval.l0, if_neg (by omega)])
 | succ d ih =>
  intro i hi
  have h1 := Mul_eq h (rd l (i : Int)) (Alg.pow (inn D a) i).1
  have h2 := Add_eq h (Alg.sum i (fun t => inn D (rd l (t : Int)) * Alg.pow (inn D a) t)).1 (inn D (rd l (i : Int)) * Alg.pow (inn D a) i).1
  have h3 := Mul_eq h (Alg.pow (inn D a) i).1 a
  rw [inn_self] at h1 h3
  rw [inn_self, inn_self] at h2
  rw [Alg.mul_comm, ← Alg.pow_succ] at h3
  refine Ev.step (fun k => by rw [r5_Eval.l0, if_pos (by omega), if_pos (by omega)]) (Ev.bind h1 (Ev.bind h2 (Ev.bind h3 (Ev.congr (fun k => ?_) (ih (i + 1) (by omega))))))
  rw [w64 (by omega) (by omega)]; rfl
theorem ref_eval (h : Desc D P M Mod) (l : List Int) (a : Int) (hl : l.length ≤ 1000000) : Ev (fun k => r5_Eval.f k P M Mod l a) (evL D l (inn D a)).1 := reval_l0 h l a hl l.length 0 (by omega)
end
section
variable {D : FD} {P M : Int} {Mod : List Int} {w0 w w1 : World} {g : Nat} {γ : GF D}
theorem Fs.eval (h : Fs D P M Mod w0 w g γ) {A : Option Addr} {c : Nat} {l : List Int} (hr : Kd.C (Kd.int .i64) w A l.length l) (hc : l.length ≤ c) (hl : l.length ≤ 1000000) (hne : ∀ ad, A = some ad → 0 < l.length → ad.block ≠ g) (a : Int) :
  Calls Try.prog 82 #[.pointer (some ⟨g, 0, none⟩), .slice A l.length c, .int .i64 a] w fun e w' => e = .returned (.int .i64 (evL D l (inn D a)).1) ∧ Fs D P M Mod w0 w' g γ ∧ KeepBut w w' g none := by
 obtain ⟨k, hk⟩ := (gf_eval h.h h.hg l a hl).rounds
 refine (poly_Eval.calls k g _ _ _ _ _ _ A c l a _ _ _ _ w0 w h.I h.B hr hc hne hk).mono ?_
 rintro e w' ⟨rfl, hI, hB, hk⟩
 exact ⟨rfl, ⟨h.h, h.hg, hI, hB⟩, hk⟩
theorem Fs.pow (h : Fs D P M Mod w0 w g γ) (x : Int) (n : Nat) (hn : n ≤ 1000000) : Calls Try.prog 53 #[.pointer (some ⟨g, 0, none⟩), .int .i64 x, .int .i64 n] w fun e w' => e = .returned (.tuple #[.int .i64 (Alg.pow (inn D x) n).1, .int .i64 0]) ∧ Fs D P M Mod w0 w' g γ ∧ KeepBut w w' g none := by
 obtain ⟨k, hk⟩ := (gf_pow h.h h.hg x n hn).rounds
 refine (field_GF_Pow.calls k g _ _ _ _ _ _ x n _ _ _ _ _ w0 w h.I h.B hk).mono ?_
 rintro e w' ⟨rfl, hI, hB, hk⟩
 exact ⟨rfl, ⟨h.h, h.hg, hI, hB⟩, hk⟩
theorem Fs.dot (h : Fs D P M Mod w0 w g γ) {A1 A2 : Option Addr} {c1 c2 : Nat} {l1 l2 : List Int} {n : Nat} (h1 : l1.length = n) (h2 : l2.length = n) (hn : n ≤ 1000000) (hr1 : Kd.C (Kd.int .i64) w A1 l1.length l1) (hc1 : l1.length ≤ c1) (hne1 : ∀ ad, A1 = some ad → 0 < l1.length → ad.block ≠ g) (hr2 : Kd.C (Kd.int .i64) w A2 l2.length l2) (hc2 : l2.length ≤ c2) (hne2 : ∀ ad, A2 = some ad → 0 < l2.length → ad.block ≠ g) :
  Calls Try.prog 118 #[.pointer (some ⟨g, 0, none⟩), .slice A1 l1.length c1, .slice A2 l2.length c2] w fun e w' => e = .returned (.int .i64 (Alg.sum n (fun t => inn D (rd l1 (t : Int)) * inn D (rd l2 (t : Int)))).1) ∧ Fs D P M Mod w0 w' g γ ∧ KeepBut w w' g none := by
 obtain ⟨k, hk⟩ := (gf_dot h.h h.hg l1 l2 n h1 h2 hn).rounds
 refine (field_GF_Dot.calls k g _ _ _ _ _ _ A1 c1 l1 A2 c2 l2 _ _ _ _ w0 w h.I h.B hr1 hc1 hne1 hr2 hc2 hne2 hk).mono ?_
 rintro e w' ⟨rfl, hI, hB, hk⟩
 exact ⟨rfl, ⟨h.h, h.hg, hI, hB⟩, hk⟩
theorem Fs.canon (h : Fs D P M Mod w0 w g γ) {A : Option Addr} {c : Nat} {l : List Int} (hr : Kd.C (Kd.int .i64) w A l.length l) (hc : l.length ≤ c) (hl : l.length ≤ 1000000) (hne : ∀ ad, A = some ad → 0 < l.length → ad.block ≠ g) (h0 : 0 < l.length) (hlast : rd l ((l.length : Int) - 1) ≠ 0) (hrg : ∀ t : Int, 0 ≤ t → t < l.length → 0 ≤ rd l t ∧ rd l t < D.q) :
  Calls Try.prog 136 #[.pointer (some ⟨g, 0, none⟩), .slice A l.length c] w fun e w' => ∃ v, e = .returned v ∧ Kd.V (Kd.int .i64) 3 w' w.heap.size (fun k => w.heap.size ≤ k) v l ∧ Fs D P M Mod w0 w' g γ ∧ KeepBut w w' g none := by
 obtain ⟨k, hk⟩ := (gf_canon h.h (expL γ) (LG γ) l hl h0 hlast hrg).rounds
 refine (poly_Canon.calls k g _ _ _ _ _ _ A c l _ _ _ _ w0 w h.I h.B hr hc hne hk).mono ?_
 rintro e w' ⟨v, rfl, hv, hI, hB, hk⟩
 exact ⟨v, rfl, hv, ⟨h.h, h.hg, hI, hB⟩, hk⟩
end
section
variable {D : FD} {P M : Int} {Mod : List Int} {w0 w : World} {g : Nat} {γ : GF D}
def Fld1.T : Bool × List (List Nat × List Nat) := (true, [([], []), ([0], [0]), ([1], [1]), ([2], [2]), ([3], [3]), ([], []), ([5], [5]), ([6], [6]), ([7], [7]), ([8], [8]), ([], []), ([], []), ([11], [11]), ([12], [12]), ([13], [13]), ([14], [14]), ([10, 15], [10, 15]), ([4, 9, 16], [4, 9, 16]), ([17, 16, 0, 1, 2, 3, 4, 5, 6, 7, 8, 9, 10, 11, 12, 13, 14, 15, 16, 17], [17])])
def Fld1.B : List Nat := [0, 1, 3, 7, 15, 0, 32, 96, 224, 480, 0, 0, 2048, 6144, 14336, 30720, 64512, 131071, 262143]
theorem Fld1.tab : rtab .any (opsOf Try.f135 1) = Fld1.T := by kernel_rfl
theorem Fld1.bits : waitsOk Fld1.T.2 Fld1.B = true := by kernel_rfl
theorem gField_in (hF : Fs D P M Mod w0 w g γ) (hMl : Mod.length ≤ 8) :
  Calls Try.prog 135 #[.pointer (some ⟨g, 0, none⟩)] w fun e w' => ∃ A n c, e = .returned (.agg #[.int .i64 P, .int .i64 M, .slice A n c]) ∧ Below w.heap.size w w' := by
 have HML := Aside0.mk hMl
 obtain ⟨A2, c2, A4, c4, A5, c5, hb, hg, hr2, hr4, hr5⟩ := hF.I
 have HG := Aside0.mk hb
 have HR2 := Aside0.mk (Kd.C_below hr2 hF.B)
 clear hb hg hr2 hr4 hr5 hF hMl
 go_enter Try.func135, Try.ntmps135
 go_wp2_with (refine bx 2 #[.int .i64 0, .int .i64 0, .slice none 0 0] 36 ?_; intro b2 hb2 w2 hbox hb; have B2 := Aside0.mk hbox; have H2 := Aside0.mk hb; have HL2 := Aside0.mk (show w.heap.size ≤ b2 by rw [hb2]; exact Nat.le_refl _); have HG := Aside0.mk (blk_below HG.out hb); clear hbox hb hb2)
 have HR2 := Aside0.mk (Kd.C_drew (Kd.C_below HR2.out H2.out))
 have HG := Aside0.mk (blk_drew HG.out)
 have B2 := Aside0.mk (blk_drew B2.out)
 have H2 := Aside0.mk (below_drew1 H2.out)
 refine start_ (n := 19) (S := fun w' => w'.cell? ⟨g, 0, none⟩ = some (.int .i64 P) ∧ w'.cell? ⟨g, 1, none⟩ = some (.int .i64 M) ∧ w'.cell? ⟨g, 2, none⟩ = some (.slice A2 Mod.length c2)) (ds := [18]) (bb 19 0) (by kernel_rfl) rfl rfl ⟨bc0 HG.out, bc1 HG.out, bc2 HG.out⟩ (fun hHeld => ?_); refine with_tabW Fld1.tab Fld1.bits (fun HT_ HW_ => ?_)
 generalize w2.drew = w11 at HG HR2 B2 H2 hHeld ⊢
 refine pq HT_ 0 3 (bb 19 1) ?_
 refine pq HT_ 1 4 (bb 19 3) ?_
 refine pq HT_ 2 5 (bb 19 7) ?_
 refine pq HT_ 3 6 (bb 19 15) ?_
 refine tq HT_ HW_ hHeld 4 7 (bb 19 31) ?_
 refine pq HT_ 5 8 (bb 19 63) ?_
 refine pq HT_ 6 9 (bb 19 127) ?_
 refine pq HT_ 7 10 (bb 19 255) ?_
 refine pq HT_ 8 11 (bb 19 511) ?_
 refine tq HT_ HW_ hHeld 9 12 (bb 19 1023) ?_
 refine pq HT_ 11 14 (bb 19 3071) ?_
 refine pq HT_ 12 15 (bb 19 7167) ?_
 refine pq HT_ 13 16 (bb 19 15359) ?_
 refine pq HT_ 14 17 (bb 19 31743) ?_
 refine tq HT_ HW_ hHeld 15 18 (bb 19 64511) ?_
 refine oq HT_ 10 (some 13) (bb 19 65535) (fun K hK => ?_)
 refine Kd.R_lit_step (Kd.int .i64) _ 3 (by rfl) rfl (xs := ([] : List Int)) (inner := []) (ok := fun _ => True) (okp := fun _ => True) ?_ (Reps.none _ _) (fun _ hk => hk) trivial (Below.refl _ w11) (Nat.le_refl _) (by simp) ?_
 ·go_simp
  try rfl
 intro v12 w12 ho hb _ _
 have HG0 := Aside0.mk HG.out
 have B20 := Aside0.mk B2.out
 have H20 := Aside0.mk H2.out
 have HG := Aside0.mk (blk_below HG.out hb)
 have HR2 := Aside0.mk (Kd.C_below HR2.out hb)
 have HO := Aside0.mk ho
 have HSZ := Aside0.mk (below_size hb)
 have HB12 := Aside0.mk hb
 clear ho hb hHeld
 refine hK.out _ _ ⟨bc0 HG.out, bc1 HG.out, bc2 HG.out⟩ (fun hHeld => ?_)
 clear hK K
 refine nq 13 ?_
 refine oq HT_ 16 (some 19) (bb 19 131071) (fun K hK => ?_)
 refine Kd.R_append_rows_step (Kd.int .i64) (w0 := w11) w11.heap.size (by rfl) (.tmp 13) (.tmp 18) 22 3 (.int .i64 0) 8 rfl Try.underlying22 info3 rfl (by decide) (by omega) v12 ([] : List Int) Mod _ _ _ (fun _ => True) (fun _ => False) rfl rfl HO.out HR2.out (fun _ _ h => h) (fun _ hk => hk.elim) (fun _ _ => trivial) HB12.out HSZ.out (by have := HML.out; simp; omega) ?_
 intro v13 w13 ho hb _ _
 obtain ⟨An, cn, rfl⟩ := Kd.R_slice ho
 rw [List.nil_append] at ho ⊢
 have H3 := Aside0.mk (below_step H20.out hb)
 have B2 := Aside0.mk (blk_below B20.out hb)
 obtain ⟨hx0, hx1, hx2, hf0, hf1, hf2⟩ := bq3 B2.out
 have HG3 := Aside0.mk (blk_below HG0.out hb)
 clear ho hb hHeld
 refine hK.out _ _ ⟨bc0 HG3.out, bc1 HG3.out, bc2 HG3.out⟩ (fun hHeld => ?_)
 clear hK K
 refine nq 19 ?_
 refine pq HT_ 17 20 (bb 19 262143) ?_
 refine lq HT_ 18 none (bb 19 524287) (fun K hK => ?_)
 refine skip_ (w1 := ((w13.setCell ⟨b2, 0, none⟩ (.int .i64 P)).setCell ⟨b2, 1, none⟩ (.int .i64 M)).setCell ⟨b2, 2, none⟩ (.slice An Mod.length cn)) (by rfl) rfl ?_ ?_
 ·go_simp
  try rfl
 refine hK.out _ _ ?_
 clear hK K
 refine dq HT_ ?_
 go_wp2
 refine bodyPost_ret (v := .agg #[.int .i64 P, .int .i64 M, .slice An Mod.length cn]) ?_ rfl ⟨_, _, _, rfl, ?_⟩
 ·exact results_cell_row rfl _ _ b2 36 #[.int .i64 P, .int .i64 M, .slice An Mod.length cn] (0, 0) _ rfl (by simpa using blk_set (blk_set (blk_set B2.out 0 (.int .i64 P)) 1 (.int .i64 M)) 2 (.slice An Mod.length cn)) Try.underlying36 rfl (by kernel_rfl)
 ·exact below_set (below_set (below_set H3.out HL2.out) HL2.out) HL2.out
def Prm2.T : Bool × List (List Nat × List Nat) := (true, [([], []), ([0], [0]), ([], []), ([2], [2]), ([1, 0, 1], [1]), ([3, 4, 0, 1, 2, 3, 4], [3])])
def Prm2.B : List Nat := [0, 1, 0, 4, 3, 31]
theorem Prm2.tab : rtab .any (opsOf Try.f113 2) = Prm2.T := by kernel_rfl
theorem Prm2.bits : waitsOk Prm2.T.2 Prm2.B = true := by kernel_rfl
theorem prime_in (hF : Fs D P M Mod w0 w g γ) (hMl : Mod.length ≤ 8) :
  Calls Try.prog 113 #[.pointer (some ⟨g, 0, none⟩)] w fun e w' => e = .returned (.tuple #[.int .i64 P, .int .i64 M]) ∧ Below w.heap.size w w' := by
 have HF := Aside0.mk hF
 have HML := Aside0.mk hMl
 clear hF hMl
 go_enter Try.func113, Try.ntmps113
 go_wp2_with (first
  | (go_at_call 135; refine (gField_in HF.out HML.out).mono ?_; rintro e w2 ⟨A, n, c, rfl, hb⟩; have H2 := Aside0.mk hb; clear hb)
  | (refine bx 4 #[.int .i64 0, .int .i64 0, .slice none 0 0] 36 ?_; intro b4 hb4 w4 hbox hb; have B4 := Aside0.mk hbox; have H4 := Aside0.mk (below_step H2.out hb); have HL4 := Aside0.mk (show w.heap.size ≤ b4 by rw [hb4]; exact below_size H2.out); clear hbox hb hb4; obtain ⟨hx0, hx1, hx2, hf0, hf1, hf2⟩ := bq3 B4.out))
 have HC := Aside0.mk (show (((w4.setCell ⟨b4, 0, none⟩ (.int .i64 P)).setCell ⟨b4, 1, none⟩ (.int .i64 M)).setCell ⟨b4, 2, none⟩ (.slice A n c)).heap[b4]? = some (.cells #[.int .i64 P, .int .i64 M, .slice A n c] 36 (0, 0)) by simpa using blk_set (blk_set (blk_set B4.out 0 (.int .i64 P)) 1 (.int .i64 M)) 2 (.slice A n c))
 have H5 := Aside0.mk (below_set (below_set (below_set H4.out HL4.out) HL4.out) HL4.out : Below w.heap.size w (((w4.setCell ⟨b4, 0, none⟩ (.int .i64 P)).setCell ⟨b4, 1, none⟩ (.int .i64 M)).setCell ⟨b4, 2, none⟩ (.slice A n c)))
 clear hx0 hx1 hx2 hf0 hf1 hf2 B4 H4
 generalize ((w4.setCell ⟨b4, 0, none⟩ (.int .i64 P)).setCell ⟨b4, 1, none⟩ (.int .i64 M)).setCell ⟨b4, 2, none⟩ (.slice A n c) = w5 at HC H5 ⊢
 have HC := Aside0.mk (blk_drew HC.out)
 have H5 := Aside0.mk (below_drew1 H5.out)
 refine start_ (n := 6) (S := fun w' => w'.cell? ⟨b4, 0, none⟩ = some (.int .i64 P) ∧ w'.cell? ⟨b4, 1, none⟩ = some (.int .i64 M)) (ds := []) (bb 6 0) (by kernel_rfl) rfl rfl ⟨bc0 HC.out, bc1 HC.out⟩ (fun hHeld => ?_); refine with_tabW Prm2.tab Prm2.bits (fun HT_ HW_ => ?_)
 generalize w5.drew = w11 at HC H5 hHeld ⊢
 refine pq HT_ 0 7 (bb 6 1) ?_
 refine tq HT_ HW_ hHeld 1 8 (bb 6 3) ?_
 refine pq HT_ 2 9 (bb 6 7) ?_
 refine tq HT_ HW_ hHeld 3 10 (bb 6 15) ?_
 refine pq HT_ 4 2 (bb 6 31) ?_
 refine pq HT_ 5 3 (bb 6 63) ?_
 refine dq HT_ ?_
 go_wp2
 go_ret2
 exact ⟨rfl, H5.out⟩
theorem isDegree_in (hF : Fs D P M Mod w0 w g γ) (hMl : Mod.length ≤ 8) (d : Int) (hd : 1 ≤ d) (hd8 : d ≤ 8) (hM1 : 1 ≤ M) (hM8 : M ≤ 8) :
  Calls Try.prog 114 #[.pointer (some ⟨g, 0, none⟩), .int .i64 d] w fun e w' => e = .returned (.bool (decide (d ∣ M))) ∧ Below w.heap.size w w' := by
 have HF := Aside0.mk hF
 have HML := Aside0.mk hMl
 have HV := Aside0.mk (show (decide (d ≤ M) && (Int.tmod M d == 0)) = decide (d ∣ M) by
  by_cases h : d ∣ M
  ·have h1 : d ≤ M := Int.le_of_dvd (by omega) h
   have h2 : Int.tmod M d = 0 := Int.tmod_eq_zero_of_dvd h
   simp [h, h1, h2]
  ·have h2 : Int.tmod M d ≠ 0 := fun e => h (Int.dvd_of_tmod_eq_zero e)
   simp [h, h2])
 have d1 : decide (1 ≤ d) = true := decide_eq_true hd
 have d2 : decide (d ≥ 1) = true := decide_eq_true hd
 have d3 : (d = 0) = False := eq_false (by omega)
 have d4 : (d == 0) = false := by simp; omega
 clear hF hMl hd hd8 hM1 hM8
 rw [← HV.out]
 by_cases hle : d ≤ M
 all_goals
  have HLE := Aside0.mk hle
  have d5 := hle
  clear hle
 ·have d5 : decide (d ≤ M) = true := decide_eq_true HLE.out
  go_enter Try.func114, Try.ntmps114
  go_wp2_with (go_at_call 113; refine (prime_in HF.out HML.out).mono ?_; rintro e w2 ⟨rfl, hb⟩; have H2 := Aside0.mk hb; clear hb)
  go_ret
  exact ⟨by simp [d5], H2.out⟩
 ·have d5 : decide (d ≤ M) = false := decide_eq_false HLE.out
  go_enter Try.func114, Try.ntmps114
  go_wp2_with (go_at_call 113; refine (prime_in HF.out HML.out).mono ?_; rintro e w2 ⟨rfl, hb⟩; have H2 := Aside0.mk hb; clear hb)
  go_ret
  exact ⟨by have hh : decide (d ≤ M) = false := decide_eq_false (by omega); rw [hh]; rfl, H2.out⟩
theorem digits_ev (h : Desc D P M Mod) (a : GF D) : Ev (fun k => field_digitsOf.f k a.1 P M) (digL a) := by
 have hq := h.hq
 have hm := h.hm
 have hm8 := h.hm8
 have h2 := a.2
 obtain ⟨r, hr, hl, hd⟩ := pdigits_eq h.p2 (n := M) (by omega) (by omega) (x := a.1) (by omega) (by omega)
 have e : r = digL a := list_ext_rd (by rw [digL_length]; omega) fun i h0 h1 => by rw [hd i h0 (by omega), digL_div a h0 (by omega), h.hp]
 rw [← e]
 exact hr
def Dig1.T : Bool × List (List Nat × List Nat) := (true, [([], []), ([], []), ([0, 1], [0, 1]), ([], []), ([3], [3]), ([4], [4]), ([5], [5]), ([6], [6]), ([], []), ([8], [8]), ([9], [9]), ([10], [10]), ([11], [11]), ([2, 7, 12, 2], [2, 7, 12]), ([13, 13, 0, 1, 2, 3, 4, 5, 6, 7, 8, 9, 10, 11, 12, 13], [13])])
def Dig1.B : List Nat := [0, 0, 3, 0, 8, 24, 56, 120, 0, 256, 768, 1792, 3840, 8191, 16383]
end
end Go.Proofs.Ytibbdjkboglepaa.MyQBchZeros
namespace Go.Proofs.Ytibbdjkboglepaa.MyQBchZeros
open Go Go.RowKit Go.Proofs.YtibbdjkboglepaaW.PrintWords Go.Proofs.YtibbdjkboglepaaW.PrintLast Go.Proofs.YtibbdjkboglepaaW.PrintMore Go.Proofs.Ytibbdjkboglepaa.My Go.Proofs.Ytibbdjkboglepaa.Alg Go.Proofs.Ytibbdjkboglepaa.MyQBchRoots
section
variable {S D : FD}
theorem p_le_q (D : FD) : D.p ≤ D.q := by
 have h1 := pow_le D.toPr D.hm
 rw [Int.pow_succ, Int.pow_zero, Int.one_mul] at h1
 exact h1
theorem dg_const {x : Int} (h0 : 0 ≤ x) (h : x < D.p) : (inn D x).dg = C (of D.toPr x) := by
 have hq := p_le_q D
 funext i
 show of D.toPr ((inn D x).1 / D.p ^ i) = _
 rw [inn_of h0 (by omega)]
 cases i with
 | zero => simp [C]
 | succ i =>
  have h1 := pow_pos D.toPr i
  have h2 : x / D.p ^ (i + 1) = 0 := Int.ediv_eq_zero_of_lt h0 (Int.lt_of_lt_of_le h (by
   rw [Int.pow_succ, Int.mul_comm]
   have := Int.mul_le_mul_of_nonneg_left (show 1 ≤ D.p ^ i by omega) (show 0 ≤ D.p by have := D.two; omega)
   omega))
  rw [h2]
  rfl
def io (D : FD) {Q : Pr} (a : Zp Q) : GF D := inn D a.1
theorem io_dg (hp : S.p = D.p) (a : Zp S.toPr) : (io D a).dg = C (of D.toPr a.1) := dg_const a.2.1 (by rw [← hp]; exact a.2.2)
theorem C_add (a b : Zp D.toPr) : C (a + b) = padd (C a) (C b) := by
 funext i
 show (if i = 0 then a + b else 0) = (if i = 0 then a else 0) + (if i = 0 then b else 0)
 split
 ·rfl
 ·rw [Alg.zero_add]
theorem C_mul (a b : Zp D.toPr) : C (a * b) = pmul (C a) (C b) := by
 rw [C_pmul]
 funext i
 show (if i = 0 then a * b else 0) = a * (if i = 0 then b else 0)
 split
 ·rfl
 ·rw [Alg.mul_zero]
theorem of_mod (x : Int) : of D.toPr (x % D.p) = of D.toPr x := of_eq.2 (Int.emod_emod_of_dvd _ (Int.dvd_refl _))
theorem of_modS (hp : S.p = D.p) (x : Int) : of D.toPr (x % S.p) = of D.toPr x := by rw [hp]; exact of_mod x
theorem io_add (hp : S.p = D.p) (a b : Zp S.toPr) : io D (a + b) = io D a + io D b := by
 apply GF.ext
 rw [dg_add, io_dg hp, io_dg hp, io_dg hp, ← C_add, of_add]
 exact congrArg C (of_modS hp _)
theorem io_mul (hp : S.p = D.p) (a b : Zp S.toPr) : io D (a * b) = io D a * io D b := by
 apply GF.ext_cong
 refine Cong.trans ?_ (dg_mul _ _)
 rw [io_dg hp, io_dg hp, io_dg hp, ← C_mul, of_mul]
 have e : C (of D.toPr (a * b).1) = C (of D.toPr (a.1 * b.1)) := congrArg C (of_modS hp _)
 rw [e]
 exact Cong.refl _ _
theorem io_zero (hp : S.p = D.p) : io D (0 : Zp S.toPr) = 0 := by
 apply GF.ext
 rw [io_dg hp, dg_zero]
 funext i
 show (if i = 0 then of D.toPr (0 % S.p) else 0) = (0 : Zp D.toPr)
 rw [Int.zero_emod]
 split <;> rfl
theorem one_zp (Q : Pr) : (1 : Zp Q).1 = 1 := Int.emod_eq_of_lt (by omega) (by have := Q.two; omega)
theorem io_one (hp : S.p = D.p) : io D (1 : Zp S.toPr) = 1 := by
 unfold io
 rw [one_zp, inn_one]
def mp (D : FD) {Q : Pr} (f : Pol (Zp Q)) : Pol (GF D) := fun t => io D (f t)
theorem mp_tail (f : Pol (Zp S.toPr)) : Alg.tail (mp D f) = mp D (Alg.tail f) := rfl
theorem mp_conv (hp : S.p = D.p) (f g : Pol (Zp S.toPr)) (n : Nat) : io D (conv f g n) = conv (mp D f) (mp D g) n := by
 induction n generalizing f with
 | zero => exact io_mul hp _ _
 | succ n ih => rw [conv_succ, conv_succ, io_add hp, io_mul hp, ih, mp_tail]; rfl
theorem mp_mul (hp : S.p = D.p) (f g : Pol (Zp S.toPr)) : mp D (pmul f g) = pmul (mp D f) (mp D g) := funext fun n => mp_conv hp f g n
theorem mp_add (hp : S.p = D.p) (f g : Pol (Zp S.toPr)) : mp D (padd f g) = padd (mp D f) (mp D g) := funext fun n => io_add hp _ _
theorem mp_deg (hp : S.p = D.p) {f : Pol (Zp S.toPr)} {n : Nat} (h : DegLt f n) : DegLt (mp D f) n := fun i hi => by
 show io D (f i) = 0
 rw [h i hi, io_zero hp]
theorem mp_monom (hp : S.p = D.p) (k : Nat) : mp D (monom k (1 : Zp S.toPr)) = monom k 1 := by
 funext t
 show io D (if t = k then (1 : Zp S.toPr) else 0) = if t = k then 1 else 0
 split
 ·exact io_one hp
 ·exact io_zero hp
theorem ev_monom {α : Type} [CR α] (n k : Nat) (h : k < n) (x : α) : Alg.ev n (monom k 1) x = Alg.pow x k := by
 rw [Alg.ev_sum, sum_one (k := k) _ h (fun i _ hi => by show (if i = k then (1 : α) else 0) * _ = 0; rw [if_neg hi, Alg.zero_mul])]
 show (if k = k then (1 : α) else 0) * _ = _
 rw [if_pos rfl, Alg.one_mul]
theorem monom_succ {α : Type} [CR α] (n : Nat) : monom (n + 1) (1 : α) = pmul (monom 1 1) (monom n 1) := by
 funext t
 rw [monom_pmul]
 unfold monom
 by_cases h : 1 ≤ t
 ·rw [if_pos h, Alg.one_mul]
  by_cases e : t = n + 1
  ·rw [if_pos e, if_pos (by omega)]
  ·rw [if_neg e, if_neg (by omega)]
 ·rw [if_neg h, if_neg (by omega)]
theorem pow_cong {θ : GF S} (hθ : Cong S.F (monom 1 1) θ.dg) (n : Nat) : Cong S.F (monom n 1) (Alg.pow θ n).dg := by
 induction n with
 | zero =>
  rw [Alg.pow_zero, dg_one]
  exact Cong.refl _ _
 | succ n ih =>
  rw [monom_succ, Alg.pow_succ]
  exact (hθ.mul2 ih (monom_deg n 1) θ.deg).trans (dg_mul _ _)
theorem full_frob {α : Type} [Alg.Fd α] [DecidableEq α] {L : List α} (h : Full L) (x : α) : Alg.pow x L.length = x := by
 have h2 := h.two
 by_cases e : x = 0
 ·rw [e, zero_pow (by omega)]
 ·have := h.fermat e
  obtain ⟨k, hk⟩ : ∃ k, L.length = k + 1 := ⟨L.length - 1, by omega⟩
  rw [hk, Nat.add_sub_cancel] at this
  rw [hk, Alg.pow_succ, this, Alg.mul_one]
theorem full_frobs {α : Type} [Alg.Fd α] [DecidableEq α] {L : List α} (h : Full L) (x : α) (k : Nat) : Alg.pow x (L.length ^ k) = x := by
 induction k with
 | zero => exact Alg.pow_one x
 | succ k ih => rw [Nat.pow_succ, Alg.pow_mul, ih, full_frob h]
theorem root_ex (hp : S.p = D.p) (hm : S.m ∣ D.m) : ∃ x : GF D, Alg.ev (S.m + 1) (mp D S.F) x = 0 := by
 obtain ⟨k, hk⟩ := hm
 obtain ⟨r, hr, hd⟩ := Cong.exists S.monic (monom_deg 1 (1 : Zp S.toPr))
 have hθ : Cong S.F (monom 1 1) (gval S r).dg := by rw [dg_gval hd]; exact hr
 have hQ : (elems D).length = (elems S).length ^ k := by
  have h1 := elems_length D
  have h2 := elems_length S
  have h3 : D.q = S.q ^ k := by
   show D.p ^ D.m = (S.p ^ S.m) ^ k
   rw [hk, hp, Int.pow_mul]
  rw [← h1, ← h2] at h3
  exact_mod_cast h3
 have hc := (pow_cong hθ (elems D).length)
 rw [hQ, full_frobs (elems_full S), ← hQ] at hc
 obtain ⟨h, n, hh, he⟩ := hc.trans hθ.symm
 generalize hL : (elems D).length = L at he hQ
 have h2 : 2 ≤ L := by rw [← hL]; exact (elems_full D).two
 have hmL : S.m ≤ L := by
  have h1 := elems_length D
  have h3 : D.m < D.p.toNat ^ D.m := Nat.lt_pow_self (by have := D.two; omega)
  have h4 : ((D.p.toNat ^ D.m : Nat) : Int) = D.q := by
   show _ = D.p ^ D.m
   rw [Int.natCast_pow, Int.toNat_of_nonneg (by have := D.two; omega)]
  have h5 : S.m ≤ D.m := by
   have := D.hm
   cases k with
   | zero => omega
   | succ k => rw [hk, Nat.mul_succ]; omega
  rw [hL] at h1
  have h6 : D.p.toNat ^ D.m = L := by omega
  omega
 have hG : padd (monom L 1) (pneg (monom 1 1)) = pmul h S.F := by
  rw [he, padd_comm (monom 1 1), padd_assoc, padd_pneg, padd_pzero]
 have hMG : Monic (padd (monom L (1 : Zp S.toPr)) (pneg (monom 1 1))) L := by
  refine ⟨?_, (monom_deg L 1).add (DegLt.neg ((monom_deg 1 1).mono (by omega)))⟩
  show (if L = L then (1 : Zp S.toPr) else 0) + -(if L = 1 then 1 else 0) = 1
  rw [if_pos rfl, if_neg (by omega), Alg.neg_zero, Alg.add_zero]
 have hMh := S.monic.cofactor hMG hh hG hmL
 apply Classical.byContradiction
 intro hno
 have hH : mp D h = pzero := by
  refine roots_bound (L - S.m + 1) (mp D h) (elems D) (mp_deg hp hMh.2) (elems_full D).nodup (fun x _ => ?_) (by have := S.hm; omega)
  have h3 : Alg.ev (L - S.m + (S.m + 1)) (pmul (mp D h) (mp D S.F)) x = _ := ev_mul (mp_deg hp hMh.2) (mp_deg hp S.monic.2) x
  have h4 : padd (mp D (pmul h S.F)) (monom 1 1) = monom L 1 := by
   rw [← mp_monom hp, ← mp_monom hp, ← mp_add hp, padd_comm, ← he]
  have h5 : Alg.ev (L + 1) (padd (mp D (pmul h S.F)) (monom 1 1)) x = Alg.ev (L + 1) (monom L 1) x := congrArg (fun f => Alg.ev (L + 1) f x) h4
  rw [ev_add, ev_monom _ _ (by omega), ev_monom _ _ (by omega), Alg.pow_one, ← hL, full_frob (elems_full D), hL, mp_mul hp, show L + 1 = L - S.m + (S.m + 1) by omega, h3] at h5
  have h6 : Alg.ev (L - S.m + 1) (mp D h) x * Alg.ev (S.m + 1) (mp D S.F) x = 0 := Alg.add_right_cancel (a := x) (by rw [h5, Alg.zero_add])
  rcases Alg.mul_eq_zero h6 with h7 | h7
  ·exact h7
  ·exact absurd ⟨x, h7⟩ hno
 have h8 : mp D h (L - S.m) = 0 := by rw [hH]; rfl
 have h9 : mp D h (L - S.m) = 1 := by
  show io D (h (L - S.m)) = 1
  rw [hMh.1, io_one hp]
 exact Alg.one_ne (h9.symm.trans h8)
variable {P Ms : Int} {Mods : List Int}
theorem evL_mod (hS : Desc S P Ms Mods) (h1 : 1 < Ms) (x : GF D) : evL D (Mods ++ [1]) x = Alg.ev (S.m + 1) (mp D S.F) x := by
 have hl := hS.len h1
 have hm := hS.hm
 have hlen : (Mods ++ [(1 : Int)]).length = S.m + 1 := by simp; omega
 unfold evL
 rw [hlen, Alg.ev_sum, Alg.ev_sum]
 refine Alg.sum_congr fun i hi => ?_
 show inn D (rd (Mods ++ [1]) i) * _ = inn D (S.F i).1 * _
 congr 2
 by_cases e : i < S.m
 ·rw [← hS.low h1 i e]
  simp [rd, List.getD_eq_getElem?_getD, List.getElem?_append_left (show i < Mods.length by omega)]
 ·obtain rfl : i = S.m := by omega
  rw [S.monic.1, one_zp, show S.m = Mods.length by omega]
  simp [rd, List.getD_eq_getElem?_getD]
theorem root_mod (hS : Desc S P Ms Mods) (h1 : 1 < Ms) (hp : S.p = D.p) (hm : S.m ∣ D.m) : ∃ x : GF D, evL D (Mods ++ [1]) x = 0 := by
 obtain ⟨x, hx⟩ := root_ex hp hm
 exact ⟨x, by rw [evL_mod hS h1]; exact hx⟩
end
section
variable {S D : FD}
noncomputable def rootsOf (D : FD) (l : List Int) (pre : List (Fin D.q.toNat)) : List Int := (pre.filter fun x => decide (evL D l (inn D ((x.val : Nat) : Int)) = 0)).map fun x => ((x.val : Nat) : Int)
theorem rootsOf_snoc (l : List Int) (pre : List (Fin D.q.toNat)) (x : Fin D.q.toNat) : rootsOf D l (pre ++ [x]) = if evL D l (inn D ((x.val : Nat) : Int)) = 0 then rootsOf D l pre ++ [((x.val : Nat) : Int)] else rootsOf D l pre := by
 unfold rootsOf
 rw [List.filter_append, List.map_append]
 by_cases h : evL D l (inn D ((x.val : Nat) : Int)) = 0
 ·rw [if_pos h]; simp [h]
 ·rw [if_neg h]; simp [h]
theorem rootsOf_len (l : List Int) (pre : List (Fin D.q.toNat)) : (rootsOf D l pre).length ≤ pre.length := by
 unfold rootsOf
 rw [List.length_map]
 exact List.length_filter_le _ _
def Beta (D : FD) (Ms : Int) (Mods : List Int) (β : GF D) : Prop := (Ms = 1 ∧ β = 0) ∨ (1 < Ms ∧ evL D (Mods ++ [1]) β = 0 ∧ ∀ y : GF D, y.1 < β.1 → evL D (Mods ++ [1]) y ≠ 0)
theorem beta_ex {P Ms : Int} {Mods : List Int} (hS : Desc S P Ms Mods) (hp : S.p = D.p) (hm : S.m ∣ D.m) : ∃ β : GF D, Beta D Ms Mods β := by
 by_cases h1 : 1 < Ms
 ·obtain ⟨x, hx⟩ := root_mod hS h1 hp hm
  obtain ⟨k, hk, ⟨y, hy, hy0⟩, hmin⟩ := least_nat (fun k => ∃ y : GF D, y.1 = (k : Int) ∧ evL D (Mods ++ [1]) y = 0) x.1.toNat ⟨x, by have := x.2; omega, hx⟩
  refine ⟨y, .inr ⟨h1, hy0, fun z hz e => hmin z.1.toNat (by have := z.2; omega) ⟨z, by have := z.2; omega, e⟩⟩⟩
 ·exact ⟨0, .inl ⟨by have := hS.m1; omega, rfl⟩⟩
theorem rootsOf_head {l : List Int} {β : GF D} (h0 : evL D l β = 0) (hmin : ∀ y : GF D, y.1 < β.1 → evL D l y ≠ 0) : ∃ r, rootsOf D l (List.finRange D.q.toNat) = β.1 :: r := by
 have hβ := β.2
 have hi : β.1.toNat < (List.finRange D.q.toNat).length := by rw [List.length_finRange]; omega
 have hsp : List.finRange D.q.toNat = (List.finRange D.q.toNat).take β.1.toNat ++ (List.finRange D.q.toNat)[β.1.toNat]'hi :: (List.finRange D.q.toNat).drop (β.1.toNat + 1) := by
  rw [← List.drop_eq_getElem_cons hi, List.take_append_drop]
 have hg : (List.finRange D.q.toNat)[β.1.toNat]'hi = ⟨β.1.toNat, by omega⟩ := by simp
 have hnil : ((List.finRange D.q.toNat).take β.1.toNat).filter (fun x => decide (evL D l (inn D ((x.val : Nat) : Int)) = 0)) = [] := by
  rw [List.filter_eq_nil_iff]
  intro a ha
  obtain ⟨j, hj, rfl⟩ := List.mem_iff_getElem.1 ha
  rw [List.length_take] at hj
  have e : (((List.finRange D.q.toNat).take β.1.toNat)[j]).val = j := by simp
  rw [decide_eq_true_eq, e]
  exact hmin _ (by rw [inn_of (by omega) (by omega)]; omega)
 unfold rootsOf
 rw [hsp, List.filter_append, hnil, List.nil_append, hg, List.filter_cons_of_pos (by rw [decide_eq_true_eq, show ((β.1.toNat : Nat) : Int) = β.1 by omega, inn_self]; exact h0), List.map_cons, show ((β.1.toNat : Nat) : Int) = β.1 by omega]
 exact ⟨_, rfl⟩
noncomputable def pows (β : GF D) (n : Nat) : List Int := (List.range n).map fun t : Nat => (Alg.pow β t).1
theorem pows_len (β : GF D) (n : Nat) : (pows β n).length = n := by simp [pows]
theorem pows_succ (β : GF D) (n : Nat) : pows β (n + 1) = pows β n ++ [(Alg.pow β n).1] := by simp [pows, List.range_succ]
theorem pows_rd (β : GF D) {n t : Nat} (h : t < n) : rd (pows β n) (t : Int) = (Alg.pow β t).1 := by
 have := rd_map_range (n := n) (f := fun t : Nat => (Alg.pow β t).1) (i := (t : Int)) (by omega) (by omega)
 rw [Int.toNat_natCast] at this
 exact this
noncomputable def embV (S D : FD) (β : GF D) (x : Int) : GF D := Alg.sum S.m (fun t => inn D (rd (digL (inn S x)) (t : Int)) * Alg.pow β t)
noncomputable def embL (S D : FD) (β : GF D) : List Int := (List.range S.q.toNat).map fun x : Nat => (embV S D β (x : Int)).1
theorem embL_len (β : GF D) : (embL S D β).length = S.q.toNat := by simp [embL]
theorem embL_rd (β : GF D) {x : Int} (h0 : 0 ≤ x) (h : x < S.q) : rd (embL S D β) x = (embV S D β x).1 := by
 have := rd_map_range (n := S.q.toNat) (f := fun x : Nat => (embV S D β (x : Int)).1) (i := x) h0 (by omega)
 rw [show ((x.toNat : Nat) : Int) = x by omega] at this
 exact this
theorem embV_dot (β : GF D) (x : Int) : Alg.sum S.m (fun t => inn D (rd (digL (inn S x)) (t : Int)) * inn D (rd (pows β S.m) (t : Int))) = embV S D β x :=
 Alg.sum_congr fun t ht => by rw [pows_rd β ht, inn_self]
theorem embV_ev (β : GF D) (x : Int) : evL D (digL (inn S x)) β = embV S D β x := by
 rw [evL_sum, digL_length]
 rfl
end
end Go.Proofs.Ytibbdjkboglepaa.MyQBchZeros
namespace Go.Proofs.Ytibbdjkboglepaa.MyQBchZeros
open Go Go.RowKit Go.Shelf Go.Proofs.YtibbdjkboglepaaW.PrintWords Go.Proofs.YtibbdjkboglepaaW.PrintLast Go.Proofs.YtibbdjkboglepaaW.PrintMore Go.Proofs.Ytibbdjkboglepaa.My Go.Proofs.Ytibbdjkboglepaa.Alg Go.Proofs.Ytibbdjkboglepaa.MyQBchRoots Go.Proofs.Ytibbdjkboglepaa.QBchRoots Go.Proofs.Ytibbdjkboglepaa.QBchZeros Go.Proofs.Ytibbdjkboglepaa.QMat
attribute [local go_sem] Oper.semAt_some
section
variable {D : FD} {P M : Int} {Mod : List Int} {w0 w W W1 : World} {g : Nat} {γ : GF D}
theorem app_in {F : Fence} {n : Nat} {ops : Array Oper} {rest : List Oper} {o : Oper} {a : Act} {Q : Exit → Act → World → Prop} {W : World} {base : Nat} (hgd : o.guard = none) (s x : Operand) (ho : o.op = .call { callee := .builtin .append, args := #[s, x], argTypes := #[22, 22] }) (v : Value) (xs : List Int) (p : Int) {ok : Nat → Prop} (hs : a.eval s = v) (hx : a.eval x = .slice (some ⟨W.heap.size, 0, none⟩) 1 1) (hfresh : ∀ k, W.heap.size ≤ k → ok k) (HO : Kd.R (Kd.int .i64) 3 W base ok v xs) (hbase : base ≤ W.heap.size) (hl : xs.length ≤ 1000000)
  (h : ∀ v1 w1, Kd.R (Kd.int .i64) 3 w1 base ok v1 (xs ++ [p]) → W.grownBy w1 v.ownBlock → wpListIn F n Try.prog ops Q rest (a.put o.dst v1) w1) : wpListIn F n Try.prog ops Q (o :: rest) a (W.alloc (.cells #[.int .i64 p] 3)) := by
 obtain ⟨h0, inner, hown, hr⟩ := HO
 obtain ⟨i0, hi, hzz⟩ := Option.map_eq_some_iff.1 info3
 simp only [Prod.mk.injEq] at hzz
 obtain ⟨hz0, hz1, hz2⟩ := hzz
 refine wpListIn_append_own_at (W.alloc (.cells #[.int .i64 p] 3)) hgd s x 22 ho base 3 i0 _ 1 8 Try.underlying22 hi hz0 hz1 hz2 rfl (by omega) v xs.length inner hs (hown.alloc _) ⟨W.heap.size, 0, none⟩ 1 1 [.int .i64 p] hx rfl
  (by simpa using World.news_of_block (cs := #[.int .i64 p]) (t := 3) (fr := (0, 0)) (heap_alloc_new W (.cells #[.int .i64 p] 3))) (by simp [Value.oneCell']) (by simp only [maxLen]; omega) (by omega) (by simp; omega) ?_
 intro v1 w1 hown1 hg _ hat
 have hg2 := World.grownBy.trans (World.grownBy_alloc W _ _) hg
 refine h v1 w1 (Kd.R_appended (okp := fun _ => False) h0 hr (show Kd.M (Kd.int .i64) W base (fun _ => False) p [.int .i64 p] from rfl) (fun _ hk => hk.elim) hfresh hown1 hg2 ?_) hg2
 rcases hat with hat | hat
 ·exact .inl hat
 ·exact .inr ⟨_, hat, by simp⟩
theorem own3 {W : World} {base : Nat} {ok : Nat → Prop} {v : Value} {xs : List Int} (h : Kd.R (Kd.int .i64) 3 W base ok v xs) : ∀ b, v.ownBlock = some b → ok b ∧ base ≤ b ∧ ∃ cs, W.heap[b]? = some (.cells cs 3 (0, 0)) := fun b e => by
 obtain ⟨h1, h2, h3, q, h4, cs, h5⟩ := (Kd.R_bound h).1 b e
 have hq : q = 3 := by
  rcases List.mem_cons.1 h4 with e | e
  ·exact e
  ·exact absurd e List.not_mem_nil
 subst hq
 exact ⟨h1, h2, cs, h5⟩
structure RtS (D : FD) (P M : Int) (Mod : List Int) (w0 w : World) (g : Nat) (γ : GF D) (b2 b6 b7 N0 : Nat) (Ac : Option Addr) (cc : Nat) (l : List Int) (pre : List (Fin D.q.toNat)) (W : World) : Prop where
 F : Fs D P M Mod w0 W g γ
 K : Kept w W (fun b => b = g)
 h2 : W.heap[b2]? = some (.cells #[.pointer (some ⟨g, 0, none⟩)] 63 (0, 0))
 h6 : W.heap[b6]? = some (.cells #[.slice Ac l.length cc] 22 (0, 0))
 lc : l.length ≤ cc
 out : ∃ v, W.heap[b7]? = some (.cells #[v] 22 (0, 0)) ∧ Kd.R (Kd.int .i64) 3 W w.heap.size (fun k => N0 ≤ k) v (rootsOf D l pre)
 C : Kd.F (Kd.int .i64) W (fun k => (w.heap.size ≤ k ∧ k < N0) ∧ k ≠ b7) Ac l.length l
 n67 : b6 ≠ b7
 sz : N0 ≤ W.heap.size
 gl : g < w.heap.size
 lo : w.heap.size ≤ b7 ∧ b7 < N0
variable {b2 b6 b7 N0 : Nat} {Ac : Option Addr} {cc : Nat} {l : List Int} {pre : List (Fin D.q.toNat)}
theorem RtS.grown (h : RtS D P M Mod w0 w g γ b2 b6 b7 N0 Ac cc l pre W) {row : Option Nat} (hg : W.grownBy W1 row) (hr : ∀ r, row = some r → N0 ≤ r ∧ ∃ o : Obj, W.heap[r]? = some o ∧ o.isCells = false) : RtS D P M Mod w0 w g γ b2 b6 b7 N0 Ac cc l pre W1 := by
 have hr' := fun r e => (hr r e).2
 have hlt := h.F.I.lt
 obtain ⟨v, hv, hR⟩ := h.out
 have hk : Kept w W1 (fun b => b = g) := Kept.of_grown hg h.K (fun k e => .inr (by have := (hr k e).1; have := h.lo; omega))
 have hne : ∀ k, v.ownBlock = some k → some k ≠ row := fun k hk e => by
  obtain ⟨_, _, cells, hc⟩ := own3 hR k hk
  exact ne_row hc hr' e
 refine ⟨⟨h.F.h, h.F.hg, isS92_grown' h.F.I hg hr', h.F.B.grown hg h.F.B.size (fun k e => ?_)⟩, hk, blk_grown h.h2 hg (ne_row h.h2 hr'), blk_grown h.h6 hg (ne_row h.h6 hr'), h.lc, ⟨v, blk_grown hv hg (ne_row hv hr'), ?_⟩, Kd.F_grown h.C hg (fun k hk e => ?_), h.n67, Nat.le_trans h.sz hg.size, h.gl, h.lo⟩
 ·have h1 := (hr k e).1
  have h2 := h.F.I.ge
  have h3 := h.lo
  have h4 := h.gl
  omega
 ·exact Kd.R_mono (Kd.R_grown (Kd.R_mono (Ri_ok (ok' := fun k => N0 ≤ k ∧ some k ≠ row) hR (fun k hk => ⟨hR.1 k hk, hne k hk⟩)) (fun k hk => hk)) hg (fun k hk => hk.2)) (fun k hk => hk.1)
 ·have := (hr k e.symm).1
  have := hk.1.2
  omega
theorem RtS.fs (h : RtS D P M Mod w0 w g γ b2 b6 b7 N0 Ac cc l pre W) (hF : Fs D P M Mod w0 W1 g γ) (hk : KeepBut W W1 g none) : RtS D P M Mod w0 w g γ b2 b6 b7 N0 Ac cc l pre W1 := by
 obtain ⟨v, hv, hR⟩ := h.out
 obtain ⟨cs, hb⟩ := h.F.blk
 exact ⟨hF, h.K.then_ (kept_but hk) (fun k e => .inl e), blk_kept h.h2 (kept_but hk) (blk_ne h.h2 hb (by decide)), blk_kept h.h6 (kept_but hk) (blk_ne h.h6 hb (by decide)), h.lc, ⟨v, blk_kept hv (kept_but hk) (blk_ne hv hb (by decide)), Kd.R_kept hR (kept_but hk) (fun k hk2 e => by have e2 : k = g := e; have := h.gl; have := h.lo; omega)⟩, Kd.F_kept h.C (kept_but hk) (fun k hk2 e => by have e2 : k = g := e; have := hk2.1.1; have := h.gl; omega), h.n67, Nat.le_trans h.sz hk.1, h.gl, h.lo⟩
theorem RtS.skip {x : Fin D.q.toNat} (h : RtS D P M Mod w0 w g γ b2 b6 b7 N0 Ac cc l pre W) (hx : evL D l (inn D ((x.val : Nat) : Int)) ≠ 0) : RtS D P M Mod w0 w g γ b2 b6 b7 N0 Ac cc l (pre ++ [x]) W :=
 ⟨h.F, h.K, h.h2, h.h6, h.lc, by rw [rootsOf_snoc, if_neg hx]; exact h.out, h.C, h.n67, h.sz, h.gl, h.lo⟩
theorem RtS.others (h : RtS D P M Mod w0 w g γ b2 b6 b7 N0 Ac cc l pre W) (hk : KeepBut W W1 g none) : KeepsOthers W W1 := isS92_others h.F.I hk
theorem below0 (h : Fs D P M Mod w0 W g γ) (h1 : Fs D P M Mod w0 W1 g γ) (hs : W.heap.size ≤ W1.heap.size) : Below 0 W W1 :=
 ⟨h1.B.os.trans h.B.os.symm, h1.B.tape.trans h.B.tape.symm, h1.B.output.trans h.B.output.symm, hs, fun k hk => absurd hk (by omega)⟩
theorem RtS.add (h : RtS D P M Mod w0 w g γ b2 b6 b7 N0 Ac cc l pre W) {v v1 : Value} {x : Fin D.q.toNat} (hv : W.heap[b7]? = some (.cells #[v] 22 (0, 0))) (hR : Kd.R (Kd.int .i64) 3 W w.heap.size (fun k => N0 ≤ k) v (rootsOf D l pre)) (hx : evL D l (inn D ((x.val : Nat) : Int)) = 0)
  (hg : W.grownBy W1 v.ownBlock) (ho : Kd.R (Kd.int .i64) 3 W1 w.heap.size (fun k => N0 ≤ k) v1 (rootsOf D l pre ++ [((x.val : Nat) : Int)])) : RtS D P M Mod w0 w g γ b2 b6 b7 N0 Ac cc l (pre ++ [x]) (W1.setCell ⟨b7, 0, none⟩ v1) ∧ KeepsOthers W (W1.setCell ⟨b7, 0, none⟩ v1) := by
 have key : ∀ b, v.ownBlock = some b → N0 ≤ b ∧ (∃ cs, W.heap[b]? = some (.cells cs 3 (0, 0))) := fun b e => ⟨(own3 hR b e).1, (own3 hR b e).2.2⟩
 have hk : Kept W W1 (fun k => v.ownBlock = some k) := Kept.of_grown hg (Kept.refl W _) (fun k e => .inl e)
 have nb : ∀ {b t cs}, W.heap[b]? = some (.cells cs t (0, 0)) → t ≠ 3 → ¬ (v.ownBlock = some b) := fun hb ht e => by
  obtain ⟨_, cs, hc⟩ := key _ e
  exact blk_ne hc hb (Ne.symm ht) rfl
 obtain ⟨cs, hgb⟩ := h.F.blk
 have hlo := h.lo
 have hgl := h.gl
 have hge := h.F.I.ge
 have hv1 := blk_kept hv hk (nb hv (by decide))
 have h21 := blk_kept h.h2 hk (nb h.h2 (by decide))
 have h61 := blk_kept h.h6 hk (nb h.h6 (by decide))
 have hg1 := blk_kept hgb hk (nb hgb (by decide))
 have n2 := blk_ne h21 hv1 (by decide)
 have ng : g ≠ b7 := by omega
 have hF1 : Fs D P M Mod w0 W1 g γ := h.F.kept hk (nb hgb (by decide)) (h.F.B.grown hg h.F.B.size (fun k e => by have := (key k e).1; omega))
 refine ⟨⟨hF1.store (Ne.symm ng) (by omega) v1, (h.K.then_ hk (fun k e => .inr (by have := (key k e).1; omega))).setCell (.inr hlo.1) v1, blk_far h21 n2 v1, ?_, h.lc, ⟨v1, by simpa using blk_set hv1 0 v1, ?_⟩, Kd.F_far (p := ⟨b7, 0, none⟩) (Kd.F_mono (Kd.F_kept (Kd.F_mono h.C (fun k hk => hk)) hk (fun k hk2 e => by have := (key k e).1; have := hk2.1.2; omega)) (fun k hk => hk)) (fun k hk => ?_) v1, h.n67, ?_, h.gl, h.lo⟩, ?_⟩
 ·exact blk_far h61 h.n67 v1
 ·rw [rootsOf_snoc, if_pos hx]
  exact Kd.R_far (p := ⟨b7, 0, none⟩) ho (fun k hk e => by have e2 : k = b7 := e; omega) v1
 ·exact hk.2
 ·have h1 := h.sz
  have h2 := hg.size
  simp [World.setCell]
  omega
 ·exact KeepsOthers.trans ⟨hg.size, fun j o hj ho2 => (hg.block j (blk_lt hj) (fun e => by
   obtain ⟨_, cs', hc⟩ := key j e.symm
   rw [hc] at hj
   cases hj
   simp [Obj.isCells] at ho2)).trans hj⟩ (KeepsOthers.setCell _ _ _)
theorem roots_in (hF : Fs D P M Mod w0 w g γ) {A : Option Addr} {c : Nat} (hr : Kd.C (Kd.int .i64) w A l.length l) (hc : l.length ≤ c) (hl : l.length ≤ 1000000) (hne : ∀ ad, A = some ad → 0 < l.length → ad.block ≠ g) (h0 : 0 < l.length) (hlast : rd l ((l.length : Int) - 1) ≠ 0) (hrg : ∀ t : Int, 0 ≤ t → t < l.length → 0 ≤ rd l t ∧ rd l t < D.q) :
  Calls Try.prog 115 #[.pointer (some ⟨g, 0, none⟩), .slice A l.length c] w fun e w' => ∃ v, e = .returned (.tuple #[v, .int .i64 0]) ∧ Kd.R (Kd.int .i64) 3 w' w.heap.size (fun _ => True) v (rootsOf D l (List.finRange D.q.toNat)) ∧ Fs D P M Mod w0 w' g γ ∧ Kept w w' (fun b => b = g) := by
 have hq2 := D.two_q
 have HQ := Aside0.mk hF.h.hq
 have hu92 := Try.underlying92
 have HGL := Aside0.mk hF.I.lt
 have HF := Aside0.mk hF
 have HR := Aside0.mk hr
 have HC := Aside0.mk (And.intro hc (And.intro hl h0))
 have HNE := Aside0.mk hne
 have HLA := Aside0.mk hlast
 have HRG := Aside0.mk hrg
 have z1 : ((l.length : Int) == 0) = false := beq_eq_false_iff_ne.2 (by omega)
 clear hF hr hc hl hne h0 hlast hrg
 refine (callsIn_wide (n := 6)).1 ?_
 refine callsIn_of_wp_marks Try.func115 rfl trivial ?_ rfl
 refine wpIn_wide.2 ?_
 simp only [Try.ntmps115, List.size_toArray, List.length_cons, List.length_nil, Nat.reduceAdd, Nat.reduceSub, Array.replicate_succ, Array.replicate_zero, List.push_toArray, List.append_toArray, List.nil_append, List.cons_append]
 go_wp2_with (first
  | (refine bx 2 #[.pointer (some ⟨g, 0, none⟩)] 63 ?_; intro b2 hb2 w2 hbox hb; have B2 := Aside0.mk hbox; have H2 := Aside0.mk hb; have HL2 := Aside0.mk (show w.heap.size ≤ b2 by rw [hb2]; exact Nat.le_refl _); have hc2 := bc0 B2.out; clear hbox hb hb2)
  | (go_at_call 136; go_loud (refine ((HF.out.below H2.out).canon (Kd.C_below HR.out H2.out) HC.out.1 HC.out.2.1 HNE.out HC.out.2.2 HLA.out HRG.out).mono ?_); rintro e w3 ⟨v, rfl, hv, hf, hk⟩; obtain ⟨Ac, cc, rfl⟩ := Kd.V_slice hv; have hvv := Kd.V_at hv; have HCC := Aside0.mk hvv.2.1; have HV := Aside0.mk (Kd.F_mono (Kd.F_bound hvv.2.2) (fun k hk => (And.intro (Nat.le_trans (below_size H2.out) hk.1) hk.2 : w.heap.size ≤ k ∧ k < w3.heap.size))); have B2 := Aside0.mk (blk_kept B2.out (kept_but hk) (fun e => by have e2 : b2 = g := e; have := HL2.out; have := HGL.out; omega)); have HK := Aside0.mk ((Kept.of_below H2.out (fun b => b = g)).then_ (kept_but hk) (fun k e => .inl e)); have HF3 := Aside0.mk hf; clear hv hf hk hvv hc2)
  | (refine bx 6 #[.slice none 0 0] 22 ?_; intro b6 hb6 w6 hbox hb; have B6 := Aside0.mk hbox; have H6 := Aside0.mk hb; have HL6 := Aside0.mk (show w3.heap.size ≤ b6 by rw [hb6]; exact Nat.le_refl _); obtain ⟨hx6, hf6⟩ := bq1 B6.out; have B6S := Aside0.mk (show (w6.setCell ⟨b6, 0, none⟩ (.slice Ac l.length cc)).heap[b6]? = some (.cells #[.slice Ac l.length cc] 22 (0, 0)) by simpa using blk_set B6.out 0 (.slice Ac l.length cc)); have hx6s : (w6.setCell ⟨b6, 0, none⟩ (.slice Ac l.length cc)).cell? ⟨b6, 0, none⟩ = some (.slice Ac l.length cc) := bc0 B6S.out; have H6S := Aside0.mk (below_set H6.out HL6.out : Below w3.heap.size w3 (w6.setCell ⟨b6, 0, none⟩ (.slice Ac l.length cc))); clear hbox hb hb6)
  | (refine bx 7 #[.slice none 0 0] 22 ?_; intro b7 hb7 w7 hbox hb; have B7 := Aside0.mk hbox; have H7 := Aside0.mk (below_step H6S.out hb); have HL7 := Aside0.mk (show w3.heap.size ≤ b7 by rw [hb7]; exact below_size H6S.out); have HN7 := Aside0.mk (show b6 ≠ b7 from Nat.ne_of_lt (by rw [hb7]; exact blk_lt B6S.out)); have B6 := Aside0.mk (blk_below B6S.out hb); have B2 := Aside0.mk (blk_below B2.out H7.out); clear hx6 hf6 hx6s; have hc2 := bc0 B2.out; clear hbox hb hb7)
  | (go_at_call 38; refine (callsIn_wide.1 (elements_in Fence.wide 3 trivial rfl _ _)).mono ?_; rintro e w' ⟨rfl, rfl⟩))
 obtain ⟨W0, hW0⟩ : ∃ W0, w7.alloc (.cells #[.pointer (some ⟨g, 0, none⟩)] 63) = W0 := ⟨_, rfl⟩
 have hcBn : W0.cell? ⟨w7.heap.size, 0, none⟩ = some (.pointer (some ⟨g, 0, none⟩)) := by rw [← hW0]; exact (blk_cell (blk_new w7 (.cells #[.pointer (some ⟨g, 0, none⟩)] 63)) 0).trans rfl
 have hsz : W0.heap.size = w7.heap.size + 1 := by rw [← hW0]; simp
 have hb0 : Below w7.heap.size w7 W0 := by rw [← hW0]; exact below_alloc (Below.refl _ _) _
 rw [hW0]
 clear hW0
 have h37 := below_step H7.out hb0
 have hlt7 := blk_lt B7.out
 have hR0 : RtS D P M Mod w0 w g γ b2 b6 b7 W0.heap.size Ac cc l [] W0 :=
  ⟨HF3.out.below h37, HK.out.below h37, blk_below B2.out hb0, blk_below B6.out hb0, HCC.out, ⟨.slice none 0 0, blk_below B7.out hb0, Kd.R_nil _ _ _ _ _⟩, Kd.F_mono (Kd.F_below HV.out h37) (fun k hk => ⟨⟨hk.1, by have := below_size h37; omega⟩, by have := HL7.out; have := hk.2; omega⟩), HN7.out, Nat.le_refl _, HGL.out, ⟨Nat.le_trans HK.out.1 HL7.out, by omega⟩⟩
 have HR0 := Aside0.mk hR0
 have hgq : W0.cell? ⟨g, 3, none⟩ = some (.int .i64 D.q) := by
  obtain ⟨A2, c2, A4, c4, A5, c5, hb, _⟩ := hR0.F.I
  exact bc3 hb
 have hglt := hR0.F.I.lt
 clear hR0 hb0 h37 hc2
 refine wpIn_wide.1 (wpIn_rangeFunc_ownF (n := 6) (F := Fence.wide) rfl (by omega) (gf := 65) (lb := #[.pointer (some ⟨w7.heap.size, 0, none⟩)]) rfl trivial (enters_of Try.func65 (by kernel_rfl) rfl)
  (elements_stops Fence.wide (6 - 1) trivial rfl (by omega) w7.heap.size 0 g D.q (by omega) (by have := HQ.out; omega) W0 (by omega) hglt hcBn hgq) belowK_t (belowK_b (Nat.zero_le _)) (Below.refl _ _) (fun _ => rfl)
  (fun pre W => RtS D P M Mod w0 w g γ b2 b6 b7 W0.heap.size Ac cc l pre W)
  (fun c pre W => False)
  (fun s A B row hs hg hr => hs.grown hg hr)
  (fun c s A B row hs hg hr => hs.elim)
  HR0.out
  (fun x => { tmps := #[.pointer (some ⟨g, 0, none⟩), .slice A l.length c, .pointer (some ⟨b2, 0, none⟩), undef, .slice none 0 0, .int .i64 0, .pointer (some ⟨b6, 0, none⟩), .pointer (some ⟨b7, 0, none⟩), .int .i64 ((x.val : Nat) : Int), .pointer (some ⟨g, 0, none⟩), .slice A l.length c, .slice Ac l.length cc, .slice Ac l.length cc, .int .i64 l.length, .bool false, .pointer (some ⟨g, 0, none⟩), .func (.func 65) #[] #[.pointer (some ⟨w7.heap.size, 0, none⟩)], .int .i64 ((x.val : Nat) : Int), undef, undef, undef, undef, undef, undef, undef, undef, undef, undef], defers := [] }) ?assign ?body ?done ?stop)
 case assign =>
  intro l x W K hK
  gi_wp2
  exact hK
 case body =>
  rintro lp pre x W hI hpre
  have hxl := x.isLt
  have hc2 := bc0 hI.h2
  have hc6 := bc0 hI.h6
  have HI := Aside0.mk hI
  have HCALL := Aside0.mk (hI.F.eval (c := cc) (Kd.F_now hI.C) hI.lc HC.out.2.1 (fun ad e h0 => by
   have := Kd.F_in hI.C e h0 (by decide)
   have := hI.gl
   omega) ((x.val : Nat) : Int))
  have HPL := Aside0.mk hpre
  clear hI hpre
  by_cases hx : evL D l (inn D ((x.val : Nat) : Int)) = 0
  ·have HX := Aside0.mk hx
   have z2 : ((evL D l (inn D ((x.val : Nat) : Int))).1 == 0) = true := by rw [hx]; rfl
   clear hx
   gi_wp2_with (first | (gi_at_builtin; refine app_in rfl (.tmp 23) (.tmp 25) rfl v7 (rootsOf D l pre) ((x.val : Nat) : Int) rfl rfl (fun k hk => Nat.le_trans HI1.out.sz hk) HR7.out (Nat.le_trans HI1.out.lo.1 (Nat.le_of_lt (blk_lt HV7.out))) (Nat.le_trans (rootsOf_len l pre) (by have := HPL.out; have := HQ.out; omega)) ?_; intro v8 w8 ho hg; have HAD := Aside0.mk (HI1.out.add HV7.out HR7.out HX.out hg ho); obtain ⟨A8, c8, rfl⟩ := Kd.R_slice ho; have hv8 := blk_grown HV7.out hg (Kd.R_ne HR7.out HV7.out (by decide)); have hc8 : w8.cell? ⟨b7, 0, none⟩ = some v7 := bc0 hv8; have hf8 := blk_frozen hv8 0; clear ho hg hv8 hc7 hf7) | (refine ⟨trivial, ?_⟩; gi_at_call 82; refine (CallsIn.inRound lp (callsIn_wide.2 HCALL.out)).mono ?_; rintro e W' ⟨rfl, hf, hk⟩; have HI1 := Aside0.mk (HI.out.fs hf hk); have HO1 := Aside0.mk (HI.out.others hk); have HB1 := Aside0.mk (below0 HI.out.F hf hk.1); clear hf hk hc2 hc6; obtain ⟨v7, hv7, hR7⟩ := HI1.out.out; have hc7 : W'.cell? ⟨b7, 0, none⟩ = some v7 := bc0 hv7; have hf7 := blk_frozen hv7 0; have HV7 := Aside0.mk hv7; have HR7 := Aside0.mk hR7; clear hv7 hR7))
   simp only [List.length_append, List.length_cons, List.length_nil, Nat.zero_add] at HAD
   exact ⟨HO1.out.trans HAD.out.2, below0 HI.out.F HAD.out.1.F (Nat.le_trans HO1.out.1 HAD.out.2.1), HAD.out.1⟩
  ·have HX := Aside0.mk hx
   have z2 : ((evL D l (inn D ((x.val : Nat) : Int))).1 == 0) = false := beq_eq_false_iff_ne.2 (fun e => hx (GF.val_zero.1 e))
   clear hx
   gi_wp2_with (refine ⟨trivial, ?_⟩; gi_at_call 82; refine (CallsIn.inRound lp (callsIn_wide.2 HCALL.out)).mono ?_; rintro e W' ⟨rfl, hf, hk⟩; have HI1 := Aside0.mk (HI.out.fs hf hk); have HO1 := Aside0.mk (HI.out.others hk); have HB1 := Aside0.mk (below0 HI.out.F hf hk.1); clear hf hk hc2 hc6)
   exact ⟨HO1.out, HB1.out, HI1.out.skip HX.out⟩
 case done =>
  rintro DD ys W hD rfl hI hK
  obtain ⟨v7, hv7, hR7⟩ := hI.out
  have hc7 : W.cell? ⟨b7, 0, none⟩ = some v7 := bc0 hv7
  obtain ⟨A7, c7, rfl⟩ := Kd.R_slice hR7
  have HI := Aside0.mk hI
  have HV7 := Aside0.mk hv7
  have HKD := Aside0.mk hK
  clear hI hv7 hR7 hK
  try simp only [Exit.then]
  go_wp2
  have hg := grownBy_putObj' W DD (.deferred none)
  have hr : ∀ r, some DD = some r → W0.heap.size ≤ r ∧ ∃ o : Obj, W.heap[r]? = some o ∧ o.isCells = false := fun r e => by cases e; exact ⟨hD, _, HKD.out, rfl⟩
  have hI2 := HI.out.grown hg hr
  obtain ⟨v, hv, hR⟩ := id hI2.out
  have hv2 := blk_grown HV7.out hg (ne_row HV7.out (fun r e => (hr r e).2))
  rw [hv] at hv2
  injection hv2 with hv2
  injection hv2 with hv2
  injection hv2 with hv2
  injection hv2 with hv2
  subst hv2
  refine ⟨by simp, .inl ⟨_, _, rfl, run_takeDeferred HKD.out, ?_⟩⟩
  exact ⟨_, results_tmp2 rfl _ _ _, ⟨_, rfl, Kd.R_mono hR (fun _ _ => trivial), hI2.F, hI2.K⟩⟩
 case stop =>
  rintro DD c pre W hD hpre h hK
  exact h.elim
end
end Go.Proofs.Ytibbdjkboglepaa.MyQBchZeros

import Derived.ArgAppend
import Derived.Below
import Derived.BigQuiet
import Derived.Deep.AppendLies
import Derived.Deep.CutBlock
import Derived.Deep.DeepCutAuto
import Derived.Deep.Draws
import Derived.Deep.LoopGhost
import Derived.Deep.OwnRows
import Derived.Deep.QuietTactic
import Derived.Deep.RegionHeld3
import Derived.KernelRfl
import Derived.Laws.BitsLemmas
import Derived.Laws.BytesArg
import Derived.Laws.IdiomCopy
import Derived.Laws.MakeOwn
import Derived.Laws.OwnMore
import Derived.Laws.Rows
import Derived.Laws.Slices
import Derived.Laws.StructEq
import Derived.Lib.AppendStr
import Derived.Lib.ConvBytes
import Derived.Maps.AppendAt
import Derived.OrdersHeld
import Derived.OwnWalk
import Derived.RowKit
import Derived.RowKit3
import Derived.Tactics
import Derived.Test.YtibbdjkboglepaaProg
import Derived.WalkKit
import Derived.WideLaws
set_option maxHeartbeats 8000000
set_option maxRecDepth 100000
set_option linter.unusedVariables false
set_option linter.unusedSimpArgs false
set_option linter.unusedSectionVars false
namespace Go.Proofs.YtibbdjkboglepaaW.PrintWords
open Go.RowKit
structure Aside0 (p : Prop) : Prop where mk :: (out : p)
structure Drawn0 (w w' : World) : Prop where mk :: (out : ∃ n, w' = w.drewN n)
theorem Drawn0.refl (w : World) : Drawn0 w w := ⟨⟨0, rfl⟩⟩
theorem Drawn0.step {w w' : World} (h : Drawn0 w w') (n : Nat) : Drawn0 w (w'.drewN n) := by
 obtain ⟨m, rfl⟩ := h
 exact ⟨⟨m + n, World.drewN_drewN ..⟩⟩
theorem Drawn0.grown {w w' : World} (h : Drawn0 w w') : Grown w w' := by
 obtain ⟨n, rfl⟩ := h
 induction n with
 | zero => exact Grown.refl _
 | succ n ih => rw [← World.drew_drewN]; exact Grown.drew ih
theorem Drawn0.below {w w' : World} (h : Drawn0 w w') : Below w.heap.size w w' := by
 obtain ⟨n, rfl⟩ := h
 induction n with
 | zero => exact Below.refl _ _
 | succ n ih => rw [← World.drew_drewN]; exact ih.drew
def rd (xs : List Int) (i : Int) : Int := xs.getD i.toNat 0
theorem below_alloc {w W : World} (h : Below w.heap.size w W) (o : Obj) : Below w.heap.size w (W.alloc o) := h.alloc h.size o
theorem below_drew {B : Nat} {w W : World} (h : Below B w W) : Below B w W.drew := ⟨h.os, h.tape, h.output, h.size, h.block⟩
theorem pw_below_drewN {B : Nat} {w W : World} (h : Below B w W) (n : Nat) : Below B w (W.drewN n) := ⟨h.os, h.tape, h.output, h.size, h.block⟩
theorem below_then {B : Nat} {w w1 w2 : World} (h : Below B w w1) (hB : B ≤ w1.heap.size) (k : Below w1.heap.size w1 w2) : Below B w w2 :=
 h.trans ⟨k.os, k.tape, k.output, k.size, fun i hi => k.block i (Nat.lt_of_lt_of_le hi hB)⟩
theorem grown_of_below {w w1 : World} (h : Below w.heap.size w w1) (row : Option Nat) : w.grownBy w1 row := ⟨h.os, h.tape, h.output, h.size, fun i hi _ => h.block i hi⟩
theorem pw_cell_below {w w1 : World} (h : Below w.heap.size w w1) {a : Addr} {v : Value} (hc : w.cell? a = some v) : w1.cell? a = some v := (h.cell (World.block_lt_of_cell? w a hc)).trans hc
theorem add_plain (g j : Nat) : (⟨g, 0, none⟩ : Addr).add j = ⟨g, j, none⟩ := by unfold Addr.add; split <;> simp_all
def ReadsInt (w : World) (k : IntKind) (A : Option Addr) (n : Nat) (xs : List Int) : Prop :=
 xs.length = n ∧ n ≤ 9223372036854775807 ∧ (0 < n → ∃ ad, A = some ad ∧ ∀ j, j < n → w.cell? (ad.add j) = some (.int k (xs.getD j 0)))
theorem ReadsInt.at_ {w : World} {k : IntKind} {A : Option Addr} {n : Nat} {xs : List Int} (h : ReadsInt w k A n xs) (i : Int) (h0 : 0 ≤ i) (h1 : i < n) : ∃ ad, A = some ad ∧ w.cell? (ad.add i.toNat) = some (.int k (rd xs i)) := by
 obtain ⟨ad, e, hc⟩ := h.2.2 (by omega)
 exact ⟨ad, e, hc _ (by omega)⟩
theorem ReadsInt.below {w w1 : World} {k : IntKind} {A : Option Addr} {n : Nat} {xs : List Int} (h : ReadsInt w k A n xs) (hb : Below w.heap.size w w1) : ReadsInt w1 k A n xs :=
 ⟨h.1, h.2.1, fun hn => by
   obtain ⟨ad, e, hc⟩ := h.2.2 hn
   exact ⟨ad, e, fun j hj => pw_cell_below hb (hc j hj)⟩⟩
theorem own_nil (W : World) (base : Nat) (e : TypeId) (size : Nat) : W.ownsRow base e size (.slice none 0 0) 0 [] := ⟨by simp, .inl ⟨rfl, rfl⟩⟩
theorem own_base {w : World} {base : Nat} {e : TypeId} {size n : Nat} {v : Value} {xs : List Value} (h : w.ownsRow base e size v n xs) (k : Nat) (hk : v.ownBlock = some k) : base ≤ k := by
 rcases h.2 with ⟨rfl, _⟩ | ⟨g, cap, cur, rfl, hb, _⟩
 ·simp [Value.ownBlock] at hk
 ·have : g = k := by simpa [Value.ownBlock] using hk
  omega
theorem own_lt {w : World} {base : Nat} {e : TypeId} {size n : Nat} {v : Value} {xs : List Value} (h : w.ownsRow base e size v n xs) (k : Nat) (hk : v.ownBlock = some k) : k < w.heap.size := by
 rcases h.2 with ⟨rfl, _⟩ | ⟨g, cap, cur, rfl, hb, hh, _⟩
 ·simp [Value.ownBlock] at hk
 ·have : g = k := by simpa [Value.ownBlock] using hk
  subst this
  exact (Array.getElem?_eq_some_iff.1 hh).1
theorem pw_own_below {w w1 : World} {base : Nat} {e : TypeId} {size n : Nat} {v : Value} {xs : List Value} (h : w.ownsRow base e size v n xs) (hb : Below w.heap.size w w1) : w1.ownsRow base e size v n xs :=
 h.kept (grown_of_below hb none) (by cases v.ownBlock <;> simp)
theorem ReadsInt.take_ {w : World} {k : IntKind} {A : Option Addr} {n : Nat} {xs : List Int} (h : ReadsInt w k A n xs) (i : Nat) (hi : i ≤ n) : ReadsInt w k A i (xs.take i) := by
 refine ⟨by rw [List.length_take, h.1]; omega, by have := h.2.1; omega, fun hp => ?_⟩
 obtain ⟨ad, e, hc⟩ := h.2.2 (by omega)
 refine ⟨ad, e, fun j hj => ?_⟩
 rw [hc j (by omega)]
 simp [List.getD_eq_getElem?_getD, hj]
def LeO {α : Type} (a b : Option α) : Prop := ∀ r, a = some r → b = some r
theorem LeO.refl {α : Type} (a : Option α) : LeO a a := fun _ h => h
theorem LeO.none {α : Type} (b : Option α) : LeO Option.none b := fun _ h => by cases h
theorem LeO.trans {α : Type} {a b c : Option α} (h : LeO a b) (k : LeO b c) : LeO a c := fun r hr => k r (h r hr)
theorem LeO.bind {α β : Type} {a a' : Option α} {f f' : α → Option β} (h : LeO a a') (k : ∀ x, LeO (f x) (f' x)) : LeO (a.bind f) (a'.bind f') := by
 intro r hr
 obtain ⟨x, hx, hf⟩ := Option.bind_eq_some_iff.1 hr
 exact Option.bind_eq_some_iff.2 ⟨x, h x hx, k x r hf⟩
theorem LeO.map {α β : Type} {a a' : Option α} (f : α → β) (h : LeO a a') : LeO (a.map f) (a'.map f) := by
 intro r hr
 obtain ⟨x, hx, hf⟩ := Option.map_eq_some_iff.1 hr
 exact Option.map_eq_some_iff.2 ⟨x, h x hx, hf⟩
theorem more_rounds {α : Type} {g : Nat → Option α} (h : ∀ k, LeO (g k) (g (k + 1))) (k : Nat) : ∀ j, LeO (g k) (g (k + j))
 | 0 => LeO.refl _
 | j + 1 => (more_rounds h k j).trans (h (k + j))
theorem at_rounds {α : Type} {g : Nat → Option α} (h : ∀ k, LeO (g k) (g (k + 1))) {k k' : Nat} (hk : k ≤ k') {r : α} (hr : g k = some r) : g k' = some r := by
 have := more_rounds h k (k' - k) r hr
 rwa [Nat.add_sub_cancel' hk] at this
def Reps {α : Type} (R : α → List Value → Prop) (size : Nat) (ps : List α) (cs : List Value) : Prop :=
 cs.length = ps.length * size ∧ ∀ j p, ps[j]? = some p → R p ((cs.drop (j * size)).take size)
theorem Reps.none {α : Type} (R : α → List Value → Prop) (size : Nat) : Reps R size [] [] := ⟨by simp, fun j p h => by simp at h⟩
theorem Reps.snoc {α : Type} {R : α → List Value → Prop} {size : Nat} {ps : List α} {cs c : List Value} {p : α} (h : Reps R size ps cs) (hp : R p c) (hc : c.length = size) : Reps R size (ps ++ [p]) (cs ++ c) := by
 refine ⟨by rw [List.length_append, h.1, hc, List.length_append, List.length_singleton, Nat.add_mul, Nat.one_mul], fun j q hq => ?_⟩
 rcases Nat.lt_or_ge j ps.length with hj | hj
 ·rw [List.getElem?_append_left hj] at hq
  have h1 : j * size + size ≤ cs.length := by rw [h.1, ← Nat.succ_mul]; exact Nat.mul_le_mul_right _ hj
  have h2 := h.2 j q hq
  rw [List.drop_append_of_le_length (by omega), List.take_append_of_le_length (by rw [List.length_drop]; omega)]
  exact h2
 ·have hj' : j = ps.length := by
   have := (List.getElem?_eq_some_iff.1 hq).1
   rw [List.length_append, List.length_singleton] at this
   omega
  subst hj'
  have hq' : p = q := by simpa using hq
  subst hq'
  rw [← h.1, List.drop_left, ← hc, List.take_length]
  exact hp
theorem Reps.imp_ {α : Type} {R R' : α → List Value → Prop} {size : Nat} {ps : List α} {cs : List Value} (h : Reps R size ps cs) (hR : ∀ p c, R p c → R' p c) : Reps R' size ps cs := ⟨h.1, fun j p hj => hR _ _ (h.2 j p hj)⟩
def ReadsRow {α : Type} (R : α → List Value → Prop) (size : Nat) (w : World) (A : Option Addr) (n : Nat) (ps : List α) : Prop :=
 ps.length = n ∧ n ≤ 9223372036854775807 ∧ (0 < n → ∃ ad, A = some ad ∧ ∀ j p, ps[j]? = some p → ∃ c, c.length = size ∧ R p c ∧ ∀ i u, c[i]? = some u → w.cell? (ad.add (j * size + i)) = some u)
theorem ReadsRow.get_ {α : Type} {R : α → List Value → Prop} {size : Nat} {w : World} {A : Option Addr} {n : Nat} {ps : List α} (h : ReadsRow R size w A n ps) (d : α) (i : Int) (h0 : 0 ≤ i) (h1 : i < n) :
  ∃ ad c, A = some ad ∧ c.length = size ∧ R (ps.getD i.toNat d) c ∧ ∀ j u, c[j]? = some u → w.cell? (ad.add (i.toNat * size + j)) = some u := by
 obtain ⟨ad, e, hc⟩ := h.2.2 (by omega)
 have hl : i.toNat < ps.length := by have := h.1; omega
 obtain ⟨c, hs, hr, hcell⟩ := hc i.toNat _ (List.getElem?_eq_getElem hl)
 refine ⟨ad, c, e, hs, ?_, hcell⟩
 rw [List.getD_eq_getElem?_getD, List.getElem?_eq_getElem hl]
 exact hr
theorem ReadsRow.imp_ {α : Type} {R R' : α → List Value → Prop} {size : Nat} {w w1 : World} {A : Option Addr} {n : Nat} {ps : List α} (h : ReadsRow R size w A n ps) (hb : Below w.heap.size w w1) (hR : ∀ p c, R p c → R' p c) : ReadsRow R' size w1 A n ps :=
 ⟨h.1, h.2.1, fun hn => by
   obtain ⟨ad, e, hc⟩ := h.2.2 hn
   refine ⟨ad, e, fun j p hj => ?_⟩
   obtain ⟨c, hs, hr, hcell⟩ := hc j p hj
   exact ⟨c, hs, hR _ _ hr, fun i u hu => pw_cell_below hb (hcell i u hu)⟩⟩
theorem own_reads_row {α : Type} {R : α → List Value → Prop} {w : World} {base n size : Nat} {e : TypeId} {v : Value} {ps : List α} {cs : List Value} (h : w.ownsRow base e size v n cs) (hR : Reps R size ps cs) (hn : ps.length = n) :
  ∃ A c, v = .slice A n c ∧ ReadsRow R size w A n ps := by
 rcases Nat.eq_zero_or_pos n with h0 | h0
 ·rcases h.2 with ⟨rfl, rfl⟩ | ⟨g, cap, cur, rfl, _⟩
  ·exact ⟨none, 0, rfl, hn, by omega, fun hp => absurd hp (by omega)⟩
  ·exact ⟨_, cap, rfl, hn, by omega, fun hp => absurd hp (by omega)⟩
 ·obtain ⟨g, cap, rfl, _, _⟩ := h.form h0
  have hm : n ≤ 9223372036854775807 := by
   rcases h.2 with ⟨_, h1⟩ | ⟨g', cap', cur, he, _, _, h1, h2, _⟩
   ·omega
   ·simp only [maxLen] at h2
    omega
  refine ⟨_, cap, rfl, hn, hm, fun _ => ⟨_, rfl, fun j p hj => ⟨(cs.drop (j * size)).take size, ?_, hR.2 j p hj, fun i u hu => ?_⟩⟩⟩
  ·have hjl := (List.getElem?_eq_some_iff.1 hj).1
   have h1 : j * size + size ≤ cs.length := by rw [hR.1, ← Nat.succ_mul]; exact Nat.mul_le_mul_right _ hjl
   rw [List.length_take, List.length_drop]
   omega
  ·refine h.cells (g := g) rfl _ u ?_
   rw [List.getElem?_take] at hu
   split at hu
   ·rw [List.getElem?_drop] at hu
    exact hu
   ·cases hu
section
variable {P : Program} {ops : Array Oper} {rest : List Oper} {o : Oper} {a : Act} {Q : Exit → Act → World → Prop}
theorem print_append_cells {w0 W : World} (base : Nat) (hgd : o.guard = none) (s x : Operand) (t e : TypeId) (z : Value) (size bytes : Nat)
  (ho : o.op = .call { callee := .builtin .append, args := #[s, x], argTypes := #[t, t] })
  (ht : P.underlying t = some (.slice e)) (hinfo : (P.info? e).map (fun i => (i.zero, i.size, i.bytes)) = some (some z, size, bytes)) (hz : z.cells.size = size) (hs0 : 0 < size) (hb0 : 0 < bytes)
  (v : Value) (n : Nat) (xs ys : List Value) (hs : a.eval s = v) (hx : a.eval x = .slice (some ⟨W.heap.size, 0, none⟩) 1 1) (hys : ys.length = size) (h1 : ∀ u ∈ ys, u.oneCell' = true)
  (HO : W.ownsRow base e size v n xs) (HB : Below base w0 W) (hbase : base ≤ W.heap.size) (hl : (n + 1) * bytes ≤ 140737488355328)
  (h : ∀ v1 w1, w1.ownsRow base e size v1 (n + 1) (xs ++ ys) → Below base w0 w1 → W.grownBy w1 v.ownBlock → (v1.ownBlock = v.ownBlock ∨ ∃ b, v1.ownBlock = some b ∧ W.heap.size ≤ b) → wpList P ops Q rest (a.put o.dst v1) w1) :
  wpList P ops Q (o :: rest) a (W.alloc (.cells ys.toArray e)) := by
 obtain ⟨i0, hi, hzz⟩ := Option.map_eq_some_iff.1 hinfo
 simp only [Prod.mk.injEq] at hzz
 obtain ⟨hz0, hz1, hz2⟩ := hzz
 have hlen : n + 1 ≤ 140737488355328 := Nat.le_trans (Nat.le_mul_of_pos_right _ hb0) hl
 refine wpList_append_own_at (W.alloc (.cells ys.toArray e)) hgd s x t ho base e i0 z size bytes ht hi hz0 hz1 hz2 hz hs0 v n xs hs (HO.alloc _) ⟨W.heap.size, 0, none⟩ 1 1 ys hx (by rw [hys]; simp)
  (by simpa using World.news_of_block (cs := ys.toArray) (t := e) (fr := (0, 0)) (heap_alloc_new W (.cells ys.toArray e))) h1 (by simp only [maxLen]; omega) hl (by simp; omega) ?_
 intro v1 w1 hown hg _ hat
 refine h v1 w1 hown ((HB.alloc hbase _).grown hg (by simp; omega) (own_base HO)) (World.grownBy.trans (World.grownBy_alloc W _ _) hg) ?_
 rcases hat with hat | hat
 ·exact .inl hat
 ·exact .inr ⟨_, hat, by simp⟩
end
theorem own_ne {w : World} {base : Nat} {e t : TypeId} {size n g : Nat} {v : Value} {xs : List Value} {cs : Array Value} (h : w.ownsRow base e size v n xs) (hg : w.heap[g]? = some (.cells cs t (0, 0))) (hne : e ≠ t) : some g ≠ v.ownBlock := by
 rcases h.2 with ⟨rfl, _⟩ | ⟨g', cap, cur, rfl, _, hh, _⟩
 ·simp [Value.ownBlock]
 ·intro he
  have : g = g' := by simpa [Value.ownBlock] using he
  subst this
  rw [hg] at hh
  injection hh with hh
  injection hh with _ ht
  exact hne ht.symm
theorem blk_set {w : World} {g : Nat} {t : TypeId} {cs : Array Value} (h : w.heap[g]? = some (.cells cs t (0, 0))) (i : Nat) (u : Value) : (w.setCell ⟨g, i, none⟩ u).heap[g]? = some (.cells (cs.setIfInBounds i u) t (0, 0)) := by
 simp [World.setCell, Array.getElem?_modify, h]
theorem blk_far {w : World} {g : Nat} {t : TypeId} {cs : Array Value} (h : w.heap[g]? = some (.cells cs t (0, 0))) {p : Addr} (hp : g ≠ p.block) (u : Value) : (w.setCell p u).heap[g]? = some (.cells cs t (0, 0)) := (Below.heap_setCell w p u g hp).trans h
theorem blk_lt {w : World} {g : Nat} {o : Obj} (h : w.heap[g]? = some o) : g < w.heap.size := (Array.getElem?_eq_some_iff.1 h).1
theorem blk_cell {w : World} {g : Nat} {t : TypeId} {cs : Array Value} (h : w.heap[g]? = some (.cells cs t (0, 0))) (i : Nat) : w.cell? ⟨g, i, none⟩ = cs[i]? := cell_of_row w g i cs t (0, 0) h
theorem blk_frozen {w : World} {g : Nat} {t : TypeId} {cs : Array Value} (h : w.heap[g]? = some (.cells cs t (0, 0))) (i : Nat) : w.frozen? ⟨g, i, none⟩ = false := by simp [World.frozen?, h]
theorem blk_grown {w w1 : World} {g : Nat} {o : Obj} {row : Option Nat} (h : w.heap[g]? = some o) (hg : w.grownBy w1 row) (hne : some g ≠ row) : w1.heap[g]? = some o := (hg.block g (blk_lt h) hne).trans h
theorem blk_ne {w : World} {g g' : Nat} {t t' : TypeId} {cs cs' : Array Value} (h : w.heap[g]? = some (.cells cs t (0, 0))) (h' : w.heap[g']? = some (.cells cs' t' (0, 0))) (hne : t ≠ t') : g ≠ g' := by
 rintro rfl
 rw [h] at h'
 injection h' with h'
 injection h' with _ ht
 exact hne ht
def KeepBut (w w' : World) (g : Nat) (row : Option Nat) : Prop := w.heap.size ≤ w'.heap.size ∧ ∀ i, i < w.heap.size → i ≠ g → some i ≠ row → w'.heap[i]? = w.heap[i]?
theorem KeepBut.refl (w : World) (g : Nat) (row : Option Nat) : KeepBut w w g row := ⟨Nat.le_refl _, fun _ _ _ _ => rfl⟩
theorem KeepBut.of_grown {w w1 : World} {row : Option Nat} (h : w.grownBy w1 row) (g : Nat) : KeepBut w w1 g row := ⟨h.size, fun i hi _ hr => h.block i hi hr⟩
theorem KeepBut.of_below {w w1 : World} (h : Below w.heap.size w w1) (g : Nat) (row : Option Nat) : KeepBut w w1 g row := ⟨h.size, fun i hi _ _ => h.block i hi⟩
theorem KeepBut.set_ {w w1 : World} {g : Nat} {row : Option Nat} (h : KeepBut w w1 g row) (j : Nat) (u : Value) : KeepBut w (w1.setCell ⟨g, j, none⟩ u) g row :=
 ⟨by simpa [World.setCell] using h.1, fun i hi hg hr => (Below.heap_setCell w1 ⟨g, j, none⟩ u i hg).trans (h.2 i hi hg hr)⟩
theorem KeepBut.trans {w w1 w2 : World} {g : Nat} {row row1 : Option Nat} (h : KeepBut w w1 g row) (k : KeepBut w1 w2 g row1) (hr : row1 = row ∨ ∃ b, row1 = some b ∧ w.heap.size ≤ b) : KeepBut w w2 g row :=
 ⟨Nat.le_trans h.1 k.1, fun i hi hg hn => by
   refine (k.2 i (Nat.lt_of_lt_of_le hi h.1) hg ?_).trans (h.2 i hi hg hn)
   rcases hr with rfl | ⟨b, rfl, hb⟩
   ·exact hn
   ·intro e
    injection e with e
    omega⟩
theorem KeepBut.blk {w w1 : World} {g g' : Nat} {row : Option Nat} {o : Obj} (h : KeepBut w w1 g row) (hb : w.heap[g']? = some o) (hg : g' ≠ g) (hr : some g' ≠ row) : w1.heap[g']? = some o := (h.2 g' (blk_lt hb) hg hr).trans hb
theorem KeepBut.own {w w1 : World} {g : Nat} {row : Option Nat} {base : Nat} {e : TypeId} {size n : Nat} {v : Value} {xs : List Value} (h : KeepBut w w1 g row) (ho : w.ownsRow base e size v n xs) (hg : v.ownBlock ≠ some g) (hr : v.ownBlock = none ∨ v.ownBlock ≠ row) : w1.ownsRow base e size v n xs := by
 obtain ⟨h1, h2⟩ := ho
 refine ⟨h1, ?_⟩
 rcases h2 with h2 | ⟨b, cap, cur, rfl, hb, hh, r⟩
 ·exact .inl h2
 ·refine .inr ⟨b, cap, cur, rfl, hb, h.blk hh ?_ ?_, r⟩
  ·intro e
   exact hg (by rw [← e]; rfl)
  ·rcases hr with hr | hr
   ·simp [Value.ownBlock] at hr
   ·exact hr
def Ev {α : Type} (g : Nat → Option α) (r : α) : Prop := ∃ K, ∀ k, K ≤ k → g k = some r
theorem Ev.of {α : Type} {g : Nat → Option α} {r : α} (hg : ∀ k, LeO (g k) (g (k + 1))) {k : Nat} (h : g k = some r) : Ev g r := ⟨k, fun _ hk => at_rounds hg hk h⟩
theorem Ev.now {α : Type} (r : α) : Ev (fun _ => some r) r := ⟨0, fun _ _ => rfl⟩
theorem Ev.rounds {α : Type} {g : Nat → Option α} {r : α} (h : Ev g r) : ∃ k, g k = some r := by
 obtain ⟨K, h⟩ := h
 exact ⟨K, h K (Nat.le_refl _)⟩
theorem Ev.bind {α β : Type} {g : Nat → Option α} {f : Nat → α → Option β} {a : α} {r : β} (h : Ev g a) (k : Ev (fun n => f n a) r) : Ev (fun n => (g n).bind (f n)) r := by
 obtain ⟨K, h⟩ := h
 obtain ⟨K', k⟩ := k
 refine ⟨max K K', fun n hn => ?_⟩
 have h1 := h n (by omega)
 have h2 := k n (by omega)
 simp only [h1, Option.bind_some]
 exact h2
theorem Ev.step {α : Type} {g f : Nat → Option α} {r : α} (h : ∀ k, g (k + 1) = f k) (k : Ev f r) : Ev g r := by
 obtain ⟨K, k⟩ := k
 refine ⟨K + 1, fun n hn => ?_⟩
 obtain ⟨m, rfl⟩ : ∃ m, n = m + 1 := ⟨n - 1, by omega⟩
 rw [h]
 exact k m (by omega)
theorem Ev.congr {α : Type} {g f : Nat → Option α} {r : α} (h : ∀ k, g k = f k) (k : Ev f r) : Ev g r := by
 obtain ⟨K, k⟩ := k
 exact ⟨K, fun n hn => (h n).trans (k n hn)⟩
section
variable {P : Program} {ops : Array Oper} {o : Oper} {a : Act} {Q : Exit → Act → World → Prop} {K : Act → World → Prop}
theorem step_append_cells {w0 W : World} (base : Nat) (hw : Region.wanted o (yielded ops a.tmps) = true) (s x : Operand) (t e : TypeId) (z : Value) (size bytes : Nat)
  (ho : o.op = .call { callee := .builtin .append, args := #[s, x], argTypes := #[t, t] })
  (ht : P.underlying t = some (.slice e)) (hinfo : (P.info? e).map (fun i => (i.zero, i.size, i.bytes)) = some (some z, size, bytes)) (hz : z.cells.size = size) (hs0 : 0 < size) (hb0 : 0 < bytes)
  (v : Value) (n : Nat) (xs ys : List Value) (hs : a.eval s = v) (hx : a.eval x = .slice (some ⟨W.heap.size, 0, none⟩) 1 1) (hys : ys.length = size) (h1 : ∀ u ∈ ys, u.oneCell' = true)
  (HO : W.ownsRow base e size v n xs) (HB : Below base w0 W) (hbase : base ≤ W.heap.size) (hl : (n + 1) * bytes ≤ 140737488355328)
  (h : ∀ v1 w1, w1.ownsRow base e size v1 (n + 1) (xs ++ ys) → Below base w0 w1 → W.grownBy w1 v.ownBlock → (v1.ownBlock = v.ownBlock ∨ ∃ b, v1.ownBlock = some b ∧ W.heap.size ≤ b) → K (a.put o.dst v1) w1) :
  if Region.wanted o (yielded ops a.tmps) = true then Oper.wp P o a (W.alloc (.cells ys.toArray e)) K Q else K (a.put o.dst undef) (W.alloc (.cells ys.toArray e)) := by
 obtain ⟨i0, hi, hzz⟩ := Option.map_eq_some_iff.1 hinfo
 simp only [Prod.mk.injEq] at hzz
 obtain ⟨hz0, hz1, hz2⟩ := hzz
 have hlen : n + 1 ≤ 140737488355328 := Nat.le_trans (Nat.le_mul_of_pos_right _ hb0) hl
 rw [if_pos hw]
 obtain ⟨v1, w1, hr, hown, hg, _, hat⟩ := run_append_own_at (P := P) (W.alloc (.cells ys.toArray e)) base t o.type e i0 z size bytes ht hi hz0 hz1 hz2 hz hs0 v n xs (HO.alloc _) ⟨W.heap.size, 0, none⟩ 1 1 ys (by rw [hys]; simp)
  (by simpa using World.news_of_block (cs := ys.toArray) (t := e) (fr := (0, 0)) (heap_alloc_new W (.cells ys.toArray e))) h1 (by simp only [maxLen]; omega) hl (by simp; omega)
 unfold Oper.wp execOp
 simp only [ho, resolve, invoke, builtin, Sem.run_bind, Sem.run_pure, Result.andThen_ok, List.map_toArray, List.map_cons, List.map_nil, hs, hx, hr]
 refine h v1 w1 hown ((HB.alloc hbase _).grown hg (by simp; omega) (own_base HO)) (World.grownBy.trans (World.grownBy_alloc W _ _) hg) ?_
 rcases hat with hat | hat
 ·exact .inl hat
 ·exact .inr ⟨_, hat, by simp⟩
end
theorem own_weaken {w : World} {base base' : Nat} {e : TypeId} {size n : Nat} {v : Value} {xs : List Value} (h : w.ownsRow base e size v n xs) (hb : base' ≤ base) : w.ownsRow base' e size v n xs := by
 obtain ⟨h1, h2⟩ := h
 refine ⟨h1, ?_⟩
 rcases h2 with h2 | ⟨g, cap, cur, rfl, hg, r⟩
 ·exact .inl h2
 ·exact .inr ⟨g, cap, cur, rfl, Nat.le_trans hb hg, r⟩
section
variable {α : Type} {enc : α → Value} {d : α}
def encs (enc : α → Value) (xs : List α) : List Value := xs.map enc
def rdOf (d : α) (xs : List α) (i : Int) : α := xs.getD i.toNat d
theorem encs_length (xs : List α) : (encs enc xs).length = xs.length := by simp [encs]
theorem encs_append (xs ys : List α) : encs enc (xs ++ ys) = encs enc xs ++ encs enc ys := by simp [encs]
theorem encs_get (xs : List α) (j : Nat) (h : j < xs.length) : (encs enc xs)[j]? = some (enc (xs.getD j d)) := by
 simp [encs, List.getElem?_eq_getElem h, List.getD_eq_getElem?_getD]
def ReadsOf (enc : α → Value) (d : α) (w : World) (A : Option Addr) (n : Nat) (xs : List α) : Prop :=
 xs.length = n ∧ n ≤ 9223372036854775807 ∧ (0 < n → ∃ ad, A = some ad ∧ ∀ j, j < n → w.cell? (ad.add j) = some (enc (xs.getD j d)))
theorem ReadsOf.at_ {w : World} {A : Option Addr} {n : Nat} {xs : List α} (h : ReadsOf enc d w A n xs) (i : Int) (h0 : 0 ≤ i) (h1 : i < n) : ∃ ad, A = some ad ∧ w.cell? (ad.add i.toNat) = some (enc (rdOf d xs i)) := by
 obtain ⟨ad, e, hc⟩ := h.2.2 (by omega)
 exact ⟨ad, e, hc _ (by omega)⟩
theorem ReadsOf.below {w w1 : World} {A : Option Addr} {n : Nat} {xs : List α} (h : ReadsOf enc d w A n xs) (hb : Below w.heap.size w w1) : ReadsOf enc d w1 A n xs :=
 ⟨h.1, h.2.1, fun hn => by
   obtain ⟨ad, e, hc⟩ := h.2.2 hn
   exact ⟨ad, e, fun j hj => pw_cell_below hb (hc j hj)⟩⟩
theorem ReadsOf.take_ {w : World} {A : Option Addr} {n : Nat} {xs : List α} (h : ReadsOf enc d w A n xs) (i : Nat) (hi : i ≤ n) : ReadsOf enc d w A i (xs.take i) := by
 refine ⟨by rw [List.length_take, h.1]; omega, by have := h.2.1; omega, fun hp => ?_⟩
 obtain ⟨ad, e, hc⟩ := h.2.2 (by omega)
 refine ⟨ad, e, fun j hj => ?_⟩
 rw [hc j (by omega)]
 simp [List.getD_eq_getElem?_getD, hj]
theorem own_at_of {W : World} {base g n cap : Nat} {e : TypeId} {xs : List α} (h : W.ownsRow base e 1 (.slice (some ⟨g, 0, none⟩) n cap) n (encs enc xs)) (i : Int) (h0 : 0 ≤ i) (h1 : i < n) :
  W.cell? ⟨g, i.toNat, none⟩ = some (enc (rdOf d xs i)) ∧ W.frozen? ⟨g, i.toNat, none⟩ = false := by
 have hl : xs.length = n := by have := h.1; simp [encs] at this; exact this
 constructor
 ·have hc := h.cells (g := g) rfl i.toNat _ (encs_get (d := d) xs i.toNat (by omega))
  rwa [add_plain] at hc
 ·rcases h.2 with ⟨h', _⟩ | ⟨g', cap', cur, h', _, hh, _⟩
  ·cases h'
  ·have : g = g' := by injection h' with h'; injection h' with h'; injection h' with h'
   subst this
   simp [World.frozen?, hh]
theorem own_store_of {W : World} {base g n cap : Nat} {e : TypeId} {xs : List α} (h : W.ownsRow base e 1 (.slice (some ⟨g, 0, none⟩) n cap) n (encs enc xs)) (i : Int) (x : α) :
  (W.setCell ⟨g, i.toNat, none⟩ (enc x)).ownsRow base e 1 (.slice (some ⟨g, 0, none⟩) n cap) n (encs enc (xs.set i.toNat x)) ∧ W.grownBy (W.setCell ⟨g, i.toNat, none⟩ (enc x)) (some g) := by
 have hs := h.stored i.toNat (enc x)
 have he : (encs enc xs).set i.toNat (enc x) = encs enc (xs.set i.toNat x) := by simp [encs, List.map_set]
 rwa [he] at hs
end
def NeRow (v v' : Value) : Prop := ∀ k, v.ownBlock = some k → v'.ownBlock ≠ some k
theorem ne_below {W w1 : World} {v1 v' : Value} {base n size n1 size1 : Nat} {e e1 : TypeId} {xs xs1 : List Value} (h1 : w1.ownsRow W.heap.size e1 size1 v1 n1 xs1) (ho : W.ownsRow base e size v' n xs) : NeRow v1 v' := by
 intro k hk hk'
 have h2 := own_base h1 k hk
 have h3 := own_lt ho k hk'
 omega
theorem blk_alloc {w : World} {g : Nat} {o : Obj} (h : w.heap[g]? = some o) (o' : Obj) : (w.alloc o').heap[g]? = some o := (Below.heap_alloc w o' g (blk_lt h)).trans h
theorem blk_drew {w : World} {g : Nat} {o : Obj} (h : w.heap[g]? = some o) : w.drew.heap[g]? = some o := h
theorem blk_drewN {w : World} {g : Nat} {o : Obj} (h : w.heap[g]? = some o) (n : Nat) : (w.drewN n).heap[g]? = some o := h
theorem blk_below {w w1 : World} {g : Nat} {o : Obj} (h : w.heap[g]? = some o) (hb : Below w.heap.size w w1) : w1.heap[g]? = some o := (hb.block g (blk_lt h)).trans h
theorem blk_new (w : World) (o : Obj) : (w.alloc o).heap[w.heap.size]? = some o := heap_alloc_new w o
theorem own_le {w : World} {base n m c size : Nat} {e : TypeId} {A : Option Addr} {xs : List Value} (h : w.ownsRow base e size (.slice A m c) n xs) : m ≤ c := by
 rcases h.2 with ⟨he, _⟩ | ⟨g, cap, cur, he, _, _, hnc, _⟩
 ·injection he with _ h2 h3
  omega
 ·injection he with _ h2 h3
  omega
def OwnRow {α : Type} (R : α → List Value → Prop) (e : TypeId) (size : Nat) (w : World) (base : Nat) (v : Value) (ps : List α) : Prop :=
 ∃ inner, w.ownsRow base e size v ps.length inner ∧ Reps R size ps inner
section
variable {α : Type} {R R' : α → List Value → Prop} {e : TypeId} {size : Nat} {w w1 : World} {base : Nat} {v : Value} {ps : List α}
theorem OwnRow.none_ (R : α → List Value → Prop) (e : TypeId) (size : Nat) (w : World) (base : Nat) : OwnRow R e size w base (.slice none 0 0) [] := ⟨[], own_nil _ _ _ _, Reps.none _ _⟩
theorem OwnRow.imp_ (h : OwnRow R e size w base v ps) (hR : ∀ p c, R p c → R' p c) : OwnRow R' e size w base v ps := by
 obtain ⟨inner, ho, hr⟩ := h
 exact ⟨inner, ho, hr.imp_ hR⟩
theorem OwnRow.below (h : OwnRow R e size w base v ps) (hb : Below w.heap.size w w1) : OwnRow R e size w1 base v ps := by
 obtain ⟨inner, ho, hr⟩ := h
 exact ⟨inner, pw_own_below ho hb, hr⟩
theorem OwnRow.reads (h : OwnRow R e size w base v ps) : ∃ A c, v = .slice A ps.length c ∧ ps.length ≤ c ∧ ReadsRow R size w A ps.length ps := by
 obtain ⟨inner, ho, hr⟩ := h
 obtain ⟨A, c, rfl, hrow⟩ := own_reads_row ho hr rfl
 exact ⟨A, c, rfl, own_le ho, hrow⟩
theorem OwnRow.ne_block (h : OwnRow R e size w base v ps) {g : Nat} {t : TypeId} {cells : Array Value} (hb : w.heap[g]? = some (.cells cells t (0, 0))) (ht : e ≠ t) : some g ≠ v.ownBlock := by
 obtain ⟨inner, ho, hr⟩ := h
 exact own_ne ho hb ht
theorem OwnRow.lit (W : World) (base : Nat) {inner : List Value} (hr : Reps R size ps inner) (hb : base ≤ W.heap.size) (hm : ps.length ≤ 9223372036854775807) :
  OwnRow R e size (W.alloc (.cells inner.toArray e)) base (.slice (some ⟨W.heap.size, 0, none⟩) ps.length ps.length) ps := by
 have h := World.ownsRow_lit (base := base) (e := e) (size := size) W inner.toArray ps.length hb (by simpa [maxLen] using hm) (by simpa using hr.1)
 exact ⟨inner, by simpa using h, hr⟩
end
section
variable {P : Program} {ops : Array Oper} {rest : List Oper} {o : Oper} {a : Act} {Q : Exit → Act → World → Prop} {α : Type} {R : α → List Value → Prop}
theorem OwnRow.append {w0 W : World} (base : Nat) (hgd : o.guard = none) (s x : Operand) (t e : TypeId) (z : Value) (size bytes : Nat)
  (ho : o.op = .call { callee := .builtin .append, args := #[s, x], argTypes := #[t, t] })
  (ht : P.underlying t = some (.slice e)) (hinfo : (P.info? e).map (fun i => (i.zero, i.size, i.bytes)) = some (some z, size, bytes)) (hz : z.cells.size = size) (hs0 : 0 < size) (hb0 : 0 < bytes)
  (v : Value) (ps : List α) (p : α) (cs : List Value) (hs : a.eval s = v) (hx : a.eval x = .slice (some ⟨W.heap.size, 0, none⟩) 1 1) (hp : R p cs) (hcs : cs.length = size) (h1 : ∀ u ∈ cs, u.oneCell' = true)
  (HO : OwnRow R e size W base v ps) (HB : Below base w0 W) (hbase : base ≤ W.heap.size) (hl : (ps.length + 1) * bytes ≤ 140737488355328)
  (h : ∀ v1 w1, OwnRow R e size w1 base v1 (ps ++ [p]) → Below base w0 w1 → W.grownBy w1 v.ownBlock → (v1.ownBlock = v.ownBlock ∨ ∃ b, v1.ownBlock = some b ∧ W.heap.size ≤ b) → wpList P ops Q rest (a.put o.dst v1) w1) :
  wpList P ops Q (o :: rest) a (W.alloc (.cells cs.toArray e)) := by
 obtain ⟨inner, hown, hr⟩ := HO
 refine print_append_cells base hgd s x t e z size bytes ho ht hinfo hz hs0 hb0 v ps.length inner cs hs hx hcs h1 hown HB hbase hl ?_
 intro v1 w1 hown1 hb1 hg1 hat1
 exact h v1 w1 ⟨inner ++ cs, by rw [List.length_append, List.length_singleton]; exact hown1, hr.snoc hp hcs⟩ hb1 hg1 hat1
end
theorem ReadsRow.inner_ {α : Type} {R : α → List Value → Prop} {size : Nat} {w : World} {ad : Addr} {n : Nat} {ps : List α} (h : ReadsRow R size w (some ad) n ps) :
  ∃ inner, Reps R size ps inner ∧ ∀ j u, inner[j]? = some u → w.cell? (ad.add j) = some u := by
 have key : ∀ m, m ≤ ps.length → ∃ inner, Reps R size (ps.take m) inner ∧ ∀ j u, inner[j]? = some u → w.cell? (ad.add j) = some u := by
  intro m
  induction m with
  | zero => exact fun _ => ⟨[], Reps.none _ _, fun j u hu => by simp at hu⟩
  | succ m ih =>
   intro hm
   obtain ⟨inner, hr, hc⟩ := ih (by omega)
   obtain ⟨ad', he, hcell⟩ := h.2.2 (by have := h.1; omega)
   injection he with he
   subst he
   obtain ⟨c, hcl, hp, hcc⟩ := hcell m _ (List.getElem?_eq_getElem (show m < ps.length by omega))
   refine ⟨inner ++ c, ?_, fun j u hu => ?_⟩
   ·rw [List.take_succ_eq_append_getElem (show m < ps.length by omega)]
    exact hr.snoc hp hcl
   ·have hil : inner.length = m * size := by rw [hr.1, List.length_take, Nat.min_eq_left (by omega)]
    rcases Nat.lt_or_ge j inner.length with hj | hj
    ·rw [List.getElem?_append_left hj] at hu
     exact hc j u hu
    ·rw [List.getElem?_append_right hj] at hu
     have := hcc (j - inner.length) u hu
     rwa [hil, Nat.add_sub_cancel' (by omega)] at this
 obtain ⟨inner, hr, hc⟩ := key ps.length (Nat.le_refl _)
 rw [List.take_length] at hr
 exact ⟨inner, hr, hc⟩
structure Kd (α : Type) where
 sz : Nat
 E : List Nat
 K : World → α → List Value → Prop
 M : World → Nat → (Nat → Prop) → α → List Value → Prop
 K_len : ∀ {w x cs}, K w x cs → cs.length = sz
 K_one : ∀ {w x cs}, K w x cs → ∀ u ∈ cs, u.oneCell' = true
 K_below : ∀ {w w1 : World} {x cs}, Below w.heap.size w w1 → K w x cs → K w1 x cs
 K_of_M : ∀ {w base ok x cs}, M w base ok x cs → K w x cs
 M_mono : ∀ {w base ok ok' x cs}, (∀ k, ok k → ok' k) → M w base ok x cs → M w base ok' x cs
 M_bound : ∀ {w : World} {base ok x cs}, M w base ok x cs → M w base (fun k => ok k ∧ base ≤ k ∧ k < w.heap.size ∧ ∃ q, q ∈ E ∧ ∃ cells, w.heap[k]? = some (.cells cells q (0, 0))) x cs
 M_move : ∀ {w w1 : World} {base ok x cs}, (∀ k, ok k → w1.heap[k]? = w.heap[k]?) → M w base ok x cs → M w1 base ok x cs
 M_lower : ∀ {w base base' ok x cs}, base' ≤ base → M w base ok x cs → M w base' ok x cs
theorem own_move {w w1 : World} {base : Nat} {e : TypeId} {size n : Nat} {v : Value} {xs : List Value} (h : w.ownsRow base e size v n xs) (hm : ∀ k, v.ownBlock = some k → w1.heap[k]? = w.heap[k]?) : w1.ownsRow base e size v n xs := by
 obtain ⟨h1, h2⟩ := h
 refine ⟨h1, ?_⟩
 rcases h2 with h2 | ⟨g, cap, cur, rfl, hg, hh, r⟩
 ·exact .inl h2
 ·exact .inr ⟨g, cap, cur, rfl, hg, (hm g (by simp [Value.ownBlock])).trans hh, r⟩
theorem own_typed {w : World} {base : Nat} {e : TypeId} {size n : Nat} {v : Value} {xs : List Value} (h : w.ownsRow base e size v n xs) (k : Nat) (hk : v.ownBlock = some k) : ∃ cells, w.heap[k]? = some (.cells cells e (0, 0)) := by
 rcases h.2 with ⟨rfl, _⟩ | ⟨g, cap, cur, rfl, hg, hh, r⟩
 ·simp [Value.ownBlock] at hk
 ·have : g = k := by simpa [Value.ownBlock] using hk
  subst this
  exact ⟨cur, hh⟩
namespace Kd
def C {α : Type} (d : Kd α) (w : World) (A : Option Addr) (n : Nat) (xs : List α) : Prop := ReadsRow (d.K w) d.sz w A n xs
def R {α : Type} (d : Kd α) (e : Nat) (w : World) (base : Nat) (ok : Nat → Prop) (v : Value) (xs : List α) : Prop :=
 (∀ k, v.ownBlock = some k → ok k) ∧ OwnRow (d.M w base (fun k => ok k ∧ some k ≠ v.ownBlock)) e d.sz w base v xs
section
variable {α : Type} {d : Kd α} {e : Nat} {w w1 : World} {base : Nat} {ok ok' : Nat → Prop} {v : Value} {xs : List α}
theorem C_below {A : Option Addr} {n : Nat} (h : d.C w A n xs) (hb : Below w.heap.size w w1) : d.C w1 A n xs := ReadsRow.imp_ h hb (fun _ _ hp => d.K_below hb hp)
theorem R_nil (d : Kd α) (e : Nat) (w : World) (base : Nat) (ok : Nat → Prop) : d.R e w base ok (.slice none 0 0) [] := ⟨fun k hk => by simp [Value.ownBlock] at hk, OwnRow.none_ _ _ _ _ _⟩
theorem R_mono (h : d.R e w base ok v xs) (hok : ∀ k, ok k → ok' k) : d.R e w base ok' v xs := ⟨fun k hk => hok k (h.1 k hk), h.2.imp_ (fun _ _ hp => d.M_mono (fun k hk => ⟨hok k hk.1, hk.2⟩) hp)⟩
theorem R_bound (h : d.R e w base ok v xs) : d.R e w base (fun k => ok k ∧ base ≤ k ∧ k < w.heap.size ∧ ∃ q, q ∈ e :: d.E ∧ ∃ cells, w.heap[k]? = some (.cells cells q (0, 0))) v xs := by
 obtain ⟨h0, inner, ho, hr⟩ := h
 refine ⟨fun k hk => ?_, inner, ho, hr.imp_ (fun _ _ hp => d.M_mono (fun k hk => ?_) (d.M_bound hp))⟩
 ·obtain ⟨cells, hc⟩ := own_typed ho k hk
  exact ⟨h0 k hk, own_base ho k hk, own_lt ho k hk, e, List.mem_cons_self, cells, hc⟩
 ·obtain ⟨⟨h1, h2⟩, h3, h4, q, hq, hc⟩ := hk
  exact ⟨⟨h1, h3, h4, q, List.mem_cons_of_mem _ hq, hc⟩, h2⟩
theorem R_move (h : d.R e w base ok v xs) (hm : ∀ k, ok k → w1.heap[k]? = w.heap[k]?) : d.R e w1 base ok v xs := by
 obtain ⟨h0, inner, ho, hr⟩ := h
 exact ⟨h0, inner, own_move ho (fun k hk => hm k (h0 k hk)), hr.imp_ (fun _ _ hp => d.M_move (fun k hk => hm k hk.1) hp)⟩
theorem R_lower {base' : Nat} (h : d.R e w base ok v xs) (hb : base' ≤ base) : d.R e w base' ok v xs := by
 obtain ⟨h0, inner, ho, hr⟩ := h
 exact ⟨h0, inner, own_weaken ho hb, hr.imp_ (fun _ _ hp => d.M_lower hb hp)⟩
theorem R_step (h : d.R e w base ok v xs) (hm : ∀ k, ok k → k < w.heap.size → w1.heap[k]? = w.heap[k]?) : d.R e w1 base ok v xs :=
 R_mono (R_move (R_bound h) (fun k hk => hm k hk.1 hk.2.2.1)) (fun _ hk => hk.1)
theorem M_step {x : α} {cs : List Value} (h : d.M w base ok x cs) (hm : ∀ k, ok k → k < w.heap.size → w1.heap[k]? = w.heap[k]?) : d.M w1 base ok x cs :=
 d.M_mono (fun _ hk => hk.1) (d.M_move (fun k hk => hm k hk.1 hk.2.2.1) (d.M_bound h))
theorem R_below (h : d.R e w base ok v xs) (hb : Below w.heap.size w w1) : d.R e w1 base ok v xs := R_step h (fun k _ hk => hb.block k hk)
theorem M_below {x : α} {cs : List Value} (h : d.M w base ok x cs) (hb : Below w.heap.size w w1) : d.M w1 base ok x cs := M_step h (fun k _ hk => hb.block k hk)
theorem R_grown (h : d.R e w base ok v xs) {row : Option Nat} (hg : w.grownBy w1 row) (hok : ∀ k, ok k → some k ≠ row) : d.R e w1 base ok v xs := R_step h (fun k ho hk => hg.block k hk (hok k ho))
theorem R_far (h : d.R e w base ok v xs) {p : Addr} (hok : ∀ k, ok k → k ≠ p.block) (u : Value) : d.R e (w.setCell p u) base ok v xs := R_step h (fun k ho _ => Below.heap_setCell w p u k (hok k ho))
theorem R_keep (h : d.R e w base ok v xs) {g : Nat} (hk : KeepBut w w1 g none) (hok : ∀ k, ok k → k ≠ g) : d.R e w1 base ok v xs := R_step h (fun k ho hlt => hk.2 k hlt (hok k ho) (by simp))
theorem R_types (h : d.R e w base ok v xs) {g t : Nat} {cells : Array Value} (hb : w.heap[g]? = some (.cells cells t (0, 0))) (ht : ∀ q, q ∈ e :: d.E → q ≠ t) : d.R e w base (fun k => ok k ∧ k ≠ g) v xs :=
 R_mono (R_bound h) (fun k hk => ⟨hk.1, by
  obtain ⟨_, _, _, q, hq, cells', hc⟩ := hk
  rintro rfl
  rw [hc] at hb
  injection hb with hb
  injection hb with _ hb
  exact ht q hq hb⟩)
theorem R_reads (h : d.R e w base ok v xs) : ∃ A c, v = .slice A xs.length c ∧ xs.length ≤ c ∧ d.C w A xs.length xs := by
 obtain ⟨A, c, he, hl, hr⟩ := OwnRow.reads h.2
 exact ⟨A, c, he, hl, hr.imp_ (Below.refl _ _) (fun _ _ hp => d.K_of_M hp)⟩
theorem R_slice (h : d.R e w base ok v xs) : ∃ A c, v = .slice A xs.length c := by
 obtain ⟨A, c, he, _⟩ := R_reads h
 exact ⟨A, c, he⟩
theorem R_own (h : d.R e w base ok v xs) : ∃ inner, w.ownsRow base e d.sz v xs.length inner := by
 obtain ⟨_, inner, ho, _⟩ := h
 exact ⟨inner, ho⟩
theorem R_ne (h : d.R e w base ok v xs) {g t : Nat} {cells : Array Value} (hb : w.heap[g]? = some (.cells cells t (0, 0))) (ht : e ≠ t) : some g ≠ v.ownBlock := OwnRow.ne_block h.2 hb ht
end
def scalar {α : Type} (enc : α → Value) (h1 : ∀ x, (enc x).oneCell' = true) : Kd α where
 sz := 1
 E := []
 K := fun _ x cs => cs = [enc x]
 M := fun _ _ _ x cs => cs = [enc x]
 K_len := fun h => by rw [h]; rfl
 K_one := fun h u hu => by
  rw [h] at hu
  rw [List.mem_singleton.1 hu]
  exact h1 _
 K_below := fun _ h => h
 K_of_M := fun h => h
 M_mono := fun _ h => h
 M_bound := fun h => h
 M_move := fun _ h => h
 M_lower := fun _ h => h
def int (k : IntKind) : Kd Int := scalar (Value.int k) (fun _ => rfl)
def bool : Kd Bool := scalar Value.bool (fun _ => rfl)
def slice {α : Type} (e : Nat) (d : Kd α) : Kd (List α) where
 sz := 1
 E := e :: d.E
 K := fun w xs cs => ∃ A c, cs = [.slice A xs.length c] ∧ xs.length ≤ c ∧ d.C w A xs.length xs
 M := fun w base ok xs cs => ∃ v, cs = [v] ∧ d.R e w base ok v xs
 K_len := by
  rintro w x cs ⟨A, c, rfl, _⟩
  rfl
 K_one := by
  rintro w x cs ⟨A, c, rfl, _⟩ u hu
  rw [List.mem_singleton.1 hu]
  rfl
 K_below := by
  rintro w w1 x cs hb ⟨A, c, rfl, hl, hr⟩
  exact ⟨A, c, rfl, hl, C_below hr hb⟩
 K_of_M := by
  rintro w base ok x cs ⟨v, rfl, h⟩
  obtain ⟨A, c, rfl, hl, hr⟩ := R_reads h
  exact ⟨A, c, rfl, hl, hr⟩
 M_mono := by
  rintro w base ok ok' x cs hok ⟨v, rfl, h⟩
  exact ⟨v, rfl, R_mono h hok⟩
 M_bound := by
  rintro w base ok x cs ⟨v, rfl, h⟩
  exact ⟨v, rfl, R_bound h⟩
 M_move := by
  rintro w w1 base ok x cs hm ⟨v, rfl, h⟩
  exact ⟨v, rfl, R_move h hm⟩
 M_lower := by
  rintro w base base' ok x cs hb ⟨v, rfl, h⟩
  exact ⟨v, rfl, R_lower h hb⟩
theorem C_get {α : Type} {d : Kd α} {w : World} {A : Option Addr} {n : Nat} {xs : List α} (h : d.C w A n xs) (z : α) (i : Int) (h0 : 0 ≤ i) (h1 : i < n) :
  ∃ ad c, A = some ad ∧ c.length = d.sz ∧ d.K w (xs.getD i.toNat z) c ∧ ∀ j u, c[j]? = some u → w.cell? (ad.add (i.toNat * d.sz + j)) = some u := ReadsRow.get_ h z i h0 h1
theorem R_appended {α : Type} {d : Kd α} {e base : Nat} {ok okp : Nat → Prop} {W w1 : World} {v v1 : Value} {xs : List α} {p : α} {inner cs : List Value} (h0 : ∀ k, v.ownBlock = some k → ok k) (hr : Reps (d.M W base (fun k => ok k ∧ some k ≠ v.ownBlock)) d.sz xs inner) (hp : d.M W base okp p cs) (hokp : ∀ k, okp k → ok k ∧ some k ≠ v.ownBlock) (hfresh : ∀ k, W.heap.size ≤ k → ok k)
  (hown : w1.ownsRow base e d.sz v1 (xs.length + 1) (inner ++ cs)) (hg : W.grownBy w1 v.ownBlock) (hat : v1.ownBlock = v.ownBlock ∨ ∃ b, v1.ownBlock = some b ∧ W.heap.size ≤ b) : d.R e w1 base ok v1 (xs ++ [p]) := by
 have hne : ∀ k, some k ≠ v.ownBlock → k < W.heap.size → some k ≠ v1.ownBlock := by
  intro k hk hlt
  rcases hat with hat | ⟨b, hb, hle⟩
  ·rw [hat]; exact hk
  ·rw [hb]
   intro he
   injection he with he
   omega
 have step : ∀ {q : α} {c : List Value} {o : Nat → Prop}, d.M W base o q c → (∀ k, o k → ok k ∧ some k ≠ v.ownBlock) → d.M w1 base (fun k => ok k ∧ some k ≠ v1.ownBlock) q c := by
  intro q c o hq ho
  have h1 := d.M_move (w1 := w1) (fun k hk => hg.block k hk.2.2.1 (ho k hk.1).2) (d.M_bound hq)
  exact d.M_mono (fun k hk => ⟨(ho k hk.1).1, hne k (ho k hk.1).2 hk.2.2.1⟩) h1
 refine ⟨fun k hk => ?_, inner ++ cs, by rw [List.length_append, List.length_singleton]; exact hown, ?_⟩
 ·rcases hat with hat | ⟨b, hb, hle⟩
  ·exact h0 k (hat ▸ hk)
  ·rw [hb] at hk
   injection hk with hk
   exact hfresh k (by omega)
 ·exact (hr.imp_ (fun _ _ hq => step hq (fun _ hk => hk))).snoc (step hp hokp) (d.K_len (d.K_of_M hp))
section
variable {P : Program} {ops : Array Oper} {rest : List Oper} {o : Oper} {a : Act} {Q : Exit → Act → World → Prop} {α : Type}
theorem R_append (d : Kd α) {w0 W : World} (base : Nat) (hgd : o.guard = none) (s x : Operand) (t e : TypeId) (z : Value) (bytes : Nat)
  (ho : o.op = .call { callee := .builtin .append, args := #[s, x], argTypes := #[t, t] })
  (ht : P.underlying t = some (.slice e)) (hinfo : (P.info? e).map (fun i => (i.zero, i.size, i.bytes)) = some (some z, d.sz, bytes)) (hz : z.cells.size = d.sz) (hs0 : 0 < d.sz) (hb0 : 0 < bytes)
  (v : Value) (xs : List α) (p : α) (cs : List Value) (ok okp : Nat → Prop) (hs : a.eval s = v) (hx : a.eval x = .slice (some ⟨W.heap.size, 0, none⟩) 1 1) (hp : d.M W base okp p cs) (hokp : ∀ k, okp k → ok k ∧ some k ≠ v.ownBlock) (hfresh : ∀ k, W.heap.size ≤ k → ok k)
  (HO : d.R e W base ok v xs) (HB : Below base w0 W) (hbase : base ≤ W.heap.size) (hl : (xs.length + 1) * bytes ≤ 140737488355328)
  (h : ∀ v1 w1, d.R e w1 base ok v1 (xs ++ [p]) → Below base w0 w1 → W.grownBy w1 v.ownBlock → (v1.ownBlock = v.ownBlock ∨ ∃ b, v1.ownBlock = some b ∧ W.heap.size ≤ b) → wpList P ops Q rest (a.put o.dst v1) w1) :
  wpList P ops Q (o :: rest) a (W.alloc (.cells cs.toArray e)) := by
 obtain ⟨h0, inner, hown, hr⟩ := HO
 refine print_append_cells base hgd s x t e z d.sz bytes ho ht hinfo hz hs0 hb0 v xs.length inner cs hs hx (d.K_len (d.K_of_M hp)) (d.K_one (d.K_of_M hp)) hown HB hbase hl ?_
 intro v1 w1 hown1 hb1 hg1 hat1
 exact h v1 w1 (R_appended h0 hr hp hokp hfresh hown1 hg1 hat1) hb1 hg1 hat1
end
section
variable {P : Program} {ops : Array Oper} {o : Oper} {a : Act} {Q : Exit → Act → World → Prop} {Kc : Act → World → Prop} {α : Type}
theorem R_append_step (d : Kd α) {w0 W : World} (base : Nat) (hw : Region.wanted o (yielded ops a.tmps) = true) (s x : Operand) (t e : TypeId) (z : Value) (bytes : Nat)
  (ho : o.op = .call { callee := .builtin .append, args := #[s, x], argTypes := #[t, t] })
  (ht : P.underlying t = some (.slice e)) (hinfo : (P.info? e).map (fun i => (i.zero, i.size, i.bytes)) = some (some z, d.sz, bytes)) (hz : z.cells.size = d.sz) (hs0 : 0 < d.sz) (hb0 : 0 < bytes)
  (v : Value) (xs : List α) (p : α) (cs : List Value) (ok okp : Nat → Prop) (hs : a.eval s = v) (hx : a.eval x = .slice (some ⟨W.heap.size, 0, none⟩) 1 1) (hp : d.M W base okp p cs) (hokp : ∀ k, okp k → ok k ∧ some k ≠ v.ownBlock) (hfresh : ∀ k, W.heap.size ≤ k → ok k)
  (HO : d.R e W base ok v xs) (HB : Below base w0 W) (hbase : base ≤ W.heap.size) (hl : (xs.length + 1) * bytes ≤ 140737488355328)
  (h : ∀ v1 w1, d.R e w1 base ok v1 (xs ++ [p]) → Below base w0 w1 → W.grownBy w1 v.ownBlock → (v1.ownBlock = v.ownBlock ∨ ∃ b, v1.ownBlock = some b ∧ W.heap.size ≤ b) → Kc (a.put o.dst v1) w1) :
  if Region.wanted o (yielded ops a.tmps) = true then Oper.wp P o a (W.alloc (.cells cs.toArray e)) Kc Q else Kc (a.put o.dst undef) (W.alloc (.cells cs.toArray e)) := by
 obtain ⟨h0, inner, hown, hr⟩ := HO
 refine step_append_cells base hw s x t e z d.sz bytes ho ht hinfo hz hs0 hb0 v xs.length inner cs hs hx (d.K_len (d.K_of_M hp)) (d.K_one (d.K_of_M hp)) hown HB hbase hl ?_
 intro v1 w1 hown1 hb1 hg1 hat1
 exact h v1 w1 (R_appended h0 hr hp hokp hfresh hown1 hg1 hat1) hb1 hg1 hat1
end
theorem reps_scalar {α : Type} {enc : α → Value} (xs : List α) : Reps (fun (x : α) (cs : List Value) => cs = [enc x]) 1 xs (encs enc xs) := by
 refine ⟨by simp [encs], fun j p hj => ?_⟩
 obtain ⟨hl, hp⟩ := List.getElem?_eq_some_iff.1 hj
 have hl' : j < (encs enc xs).length := by rw [encs_length]; exact hl
 rw [Nat.mul_one, List.drop_eq_getElem_cons hl']
 simp [encs, hp]
theorem R_of_own {α : Type} {enc : α → Value} {h1 : ∀ x, (enc x).oneCell' = true} {e : Nat} {w : World} {base : Nat} {ok : Nat → Prop} {v : Value} {xs : List α} (ho : w.ownsRow base e 1 v xs.length (encs enc xs)) (hok : ∀ k, v.ownBlock = some k → ok k) : (scalar enc h1).R e w base ok v xs := ⟨hok, encs enc xs, ho, reps_scalar xs⟩
theorem own_of_R {α : Type} {enc : α → Value} {h1 : ∀ x, (enc x).oneCell' = true} {e : Nat} {w : World} {base : Nat} {ok : Nat → Prop} {v : Value} {xs : List α} (h : (scalar enc h1).R e w base ok v xs) : w.ownsRow base e 1 v xs.length (encs enc xs) := by
 obtain ⟨_, inner, ho, hr⟩ := h
 have : inner = encs enc xs := by
  apply List.ext_getElem?
  intro j
  rcases Nat.lt_or_ge j xs.length with hj | hj
  ·have h2 := hr.2 j _ (List.getElem?_eq_getElem hj)
   have hl : j < inner.length := by have := hr.1; simp [scalar] at this; omega
   have h3 : (inner.drop (j * 1)).take 1 = [enc xs[j]] := h2
   rw [Nat.mul_one, List.drop_eq_getElem_cons hl] at h3
   have h4 : inner[j] = enc xs[j] := by
    have h5 := congrArg List.head? h3
    rw [List.take_succ_cons] at h5
    exact Option.some.inj h5
   rw [List.getElem?_eq_getElem hl, h4]
   simp [encs, List.getElem?_eq_getElem hj]
  ·have h3 : inner.length = xs.length := by have := hr.1; simp [scalar] at this; omega
   rw [List.getElem?_eq_none (by omega), List.getElem?_eq_none (by rw [encs_length]; omega)]
 rw [← this]
 exact ho
theorem C_of_reads {α : Type} {enc : α → Value} {d : α} {h1 : ∀ x, (enc x).oneCell' = true} {w : World} {A : Option Addr} {n : Nat} {xs : List α} (h : ReadsOf enc d w A n xs) : (scalar enc h1).C w A n xs := by
 refine ⟨h.1, h.2.1, fun hn => ?_⟩
 obtain ⟨ad, e, hc⟩ := h.2.2 hn
 refine ⟨ad, e, fun j p hj => ⟨[enc p], rfl, rfl, fun i u hu => ?_⟩⟩
 obtain ⟨hl, hp⟩ := List.getElem?_eq_some_iff.1 hj
 have h2 := hc j (by have := h.1; omega)
 rw [List.getD_eq_getElem?_getD, hj] at h2
 cases i with
 | zero =>
  have : enc p = u := by simpa using hu
  subst this
  simpa [scalar] using h2
 | succ i => simp at hu
theorem reads_of_C {α : Type} {enc : α → Value} {d : α} {h1 : ∀ x, (enc x).oneCell' = true} {w : World} {A : Option Addr} {n : Nat} {xs : List α} (h : (scalar enc h1).C w A n xs) : ReadsOf enc d w A n xs := by
 refine ⟨h.1, h.2.1, fun hn => ?_⟩
 obtain ⟨ad, e, hc⟩ := h.2.2 hn
 refine ⟨ad, e, fun j hj => ?_⟩
 have hl : j < xs.length := by have := h.1; omega
 obtain ⟨c, _, hK, hcell⟩ := hc j _ (List.getElem?_eq_getElem hl)
 have hK' : c = [enc xs[j]] := hK
 subst hK'
 have := hcell 0 _ rfl
 simpa [scalar, List.getD_eq_getElem?_getD, List.getElem?_eq_getElem hl] using this
end Kd
namespace Kd
theorem R_after {α : Type} {d : Kd α} {e base : Nat} {ok : Nat → Prop} {W w1 : World} {u v v1 : Value} {xs : List α} (h : d.R e W base (fun k => ok k ∧ some k ≠ v.ownBlock) u xs) (hg : W.grownBy w1 v.ownBlock) (hat : v1.ownBlock = v.ownBlock ∨ ∃ b, v1.ownBlock = some b ∧ W.heap.size ≤ b) : d.R e w1 base (fun k => ok k ∧ some k ≠ v1.ownBlock) u xs := by
 refine R_mono (R_move (R_bound h) (fun k hk => hg.block k hk.2.2.1 hk.1.2)) (fun k hk => ⟨hk.1.1, ?_⟩)
 rcases hat with hat | ⟨b, hb, hle⟩
 ·rw [hat]; exact hk.1.2
 ·rw [hb]
  intro he
  injection he with he
  have := hk.2.2.1
  omega
theorem M_row {α : Type} {d : Kd α} {e base : Nat} {ok : Nat → Prop} {w : World} {v : Value} {xs : List α} (h : d.R e w base ok v xs) : (slice e d).M w base ok xs [v] := ⟨v, rfl, h⟩
end Kd
namespace Kd
section
variable {α β : Type} {d : Kd α} {d' : Kd β} {e e' : Nat} {w w1 W : World} {base b b' : Nat} {ok ok' okv oku : Nat → Prop} {v u : Value} {xs : List α} {ys : List β}
theorem R_alloc (h : d.R e w base ok v xs) (o : Obj) : d.R e (w.alloc o) base ok v xs := R_below h (below_alloc (Below.refl _ _) o)
theorem R_drew (h : d.R e w base ok v xs) : d.R e w.drew base ok v xs := R_below h (below_drew (Below.refl _ _))
theorem R_drewN (h : d.R e w base ok v xs) (m : Nat) : d.R e (w.drewN m) base ok v xs := R_below h (pw_below_drewN (Below.refl _ _) m)
theorem C_alloc {A : Option Addr} {n : Nat} (h : d.C w A n xs) (o : Obj) : d.C (w.alloc o) A n xs := C_below h (below_alloc (Below.refl _ _) o)
theorem C_drew {A : Option Addr} {n : Nat} (h : d.C w A n xs) : d.C w.drew A n xs := C_below h (below_drew (Below.refl _ _))
theorem C_drewN {A : Option Addr} {n : Nat} (h : d.C w A n xs) (m : Nat) : d.C (w.drewN m) A n xs := C_below h (pw_below_drewN (Below.refl _ _) m)
theorem C_nil (d : Kd α) (w : World) : d.C w none ([] : List α).length [] := ⟨rfl, by simp, fun h => absurd h (Nat.lt_irrefl 0)⟩
theorem R_reads' {A : Option Addr} {n c : Nat} (h : d.R e w base ok (.slice A n c) xs) : n = xs.length ∧ n ≤ c ∧ d.C w A xs.length xs := by
 obtain ⟨A', c', he, hl, hr⟩ := R_reads h
 injection he with h1 h2 h3
 subst h1
 exact ⟨h2, by omega, hr⟩
theorem R_lt (h : d.R e w base ok v xs) : ∀ k, v.ownBlock = some k → k < w.heap.size := by
 obtain ⟨inner, ho⟩ := R_own h
 exact own_lt ho
theorem R_base (h : d.R e w base ok v xs) : ∀ k, v.ownBlock = some k → base ≤ k := by
 obtain ⟨inner, ho⟩ := R_own h
 exact own_base ho
theorem R_form (h : d.R e w base ok v xs) (hp : 0 < xs.length) : ∃ g cap, v = .slice (some ⟨g, 0, none⟩) xs.length cap ∧ base ≤ g ∧ g < w.heap.size ∧ ∃ cells, w.heap[g]? = some (.cells cells e (0, 0)) := by
 obtain ⟨inner, ho⟩ := R_own h
 obtain ⟨g, cap, he, hb, hl⟩ := ho.form hp
 obtain ⟨cells, hc⟩ := own_typed ho g (by rw [he]; simp [Value.ownBlock])
 exact ⟨g, cap, he, hb, hl, cells, hc⟩
theorem R_elder (hu : d'.R e' W b oku u ys) (h : d.R e w1 W.heap.size okv v xs) (hb : Below W.heap.size W w1) : d'.R e' w1 b (fun k => oku k ∧ some k ≠ v.ownBlock) u ys := by
 obtain ⟨inner, ho⟩ := R_own h
 exact R_mono (R_move (R_bound hu) (fun k hk => hb.block k hk.2.2.1)) (fun k hk => ⟨hk.1, fun he => by have := own_base ho k he.symm; have := hk.2.2.1; omega⟩)
end
section
variable {w W : World} {A : Option Addr} {n : Nat}
theorem at_int {k : IntKind} {xs : List Int} (h : (Kd.int k).C w A n xs) (i : Int) (h0 : 0 ≤ i) (h1 : i < n) : ∃ ad, A = some ad ∧ w.cell? (ad.add i.toNat) = some (.int k (rd xs i)) :=
 ReadsOf.at_ (reads_of_C (enc := Value.int k) (d := (0 : Int)) (h1 := fun _ => rfl) h) i h0 h1
theorem at_bool {xs : List Bool} (h : Kd.bool.C w A n xs) (i : Int) (h0 : 0 ≤ i) (h1 : i < n) : ∃ ad, A = some ad ∧ w.cell? (ad.add i.toNat) = some (.bool (rdOf false xs i)) :=
 ReadsOf.at_ (reads_of_C (enc := Value.bool) (d := false) (h1 := fun _ => rfl) h) i h0 h1
variable {α : Type} {enc : α → Value} {h1 : ∀ x, (enc x).oneCell' = true} {e base g cap : Nat} {ok : Nat → Prop} {xs : List α}
theorem R_cell (d : α) (h : (scalar enc h1).R e W base ok (.slice (some ⟨g, 0, none⟩) xs.length cap) xs) (i : Int) (h0 : 0 ≤ i) (hi : i < xs.length) : W.cell? ⟨g, i.toNat, none⟩ = some (enc (rdOf d xs i)) ∧ W.frozen? ⟨g, i.toNat, none⟩ = false := own_at_of (own_of_R h) i h0 hi
theorem R_put (h : (scalar enc h1).R e W base ok (.slice (some ⟨g, 0, none⟩) xs.length cap) xs) (i : Int) (x : α) : (scalar enc h1).R e (W.setCell ⟨g, i.toNat, none⟩ (enc x)) base ok (.slice (some ⟨g, 0, none⟩) xs.length cap) (xs.set i.toNat x) ∧ W.grownBy (W.setCell ⟨g, i.toNat, none⟩ (enc x)) (some g) := by
 obtain ⟨ho, hg⟩ := own_store_of (own_of_R h) i x
 exact ⟨R_of_own (by rw [List.length_set]; exact ho) h.1, hg⟩
end
section
variable {P : Program} {ops : Array Oper} {rest : List Oper} {o : Oper} {a : Act} {Q : Exit → Act → World → Prop}
theorem event_run {W w1 : World} {v : Value} (hgd : o.guard = none) (hrun : (execOp a.eval o).run P W = .ok (.value v) w1) (h : wpList P ops Q rest (a.put o.dst v) w1) : wpList P ops Q (o :: rest) a W := by
 refine wpList_plain hgd fun K hK => ?_
 unfold Oper.wp
 rw [hrun]
 exact hK _ _ h
variable {α : Type}
theorem R_lit (d : Kd α) {w0 W : World} (base e : Nat) (hgd : o.guard = none) {N : Tmp} (_hd : o.dst = some N) {xs : List α} {inner : List Value} {ok okp : Nat → Prop}
  (hrun : (execOp a.eval o).run P W = .ok (.value (.slice (some ⟨W.heap.size, 0, none⟩) xs.length xs.length)) (W.alloc (.cells inner.toArray e)))
  (hrep : Reps (d.M W base okp) d.sz xs inner) (hok : ∀ k, okp k → ok k) (hfresh : ok W.heap.size) (HB : Below base w0 W) (hbase : base ≤ W.heap.size) (hm : xs.length ≤ 9223372036854775807)
  (h : ∀ v1 w1, d.R e w1 base ok v1 xs → Below base w0 w1 → W.grownBy w1 none → (∃ b, v1.ownBlock = some b ∧ W.heap.size ≤ b) → wpList P ops Q rest (a.put o.dst v1) w1) : wpList P ops Q (o :: rest) a W := by
 refine event_run hgd hrun (h _ _ ⟨fun k hk => ?_, inner, ?_, ?_⟩ (HB.alloc hbase _) (World.grownBy_alloc W _ none) ⟨W.heap.size, by simp [Value.ownBlock], Nat.le_refl _⟩)
 ·have : W.heap.size = k := by simpa [Value.ownBlock] using hk
  subst this
  exact hfresh
 ·have h2 := World.ownsRow_lit (base := base) (e := e) (size := d.sz) W inner.toArray xs.length hbase (by simpa [maxLen] using hm) (by simpa using hrep.1)
  simpa using h2
 ·refine hrep.imp_ (fun p c hp => d.M_mono (fun k hk => ⟨hok k hk.1, fun he => ?_⟩) (M_below (d.M_bound hp) (below_alloc (Below.refl _ _) _)))
  have h3 : k = W.heap.size := by simpa [Value.ownBlock] using he
  have := hk.2.2.1
  omega
theorem reps_made {α : Type} {R : α → List Value → Prop} {z : Value} {size : Nat} {z0 : α} (hz : z.cells.size = size) (hs : 0 < size) (h0 : R z0 z.cells.toList) (m : Nat) : Reps R size (List.replicate m z0) (madeCells z.cells (m * size)).toList := by
 refine ⟨by simp [size_madeCells], fun j p hj => ?_⟩
 obtain ⟨hjl, hp⟩ := List.getElem?_eq_some_iff.1 hj
 have hjm : j < m := by simpa using hjl
 have hp' : z0 = p := by simpa using hp
 subst hp'
 have hle : j * size + size ≤ m * size := by rw [← Nat.succ_mul]; exact Nat.mul_le_mul_right _ hjm
 have : ((madeCells z.cells (m * size)).toList.drop (j * size)).take size = z.cells.toList := by
  apply List.ext_getElem
  ·simp [size_madeCells, hz]
   omega
  ·intro i h1 h2
   have hi : i < size := by rw [Array.length_toList, hz] at h2; exact h2
   have hmod : (j * size + i) % size = i := by
    rw [Nat.mul_comm, Nat.mul_add_mod]
    exact Nat.mod_eq_of_lt hi
   simp [madeCells, hz, hmod]
   rw [getElem!_pos z.cells i (by omega)]
 rw [this]
 exact h0
theorem R_make (d : Kd α) {w0 W : World} (base e : Nat) (hgd : o.guard = none) {N : Tmp} (hd : o.dst = some N) (t : TypeId) (x y : Operand) (ho : o.op = .makeSlice t x y) (n : Int) (hx : a.eval x = .int .i64 n) (hy : a.eval y = .int .i64 n)
  (ht : P.underlying t = some (.slice e)) (z : Value) (bytes : Nat) (hinfo : (P.info? e).map (fun i => (i.zero, i.size, i.bytes)) = some (some z, d.sz, bytes)) (hz : z.cells.size = d.sz) (hs0 : 0 < d.sz) (hb0 : 0 < bytes)
  (z0 : α) {ok okp : Nat → Prop} (hzero : d.M W base okp z0 z.cells.toList) (hok : ∀ k, okp k → ok k) (hfresh : ok W.heap.size) (h0 : 0 ≤ n) (hl : n.toNat * bytes ≤ 281474976710656) (HB : Below base w0 W) (hbase : base ≤ W.heap.size)
  (h : ∀ v1 w1, d.R e w1 base ok v1 (List.replicate n.toNat z0) → Below base w0 w1 → W.grownBy w1 none → (∃ b, v1.ownBlock = some b ∧ W.heap.size ≤ b) → wpList P ops Q rest (a.put o.dst v1) w1) : wpList P ops Q (o :: rest) a W := by
 obtain ⟨m, rfl⟩ := Int.eq_ofNat_of_zero_le h0
 simp only [Int.toNat_natCast] at hl h
 obtain ⟨i0, hi, hzz⟩ := Option.map_eq_some_iff.1 hinfo
 simp only [Prod.mk.injEq] at hzz
 obtain ⟨hz0, hz1, hz2⟩ := hzz
 have hm : m ≤ 281474976710656 := Nat.le_trans (Nat.le_mul_of_pos_right _ hb0) hl
 have hr := run_make (P := P) W t e i0 z ht hi hz0 .i64 .i64 (m : Int) (m : Int) (by omega) (by omega)
  (by
    have h3 : ((i0.bytes * m : Nat) : Int) ≤ 281474976710656 := by rw [hz2, Nat.mul_comm]; omega
    rwa [Int.natCast_mul] at h3) (by omega)
 simp only [Int.toNat_natCast] at hr
 rw [hz1] at hr
 refine R_lit d base e hgd hd (xs := List.replicate m z0) (inner := (madeCells z.cells (m * d.sz)).toList) (okp := okp) (ok := ok) ?_ (reps_made hz hs0 hzero m) hok hfresh HB hbase (by simp; omega) h
 simp [execOp, ho, hx, hy, hr]
end
end Kd
section
variable {P : Program}
theorem cut_to (t e : TypeId) (kh : IntKind) {i : TypeInfo} (ht : P.underlying t = some (.slice e)) (hi : P.info? e = some i) (A : Option Addr) (n c : Nat) (j : Int) (h0 : 0 ≤ j) (hm : j ≤ n) (hc : n ≤ c) :
  ∀ W : World, (Instr.slice t (.slice A n c) none (some (.int kh j)) none).run P W = .ok (.slice A j.toNat c) W := by
 intro W
 have hel : P.elem t = e := by simp [Program.elem, ht]
 have hu : P.underlying t = some (.slice (P.elem t)) := by rw [hel]; exact ht
 have ha : (A.map fun x => x.add 0) = A := by cases A <;> simp [Addr.add]
 rw [run_slice_h W t A n c hu kh j h0 (by omega), hel]
 simp [sizeOf, typeInfo, hi, sliced, Result.andThen, ha]
theorem cut_from (t e : TypeId) (kl : IntKind) {i : TypeInfo} (ht : P.underlying t = some (.slice e)) (hi : P.info? e = some i) (size : Nat) (hsz : i.size = size) (A : Option Addr) (n c : Nat) (j : Int) (h0 : 0 ≤ j) (hm : j ≤ n) :
  ∀ W : World, (Instr.slice t (.slice A n c) (some (.int kl j)) none none).run P W = .ok (.slice (if c = j.toNat then A else A.map (·.add (j.toNat * size))) (n - j.toNat) (c - j.toNat)) W := by
 intro W
 have hel : P.elem t = e := by simp [Program.elem, ht]
 have hu : P.underlying t = some (.slice (P.elem t)) := by rw [hel]; exact ht
 rw [run_slice_l W t A n c hu kl j h0 hm, hel]
 simp [sizeOf, typeInfo, hi, hsz, sliced, Result.andThen]
end
def QRow (w : World) (base : Nat) (e : TypeId) (size : Nat) (v : Value) (n : Nat) (xs : List Value) : Prop :=
 xs.length = n * size ∧
 ((n = 0 ∧ ∃ A, v = .slice A 0 0 ∧ ∀ a, A = some a → base ≤ a.block ∧ ∃ cur, w.heap[a.block]? = some (.cells cur e (0, 0))) ∨
  ∃ g off cap cur, v = .slice (some ⟨g, off * size, none⟩) n cap ∧ base ≤ g ∧ w.heap[g]? = some (.cells cur e (0, 0)) ∧ n ≤ cap ∧ off + cap ≤ maxLen ∧ cur.size = (off + cap) * size ∧ (cur.toList.drop (off * size)).take (n * size) = xs)
section
variable {w w1 : World} {base n size : Nat} {e : TypeId} {v : Value} {xs : List Value}
theorem q_of_own (h : w.ownsRow base e size v n xs) : QRow w base e size v n xs := by
 obtain ⟨h1, h2⟩ := h
 refine ⟨h1, ?_⟩
 rcases h2 with ⟨rfl, h0⟩ | ⟨g, cap, cur, rfl, hb, hh, hnc, hcm, hcs, ht⟩
 ·exact .inl ⟨h0, none, rfl, fun a ha => by cases ha⟩
 ·exact .inr ⟨g, 0, cap, cur, by rw [Nat.zero_mul], hb, hh, hnc, by rw [Nat.zero_add]; exact hcm, by rw [Nat.zero_add]; exact hcs, by rw [Nat.zero_mul, List.drop_zero]; exact ht⟩
theorem add_at (g o j : Nat) : (⟨g, o, none⟩ : Addr).add j = ⟨g, o + j, none⟩ := by unfold Addr.add; split <;> simp_all
end
namespace Kd
def Q {α : Type} (d : Kd α) (e : Nat) (w : World) (base : Nat) (ok : Nat → Prop) (v : Value) (xs : List α) : Prop :=
 (∀ k, v.ownBlock = some k → ok k) ∧ ∃ inner, QRow w base e d.sz v xs.length inner ∧ Reps (d.M w base (fun k => ok k ∧ some k ≠ v.ownBlock)) d.sz xs inner
section
variable {α : Type} {d : Kd α} {e : Nat} {w w1 W : World} {base : Nat} {ok ok' : Nat → Prop} {v : Value} {xs : List α}
theorem Q_of_R (h : d.R e w base ok v xs) : d.Q e w base ok v xs := by
 obtain ⟨h0, inner, ho, hr⟩ := h
 exact ⟨h0, inner, q_of_own ho, hr⟩
theorem Q_nil (d : Kd α) (e : Nat) (w : World) (base : Nat) (ok : Nat → Prop) : d.Q e w base ok (.slice none 0 0) [] := Q_of_R (R_nil d e w base ok)
end
end Kd
namespace Kd
section
variable {α : Type} {d : Kd α} {e e' : Nat} {w w1 W : World} {base : Nat} {ok : Nat → Prop} {u v : Value} {xs : List α}
theorem R_typed (h : d.R e w base ok v xs) : ∀ k, v.ownBlock = some k → ∃ cells, w.heap[k]? = some (.cells cells e (0, 0)) := by
 obtain ⟨inner, ho⟩ := R_own h
 exact fun k hk => own_typed ho k hk
theorem R_over' (h : d.R e W base ok u xs) (hty : ∀ k, v.ownBlock = some k → ∃ cells, W.heap[k]? = some (.cells cells e' (0, 0))) (ht : ∀ q, q ∈ e :: d.E → q ≠ e') (hg : W.grownBy w1 v.ownBlock) : d.R e w1 base ok u xs := by
 refine R_mono (R_move (R_bound h) (fun k hk => hg.block k hk.2.2.1 (fun he => ?_))) (fun _ hk => hk.1)
 obtain ⟨_, _, _, q, hq, cells, hc⟩ := hk
 obtain ⟨cells', hc'⟩ := hty k he.symm
 rw [hc] at hc'
 injection hc' with hc'
 injection hc' with _ hc'
 exact ht q hq hc'
theorem R_apart' (h : d.R e W base ok u xs) (hty : ∀ k, v.ownBlock = some k → ∃ cells, W.heap[k]? = some (.cells cells e' (0, 0))) (ht : ∀ q, q ∈ e :: d.E → q ≠ e') : d.R e W base (fun k => ok k ∧ some k ≠ v.ownBlock) u xs := by
 refine R_mono (R_bound h) (fun k hk => ⟨hk.1, fun he => ?_⟩)
 obtain ⟨_, _, _, q, hq, cells, hc⟩ := hk
 obtain ⟨cells', hc'⟩ := hty k he.symm
 rw [hc] at hc'
 injection hc' with hc'
 injection hc' with _ hc'
 exact ht q hq hc'
theorem R_elder' (hu : d.R e W base ok u xs) (hbase : ∀ k, v.ownBlock = some k → W.heap.size ≤ k) (hb : Below W.heap.size W w1) : d.R e w1 base (fun k => ok k ∧ some k ≠ v.ownBlock) u xs :=
 R_mono (R_move (R_bound hu) (fun k hk => hb.block k hk.2.2.1)) (fun k hk => ⟨hk.1, fun he => by have := hbase k he.symm; have := hk.2.2.1; omega⟩)
theorem R_new' (h : d.R e w1 W.heap.size ok v xs) (hlt : ∀ k, u.ownBlock = some k → k < W.heap.size) : d.R e w1 W.heap.size (fun k => ok k ∧ some k ≠ u.ownBlock) v xs :=
 R_mono (R_bound h) (fun k hk => ⟨hk.1, fun he => by have := hlt k he.symm; have := hk.2.1; omega⟩)
theorem fresh' (hlt : ∀ k, u.ownBlock = some k → k < W.heap.size) : ∀ k, W.heap.size ≤ k → some k ≠ u.ownBlock := fun k hk he => by have := hlt k he.symm; omega
end
end Kd
namespace Kd
section
variable {α : Type} {d : Kd α} {e base g n cap : Nat} {ok okp : Nat → Prop} {W : World} {xs : List α}
theorem R_elem (h : d.R e W base ok (.slice (some ⟨g, 0, none⟩) n cap) xs) (z : α) (i : Int) (h0 : 0 ≤ i) (h1 : i < n) :
  ∃ c, c.length = d.sz ∧ d.M W base (fun k => ok k ∧ k ≠ g) (xs.getD i.toNat z) c ∧ (∀ j u, c[j]? = some u → W.cell? ⟨g, i.toNat * d.sz + j, none⟩ = some u) ∧ ∀ j, W.frozen? ⟨g, i.toNat * d.sz + j, none⟩ = false := by
 obtain ⟨hn, hnc, hC⟩ := R_reads' h
 obtain ⟨_, inner, ho, hr⟩ := h
 have hil : i.toNat < xs.length := by omega
 have hseg : i.toNat * d.sz + d.sz ≤ inner.length := by rw [hr.1, ← Nat.succ_mul]; exact Nat.mul_le_mul_right _ hil
 have hM := hr.2 i.toNat _ (List.getElem?_eq_getElem hil)
 refine ⟨(inner.drop (i.toNat * d.sz)).take d.sz, by rw [List.length_take, List.length_drop]; omega, ?_, fun j u hu => ?_, fun j => ?_⟩
 ·rw [List.getD_eq_getElem?_getD, List.getElem?_eq_getElem hil]
  exact d.M_mono (fun k hk => ⟨hk.1, fun he => hk.2 (by rw [he]; simp [Value.ownBlock])⟩) hM
 ·rw [List.getElem?_take] at hu
  split at hu
  ·rw [List.getElem?_drop] at hu
   have := ho.cells (g := g) (by simp [Value.ownBlock]) _ u hu
   rwa [add_plain] at this
  ·cases hu
 ·obtain ⟨cells, hc⟩ := own_typed ho g (by simp [Value.ownBlock])
  exact blk_frozen hc _
end
end Kd
namespace Kd
theorem reps_append {α : Type} {R : α → List Value → Prop} {size : Nat} {ps qs : List α} {cs ds : List Value} (h : Reps R size ps cs) (h' : Reps R size qs ds) : Reps R size (ps ++ qs) (cs ++ ds) := by
 refine ⟨by rw [List.length_append, List.length_append, h.1, h'.1, Nat.add_mul], fun j p hj => ?_⟩
 rcases Nat.lt_or_ge j ps.length with hlt | hge
 ·rw [List.getElem?_append_left hlt] at hj
  have hle : j * size + size ≤ cs.length := by rw [h.1, ← Nat.succ_mul]; exact Nat.mul_le_mul_right _ hlt
  rw [List.drop_append_of_le_length (by omega), List.take_append_of_le_length (by rw [List.length_drop]; omega)]
  exact h.2 j p hj
 ·rw [List.getElem?_append_right hge] at hj
  have h2 := h'.2 (j - ps.length) p hj
  have hle : ps.length * size ≤ j * size := Nat.mul_le_mul_right _ hge
  rw [List.drop_append, List.drop_eq_nil_of_le (by rw [h.1]; exact hle), List.nil_append, h.1, ← Nat.sub_mul]
  exact h2
section
variable {P : Program} {ops : Array Oper} {rest : List Oper} {o : Oper} {a : Act} {Q : Exit → Act → World → Prop} {α : Type}
theorem R_append_rows (d : Kd α) {Rr : α → List Value → Prop} {w0 W : World} (base : Nat) (hgd : o.guard = none) (s x : Operand) (t e : TypeId) (z : Value) (bytes : Nat)
  (ho : o.op = .call { callee := .builtin .append, args := #[s, x], argTypes := #[t, t] })
  (ht : P.underlying t = some (.slice e)) (hinfo : (P.info? e).map (fun i => (i.zero, i.size, i.bytes)) = some (some z, d.sz, bytes)) (hz : z.cells.size = d.sz) (hs0 : 0 < d.sz) (hb0 : 0 < bytes)
  (v : Value) (xs ys : List α) (A : Option Addr) (m c : Nat) (ok okp : Nat → Prop) (hs : a.eval s = v) (hx : a.eval x = .slice A m c)
  (HO : d.R e W base ok v xs) (HR : ReadsRow Rr d.sz W A m ys) (hKM : ∀ x cs, Rr x cs → d.M W base okp x cs) (hokp : ∀ k, okp k → ok k ∧ some k ≠ v.ownBlock) (hfresh : ∀ k, W.heap.size ≤ k → ok k)
  (HB : Below base w0 W) (hbase : base ≤ W.heap.size) (hl : (xs.length + m) * bytes ≤ 140737488355328)
  (h : ∀ v1 w1, d.R e w1 base ok v1 (xs ++ ys) → Below base w0 w1 → W.grownBy w1 v.ownBlock → (v1.ownBlock = v.ownBlock ∨ ∃ b, v1.ownBlock = some b ∧ W.heap.size ≤ b) → wpList P ops Q rest (a.put o.dst v1) w1) :
  wpList P ops Q (o :: rest) a W := by
 obtain ⟨i0, hi, hzz⟩ := Option.map_eq_some_iff.1 hinfo
 simp only [Prod.mk.injEq] at hzz
 obtain ⟨hz0, hz1, hz2⟩ := hzz
 have hm : ys.length = m := HR.1
 have hlen : xs.length + m ≤ 140737488355328 := Nat.le_trans (Nat.le_mul_of_pos_right _ hb0) hl
 obtain ⟨hok, inner, hown, hr⟩ := HO
 have hrun : ∃ v1 w1, (Builtin.append_ #[t, t] o.type #[v, .slice A m c]).run P W = .ok v1 w1 ∧ d.R e w1 base ok v1 (xs ++ ys) ∧ W.grownBy w1 v.ownBlock ∧ (v1.ownBlock = v.ownBlock ∨ ∃ b, v1.ownBlock = some b ∧ W.heap.size ≤ b) := by
  rcases A with _ | ad
  ·have h0 : m = 0 := by
    rcases Nat.eq_zero_or_pos m with h0 | h0
    ·exact h0
    ·obtain ⟨ad, h, _⟩ := HR.2.2 h0
     cases h
   subst h0
   obtain rfl : ys = [] := List.eq_nil_of_length_eq_zero hm
   refine ⟨v, W, ?_, by rw [List.append_nil]; exact ⟨hok, inner, hown, hr⟩, World.grownBy.refl W _, .inl rfl⟩
   rcases hown.2 with ⟨rfl, hn⟩ | ⟨g, cap, cur, rfl, _, _, hnc, _⟩
   ·simp [Builtin.append_, run_underlying ht, sizeOf, typeInfo, hi, Builtin.lenOf, Builtin.firstCells]
   ·simp [Builtin.append_, run_underlying ht, sizeOf, typeInfo, hi, Builtin.lenOf, Builtin.firstCells, hnc, storeCells]
  ·obtain ⟨news, hnr, hnc⟩ := ReadsRow.inner_ HR
   have hnM : Reps (d.M W base okp) d.sz ys news := hnr.imp_ (fun p c hp => hKM p c hp)
   have hone : ∀ u ∈ news, u.oneCell' = true := by
    intro u hu
    obtain ⟨q, hq, rfl⟩ := List.mem_iff_getElem.1 hu
    have hql : q / d.sz < ys.length := by
     rw [Nat.div_lt_iff_lt_mul hs0]
     rw [← hnM.1]
     exact hq
    have hc := hnM.2 (q / d.sz) _ (List.getElem?_eq_getElem hql)
    refine d.K_one (d.K_of_M hc) _ ?_
    rw [List.mem_iff_getElem?]
    refine ⟨q % d.sz, ?_⟩
    rw [List.getElem?_take, if_pos (Nat.mod_lt _ hs0), List.getElem?_drop, Nat.mul_comm, Nat.div_add_mod, List.getElem?_eq_getElem hq]
   obtain ⟨v1, w1, hrun, h2, hg, _, hat⟩ := run_append_own_at (P := P) W base t o.type e i0 z d.sz bytes ht hi hz0 hz1 hz2 hz hs0 v xs.length inner hown ad m c news (by rw [hnM.1, hm]) hnc hone (by simp only [maxLen]; omega) hl hbase
   have hat' : v1.ownBlock = v.ownBlock ∨ ∃ b, v1.ownBlock = some b ∧ W.heap.size ≤ b := by
    rcases hat with hat | hat
    ·exact .inl hat
    ·exact .inr ⟨_, hat, Nat.le_refl _⟩
   have hne : ∀ k, some k ≠ v.ownBlock → k < W.heap.size → some k ≠ v1.ownBlock := by
    intro k hk hlt
    rcases hat' with hat | ⟨b, hb, hle⟩
    ·rw [hat]; exact hk
    ·rw [hb]
     intro he
     injection he with he
     omega
   have step : ∀ {q : α} {c : List Value} {o : Nat → Prop}, d.M W base o q c → (∀ k, o k → ok k ∧ some k ≠ v.ownBlock) → d.M w1 base (fun k => ok k ∧ some k ≠ v1.ownBlock) q c := by
    intro q c o hq ho
    have h1 := d.M_move (w1 := w1) (fun k hk => hg.block k hk.2.2.1 (ho k hk.1).2) (d.M_bound hq)
    exact d.M_mono (fun k hk => ⟨(ho k hk.1).1, hne k (ho k hk.1).2 hk.2.2.1⟩) h1
   refine ⟨v1, w1, hrun, ⟨fun k hk => ?_, inner ++ news, by rw [List.length_append, hm]; exact h2, reps_append (hr.imp_ (fun _ _ hq => step hq (fun _ hk => hk))) (hnM.imp_ (fun _ _ hq => step hq hokp))⟩, hg, hat'⟩
   rcases hat' with hat | ⟨b, hb, hle⟩
   ·exact hok k (hat ▸ hk)
   ·rw [hb] at hk
    injection hk with hk
    exact hfresh k (by omega)
 obtain ⟨v1, w1, hr1, h1, hg, hat⟩ := hrun
 refine wpList_plain hgd fun K hK => ?_
 unfold Oper.wp execOp
 simp only [ho, resolve, invoke, builtin, Sem.run_bind, Sem.run_pure, Result.andThen_ok, List.map_toArray, List.map_cons, List.map_nil, hs, hx, hr1]
 exact hK _ _ (h v1 w1 h1 (HB.grown hg hbase (own_base hown)) hg hat)
end
end Kd
theorem add_add (a : Addr) (i j : Nat) : (a.add i).add j = a.add (i + j) := by
 unfold Addr.add
 by_cases h1 : i = 0 <;> by_cases h2 : j = 0 <;> simp [h1, h2, Nat.add_assoc]
namespace Kd
section
variable {α : Type} {k : Kd α} {w : World} {A : Option Addr} {xs : List α} {m c : Nat}
theorem C_take (h : k.C w A xs.length xs) (hm : m ≤ xs.length) : k.C w A (xs.take m).length (xs.take m) := by
 have hl : (xs.take m).length = m := by rw [List.length_take]; omega
 refine ⟨rfl, by rw [hl]; have := h.2.1; omega, fun hp => ?_⟩
 obtain ⟨ad, e, hc⟩ := h.2.2 (by omega)
 refine ⟨ad, e, fun j p hj => hc j p ?_⟩
 rw [List.getElem?_take] at hj
 split at hj
 ·exact hj
 ·cases hj
theorem C_drop (h : k.C w A xs.length xs) (hm : m ≤ xs.length) (hc : xs.length ≤ c) : k.C w (if c = m then A else A.map (·.add (m * k.sz))) (xs.drop m).length (xs.drop m) := by
 have hl : (xs.drop m).length = xs.length - m := List.length_drop
 refine ⟨rfl, by rw [hl]; have := h.2.1; omega, fun hp => ?_⟩
 rw [hl] at hp
 obtain ⟨ad, rfl, hcell⟩ := h.2.2 (by omega)
 rw [if_neg (by omega)]
 refine ⟨ad.add (m * k.sz), rfl, fun j p hj => ?_⟩
 rw [List.getElem?_drop] at hj
 obtain ⟨cs, h1, h2, h3⟩ := hcell (m + j) p hj
 refine ⟨cs, h1, h2, fun i u hu => ?_⟩
 rw [add_add, show m * k.sz + (j * k.sz + i) = (m + j) * k.sz + i by rw [Nat.add_mul]; omega]
 exact h3 i u hu
end
end Kd
theorem below_size {w W : World} (h : Below w.heap.size w W) : w.heap.size ≤ W.heap.size := h.size
theorem below_step {w W w2 : World} (h : Below w.heap.size w W) (k : Below W.heap.size W w2) : Below w.heap.size w w2 := below_then h h.size k
theorem ReadsInt.nil (W : World) (k : IntKind) : ReadsInt W k none ([] : List Int).length [] := ⟨rfl, by simp, fun h => absurd h (Nat.lt_irrefl 0)⟩
theorem ReadsInt.ofRow {k : IntKind} {w : World} {a : Option Addr} {len cap : Nat} {zs : List Int} (h : (a = none ∧ len = 0 ∧ cap = 0 ∧ zs = []) ∨ ∃ x, a = some x ∧ len ≤ cap ∧ cap ≤ maxLen ∧ zs.length = cap ∧ (∀ i, i < zs.length → w.cell? (x.add i) = some (.int k (zs.getD i 0))) ∧ ∀ n ∈ zs, (Lit.int k n).wf = true) :
  ∃ l : List Int, len = l.length ∧ ReadsInt w k a l.length l ∧ l.length ≤ maxLen ∧ ∀ x ∈ l, (Lit.int k x).wf = true := by
 rcases h with ⟨rfl, rfl, rfl, rfl⟩ | ⟨x, rfl, hl, hm, hz, hc, hw⟩
 ·exact ⟨[], rfl, ReadsInt.nil _ _, Nat.zero_le _, fun x hx => by simp at hx⟩
 ·have e : (zs.take len).length = len := by simp; omega
  have hm' : len ≤ maxLen := Nat.le_trans hl hm
  refine ⟨zs.take len, e.symm, ⟨rfl, by rw [e]; simpa [maxLen] using hm', fun _ => ⟨x, rfl, fun j hj => ?_⟩⟩, by rw [e]; exact hm', fun y hy => hw y (List.mem_of_mem_take hy)⟩
  rw [e] at hj
  rw [hc j (by omega)]
  simp [List.getD, List.getElem?_take, hj]
theorem below_set {w W : World} {g j : Nat} {v : Value} (h : Below w.heap.size w W) (hg : w.heap.size ≤ g) : Below w.heap.size w (W.setCell ⟨g, j, none⟩ v) := h.setCell hg _
theorem keep_drewN {w W : World} {g : Nat} {row : Option Nat} (h : KeepBut w W g row) (m : Nat) : KeepBut w (W.drewN m) g row := h
theorem keep_alloc {w W : World} {g : Nat} (h : KeepBut w W g none) (o : Obj) : KeepBut w (W.alloc o) g none := h.trans (KeepBut.of_grown (World.grownBy_alloc W o none) g) (.inl rfl)
theorem keep_cell {w W : World} {g : Nat} (h : KeepBut w W g none) {a : Addr} {v : Value} (hc : w.cell? a = some v) (hne : a.block ≠ g) : W.cell? a = some v := by
 have := h.2 a.block (World.block_lt_of_cell? w a hc) hne (by simp)
 simpa [World.cell?, this] using hc
theorem add_block (a : Addr) (i : Nat) : (a.add i).block = a.block := by unfold Addr.add; split <;> rfl
theorem own_base' {w : World} {base : Nat} {e : TypeId} {size n : Nat} {v : Value} {xs : List Value} (h : w.ownsRow base e size v n xs) : v.ownBlock = none ∨ ∃ b, v.ownBlock = some b ∧ base ≤ b := by
 cases hv : v.ownBlock with
 | none => exact .inl rfl
 | some b => exact .inr ⟨b, rfl, own_base h b hv⟩
theorem keep_size {w W : World} {g : Nat} {row : Option Nat} (h : KeepBut w W g row) : w.heap.size ≤ W.heap.size := h.1
theorem ReadsOf.nil {α : Type} (enc : α → Value) (d : α) (W : World) : ReadsOf enc d W none ([] : List α).length [] := ⟨rfl, by simp, fun h => absurd h (Nat.lt_irrefl 0)⟩
theorem cell_far {W : World} {p a : Addr} (h : a.block ≠ p.block) (u : Value) : (W.setCell p u).cell? a = W.cell? a := by
 have := Below.heap_setCell W p u a.block h
 simp [World.cell?, this]
theorem blk_put {w : World} {g : Nat} {t : TypeId} {cs cs' : Array Value} (h : w.heap[g]? = some (.cells cs t (0, 0))) (i : Nat) (u : Value) (e : cs.setIfInBounds i u = cs') : (w.setCell ⟨g, i, none⟩ u).heap[g]? = some (.cells cs' t (0, 0)) := e ▸ blk_set h i u
theorem ReadsInt.ofRowC {k : IntKind} {w : World} {a : Option Addr} {len cap : Nat} {zs : List Int} (h : (a = none ∧ len = 0 ∧ cap = 0 ∧ zs = []) ∨ ∃ x, a = some x ∧ len ≤ cap ∧ cap ≤ maxLen ∧ zs.length = cap ∧ (∀ i, i < zs.length → w.cell? (x.add i) = some (.int k (zs.getD i 0))) ∧ ∀ n ∈ zs, (Lit.int k n).wf = true) :
  ∃ l : List Int, len = l.length ∧ ReadsInt w k a l.length l ∧ l.length ≤ maxLen ∧ (∀ x ∈ l, (Lit.int k x).wf = true) ∧ l.length ≤ cap := by
 have hl : len ≤ cap := by
  rcases h with ⟨_, rfl, rfl, _⟩ | ⟨_, _, h, _⟩
  ·exact Nat.le_refl _
  ·exact h
 obtain ⟨l, e, h1, h2, h3⟩ := ReadsInt.ofRow h
 exact ⟨l, e, h1, h2, h3, e ▸ hl⟩
theorem below_drew1 {base : Nat} {w W : World} (h : Below base w W) : Below base w W.drew := h.drew
theorem keep_drew {w W : World} {g : Nat} {row : Option Nat} (h : KeepBut w W g row) : KeepBut w W.drew g row := h
namespace Kd
section
variable {α β : Type} {d : Kd α} {d' : Kd β} {e e' base base' n : Nat} {ok ok' : Nat → Prop} {w W w1 W1 : World} {v u : Value} {xs : List α} {ys : List β} {A : Option Addr} {c : Nat}
theorem R_base2 (h : d.R e w base ok v xs) : v.ownBlock = none ∨ ∃ k, v.ownBlock = some k ∧ base ≤ k := by
 obtain ⟨inner, ho⟩ := R_own h
 exact own_base' ho
end
end Kd
namespace Kd
section
variable {α : Type} {d : Kd α} {e base g : Nat} {ok : Nat → Prop} {w w1 : World} {v : Value} {xs : List α} {o : Obj}
theorem freshB (hb : w.heap[g]? = some o) : ∀ k, w.heap.size ≤ k → k ≠ g := fun k hk => by have := blk_lt hb; omega
end
end Kd
section
variable {P : Program} {ops : Array Oper} {rest : List Oper} {o : Oper} {a : Act} {Q : Exit → Act → World → Prop}
theorem box_event {W : World} (hgd : o.guard = none) {N : Tmp} (_hd : o.dst = some N) {cs : Array Value} {t : TypeId}
  (hrun : (execOp a.eval o).run P W = .ok (.value (.pointer (some ⟨W.heap.size, 0, none⟩))) (W.alloc (.cells cs t (0, 0))))
  (h : ∀ g, g = W.heap.size → ∀ w1, w1.heap[g]? = some (.cells cs t (0, 0)) → Below W.heap.size W w1 → wpList P ops Q rest (a.put o.dst (.pointer (some ⟨g, 0, none⟩))) w1) : wpList P ops Q (o :: rest) a W :=
 Kd.event_run hgd hrun (h _ rfl _ (blk_new W _) (below_alloc (Below.refl _ _) _))
end
namespace Kd
section
variable {α : Type} {enc : α → Value} {h1 : ∀ x, (enc x).oneCell' = true} {e base g n cap : Nat} {ok : Nat → Prop} {W : World} {xs : List α}
theorem R_celln (d : α) (h : (scalar enc h1).R e W base ok (.slice (some ⟨g, 0, none⟩) n cap) xs) (i : Int) (h0 : 0 ≤ i) (hi : i < n) : W.cell? ⟨g, i.toNat, none⟩ = some (enc (rdOf d xs i)) ∧ W.frozen? ⟨g, i.toNat, none⟩ = false := by
 obtain ⟨rfl, _⟩ := R_reads' h
 exact R_cell d h i h0 hi
theorem R_putn (h : (scalar enc h1).R e W base ok (.slice (some ⟨g, 0, none⟩) n cap) xs) (i : Int) (x : α) : (scalar enc h1).R e (W.setCell ⟨g, i.toNat, none⟩ (enc x)) base ok (.slice (some ⟨g, 0, none⟩) n cap) (xs.set i.toNat x) := by
 obtain ⟨rfl, _⟩ := R_reads' h
 exact (R_put h i x).1
end
end Kd
section
variable {P : Program} {ops : Array Oper} {rest : List Oper} {o : Oper} {a : Act} {Q : Exit → Act → World → Prop}
theorem store_event {W w1 : World} (hgd : o.guard = none) {t : TypeId} {p : Tmp} {v : Operand} (_ho : o.op = .store t (.tmp p) v) (hN : o.dst = none)
  (hrun : (execOp a.eval o).run P W = .ok .skip w1) (h : ∀ w', w' = w1 → wpList P ops Q rest a w') : wpList P ops Q (o :: rest) a W := by
 refine wpList_plain hgd fun K hK => ?_
 unfold Oper.wp
 rw [hrun]
 show K (a.put o.dst undef) w1
 rw [hN]
 exact hK _ _ (h _ rfl)
end
namespace Kd
section
variable {α : Type} {enc : α → Value} {h1 : ∀ x, (enc x).oneCell' = true} {e base g n cap : Nat} {ok : Nat → Prop} {W : World} {xs : List α}
theorem R_putg (h : (scalar enc h1).R e W base ok (.slice (some ⟨g, 0, none⟩) n cap) xs) (i : Int) (x : α) : (scalar enc h1).R e (W.setCell ⟨g, i.toNat, none⟩ (enc x)) base ok (.slice (some ⟨g, 0, none⟩) n cap) (xs.set i.toNat x) ∧ W.grownBy (W.setCell ⟨g, i.toNat, none⟩ (enc x)) (some g) := by
 obtain ⟨rfl, _⟩ := R_reads' h
 exact R_put h i x
end
end Kd
section
variable {P : Program} {ops : Array Oper} {rest : List Oper} {o : Oper} {a : Act} {Q : Exit → Act → World → Prop} {W : World}
theorem gate_dst {N : Tmp} (_hN : o.dst = some N) (h : wpList P ops Q (o :: rest) a W) : wpList P ops Q (o :: rest) a W := h
theorem gate_store {t : TypeId} {p : Tmp} {v : Operand} (_ho : o.op = .store t (.tmp p) v) (h : wpList P ops Q (o :: rest) a W) : wpList P ops Q (o :: rest) a W := h
end
section
variable {P : Program} {ops : Array Oper} {o : Oper} {a : Act} {Q : Exit → Act → World → Prop} {Kc : Act → World → Prop}
theorem event_step {W w1 : World} {v : Value} (hw : Region.wanted o (yielded ops a.tmps) = true) (hrun : (execOp a.eval o).run P W = .ok (.value v) w1) (h : Kc (a.put o.dst v) w1) : if Region.wanted o (yielded ops a.tmps) = true then Oper.wp P o a W Kc Q else Kc (a.put o.dst undef) W := by
 rw [if_pos hw]
 unfold Oper.wp
 rw [hrun]
 exact h
theorem box_step {W : World} (hw : Region.wanted o (yielded ops a.tmps) = true) {N : Tmp} (_hd : o.dst = some N) {cs : Array Value} {t : TypeId}
  (hrun : (execOp a.eval o).run P W = .ok (.value (.pointer (some ⟨W.heap.size, 0, none⟩))) (W.alloc (.cells cs t (0, 0))))
  (h : ∀ g, g = W.heap.size → ∀ w1, w1.heap[g]? = some (.cells cs t (0, 0)) → Below W.heap.size W w1 → Kc (a.put o.dst (.pointer (some ⟨g, 0, none⟩))) w1) : if Region.wanted o (yielded ops a.tmps) = true then Oper.wp P o a W Kc Q else Kc (a.put o.dst undef) W :=
 event_step hw hrun (h _ rfl _ (blk_new W _) (below_alloc (Below.refl _ _) _))
namespace Kd
variable {α : Type}
theorem R_lit_step (d : Kd α) {w0 W : World} (base e : Nat) (hw : Region.wanted o (yielded ops a.tmps) = true) {N : Tmp} (_hd : o.dst = some N) {xs : List α} {inner : List Value} {ok okp : Nat → Prop}
  (hrun : (execOp a.eval o).run P W = .ok (.value (.slice (some ⟨W.heap.size, 0, none⟩) xs.length xs.length)) (W.alloc (.cells inner.toArray e)))
  (hrep : Reps (d.M W base okp) d.sz xs inner) (hok : ∀ k, okp k → ok k) (hfresh : ok W.heap.size) (HB : Below base w0 W) (hbase : base ≤ W.heap.size) (hm : xs.length ≤ 9223372036854775807)
  (h : ∀ v1 w1, d.R e w1 base ok v1 xs → Below base w0 w1 → W.grownBy w1 none → (∃ b, v1.ownBlock = some b ∧ W.heap.size ≤ b) → Kc (a.put o.dst v1) w1) : if Region.wanted o (yielded ops a.tmps) = true then Oper.wp P o a W Kc Q else Kc (a.put o.dst undef) W := by
 refine event_step hw hrun (h _ _ ⟨fun k hk => ?_, inner, ?_, ?_⟩ (HB.alloc hbase _) (World.grownBy_alloc W _ none) ⟨W.heap.size, by simp [Value.ownBlock], Nat.le_refl _⟩)
 ·have : W.heap.size = k := by simpa [Value.ownBlock] using hk
  subst this
  exact hfresh
 ·have h2 := World.ownsRow_lit (base := base) (e := e) (size := d.sz) W inner.toArray xs.length hbase (by simpa [maxLen] using hm) (by simpa using hrep.1)
  simpa using h2
 ·refine hrep.imp_ (fun p c hp => d.M_mono (fun k hk => ⟨hok k hk.1, fun he => ?_⟩) (M_below (d.M_bound hp) (below_alloc (Below.refl _ _) _)))
  have h3 : k = W.heap.size := by simpa [Value.ownBlock] using he
  have := hk.2.2.1
  omega
theorem R_make_step (d : Kd α) {w0 W : World} (base e : Nat) (hw : Region.wanted o (yielded ops a.tmps) = true) {N : Tmp} (hd : o.dst = some N) (t : TypeId) (x y : Operand) (ho : o.op = .makeSlice t x y) (n : Int) (hx : a.eval x = .int .i64 n) (hy : a.eval y = .int .i64 n)
  (ht : P.underlying t = some (.slice e)) (z : Value) (bytes : Nat) (hinfo : (P.info? e).map (fun i => (i.zero, i.size, i.bytes)) = some (some z, d.sz, bytes)) (hz : z.cells.size = d.sz) (hs0 : 0 < d.sz) (hb0 : 0 < bytes)
  (z0 : α) {ok okp : Nat → Prop} (hzero : d.M W base okp z0 z.cells.toList) (hok : ∀ k, okp k → ok k) (hfresh : ok W.heap.size) (h0 : 0 ≤ n) (hl : n.toNat * bytes ≤ 281474976710656) (HB : Below base w0 W) (hbase : base ≤ W.heap.size)
  (h : ∀ v1 w1, d.R e w1 base ok v1 (List.replicate n.toNat z0) → Below base w0 w1 → W.grownBy w1 none → (∃ b, v1.ownBlock = some b ∧ W.heap.size ≤ b) → Kc (a.put o.dst v1) w1) : if Region.wanted o (yielded ops a.tmps) = true then Oper.wp P o a W Kc Q else Kc (a.put o.dst undef) W := by
 obtain ⟨m, rfl⟩ := Int.eq_ofNat_of_zero_le h0
 simp only [Int.toNat_natCast] at hl h
 obtain ⟨i0, hi, hzz⟩ := Option.map_eq_some_iff.1 hinfo
 simp only [Prod.mk.injEq] at hzz
 obtain ⟨hz0, hz1, hz2⟩ := hzz
 have hm : m ≤ 281474976710656 := Nat.le_trans (Nat.le_mul_of_pos_right _ hb0) hl
 have hr := run_make (P := P) W t e i0 z ht hi hz0 .i64 .i64 (m : Int) (m : Int) (by omega) (by omega)
  (by
    have h3 : ((i0.bytes * m : Nat) : Int) ≤ 281474976710656 := by rw [hz2, Nat.mul_comm]; omega
    rwa [Int.natCast_mul] at h3) (by omega)
 simp only [Int.toNat_natCast] at hr
 rw [hz1] at hr
 refine R_lit_step d base e hw hd (xs := List.replicate m z0) (inner := (madeCells z.cells (m * d.sz)).toList) (okp := okp) (ok := ok) ?_ (reps_made hz hs0 hzero m) hok hfresh HB hbase (by simp; omega) h
 simp [execOp, ho, hx, hy, hr]
theorem R_append_rows_step (d : Kd α) {Rr : α → List Value → Prop} {w0 W : World} (base : Nat) (hw : Region.wanted o (yielded ops a.tmps) = true) (s x : Operand) (t e : TypeId) (z : Value) (bytes : Nat)
  (ho : o.op = .call { callee := .builtin .append, args := #[s, x], argTypes := #[t, t] })
  (ht : P.underlying t = some (.slice e)) (hinfo : (P.info? e).map (fun i => (i.zero, i.size, i.bytes)) = some (some z, d.sz, bytes)) (hz : z.cells.size = d.sz) (hs0 : 0 < d.sz) (hb0 : 0 < bytes)
  (v : Value) (xs ys : List α) (A : Option Addr) (m c : Nat) (ok okp : Nat → Prop) (hs : a.eval s = v) (hx : a.eval x = .slice A m c)
  (HO : d.R e W base ok v xs) (HR : ReadsRow Rr d.sz W A m ys) (hKM : ∀ x cs, Rr x cs → d.M W base okp x cs) (hokp : ∀ k, okp k → ok k ∧ some k ≠ v.ownBlock) (hfresh : ∀ k, W.heap.size ≤ k → ok k)
  (HB : Below base w0 W) (hbase : base ≤ W.heap.size) (hl : (xs.length + m) * bytes ≤ 140737488355328)
  (h : ∀ v1 w1, d.R e w1 base ok v1 (xs ++ ys) → Below base w0 w1 → W.grownBy w1 v.ownBlock → (v1.ownBlock = v.ownBlock ∨ ∃ b, v1.ownBlock = some b ∧ W.heap.size ≤ b) → Kc (a.put o.dst v1) w1) :
  if Region.wanted o (yielded ops a.tmps) = true then Oper.wp P o a W Kc Q else Kc (a.put o.dst undef) W := by
 obtain ⟨i0, hi, hzz⟩ := Option.map_eq_some_iff.1 hinfo
 simp only [Prod.mk.injEq] at hzz
 obtain ⟨hz0, hz1, hz2⟩ := hzz
 have hm : ys.length = m := HR.1
 have hlen : xs.length + m ≤ 140737488355328 := Nat.le_trans (Nat.le_mul_of_pos_right _ hb0) hl
 obtain ⟨hok, inner, hown, hr⟩ := HO
 have hrun : ∃ v1 w1, (Builtin.append_ #[t, t] o.type #[v, .slice A m c]).run P W = .ok v1 w1 ∧ d.R e w1 base ok v1 (xs ++ ys) ∧ W.grownBy w1 v.ownBlock ∧ (v1.ownBlock = v.ownBlock ∨ ∃ b, v1.ownBlock = some b ∧ W.heap.size ≤ b) := by
  rcases A with _ | ad
  ·have h0 : m = 0 := by
    rcases Nat.eq_zero_or_pos m with h0 | h0
    ·exact h0
    ·obtain ⟨ad, h, _⟩ := HR.2.2 h0
     cases h
   subst h0
   obtain rfl : ys = [] := List.eq_nil_of_length_eq_zero hm
   refine ⟨v, W, ?_, by rw [List.append_nil]; exact ⟨hok, inner, hown, hr⟩, World.grownBy.refl W _, .inl rfl⟩
   rcases hown.2 with ⟨rfl, hn⟩ | ⟨g, cap, cur, rfl, _, _, hnc, _⟩
   ·simp [Builtin.append_, run_underlying ht, sizeOf, typeInfo, hi, Builtin.lenOf, Builtin.firstCells]
   ·simp [Builtin.append_, run_underlying ht, sizeOf, typeInfo, hi, Builtin.lenOf, Builtin.firstCells, hnc, storeCells]
  ·obtain ⟨news, hnr, hnc⟩ := ReadsRow.inner_ HR
   have hnM : Reps (d.M W base okp) d.sz ys news := hnr.imp_ (fun p c hp => hKM p c hp)
   have hone : ∀ u ∈ news, u.oneCell' = true := by
    intro u hu
    obtain ⟨q, hq, rfl⟩ := List.mem_iff_getElem.1 hu
    have hql : q / d.sz < ys.length := by
     rw [Nat.div_lt_iff_lt_mul hs0]
     rw [← hnM.1]
     exact hq
    have hc := hnM.2 (q / d.sz) _ (List.getElem?_eq_getElem hql)
    refine d.K_one (d.K_of_M hc) _ ?_
    rw [List.mem_iff_getElem?]
    refine ⟨q % d.sz, ?_⟩
    rw [List.getElem?_take, if_pos (Nat.mod_lt _ hs0), List.getElem?_drop, Nat.mul_comm, Nat.div_add_mod, List.getElem?_eq_getElem hq]
   obtain ⟨v1, w1, hrun, h2, hg, _, hat⟩ := run_append_own_at (P := P) W base t o.type e i0 z d.sz bytes ht hi hz0 hz1 hz2 hz hs0 v xs.length inner hown ad m c news (by rw [hnM.1, hm]) hnc hone (by simp only [maxLen]; omega) hl hbase
   have hat' : v1.ownBlock = v.ownBlock ∨ ∃ b, v1.ownBlock = some b ∧ W.heap.size ≤ b := by
    rcases hat with hat | hat
    ·exact .inl hat
    ·exact .inr ⟨_, hat, Nat.le_refl _⟩
   have hne : ∀ k, some k ≠ v.ownBlock → k < W.heap.size → some k ≠ v1.ownBlock := by
    intro k hk hlt
    rcases hat' with hat | ⟨b, hb, hle⟩
    ·rw [hat]; exact hk
    ·rw [hb]
     intro he
     injection he with he
     omega
   have step : ∀ {q : α} {c : List Value} {o : Nat → Prop}, d.M W base o q c → (∀ k, o k → ok k ∧ some k ≠ v.ownBlock) → d.M w1 base (fun k => ok k ∧ some k ≠ v1.ownBlock) q c := by
    intro q c o hq ho
    have h1 := d.M_move (w1 := w1) (fun k hk => hg.block k hk.2.2.1 (ho k hk.1).2) (d.M_bound hq)
    exact d.M_mono (fun k hk => ⟨(ho k hk.1).1, hne k (ho k hk.1).2 hk.2.2.1⟩) h1
   refine ⟨v1, w1, hrun, ⟨fun k hk => ?_, inner ++ news, by rw [List.length_append, hm]; exact h2, reps_append (hr.imp_ (fun _ _ hq => step hq (fun _ hk => hk))) (hnM.imp_ (fun _ _ hq => step hq hokp))⟩, hg, hat'⟩
   rcases hat' with hat | ⟨b, hb, hle⟩
   ·exact hok k (hat ▸ hk)
   ·rw [hb] at hk
    injection hk with hk
    exact hfresh k (by omega)
 obtain ⟨v1, w1, hr1, h1, hg, hat⟩ := hrun
 rw [if_pos hw]
 unfold Oper.wp execOp
 simp only [ho, resolve, invoke, builtin, Sem.run_bind, Sem.run_pure, Result.andThen_ok, List.map_toArray, List.map_cons, List.map_nil, hs, hx, hr1]
 exact h v1 w1 h1 (HB.grown hg hbase (own_base hown)) hg hat
end Kd
end
section
variable {P : Program} {ops : Array Oper} {rest : List Oper} {o : Oper} {a : Act} {Q : Exit → Act → World → Prop} {W : World}
theorem gate_guard (hw : Region.wanted o (yielded ops a.tmps) = true) (h : wpList P ops Q ({ o with guard := none } :: rest) a W) : wpList P ops Q (o :: rest) a W := by
 have h1 : Region.wanted { o with guard := none } (yielded ops a.tmps) = true := rfl
 unfold wpList at h ⊢
 rw [if_pos h1] at h
 rw [if_pos hw]
 exact h
end
end Go.Proofs.YtibbdjkboglepaaW.PrintWords
namespace Go.Proofs.YtibbdjkboglepaaW.PrintWords
theorem Reps.one {α : Type} {R : α → List Value → Prop} {ps : List α} {cs : List Value} {p : α} {v : Value} (hp : R p [v]) (h : Reps R 1 ps cs) : Reps R 1 (p :: ps) (v :: cs) := by
 refine ⟨by simp [h.1], fun j q hq => ?_⟩
 cases j with
 | zero =>
  simp only [List.getElem?_cons_zero, Option.some.injEq] at hq
  subst hq
  simpa using hp
 | succ j =>
  simp only [List.getElem?_cons_succ] at hq
  have h1 := h.2 j q hq
  simpa [Nat.mul_one] using h1
theorem Reps.front {α : Type} {R : α → List Value → Prop} {size : Nat} {ps : List α} {cs c all : List Value} {p : α} (hp : R p c) (hc : c.length = size) (h : Reps R size ps cs) (ha : c ++ cs = all) : Reps R size (p :: ps) all := by
 subst ha
 refine ⟨by rw [List.length_append, hc, h.1, List.length_cons, Nat.succ_mul, Nat.add_comm], fun j q hq => ?_⟩
 cases j with
 | zero =>
  simp only [List.getElem?_cons_zero, Option.some.injEq] at hq
  subst hq
  rw [Nat.zero_mul, List.drop_zero, List.take_append_of_le_length (by omega), List.take_of_length_le (by omega)]
  exact hp
 | succ j =>
  simp only [List.getElem?_cons_succ] at hq
  have h1 := h.2 j q hq
  rw [Nat.succ_mul, List.drop_append, List.drop_of_length_le (by rw [hc]; exact Nat.le_add_left _ _), List.nil_append, hc, Nat.add_sub_cancel]
  exact h1
theorem Reps.c2 {α : Type} {R : α → List Value → Prop} {ps : List α} {cs : List Value} {p : α} {va vb : Value} (hp : R p [va, vb]) (h : Reps R 2 ps cs) : Reps R 2 (p :: ps) (va :: vb :: cs) := Reps.front hp rfl h rfl
theorem Reps.c3 {α : Type} {R : α → List Value → Prop} {ps : List α} {cs : List Value} {p : α} {va vb vc : Value} (hp : R p [va, vb, vc]) (h : Reps R 3 ps cs) : Reps R 3 (p :: ps) (va :: vb :: vc :: cs) := Reps.front hp rfl h rfl
theorem Reps.c4 {α : Type} {R : α → List Value → Prop} {ps : List α} {cs : List Value} {p : α} {va vb vc vd : Value} (hp : R p [va, vb, vc, vd]) (h : Reps R 4 ps cs) : Reps R 4 (p :: ps) (va :: vb :: vc :: vd :: cs) := Reps.front hp rfl h rfl
theorem Reps.c5 {α : Type} {R : α → List Value → Prop} {ps : List α} {cs : List Value} {p : α} {va vb vc vd ve : Value} (hp : R p [va, vb, vc, vd, ve]) (h : Reps R 5 ps cs) : Reps R 5 (p :: ps) (va :: vb :: vc :: vd :: ve :: cs) := Reps.front hp rfl h rfl
theorem Reps.c6 {α : Type} {R : α → List Value → Prop} {ps : List α} {cs : List Value} {p : α} {va vb vc vd ve vf : Value} (hp : R p [va, vb, vc, vd, ve, vf]) (h : Reps R 6 ps cs) : Reps R 6 (p :: ps) (va :: vb :: vc :: vd :: ve :: vf :: cs) := Reps.front hp rfl h rfl
theorem Reps.c7 {α : Type} {R : α → List Value → Prop} {ps : List α} {cs : List Value} {p : α} {va vb vc vd ve vf vg : Value} (hp : R p [va, vb, vc, vd, ve, vf, vg]) (h : Reps R 7 ps cs) : Reps R 7 (p :: ps) (va :: vb :: vc :: vd :: ve :: vf :: vg :: cs) := Reps.front hp rfl h rfl
theorem Reps.c8 {α : Type} {R : α → List Value → Prop} {ps : List α} {cs : List Value} {p : α} {va vb vc vd ve vf vg vh : Value} (hp : R p [va, vb, vc, vd, ve, vf, vg, vh]) (h : Reps R 8 ps cs) : Reps R 8 (p :: ps) (va :: vb :: vc :: vd :: ve :: vf :: vg :: vh :: cs) := Reps.front hp rfl h rfl
theorem Reps.c9 {α : Type} {R : α → List Value → Prop} {ps : List α} {cs : List Value} {p : α} {va vb vc vd ve vf vg vh vi : Value} (hp : R p [va, vb, vc, vd, ve, vf, vg, vh, vi]) (h : Reps R 9 ps cs) : Reps R 9 (p :: ps) (va :: vb :: vc :: vd :: ve :: vf :: vg :: vh :: vi :: cs) := Reps.front hp rfl h rfl
theorem Reps.c10 {α : Type} {R : α → List Value → Prop} {ps : List α} {cs : List Value} {p : α} {va vb vc vd ve vf vg vh vi vj : Value} (hp : R p [va, vb, vc, vd, ve, vf, vg, vh, vi, vj]) (h : Reps R 10 ps cs) : Reps R 10 (p :: ps) (va :: vb :: vc :: vd :: ve :: vf :: vg :: vh :: vi :: vj :: cs) := Reps.front hp rfl h rfl
end Go.Proofs.YtibbdjkboglepaaW.PrintWords
namespace Go.Proofs.YtibbdjkboglepaaW.PrintLast
section
variable {P : Program} {ops : Array Oper} {Q : Exit → Act → World → Prop} {md : Region.Mode} {S : World → Prop} {ds : List Nat}
def Region.reachB (md : Region.Mode) (ops : Array Oper) (i : Nat) : Nat → Nat → Bool
 | 0, _ => false
 | fuel + 1, d => match ops[d]? with
  | some o => o.after.any fun e => Region.binds md e && (e.on == i || Region.reachB md ops i fuel e.on)
  | none => false
def Region.closedB (md : Region.Mode) (ops : Array Oper) (listed : Array Bool) : Bool :=
 (List.range ops.size).all fun j => !listed.getD j false || match ops[j]? with
  | some o => o.after.all fun e => !Region.binds md e || listed.getD e.on false
  | none => true
def Region.lastB (md : Region.Mode) (ops : Array Oper) (listed : Array Bool) (ds : List Nat) (i : Nat) : Bool :=
 ds.all fun d => listed.getD d true || Region.reachB md ops i ops.size d
def ListedClosed (md : Region.Mode) (ops : Array Oper) (listed : Array Bool) : Prop :=
 ∀ j oj, ops[j]? = some oj → listed.getD j false = true → ∀ e ∈ oj.after, Region.binds md e = true → listed.getD e.on false = true
theorem Region.closedB_spec {listed : Array Bool} (h : Region.closedB md ops listed = true) : ListedClosed md ops listed := by
 intro j oj hj hl e he hb
 have hlt : j < ops.size := (Array.getElem?_eq_some_iff.1 hj).1
 have h1 := List.all_eq_true.1 h j (List.mem_range.2 hlt)
 simp only [hl, hj, Bool.not_true, Bool.false_or] at h1
 have h2 := Array.all_eq_true_iff_forall_mem.1 h1 e he
 simpa [hb] using h2
theorem ListedClosed.set {listed : Array Bool} {i : Nat} (h : ListedClosed md ops listed) (hi : i ∈ Region.ready md ops listed) : ListedClosed md ops (listed.setIfInBounds i true) := by
 obtain ⟨_, oi, hoi, hall⟩ := mem_ready.1 hi
 intro j oj hj hl e he hb
 by_cases hij : i = j
 ·subst hij
  have : oj = oi := Option.some.inj (hj.symm.trans hoi)
  subst this
  exact getD_set_true (hall e he hb)
 ·rw [getD_set_ne false hij] at hl
  exact getD_set_true (h j oj hj hl e he hb)
theorem Region.reach_listed {listed : Array Bool} {i : Nat} (hc : ListedClosed md ops listed) : ∀ (fuel d : Nat), Region.reachB md ops i fuel d = true → listed.getD d false = true → listed.getD i false = true
 | 0, _, h, _ => by simp [Region.reachB] at h
 | fuel + 1, d, h, hl => by
  unfold Region.reachB at h
  cases ho : ops[d]? with
  | none => rw [ho] at h; simp at h
  | some o =>
   rw [ho] at h
   obtain ⟨e, he, h1⟩ := Array.any_eq_true'.1 h
   simp only [Bool.and_eq_true, Bool.or_eq_true, beq_iff_eq] at h1
   have hle := hc d o ho hl e he h1.1
   rcases h1.2 with h2 | h2
   ·rw [← h2]; exact hle
   ·exact Region.reach_listed hc fuel e.on h2 hle
theorem Region.reach_not_ready {listed : Array Bool} {i d fuel : Nat} (hc : ListedClosed md ops listed) (hr : Region.reachB md ops i fuel d = true) (hun : listed.getD i true = false) : d ∉ Region.ready md ops listed := by
 intro hd
 obtain ⟨_, o, ho, hall⟩ := mem_ready.1 hd
 have hi : listed.getD i false = true := by
  cases fuel with
  | zero => simp [Region.reachB] at hr
  | succ n =>
   unfold Region.reachB at hr
   rw [ho] at hr
   obtain ⟨e, he, h1⟩ := Array.any_eq_true'.1 hr
   simp only [Bool.and_eq_true, Bool.or_eq_true, beq_iff_eq] at h1
   have hle := hall e he h1.1
   rcases h1.2 with h2 | h2
   ·rw [← h2]; exact hle
   ·exact Region.reach_listed hc n e.on h2 hle
 rcases Nat.lt_or_ge i listed.size with h' | h'
 ·simp [h'] at hun hi
  rw [hun] at hi
  cases hi
 ·simp [Array.getElem?_eq_none h'] at hun
def wpAnyLast (P : Program) (md : Region.Mode) (ops : Array Oper) (Q : Exit → Act → World → Prop) (S : World → Prop) (ds : List Nat) : Nat → Array Bool → Act → World → Prop
 | 0, listed, a, w => Region.ready md ops listed = [] ∧ Q .normal a w
 | fuel + 1, listed, a, w =>
  (Region.ready md ops listed = [] → Q .normal a w) ∧
  ∀ i ∈ Region.ready md ops listed, wpOp P ops Q i (fun a' w' => (i ∉ ds → S w → S w') ∧ wpAnyLast P md ops Q S ds fuel (listed.setIfInBounds i true) a' w') a w
theorem wpAny_of_last : ∀ (fuel : Nat) (listed : Array Bool) (a : Act) (w : World), wpAnyLast P md ops Q S ds fuel listed a w → wpAny P md ops Q fuel listed a w
 | 0, _, _, _, h => h
 | fuel + 1, _, _, _, h => ⟨h.1, fun i hi => wpOp_mono (fun a' w' h' => wpAny_of_last fuel _ a' w' h'.2) (h.2 i hi)⟩
theorem wpAnyLast_first {i : Nat} {oi : Oper} {v : Value} (hi : ops[i]? = some oi) (hsel : ∀ (j : Nat) (o : Oper) cs b, ops[j]? = some o → o.op ≠ .select cs b)
  (hQ : ∀ c a w, Q (.panic c) (a.put oi.dst v) w → Q (.panic c) a w) (n : Nat) :
  ∀ (fuel : Nat) (listed : Array Bool) (a : Act) (w : World),
   (∀ j oj, ops[j]? = some oj → j ≠ i → listed.getD j true = false → (∀ e ∈ oj.after, Region.binds md e = true → e.on ≠ i) → oi.apart ops oj = true) →
   ListedClosed md ops listed → (∀ d ∈ ds, listed.getD d true = false → Region.reachB md ops i n d = true) →
   i ∈ Region.ready md ops listed → YieldsIf P ops S oi v a → S w →
   wpAnyLast P md ops Q S ds fuel (listed.setIfInBounds i true) (a.put oi.dst v) w → wpAnyLast P md ops Q S ds (fuel + 1) listed a w := by
 intro fuel
 induction fuel with
 | zero =>
  intro listed a w _ _ _ hr hy hS H
  refine ⟨fun h => (by rw [h] at hr; cases hr), fun j hj => ?_⟩
  by_cases hji : j = i
  ·subst hji; exact hy.wpOp hi hS ⟨fun _ h => h, H⟩
  ·have := ready_mono hj hji
   rw [H.1] at this
   cases this
 | succ fuel ih =>
  intro listed a w hfree hc hd hr hy hS H
  refine ⟨fun h => (by rw [h] at hr; cases hr), fun j hj => ?_⟩
  by_cases hji : j = i
  ·subst hji; exact hy.wpOp hi hS ⟨fun _ h => h, H⟩
  ·have h1 := H.2 j (ready_mono hj hji)
   obtain ⟨hjun, oj, hoj, hall⟩ := mem_ready.1 hj
   have hiun := (mem_ready.1 hr).1
   have hnot : ∀ e ∈ oj.after, Region.binds md e = true → e.on ≠ i := fun e he hb heq => by
    have h1 := hall e he hb
    rw [heq] at h1
    rcases Nat.lt_or_ge i listed.size with h' | h'
    ·simp [h'] at hiun h1; rw [hiun] at h1; cases h1
    ·simp [Array.getElem?_eq_none h'] at h1
   have hjd : j ∉ ds := fun hm => Region.reach_not_ready hc (hd j hm hjun) hiun hj
   have h2 := wpOp_putIf hoj (hfree j oj hoj hji hjun hnot) (fun cs b => hsel i oi cs b hi) (fun cs b => hsel j oj cs b hoj) hQ hy h1
   have hfree' : ∀ k ok, ops[k]? = some ok → k ≠ i → (listed.setIfInBounds j true).getD k true = false →
     (∀ e ∈ ok.after, Region.binds md e = true → e.on ≠ i) → oi.apart ops ok = true := fun k ok hk hki hun hno => by
    refine hfree k ok hk hki ?_ hno
    by_cases hjk : j = k
    ·subst hjk; exact hjun
    ·rw [getD_set_ne true hjk] at hun; exact hun
   have hd' : ∀ d ∈ ds, (listed.setIfInBounds j true).getD d true = false → Region.reachB md ops i n d = true := fun d hm hun => by
    refine hd d hm ?_
    by_cases hjk : j = d
    ·subst hjk; exact hjun
    ·rw [getD_set_ne true hjk] at hun; exact hun
   refine wpOp_mono (fun a' w' h3 => ⟨h3.2.1, ih (listed.setIfInBounds j true) a' w' hfree' (hc.set hj) hd' (ready_mono hr (Ne.symm hji)) h3.1 (h3.2.1 hjd hS) ?_⟩) h2
   rw [Array.setIfInBounds_comm _ _ hji]
   exact h3.2.2
theorem wpAnyLast_any {i : Nat} {oi : Oper} {v : Value} (hi : ops[i]? = some oi) (hsel : ∀ (j : Nat) (o : Oper) cs b, ops[j]? = some o → o.op ≠ .select cs b)
  (hQ : ∀ c a w, Q (.panic c) (a.put oi.dst v) w → Q (.panic c) a w) :
  ∀ (fuel : Nat) (listed : Array Bool) (a : Act) (w : World),
   (∀ j oj, ops[j]? = some oj → j ≠ i → listed.getD j true = false → (∀ e ∈ oj.after, Region.binds md e = true → e.on ≠ i) → oi.apart ops oj = true) →
   i ∈ Region.ready md ops listed → Yields P ops oi v a →
   wpAnyLast P md ops Q S ds fuel (listed.setIfInBounds i true) (a.put oi.dst v) w → wpAnyLast P md ops Q S ds (fuel + 1) listed a w := by
 intro fuel
 induction fuel with
 | zero =>
  intro listed a w _ hr hy H
  refine ⟨fun h => (by rw [h] at hr; cases hr), fun j hj => ?_⟩
  by_cases hji : j = i
  ·subst hji; exact (hy.yieldsIf (S := fun _ => True)).wpOp hi trivial ⟨fun _ h => h, H⟩
  ·have := ready_mono hj hji
   rw [H.1] at this
   cases this
 | succ fuel ih =>
  intro listed a w hfree hr hy H
  refine ⟨fun h => (by rw [h] at hr; cases hr), fun j hj => ?_⟩
  by_cases hji : j = i
  ·subst hji; exact (hy.yieldsIf (S := fun _ => True)).wpOp hi trivial ⟨fun _ h => h, H⟩
  ·have h1 := H.2 j (ready_mono hj hji)
   obtain ⟨hjun, oj, hoj, hall⟩ := mem_ready.1 hj
   have hiun := (mem_ready.1 hr).1
   have hnot : ∀ e ∈ oj.after, Region.binds md e = true → e.on ≠ i := fun e he hb heq => by
    have h1 := hall e he hb
    rw [heq] at h1
    rcases Nat.lt_or_ge i listed.size with h' | h'
    ·simp [h'] at hiun h1; rw [hiun] at h1; cases h1
    ·simp [Array.getElem?_eq_none h'] at h1
   have h2 := wpOp_put hoj (hfree j oj hoj hji hjun hnot) (fun cs b => hsel i oi cs b hi) (fun cs b => hsel j oj cs b hoj) hQ hy h1
   have hfree' : ∀ k ok, ops[k]? = some ok → k ≠ i → (listed.setIfInBounds j true).getD k true = false →
     (∀ e ∈ ok.after, Region.binds md e = true → e.on ≠ i) → oi.apart ops ok = true := fun k ok hk hki hun hno => by
    refine hfree k ok hk hki ?_ hno
    by_cases hjk : j = k
    ·subst hjk; exact hjun
    ·rw [getD_set_ne true hjk] at hun; exact hun
   refine wpOp_mono (fun a' w' h3 => ⟨h3.2.1, ih (listed.setIfInBounds j true) a' w' hfree' (ready_mono hr (Ne.symm hji)) h3.1 ?_⟩) h2
   rw [Array.setIfInBounds_comm _ _ hji]
   exact h3.2.2
theorem wpAnyLast_take {i : Nat} {oi : Oper} {v : Value} {fuel : Nat} {listed : Array Bool} {a : Act} {w : World} (hi : ops[i]? = some oi)
  (hs : Region.noSelect ops = true) (hf : Region.free md ops listed i = true) (hr : (Region.ready md ops listed).contains i = true)
  (hc : Region.closedB md ops listed = true) (hl : Region.lastB md ops listed ds i = true)
  (hQ : ∀ c a w, Q (.panic c) (a.put oi.dst v) w → Q (.panic c) a w) (hy : YieldsIf P ops S oi v a) (hS : S w)
  (h : wpAnyLast P md ops Q S ds fuel (listed.setIfInBounds i true) (a.put oi.dst v) w) : wpAnyLast P md ops Q S ds (fuel + 1) listed a w :=
 wpAnyLast_first hi (Region.noSelect_spec hs) hQ ops.size fuel listed a w (Region.free_spec hi hf) (Region.closedB_spec hc)
  (fun d hm hun => by have := List.all_eq_true.1 hl d hm; rw [hun] at this; simpa using this) (by simpa using hr) hy hS h
theorem wpAnyLast_all {rs : List Nat} {fuel : Nat} {listed : Array Bool} {a : Act} {w : World} (hr : Region.ready md ops listed = rs) (hne : rs ≠ [])
  (h : ∀ i ∈ rs, wpOp P ops Q i (fun a' w' => (i ∉ ds → S w → S w') ∧ wpAnyLast P md ops Q S ds fuel (listed.setIfInBounds i true) a' w') a w) : wpAnyLast P md ops Q S ds (fuel + 1) listed a w :=
 ⟨fun h0 => absurd (hr ▸ h0) hne, hr ▸ h⟩
theorem wpAnyLast_done {listed : Array Bool} {a : Act} {w : World} (hr : Region.ready md ops listed = []) (h : Q .normal a w) :
  ∀ fuel, wpAnyLast P md ops Q S ds fuel listed a w
 | 0 => ⟨hr, h⟩
 | _ + 1 => ⟨fun _ => h, by rw [hr]; simp⟩
theorem wp_region_last {id : Nat} {a : Act} {w : World} (hm : P.follows .mixedOrders = true)
  (h : wpAnyLast P .any ops Q S ds ops.size (Array.replicate ops.size false) a { w with drawn := w.drawn + 1 }) : (Code.region id ops true).wp P Q a w :=
 wp_region_any hm (wpAny_of_last _ _ _ _ h)
end
section
variable {P : Program} {ops : Array Oper} {Q : Exit → Act → World → Prop} {md : Region.Mode} {S : World → Prop} {ds : List Nat}
def AllReadyL (P : Program) (md : Region.Mode) (ops : Array Oper) (Q : Exit → Act → World → Prop) (S : World → Prop) (ds : List Nat) (fuel : Nat) (listed : Array Bool) (a : Act) (w : World) (rs : List Nat) : Prop :=
 ∀ i ∈ rs, wpOp P ops Q i (fun a' w' => (i ∉ ds → S w → S w') ∧ wpAnyLast P md ops Q S ds fuel (listed.setIfInBounds i true) a' w') a w
theorem AllReadyL.nil {fuel : Nat} {listed : Array Bool} {a : Act} {w : World} : AllReadyL P md ops Q S ds fuel listed a w [] := fun _ h => by cases h
theorem AllReadyL.cons {fuel : Nat} {listed : Array Bool} {a : Act} {w : World} {i : Nat} {o : Oper} {rs : List Nat} (ho : ops[i]? = some o) (hd : i ∉ ds)
  (h : ∀ K' : Act → World → Prop, Shut (∀ a w, S w → (S w → wpAnyLast P md ops Q S ds fuel (listed.setIfInBounds i true) a w) → K' a w) → if Region.wanted o (yielded ops a.tmps) = true then Oper.wp P o a w K' Q else K' (a.put o.dst undef) w)
  (hs : AllReadyL P md ops Q S ds fuel listed a w rs) : AllReadyL P md ops Q S ds fuel listed a w (i :: rs) := fun j hj => by
 rcases List.mem_cons.1 hj with rfl | hj
 ·exact wpOp_step ho (fun K' hK => h K' (fun a w hS hW => hK a w ⟨fun _ _ => hS, hW hS⟩))
 ·exact hs j hj
theorem AllReadyL.cons_last {fuel : Nat} {listed : Array Bool} {a : Act} {w : World} {i : Nat} {o : Oper} {rs : List Nat} (ho : ops[i]? = some o) (hd : i ∈ ds)
  (h : ∀ K' : Act → World → Prop, Shut (∀ a w, wpAnyLast P md ops Q S ds fuel (listed.setIfInBounds i true) a w → K' a w) → if Region.wanted o (yielded ops a.tmps) = true then Oper.wp P o a w K' Q else K' (a.put o.dst undef) w)
  (hs : AllReadyL P md ops Q S ds fuel listed a w rs) : AllReadyL P md ops Q S ds fuel listed a w (i :: rs) := fun j hj => by
 rcases List.mem_cons.1 hj with rfl | hj
 ·exact wpOp_step ho (fun K' hK => h K' (fun a w hW => hK a w ⟨fun hn => absurd hd hn, hW⟩))
 ·exact hs j hj
theorem wpAnyLast_ready {rs : List Nat} {fuel : Nat} {listed : Array Bool} {a : Act} {w : World} (hr : Region.ready md ops listed = rs) (hne : rs ≠ [])
  (h : AllReadyL P md ops Q S ds fuel listed a w rs) : wpAnyLast P md ops Q S ds (fuel + 1) listed a w := wpAnyLast_all hr hne h
theorem start_ {id n : Nat} {a : Act} {w : World} (l : Array Bool) (hm : P.follows .mixedOrders = true) (hn : ops.size = n) (hl : Array.replicate n false = l) (hS : S w.drew)
  (h : S w.drew → wpAnyLast P .any ops Q S ds n l a w.drew) : (Code.region id ops true).wp P Q a w := by
 subst hn
 subst hl
 exact wp_region_last hm (h hS)
def takeB (md : Region.Mode) (ops : Array Oper) (ds : List Nat) (l l' : Array Bool) (i : Nat) : Bool :=
 Region.noSelect ops && Region.free md ops l i && (Region.ready md ops l).contains i && Region.closedB md ops l && Region.lastB md ops l ds i && (l.setIfInBounds i true == l')
theorem take_ {i : Nat} {N : Option Tmp} {oi : Oper} {v : Value} {fuel : Nat} {l : Array Bool} {a : Act} {w : World} (l' : Array Bool) (hi : ops[i]? = some oi) (hN : oi.dst = N) (hc : takeB md ops ds l l' i = true)
  (hQ : ∀ c a w, Q (.panic c) (a.put oi.dst v) w → Q (.panic c) a w) (hy : YieldsIf P ops S oi v a) (hS : S w) {a' : Act} (ha : a.put N v = a')
  (h : wpAnyLast P md ops Q S ds fuel l' a' w) : wpAnyLast P md ops Q S ds (fuel + 1) l a w := by
 subst ha
 subst hN
 simp only [takeB, Bool.and_eq_true, beq_iff_eq] at hc
 obtain ⟨⟨⟨⟨⟨h1, h2⟩, h3⟩, h4⟩, h5⟩, h6⟩ := hc
 subst h6
 exact wpAnyLast_take hi h1 h2 h3 h4 h5 hQ hy hS h
def anyB (md : Region.Mode) (ops : Array Oper) (l l' : Array Bool) (i : Nat) : Bool :=
 Region.noSelect ops && Region.free md ops l i && (Region.ready md ops l).contains i && (l.setIfInBounds i true == l')
theorem pure_ {i : Nat} {N : Option Tmp} {oi : Oper} {v : Value} {fuel : Nat} {l : Array Bool} {a : Act} {w : World} (l' : Array Bool) (hi : ops[i]? = some oi) (hN : oi.dst = N) (hc : anyB md ops l l' i = true)
  (hQ : ∀ c a w, Q (.panic c) (a.put oi.dst v) w → Q (.panic c) a w) (hy : Yields P ops oi v a) {a' : Act} (ha : a.put N v = a')
  (h : wpAnyLast P md ops Q S ds fuel l' a' w) : wpAnyLast P md ops Q S ds (fuel + 1) l a w := by
 subst ha
 subst hN
 simp only [anyB, Bool.and_eq_true, beq_iff_eq] at hc
 obtain ⟨⟨⟨h1, h2⟩, h3⟩, h6⟩ := hc
 subst h6
 exact wpAnyLast_any hi (Region.noSelect_spec h1) hQ fuel l a w (Region.free_spec hi h2) (by simpa using h3) hy h
def readyB (md : Region.Mode) (ops : Array Oper) (l l' : Array Bool) (i : Nat) : Bool := (Region.ready md ops l == [i]) && (l.setIfInBounds i true == l')
theorem one_ {i : Nat} {N : Option Tmp} {oi : Oper} {fuel : Nat} {l : Array Bool} {a : Act} {w : World} (l' : Array Bool) (hi : ops[i]? = some oi) (hN : oi.dst = N) (hc : readyB md ops l l' i = true) (hd : i ∉ ds)
  (h : ∀ K : Act → World → Prop, Shut (∀ a' w', S w' → (S w' → wpAnyLast P md ops Q S ds fuel l' a' w') → K a' w') → if Region.wanted oi (yielded ops a.tmps) = true then Oper.wp P oi a w K Q else K (a.put N undef) w) :
  wpAnyLast P md ops Q S ds (fuel + 1) l a w := by
 subst hN
 simp only [readyB, Bool.and_eq_true, beq_iff_eq] at hc
 obtain ⟨h1, h2⟩ := hc
 subst h2
 exact wpAnyLast_ready h1 (by simp) (AllReadyL.cons hi hd (fun K hK => h K hK) AllReadyL.nil)
theorem last_ {i : Nat} {N : Option Tmp} {oi : Oper} {fuel : Nat} {l : Array Bool} {a : Act} {w : World} (l' : Array Bool) (hi : ops[i]? = some oi) (hN : oi.dst = N) (hc : readyB md ops l l' i = true) (hd : i ∈ ds)
  (h : ∀ K : Act → World → Prop, Shut (∀ a' w', wpAnyLast P md ops Q S ds fuel l' a' w' → K a' w') → if Region.wanted oi (yielded ops a.tmps) = true then Oper.wp P oi a w K Q else K (a.put N undef) w) :
  wpAnyLast P md ops Q S ds (fuel + 1) l a w := by
 subst hN
 simp only [readyB, Bool.and_eq_true, beq_iff_eq] at hc
 obtain ⟨h1, h2⟩ := hc
 subst h2
 exact wpAnyLast_ready h1 (by simp) (AllReadyL.cons_last hi hd (fun K hK => h K hK) AllReadyL.nil)
theorem done_ {l : Array Bool} {a : Act} {w : World} {n : Nat} (hr : (Region.ready md ops l == []) = true) (h : Q .normal a w) : wpAnyLast P md ops Q S ds n l a w := wpAnyLast_done (by simpa using hr) h n
theorem two_ {i j : Nat} {Ni Nj : Option Tmp} {oi oj : Oper} {fuel : Nat} {l : Array Bool} {a : Act} {w : World} (li lj : Array Bool) (hi : ops[i]? = some oi) (hj : ops[j]? = some oj) (hNi : oi.dst = Ni) (hNj : oj.dst = Nj)
  (hc : (Region.ready md ops l == [i, j] && l.setIfInBounds i true == li && l.setIfInBounds j true == lj) = true) (hdi : i ∉ ds) (hdj : j ∉ ds)
  (h1 : ∀ K : Act → World → Prop, Shut (∀ a' w', S w' → (S w' → wpAnyLast P md ops Q S ds fuel li a' w') → K a' w') → if Region.wanted oi (yielded ops a.tmps) = true then Oper.wp P oi a w K Q else K (a.put Ni undef) w)
  (h2 : ∀ K : Act → World → Prop, Shut (∀ a' w', S w' → (S w' → wpAnyLast P md ops Q S ds fuel lj a' w') → K a' w') → if Region.wanted oj (yielded ops a.tmps) = true then Oper.wp P oj a w K Q else K (a.put Nj undef) w) :
  wpAnyLast P md ops Q S ds (fuel + 1) l a w := by
 subst hNi
 subst hNj
 simp only [Bool.and_eq_true, beq_iff_eq] at hc
 obtain ⟨⟨h3, h4⟩, h5⟩ := hc
 subst h4
 subst h5
 exact wpAnyLast_ready h3 (by simp) (AllReadyL.cons hi hdi (fun K hK => h1 K hK) (AllReadyL.cons hj hdj (fun K hK => h2 K hK) AllReadyL.nil))
def putAll : Act → List (Tmp × Value) → Act
 | a, [] => a
 | a, (n, v) :: r => putAll (a.put (some n) v) r
theorem join_ {σ : Type} {fuel : Nat} {l : Array Bool} {a : Act} {w : World} (fuel' : Nat) (l' : Array Bool) (ns : σ → List (Tmp × Value)) (F : σ → World → Prop)
  (hcont : ∀ s w', F s w' → wpAnyLast P md ops Q S ds fuel' l' (putAll a (ns s)) w')
  (h : (∀ s w', F s w' → wpAnyLast P md ops Q S ds fuel' l' (putAll a (ns s)) w') → wpAnyLast P md ops Q S ds fuel l a w) : wpAnyLast P md ops Q S ds fuel l a w := h hcont
theorem norm_ {fuel : Nat} {l : Array Bool} {a a' : Act} {w : World} (ha : a = a') (h : wpAnyLast P md ops Q S ds fuel l a' w) : wpAnyLast P md ops Q S ds fuel l a w := by
 subst ha
 exact h
theorem call_ {oi : Oper} {N : Option Tmp} {a : Act} {w : World} {K : Act → World → Prop} (f : FuncId) (args : Array Value) (hw : Region.wanted oi (yielded ops a.tmps) = true) (hN : oi.dst = N) (hrun : (execOp a.eval oi).run P w = .ok (.enter f args) w)
  (h : Calls P f args w fun e w' => ∃ v, e = .returned v ∧ K (a.put N v) w') : if Region.wanted oi (yielded ops a.tmps) = true then Oper.wp P oi a w K Q else K (a.put N undef) w := by
 rw [if_pos hw]
 subst hN
 unfold Oper.wp
 rw [hrun, Oper.upon_enter]
 refine h.mono fun e w'' hh => ?_
 obtain ⟨v, rfl, hk⟩ := hh
 exact hk
theorem enters_ {f : FuncId} {fn : Func} (hf : P.funcs[f]? = some fn) (hname : (fn.name == "runtime.NumGoroutine") = false) (hb : fn.body.isSome = true) (args : Array Value) (w : World) : (callFunc f args).run P w = .ok (.enter f args) w := by
 have h1 : fn.name ≠ "runtime.NumGoroutine" := by simpa using hname
 obtain ⟨c, hc⟩ := Option.isSome_iff_exists.1 hb
 simp [callFunc, hf, h1, hc]
theorem goes_ {oi : Oper} {N : Option Tmp} {a : Act} {w : World} {K : Act → World → Prop} {f : FuncId} {fn : Func} {as1 : Array Operand} {ts : Array TypeId} (hf : P.funcs[f]? = some fn) (hname : (fn.name == "runtime.NumGoroutine") = false) (hb : fn.body.isSome = true) (args : Array Value)
  (hw : Region.wanted oi (yielded ops a.tmps) = true) (hN : oi.dst = N) (hop : oi.op = .call { callee := .value (.func f), args := as1, argTypes := ts }) (hargs : as1.map a.eval = args)
  (h : Calls P f args w fun e w' => ∃ v, e = .returned v ∧ K (a.put N v) w') : if Region.wanted oi (yielded ops a.tmps) = true then Oper.wp P oi a w K Q else K (a.put N undef) w := by
 refine call_ f args hw hN ?_ h
 have he := enters_ hf hname hb args w
 unfold execOp
 simp [hop, resolve, Deferred.ofValue, invoke, Act.eval, hargs, he]
theorem goesL_ {rest : List Oper} {oi : Oper} {a : Act} {w : World} (N : Option Tmp) (hd : oi.dst = N) (hg : oi.guard = none) {f : FuncId} {fn : Func} {as1 : Array Operand} {ts : Array TypeId} (hf : P.funcs[f]? = some fn) (hname : (fn.name == "runtime.NumGoroutine") = false) (hb : fn.body.isSome = true) (args : Array Value)
  (hop : oi.op = .call { callee := .value (.func f), args := as1, argTypes := ts }) (hargs : as1.map a.eval = args)
  (h : Calls P f args w fun e w' => ∃ v, e = .returned v ∧ wpList P ops Q rest (a.put N v) w') : wpList P ops Q (oi :: rest) a w := by
 refine wpList_plain hg fun K hK => ?_
 have he := enters_ hf hname hb args w
 have hrun : (execOp a.eval oi).run P w = .ok (.enter f args) w := by
  unfold execOp
  simp [hop, resolve, Deferred.ofValue, invoke, Act.eval, hargs, he]
 unfold Oper.wp
 rw [hrun, Oper.upon_enter]
 refine h.mono fun e w'' hh => ?_
 obtain ⟨v, rfl, hk⟩ := hh
 subst hd
 exact hK _ _ hk
theorem skip_ {oi : Oper} {a : Act} {w w1 : World} {K : Act → World → Prop} (hw : Region.wanted oi (yielded ops a.tmps) = true) (hN : oi.dst = none) (hrun : (execOp a.eval oi).run P w = .ok .skip w1)
  (h : K a w1) : if Region.wanted oi (yielded ops a.tmps) = true then Oper.wp P oi a w K Q else K (a.put none undef) w := by
 rw [if_pos hw]
 unfold Oper.wp
 rw [hrun]
 show K (a.put oi.dst undef) w1
 rw [hN]
 exact h
theorem i64_w (n : Int) : IntKind.i64.wrap n = Go.RowKit.wrap64 n := by unfold Go.RowKit.wrap64; exact IntKind.wrap_i64 n
theorem i32_w (n : Int) : IntKind.i32.wrap n = Go.RowKit.wrap32 n := by unfold Go.RowKit.wrap32; exact IntKind.wrap_i32 n
end
end Go.Proofs.YtibbdjkboglepaaW.PrintLast
namespace Go.Proofs.YtibbdjkboglepaaW.PrintLast
open Go.Proofs.YtibbdjkboglepaaW.PrintWords (Aside0)
def needsOf (md : Region.Mode) (o : Oper) : List Nat := (o.after.toList.filter (fun e => Region.binds md e)).map (fun e => e.on)
def clashOf (md : Region.Mode) (ops : Array Oper) (i : Nat) (oi : Oper) : List Nat := (List.range ops.size).filter fun j => !(j == i) && match ops[j]? with
 | some oj => !(oj.after.any (fun e => Region.binds md e && e.on == i) || oi.apart ops oj)
 | none => false
def rtab (md : Region.Mode) (ops : Array Oper) : Bool × List (List Nat × List Nat) := (Region.noSelect ops, (List.range ops.size).map fun i => match ops[i]? with
 | some o => (needsOf md o, clashOf md ops i o)
 | none => ([], []))
def readyAt (T : List (List Nat × List Nat)) (l : List Bool) (i : Nat) : Bool := !l.getD i true && match T[i]? with
 | some r => r.1.all (fun j => l.getD j false)
 | none => false
def readyT (T : List (List Nat × List Nat)) (l : List Bool) : List Nat := (List.range T.length).filter (readyAt T l)
def freeT (T : List (List Nat × List Nat)) (l : List Bool) (i : Nat) : Bool := match T[i]? with
 | some r => r.2.all (fun j => l.getD j true)
 | none => false
def closedT (T : List (List Nat × List Nat)) (l : List Bool) : Bool := (List.range T.length).all fun j => !l.getD j false || match T[j]? with
 | some r => r.1.all (fun k => l.getD k false)
 | none => true
def reachT (T : List (List Nat × List Nat)) (i : Nat) : Nat → Nat → Bool
 | 0, _ => false
 | fuel + 1, d => match T[d]? with
  | some r => r.1.any fun j => j == i || reachT T i fuel j
  | none => false
def lastT (T : List (List Nat × List Nat)) (l : List Bool) (ds : List Nat) (i : Nat) : Bool := ds.all fun d => l.getD d true || reachT T i T.length d
section
variable {md : Region.Mode} {ops : Array Oper} {T : Bool × List (List Nat × List Nat)} {l l' li lj lk : Array Bool} {ds : List Nat} {i j k : Nat}
theorem gd (l : Array Bool) (j : Nat) (b : Bool) : l.getD j b = l.toList.getD j b := by simp [Array.getD_eq_getD_getElem?, List.getD_eq_getElem?_getD]
theorem needs_all (o : Oper) (p : Nat → Bool) : o.after.all (fun e => !Region.binds md e || p e.on) = (needsOf md o).all p := by
 unfold needsOf
 rw [← Array.all_toList]
 induction o.after.toList with
 | nil => rfl
 | cons e r ih =>
  rw [List.all_cons, ih, List.filter_cons]
  cases h : Region.binds md e <;> simp
theorem needs_any (o : Oper) (p : Nat → Bool) : o.after.any (fun e => Region.binds md e && p e.on) = (needsOf md o).any p := by
 unfold needsOf
 rw [← Array.any_toList]
 induction o.after.toList with
 | nil => rfl
 | cons e r ih =>
  rw [List.any_cons, ih, List.filter_cons]
  cases h : Region.binds md e <;> simp
theorem rtab_length : (rtab md ops).2.length = ops.size := by simp [rtab]
theorem rtab_some {o : Oper} (h : ops[i]? = some o) : (rtab md ops).2[i]? = some (needsOf md o, clashOf md ops i o) := by
 have hi := (Array.getElem?_eq_some_iff.1 h).1
 unfold rtab
 rw [List.getElem?_map, List.getElem?_range hi, Option.map_some, h]
theorem rtab_none (h : ops[i]? = none) : (rtab md ops).2[i]? = none := by
 have hi : ops.size ≤ i := Array.getElem?_eq_none_iff.1 h
 exact List.getElem?_eq_none (by rw [rtab_length]; exact hi)
theorem readyAt_eq : readyAt (rtab md ops).2 l.toList i = (!l.getD i true && ((ops[i]?).map (·.after.all fun e => !Region.binds md e || l.getD e.on false)).getD false) := by
 unfold readyAt
 rw [gd]
 cases h : ops[i]? with
 | none => rw [rtab_none h]; rfl
 | some o =>
  rw [rtab_some h]
  simp only [Option.map_some, Option.getD_some]
  rw [← needs_all]
  simp only [gd]
theorem ready_eq : Region.ready md ops l = readyT (rtab md ops).2 l.toList := by
 unfold Region.ready readyT
 rw [rtab_length]
 refine List.filter_congr (fun i _ => ?_)
 rw [readyAt_eq]
theorem free_eq : Region.free md ops l i = freeT (rtab md ops).2 l.toList i := by
 unfold Region.free freeT
 cases h : ops[i]? with
 | none => rw [rtab_none h]
 | some oi =>
  rw [rtab_some h]
  simp only [clashOf]
  rw [List.all_filter]
  congr 1
  funext j
  rw [gd]
  cases hj : ops[j]? with
  | none => cases (j == i) <;> cases (l.toList.getD j true) <;> simp
  | some oj =>
   cases (j == i) <;> cases (l.toList.getD j true) <;> cases (oj.after.any (fun e => Region.binds md e && e.on == i) || oi.apart ops oj) <;> simp_all
theorem closed_eq : Region.closedB md ops l = closedT (rtab md ops).2 l.toList := by
 unfold Region.closedB closedT
 rw [rtab_length]
 congr 1
 funext j
 rw [gd]
 cases h : ops[j]? with
 | none => rw [rtab_none h]
 | some o =>
  rw [rtab_some h]
  simp only
  rw [← needs_all]
  simp only [gd]
theorem reach_eq : ∀ (fuel d : Nat), Region.reachB md ops i fuel d = reachT (rtab md ops).2 i fuel d
 | 0, _ => rfl
 | fuel + 1, d => by
  unfold Region.reachB reachT
  cases h : ops[d]? with
  | none => rw [rtab_none h]
  | some o =>
   rw [rtab_some h]
   simp only
   rw [← needs_any]
   congr 1
   funext e
   rw [reach_eq fuel]
theorem last_eq : Region.lastB md ops l ds i = lastT (rtab md ops).2 l.toList ds i := by
 unfold Region.lastB lastT
 rw [rtab_length]
 congr 1
 funext d
 rw [gd, reach_eq]
theorem readyAt_mem (h : readyAt T.2 l.toList i = true) (hT : rtab md ops = T) : (Region.ready md ops l).contains i = true := by
 subst hT
 rw [ready_eq]
 unfold readyT
 rw [List.contains_iff_mem, List.mem_filter, List.mem_range]
 refine ⟨?_, h⟩
 unfold readyAt at h
 rw [Bool.and_eq_true] at h
 cases hq : (rtab md ops).2[i]? with
 | none => rw [hq] at h; simp at h
 | some r => exact (List.getElem?_eq_some_iff.1 hq).1
theorem set_of (h : (l.toList.set i true == l'.toList) = true) : (l.setIfInBounds i true == l') = true := by
 rw [beq_iff_eq] at h ⊢
 apply Array.ext'
 rw [Array.toList_setIfInBounds]
 exact h
def anyT (T : Bool × List (List Nat × List Nat)) (l l' : List Bool) (i : Nat) : Bool := T.1 && freeT T.2 l i && readyAt T.2 l i && (l.set i true == l')
theorem any_of (hT : rtab md ops = T) (h : anyT T l.toList l'.toList i = true) : anyB md ops l l' i = true := by
 simp only [anyT, Bool.and_eq_true] at h
 obtain ⟨⟨⟨h1, h2⟩, h3⟩, h4⟩ := h
 have h5 := readyAt_mem h3 hT
 have h6 := set_of h4
 subst hT
 simp only [anyB, Bool.and_eq_true]
 exact ⟨⟨⟨h1, by rw [free_eq]; exact h2⟩, h5⟩, h6⟩
def takeT (T : Bool × List (List Nat × List Nat)) (ds : List Nat) (l l' : List Bool) (i : Nat) : Bool := T.1 && freeT T.2 l i && readyAt T.2 l i && closedT T.2 l && lastT T.2 l ds i && (l.set i true == l')
theorem take_of (hT : rtab md ops = T) (h : takeT T ds l.toList l'.toList i = true) : takeB md ops ds l l' i = true := by
 simp only [takeT, Bool.and_eq_true] at h
 obtain ⟨⟨⟨⟨⟨h1, h2⟩, h3⟩, h4⟩, h5⟩, h6⟩ := h
 have h7 := readyAt_mem h3 hT
 have h8 := set_of h6
 subst hT
 simp only [takeB, Bool.and_eq_true]
 exact ⟨⟨⟨⟨⟨h1, by rw [free_eq]; exact h2⟩, h7⟩, by rw [closed_eq]; exact h4⟩, by rw [last_eq]; exact h5⟩, h8⟩
theorem one_of (hT : rtab md ops = T) (h : (readyT T.2 l.toList == [i] && l.toList.set i true == l'.toList) = true) : readyB md ops l l' i = true := by
 simp only [Bool.and_eq_true] at h
 obtain ⟨h1, h2⟩ := h
 subst hT
 simp only [readyB, Bool.and_eq_true]
 exact ⟨by rw [ready_eq]; exact h1, set_of h2⟩
theorem two_of (hT : rtab md ops = T) (h : (readyT T.2 l.toList == [i, j] && l.toList.set i true == li.toList && l.toList.set j true == lj.toList) = true) : (Region.ready md ops l == [i, j] && l.setIfInBounds i true == li && l.setIfInBounds j true == lj) = true := by
 simp only [Bool.and_eq_true] at h ⊢
 obtain ⟨⟨h1, h2⟩, h3⟩ := h
 subst hT
 exact ⟨⟨by rw [ready_eq]; exact h1, set_of h2⟩, set_of h3⟩
theorem three_of (hT : rtab md ops = T) (h : (readyT T.2 l.toList == [i, j, k] && l.toList.set i true == li.toList && l.toList.set j true == lj.toList && l.toList.set k true == lk.toList) = true) :
  (Region.ready md ops l == [i, j, k] && l.setIfInBounds i true == li && l.setIfInBounds j true == lj && l.setIfInBounds k true == lk) = true := by
 simp only [Bool.and_eq_true] at h ⊢
 obtain ⟨⟨⟨h1, h2⟩, h3⟩, h4⟩ := h
 subst hT
 exact ⟨⟨⟨by rw [ready_eq]; exact h1, set_of h2⟩, set_of h3⟩, set_of h4⟩
theorem done_of (hT : rtab md ops = T) (h : (readyT T.2 l.toList == []) = true) : (Region.ready md ops l == []) = true := by
 subst hT
 rw [ready_eq]
 exact h
def upM (B : List Nat) (d : Nat) : List Nat → Nat
 | [] => 0
 | n :: r => (2 ^ n ||| (if n < d then B.getD n 0 else 0)) ||| upM B d r
def waitsOk (T : List (List Nat × List Nat)) (B : List Nat) : Bool := (List.range T.length).all fun d => match T[d]? with
 | some r => (B.getD d 0 ||| upM B d r.1) == upM B d r.1
 | none => false
theorem upM_bit {B : List Nat} {d i : Nat} : ∀ {ns : List Nat}, (upM B d ns).testBit i = true → ∃ n ∈ ns, n = i ∨ (n < d ∧ (B.getD n 0).testBit i = true)
 | [], h => by simp [upM] at h
 | n :: r, h => by
  unfold upM at h
  rw [Nat.testBit_or, Nat.testBit_or, Bool.or_eq_true, Bool.or_eq_true] at h
  rcases h with (h | h) | h
  ·rw [Nat.testBit_two_pow] at h
   exact ⟨n, List.mem_cons_self, .inl (by simpa using h)⟩
  ·by_cases hn : n < d
   ·rw [if_pos hn] at h
    exact ⟨n, List.mem_cons_self, .inr ⟨hn, h⟩⟩
   ·rw [if_neg hn] at h
    simp at h
  ·obtain ⟨m, hm, h2⟩ := upM_bit h
   exact ⟨m, List.mem_cons_of_mem _ hm, h2⟩
theorem reach_bit {T : List (List Nat × List Nat)} {B : List Nat} (hB : waitsOk T B = true) : ∀ (fuel d : Nat), d < fuel → d < T.length → (B.getD d 0).testBit i = true → reachT T i fuel d = true
 | 0, d, h, _, _ => by omega
 | fuel + 1, d, h, hd, hb => by
  have h1 := List.all_eq_true.1 hB d (List.mem_range.2 hd)
  cases hr : T[d]? with
  | none => rw [hr] at h1; simp at h1
  | some r =>
   rw [hr] at h1
   simp only [beq_iff_eq] at h1
   have h2 : (upM B d r.1).testBit i = true := by rw [← h1, Nat.testBit_or, hb, Bool.true_or]
   obtain ⟨n, hn, h3⟩ := upM_bit h2
   unfold reachT
   rw [hr]
   simp only
   rw [List.any_eq_true]
   refine ⟨n, hn, ?_⟩
   rcases h3 with rfl | ⟨h4, h5⟩
   ·simp
   ·rw [reach_bit hB fuel n (by omega) (by omega) h5, Bool.or_true]
def lastW (T : List (List Nat × List Nat)) (B : List Nat) (l : List Bool) (ds : List Nat) (i : Nat) : Bool := ds.all fun d => l.getD d true || (decide (d < T.length) && (B.getD d 0).testBit i)
def takeW (T : Bool × List (List Nat × List Nat)) (B : List Nat) (ds : List Nat) (l l' : List Bool) (i : Nat) : Bool := T.1 && freeT T.2 l i && readyAt T.2 l i && closedT T.2 l && lastW T.2 B l ds i && (l.set i true == l')
theorem take_ofW {B : List Nat} (hT : rtab md ops = T) (hB : waitsOk T.2 B = true) (h : takeW T B ds l.toList l'.toList i = true) : takeB md ops ds l l' i = true := by
 refine take_of hT ?_
 simp only [takeW, takeT, Bool.and_eq_true] at h ⊢
 obtain ⟨⟨⟨⟨⟨h1, h2⟩, h3⟩, h4⟩, h5⟩, h6⟩ := h
 refine ⟨⟨⟨⟨⟨h1, h2⟩, h3⟩, h4⟩, ?_⟩, h6⟩
 unfold lastW at h5
 unfold lastT
 rw [List.all_eq_true] at h5 ⊢
 intro d hd
 have h7 := h5 d hd
 rw [Bool.or_eq_true, Bool.and_eq_true, decide_eq_true_eq] at h7
 rcases h7 with h7 | ⟨h8, h9⟩
 ·rw [h7, Bool.true_or]
 ·rw [reach_bit hB _ d h8 h8 h9, Bool.or_true]
theorem with_tabW {P : Program} {Q : Exit → Act → World → Prop} {S : World → Prop} {n : Nat} {a : Act} {w : World} {B : List Nat} (hT : rtab md ops = T) (hB : waitsOk T.2 B = true) (h : Aside0 (rtab md ops = T) → Aside0 (waitsOk T.2 B = true) → wpAnyLast P md ops Q S ds n l a w) : wpAnyLast P md ops Q S ds n l a w := h ⟨hT⟩ ⟨hB⟩
end
def opsIn : Code → Nat → Option (Array Oper)
 | .region id ops _, k => if id == k then some ops else none
 | .seq a b, k => match opsIn a k with
  | some o => some o
  | none => opsIn b k
 | .cond _ a b, k => match opsIn a k with
  | some o => some o
  | none => opsIn b k
 | .block _ c, k => opsIn c k
 | .loop c, k => opsIn c k
 | .scope c, k => opsIn c k
 | .rangeFunc _ _ a b, k => match opsIn a k with
  | some o => some o
  | none => opsIn b k
 | _, _ => none
def opsOf (f : Func) (k : Nat) : Array Oper := ((f.body.bind fun c => opsIn c k)).getD #[]
end Go.Proofs.YtibbdjkboglepaaW.PrintLast
namespace Go.Proofs.YtibbdjkboglepaaW.PrintLast
section
variable {P : Program} {ops : Array Oper} {Q : Exit → Act → World → Prop} {md : Region.Mode} {S : World → Prop} {ds : List Nat} {T : Bool × List (List Nat × List Nat)}
theorem five_of {i j k m n : Nat} {l li lj lk lm ln : Array Bool} (hT : rtab md ops = T) (h : (readyT T.2 l.toList == [i, j, k, m, n] && l.toList.set i true == li.toList && l.toList.set j true == lj.toList && l.toList.set k true == lk.toList && l.toList.set m true == lm.toList && l.toList.set n true == ln.toList) = true) : (Region.ready md ops l == [i, j, k, m, n] && l.setIfInBounds i true == li && l.setIfInBounds j true == lj && l.setIfInBounds k true == lk && l.setIfInBounds m true == lm && l.setIfInBounds n true == ln) = true := by
 simp only [Bool.and_eq_true] at h ⊢
 obtain ⟨⟨⟨⟨⟨hr, hsi⟩, hsj⟩, hsk⟩, hsm⟩, hsn⟩ := h
 subst hT
 exact ⟨⟨⟨⟨⟨by rw [ready_eq]; exact hr, set_of hsi⟩, set_of hsj⟩, set_of hsk⟩, set_of hsm⟩, set_of hsn⟩
end
end Go.Proofs.YtibbdjkboglepaaW.PrintLast
namespace Go.Proofs.YtibbdjkboglepaaW.PrintWords
open Go.RowKit
namespace Kd
def tag {α : Type} (f : Nat → Nat) (d : Kd α) : Kd (α × Nat) where
 sz := d.sz
 E := d.E
 K := fun w x cs => d.K w x.1 cs
 M := fun w base ok x cs => d.M w base (fun k => ok k ∧ f k = x.2) x.1 cs
 K_len := fun h => d.K_len h
 K_one := fun h => d.K_one h
 K_below := fun hb h => d.K_below hb h
 K_of_M := fun h => d.K_of_M h
 M_mono := fun hok h => d.M_mono (fun k hk => ⟨hok k hk.1, hk.2⟩) h
 M_bound := fun h => d.M_mono (fun _ hk => ⟨⟨hk.1.1, hk.2⟩, hk.1.2⟩) (d.M_bound h)
 M_move := fun hm h => d.M_move (fun k hk => hm k hk.1) h
 M_lower := fun hb h => d.M_lower hb h
def raw (sz : Nat) : Kd (List Value) where
 sz := sz
 E := []
 K := fun _ x cs => cs = x ∧ cs.length = sz ∧ ∀ u ∈ cs, u.oneCell' = true
 M := fun _ _ _ x cs => cs = x ∧ cs.length = sz ∧ ∀ u ∈ cs, u.oneCell' = true
 K_len := fun h => h.2.1
 K_one := fun h => h.2.2
 K_below := fun _ h => h
 K_of_M := fun h => h
 M_mono := fun _ h => h
 M_bound := fun h => h
 M_move := fun _ h => h
 M_lower := fun _ h => h
def S {α : Type} (d : Kd α) (e : Nat) (w : World) (base : Nat) (ok : Nat → Prop) (v : Value) (xs : List α) : Prop := ∃ f, (tag f d).R e w base ok v xs.zipIdx
section
variable {α β : Type} {d : Kd α} {d' : Kd β} {e e' : Nat} {w w1 W : World} {base b : Nat} {ok ok' okv oku : Nat → Prop} {u v : Value} {xs : List α} {ys : List β}
theorem zip_at {xs : List α} {j : Nat} {p : α} (h : xs[j]? = some p) : xs.zipIdx[j]? = some (p, j) := by rw [List.getElem?_zipIdx, h, Nat.zero_add]; rfl
theorem S_R (h : S d e w base ok v xs) : d.R e w base ok v xs := by
 obtain ⟨f, h0, inner, ho, hr⟩ := h
 rw [List.length_zipIdx] at ho
 exact ⟨h0, inner, ho, by have := hr.1; rw [List.length_zipIdx] at this; exact this, fun j p hj => d.M_mono (fun _ hk => hk.1) (hr.2 j (p, j) (zip_at hj))⟩
theorem R_head {ad : Addr} {n cap : Nat} (h : d.R e w base ok (.slice (some ad) n cap) xs) : ∃ g, ad = ⟨g, 0, none⟩ := by
 obtain ⟨_, inner, ho, hr⟩ := h
 rcases ho.2 with ⟨hv, _⟩ | ⟨g, cap', cur, hv, _⟩
 ·cases hv
 ·injection hv with ha _ _
  injection ha with ha
  exact ⟨g, ha⟩
theorem R_getA {ad : Addr} {n cap : Nat} (h : d.R e W base ok (.slice (some ad) n cap) xs) (z : α) (i : Int) (h0 : 0 ≤ i) (h1 : i < n) :
  ∃ c, c.length = d.sz ∧ d.M W base (fun k => ok k ∧ some k ≠ (Value.slice (some ad) n cap).ownBlock) (xs.getD i.toNat z) c ∧ ∀ j u, c[j]? = some u → W.cell? (ad.add (i.toNat * d.sz + j)) = some u := by
 obtain ⟨g, rfl⟩ := R_head h
 obtain ⟨c, hcl, hM, hcc, _⟩ := R_elem h z i h0 h1
 refine ⟨c, hcl, d.M_mono (fun k hk => ⟨hk.1, fun he => hk.2 (by simpa [Value.ownBlock] using he)⟩) hM, fun j u hu => ?_⟩
 rw [add_at, Nat.zero_add]
 exact hcc j u hu
theorem R_tight (hE : d.E = []) (h : d.R e w base ok v xs) : d.R e w base (fun k => some k = v.ownBlock) v xs := by
 obtain ⟨h0, inner, ho, hr⟩ := h
 refine ⟨fun k hk => hk.symm, inner, ho, hr.imp_ (fun p c hp => d.M_mono (fun k hk => ?_) (d.M_bound hp))⟩
 obtain ⟨_, _, _, q, hq, _⟩ := hk
 rw [hE] at hq
 cases hq
theorem S_nil (d : Kd α) (e : Nat) (w : World) (base : Nat) (ok : Nat → Prop) : S d e w base ok (.slice none 0 0) [] := ⟨fun _ => 0, R_nil _ _ _ _ _⟩
theorem S_mono (h : S d e w base ok v xs) (hok : ∀ k, ok k → ok' k) : S d e w base ok' v xs := by
 obtain ⟨f, h⟩ := h
 exact ⟨f, R_mono h hok⟩
theorem S_bound (h : S d e w base ok v xs) : S d e w base (fun k => ok k ∧ base ≤ k ∧ k < w.heap.size ∧ ∃ q, q ∈ e :: d.E ∧ ∃ cells, w.heap[k]? = some (.cells cells q (0, 0))) v xs := by
 obtain ⟨f, h⟩ := h
 exact ⟨f, R_bound h⟩
theorem S_move (h : S d e w base ok v xs) (hm : ∀ k, ok k → w1.heap[k]? = w.heap[k]?) : S d e w1 base ok v xs := by
 obtain ⟨f, h⟩ := h
 exact ⟨f, R_move h hm⟩
theorem S_step (h : S d e w base ok v xs) (hm : ∀ k, ok k → k < w.heap.size → w1.heap[k]? = w.heap[k]?) : S d e w1 base ok v xs :=
 S_mono (S_move (S_bound h) (fun k hk => hm k hk.1 hk.2.2.1)) (fun _ hk => hk.1)
theorem S_below (h : S d e w base ok v xs) (hb : Below w.heap.size w w1) : S d e w1 base ok v xs := S_step h (fun k _ hk => hb.block k hk)
theorem S_alloc (h : S d e w base ok v xs) (o : Obj) : S d e (w.alloc o) base ok v xs := S_below h (below_alloc (Below.refl _ _) o)
theorem S_drew (h : S d e w base ok v xs) : S d e w.drew base ok v xs := S_below h (below_drew (Below.refl _ _))
theorem S_drewN (h : S d e w base ok v xs) (m : Nat) : S d e (w.drewN m) base ok v xs := S_below h (pw_below_drewN (Below.refl _ _) m)
theorem S_typed (h : S d e w base ok v xs) : ∀ k, v.ownBlock = some k → ∃ cells, w.heap[k]? = some (.cells cells e (0, 0)) := R_typed (S_R h)
theorem S_elder' (h : S d e W base ok u xs) (hbase : ∀ k, v.ownBlock = some k → W.heap.size ≤ k) (hb : Below W.heap.size W w1) : S d e w1 base (fun k => ok k ∧ some k ≠ v.ownBlock) u xs := by
 obtain ⟨f, h⟩ := h
 exact ⟨f, R_elder' h hbase hb⟩
theorem S_after {v1 : Value} (h : S d e W base (fun k => ok k ∧ some k ≠ v.ownBlock) u xs) (hg : W.grownBy w1 v.ownBlock) (hat : v1.ownBlock = v.ownBlock ∨ ∃ b, v1.ownBlock = some b ∧ W.heap.size ≤ b) : S d e w1 base (fun k => ok k ∧ some k ≠ v1.ownBlock) u xs := by
 obtain ⟨f, h⟩ := h
 exact ⟨f, R_after h hg hat⟩
theorem R_tag {f f' : Nat → Nat} {zs : List (α × Nat)} (h : (tag f d).R e w base ok v zs) (hf : ∀ k, ok k → k < w.heap.size → f' k = f k) : (tag f' d).R e w base ok v zs := by
 obtain ⟨h0, inner, ho, hr⟩ := R_bound h
 exact ⟨fun k hk => (h0 k hk).1, inner, ho, hr.1, fun j p hj => d.M_mono (fun k hk => ⟨⟨hk.1.1.1, hk.1.2⟩, (hf k hk.1.1.1 hk.1.1.2.2.1).trans hk.2⟩) (hr.2 j p hj)⟩
end
section
variable {α β : Type} {d : Kd α} {d' : Kd β} {e e' g : Nat} {w w1 W : World} {base b : Nat} {ok ok' okv oku : Nat → Prop} {u v : Value} {xs : List α} {ys : List β}
theorem zip_snoc (xs : List α) (p : α) : (xs ++ [p]).zipIdx = xs.zipIdx ++ [(p, xs.length)] := by rw [List.zipIdx_append]; simp
end
section
open Classical in
theorem S_tag {α : Type} {d : Kd α} {e base : Nat} {okv : Nat → Prop} {w : World} {v : Value} {xs : List α} (h : S d e w base okv v xs) (m : Nat) (okp : Nat → Prop) (hap : ∀ k, okp k → ¬ okv k) : ∃ f, (∀ k, okp k → f k = m) ∧ (tag f d).R e w base okv v xs.zipIdx := by
 obtain ⟨f, h⟩ := h
 exact ⟨fun k => if okp k then m else f k, fun k hk => if_pos hk, R_tag h (fun k hk _ => if_neg (fun h2 => hap k h2 hk))⟩
variable {P : Program} {ops : Array Oper} {rest : List Oper} {o : Oper} {a : Act} {Q : Exit → Act → World → Prop} {Kc : Act → World → Prop} {α : Type}
theorem S_append (d : Kd α) {w0 W : World} (base : Nat) (hgd : o.guard = none) (s x : Operand) (t e : TypeId) (z : Value) (bytes : Nat)
  (ho : o.op = .call { callee := .builtin .append, args := #[s, x], argTypes := #[t, t] })
  (ht : P.underlying t = some (.slice e)) (hinfo : (P.info? e).map (fun i => (i.zero, i.size, i.bytes)) = some (some z, d.sz, bytes)) (hz : z.cells.size = d.sz) (hs0 : 0 < d.sz) (hb0 : 0 < bytes)
  (v : Value) (xs : List α) (p : α) (cs : List Value) (ok okp : Nat → Prop) (hs : a.eval s = v) (hx : a.eval x = .slice (some ⟨W.heap.size, 0, none⟩) 1 1) (hp : d.M W base okp p cs) (hokp : ∀ k, okp k → ok k ∧ some k ≠ v.ownBlock) (hfresh : ∀ k, W.heap.size ≤ k → ok k)
  (HO : S d e W base (fun k => ok k ∧ ¬ okp k) v xs) (HB : Below base w0 W) (hbase : base ≤ W.heap.size) (hl : (xs.length + 1) * bytes ≤ 140737488355328)
  (h : ∀ v1 w1, S d e w1 base ok v1 (xs ++ [p]) → Below base w0 w1 → W.grownBy w1 v.ownBlock → (v1.ownBlock = v.ownBlock ∨ ∃ b, v1.ownBlock = some b ∧ W.heap.size ≤ b) → wpList P ops Q rest (a.put o.dst v1) w1) :
  wpList P ops Q (o :: rest) a (W.alloc (.cells cs.toArray e)) := by
 obtain ⟨f, hf, hR⟩ := S_tag HO xs.length okp (fun _ hk h2 => h2.2 hk)
 refine R_append (tag f d) base hgd s x t e z bytes ho ht hinfo hz hs0 hb0 v xs.zipIdx (p, xs.length) cs ok okp hs hx (d.M_mono (fun k hk => ⟨hk, hf k hk⟩) hp) hokp hfresh (R_mono hR (fun _ hk => hk.1)) HB hbase (by rw [List.length_zipIdx]; exact hl) ?_
 intro v1 w1 hr
 rw [← zip_snoc] at hr
 exact h v1 w1 ⟨f, hr⟩
end
def gap {α : Type} (f : Nat → Nat) (d : Kd α) (i : Nat) (c : List Value) : Kd (α × Nat) where
 sz := d.sz
 E := d.E
 K := fun w x cs => (x.2 = i → cs = c ∧ cs.length = d.sz ∧ ∀ u ∈ cs, u.oneCell' = true) ∧ (x.2 ≠ i → d.K w x.1 cs)
 M := fun w base ok x cs => (x.2 = i → cs = c ∧ cs.length = d.sz ∧ ∀ u ∈ cs, u.oneCell' = true) ∧ (x.2 ≠ i → d.M w base (fun k => ok k ∧ f k = x.2) x.1 cs)
 K_len := fun {w x cs} h => by
  by_cases hx : x.2 = i
  ·exact (h.1 hx).2.1
  ·exact d.K_len (h.2 hx)
 K_one := fun {w x cs} h => by
  by_cases hx : x.2 = i
  ·exact (h.1 hx).2.2
  ·exact d.K_one (h.2 hx)
 K_below := fun hb h => ⟨h.1, fun hx => d.K_below hb (h.2 hx)⟩
 K_of_M := fun h => ⟨h.1, fun hx => d.K_of_M (h.2 hx)⟩
 M_mono := fun hok h => ⟨h.1, fun hx => d.M_mono (fun k hk => ⟨hok k hk.1, hk.2⟩) (h.2 hx)⟩
 M_bound := fun h => ⟨h.1, fun hx => d.M_mono (fun _ hk => ⟨⟨hk.1.1, hk.2⟩, hk.1.2⟩) (d.M_bound (h.2 hx))⟩
 M_move := fun hm h => ⟨h.1, fun hx => d.M_move (fun k hk => hm k hk.1) (h.2 hx)⟩
 M_lower := fun hb h => ⟨h.1, fun hx => d.M_lower hb (h.2 hx)⟩
def H {α : Type} (d : Kd α) (e : Nat) (w : World) (base : Nat) (ok : Nat → Prop) (v : Value) (xs : List α) (i : Int) (oki : Nat → Prop) (c : List Value) : Prop :=
 (∀ k, oki k → ok k) ∧ ∃ f, (gap f d i.toNat c).R e w base (fun k => ok k ∧ ¬ oki k) v xs.zipIdx
end Kd
namespace Kd
structure Heap {α : Type} (d : Kd α) : Prop where
 K : ∀ {w w1 : World} {x : α} {cs : List Value}, (∀ k, k < w.heap.size → w1.heap[k]? = w.heap[k]?) → d.K w x cs → d.K w1 x cs
theorem cell_heap {w w1 : World} (hb : ∀ k, k < w.heap.size → w1.heap[k]? = w.heap[k]?) {a : Addr} {v : Value} (h : w.cell? a = some v) : w1.cell? a = some v := by
 have := hb a.block (World.block_lt_of_cell? w a h)
 simpa [World.cell?, this] using h
theorem Heap.C {α : Type} {d : Kd α} (hd : Heap d) {w w1 : World} {A : Option Addr} {n : Nat} {xs : List α} (hb : ∀ k, k < w.heap.size → w1.heap[k]? = w.heap[k]?) (h : d.C w A n xs) : d.C w1 A n xs :=
 ⟨h.1, h.2.1, fun hn => by
   obtain ⟨ad, e, hc⟩ := h.2.2 hn
   refine ⟨ad, e, fun j p hj => ?_⟩
   obtain ⟨c, hs, hr, hcell⟩ := hc j p hj
   exact ⟨c, hs, hd.K hb hr, fun i u hu => cell_heap hb (hcell i u hu)⟩⟩
theorem heap_int (k : IntKind) : Heap (Kd.int k) := ⟨fun _ h => h⟩
theorem heap_slice {α : Type} {d : Kd α} (e : Nat) (hd : Heap d) : Heap (slice e d) := ⟨by
 rintro w w1 x cs hb ⟨A, c, rfl, hl, hr⟩
 exact ⟨A, c, rfl, hl, hd.C hb hr⟩⟩
end Kd
def Kept (w W : World) (S : Nat → Prop) : Prop := w.heap.size ≤ W.heap.size ∧ ∀ i, i < w.heap.size → ¬ S i → W.heap[i]? = w.heap[i]?
section
variable {w W W2 : World} {S S2 S' : Nat → Prop}
theorem Kept.refl (w : World) (S : Nat → Prop) : Kept w w S := ⟨Nat.le_refl _, fun _ _ _ => rfl⟩
theorem Kept.of_below (h : Below w.heap.size w W) (S : Nat → Prop) : Kept w W S := ⟨h.size, fun i hi _ => h.block i hi⟩
theorem Kept.then_ (h : Kept w W S) (k : Kept W W2 S2) (hs : ∀ k, S2 k → S k ∨ w.heap.size ≤ k) : Kept w W2 S :=
 ⟨Nat.le_trans h.1 k.1, fun i hi hn => (k.2 i (Nat.lt_of_lt_of_le hi h.1) (fun h2 => (hs i h2).elim hn (fun h3 => by omega))).trans (h.2 i hi hn)⟩
theorem Kept.of_grown {row : Option Nat} (hg : W.grownBy W2 row) (h : Kept w W S) (hr : ∀ k, row = some k → S k ∨ w.heap.size ≤ k) : Kept w W2 S :=
 h.then_ (S2 := fun k => row = some k) ⟨hg.size, fun i hi hn => hg.block i hi (fun he => hn he.symm)⟩ hr
theorem Kept.below (h : Kept w W S) (hb : Below W.heap.size W W2) : Kept w W2 S := h.then_ (Kept.of_below hb (fun _ => False)) (fun _ hk => hk.elim)
theorem Kept.alloc (h : Kept w W S) (o : Obj) : Kept w (W.alloc o) S := h.below (below_alloc (Below.refl _ _) o)
theorem Kept.drew (h : Kept w W S) : Kept w W.drew S := h
theorem Kept.setCell (h : Kept w W S) {p : Addr} (hp : S p.block ∨ w.heap.size ≤ p.block) (u : Value) : Kept w (W.setCell p u) S :=
 h.then_ (S2 := fun k => k = p.block) ⟨by simp [World.setCell], fun i _ hn => Below.heap_setCell W p u i hn⟩ (fun k hk => by rw [hk]; exact hp)
theorem Kept.of_keep {g : Nat} (h : Kept w W S) (k : KeepBut W W2 g none) (hg : S g ∨ w.heap.size ≤ g) : Kept w W2 S :=
 h.then_ (S2 := fun k => k = g) ⟨k.1, fun i hi hn => k.2 i hi hn (by simp)⟩ (fun k hk => by rw [hk]; exact hg)
theorem blk_kept {g : Nat} {o : Obj} (hb : W.heap[g]? = some o) (hk : Kept W W2 S) (hne : ¬ S g) : W2.heap[g]? = some o := (hk.2 g (blk_lt hb) hne).trans hb
theorem cell_kept {a : Addr} {v : Value} (hc : W.cell? a = some v) (hk : Kept W W2 S) (hne : ¬ S a.block) : W2.cell? a = some v := by
 have := hk.2 a.block (World.block_lt_of_cell? W a hc) hne
 simpa [World.cell?, this] using hc
end
namespace Kd
section
variable {α : Type} {d : Kd α} {e base n c : Nat} {ok oki S S2 : Nat → Prop} {w w0 W W1 W2 : World} {v : Value} {A : Option Addr} {xs : List α} {i : Int} {cs : List Value}
theorem R_kept (h : d.R e W base ok v xs) (hk : Kept W W2 S) (hne : ∀ k, ok k → ¬ S k) : d.R e W2 base ok v xs := R_step h (fun k ho hlt => hk.2 k hlt (hne k ho))
end
end Kd
def Foot (P : World → Prop) (W : World) (ok : Nat → Prop) : Prop := ∀ W' : World, (∀ k, ok k → k < W.heap.size → W'.heap[k]? = W.heap[k]?) → P W'
theorem heap_lt {W W1 : World} {k : Nat} (h : W1.heap[k]? = W.heap[k]?) (hlt : k < W.heap.size) : k < W1.heap.size := by
 rw [Array.getElem?_eq_getElem hlt] at h
 exact (Array.getElem?_eq_some_iff.1 h).1
namespace Foot
variable {P Q : World → Prop} {W W1 : World} {ok ok' : Nat → Prop}
theorem now (h : Foot P W ok) : P W := h W (fun _ _ _ => rfl)
theorem mono (h : Foot P W ok) (hok : ∀ k, ok k → ok' k) : Foot P W ok' := fun W' hW => h W' (fun k hk hlt => hW k (hok k hk) hlt)
theorem bound (h : Foot P W ok) : Foot P W (fun k => ok k ∧ k < W.heap.size) := fun W' hW => h W' (fun k hk hlt => hW k ⟨hk, hlt⟩ hlt)
theorem step (h : Foot P W ok) (hm : ∀ k, ok k → k < W.heap.size → W1.heap[k]? = W.heap[k]?) : Foot P W1 ok := fun W' hW => h W' (fun k hk hlt => (hW k hk (heap_lt (hm k hk hlt) hlt)).trans (hm k hk hlt))
theorem imp (h : Foot P W ok) (hi : ∀ W', P W' → Q W') : Foot Q W ok := fun W' hW => hi W' (h W' hW)
end Foot
namespace Kd
def F {α : Type} (d : Kd α) (W : World) (ok : Nat → Prop) (A : Option Addr) (n : Nat) (xs : List α) : Prop := Foot (fun W => d.C W A n xs) W ok
def FK {α : Type} (d : Kd α) (W : World) (ok : Nat → Prop) (x : α) (c : List Value) : Prop := Foot (fun W => d.K W x c) W ok
section
variable {α β : Type} {d : Kd α} {e base n n' cc g N : Nat} {ok ok' okp S : Nat → Prop} {w w0 w1 W W1 : World} {A A' : Option Addr} {u v v1 : Value} {xs : List α} {xs' : List β} {d' : Kd β} {x : α} {c : List Value}
theorem F_now (h : F d W ok A n xs) : d.C W A n xs := Foot.now h
theorem F_mono (h : F d W ok A n xs) (hok : ∀ k, ok k → ok' k) : F d W ok' A n xs := Foot.mono h hok
theorem F_bound (h : F d W ok A n xs) : F d W (fun k => ok k ∧ k < W.heap.size) A n xs := Foot.bound h
theorem F_step (h : F d W ok A n xs) (hm : ∀ k, ok k → k < W.heap.size → W1.heap[k]? = W.heap[k]?) : F d W1 ok A n xs := Foot.step h hm
theorem F_imp (h : F d W ok A n xs) (hi : ∀ W', d.C W' A n xs → d'.C W' A' n' xs') : F d' W ok A' n' xs' := Foot.imp h hi
theorem F_below (h : F d W ok A n xs) (hb : Below W.heap.size W W1) : F d W1 ok A n xs := F_step h (fun k _ hlt => hb.block k hlt)
theorem F_alloc (h : F d W ok A n xs) (o : Obj) : F d (W.alloc o) ok A n xs := F_below h (below_alloc (Below.refl _ _) o)
theorem F_drew (h : F d W ok A n xs) : F d W.drew ok A n xs := F_below h (below_drew (Below.refl _ _))
theorem F_drewN (h : F d W ok A n xs) (m : Nat) : F d (W.drewN m) ok A n xs := F_below h (pw_below_drewN (Below.refl _ _) m)
theorem F_grown (h : F d W ok A n xs) {row : Option Nat} (hg : W.grownBy W1 row) (hok : ∀ k, ok k → some k ≠ row) : F d W1 ok A n xs := F_step h (fun k hk hlt => hg.block k hlt (hok k hk))
theorem F_far (h : F d W ok A n xs) {p : Addr} (hok : ∀ k, ok k → k ≠ p.block) (u : Value) : F d (W.setCell p u) ok A n xs := F_step h (fun k hk _ => Below.heap_setCell W p u k (hok k hk))
theorem F_kept (h : F d W ok A n xs) (hk : Kept W W1 S) (hok : ∀ k, ok k → ¬ S k) : F d W1 ok A n xs := F_step h (fun k ho hlt => hk.2 k hlt (hok k ho))
theorem F_nil (d : Kd α) (W : World) (ok : Nat → Prop) : F d W ok none ([] : List α).length [] := fun W' _ => C_nil d W'
theorem F_len (h : F d W ok A n xs) : xs.length = n := (F_now h).1
theorem R_F (h : d.R e W base ok (.slice A n cc) xs) : F d W ok A n xs := fun W' hW => by
 have h2 := R_reads' (R_step h hW)
 rw [h2.1]
 exact h2.2.2
theorem FK_of_M (h : d.M W base ok x c) : FK d W ok x c := fun _ hW => d.K_of_M (M_step h hW)
theorem emptied (W : World) (g : Nat) : ∃ W' : World, (∀ k, k ≠ g → W'.heap[k]? = W.heap[k]?) ∧ ∀ a : Addr, a.block = g → W'.cell? a = none := by
 refine ⟨{ W with heap := W.heap.setIfInBounds g (.cells #[] 0) }, fun k hk => by simp [Ne.symm hk], fun a ha => ?_⟩
 subst ha
 by_cases hlt : a.block < W.heap.size
 ·simp [World.cell?, hlt]
 ·simp [World.cell?, hlt]
end
end Kd
namespace Kd
def chunks (sz : Nat) (n : Nat) (inner : List Value) : List (List Value) := (List.range n).map fun j => (inner.drop (j * sz)).take sz
theorem chunks_length (sz n : Nat) (inner : List Value) : (chunks sz n inner).length = n := by simp [chunks]
theorem chunks_at {sz n : Nat} {inner : List Value} {j : Nat} (hj : j < n) : (chunks sz n inner)[j]? = some ((inner.drop (j * sz)).take sz) := by simp [chunks, hj]
theorem chunks_get {sz n : Nat} {inner : List Value} {j : Nat} {c : List Value} (h : (chunks sz n inner)[j]? = some c) : c = (inner.drop (j * sz)).take sz := by
 have hj : j < n := by have := (List.getElem?_eq_some_iff.1 h).1; rwa [chunks_length] at this
 rw [chunks_at hj] at h
 injection h with h
 exact h.symm
theorem reps_raw {α : Type} {Rr : α → List Value → Prop} {sz : Nat} {xs : List α} {inner : List Value} (h : Reps Rr sz xs inner) (hR : ∀ x c, Rr x c → c.length = sz ∧ ∀ u ∈ c, u.oneCell' = true) : Reps (fun x cs => cs = x ∧ cs.length = sz ∧ ∀ u ∈ cs, u.oneCell' = true) sz (chunks sz xs.length inner) inner := by
 refine ⟨by rw [chunks_length]; exact h.1, fun j p hj => ?_⟩
 have hjl : j < xs.length := by have := (List.getElem?_eq_some_iff.1 hj).1; rwa [chunks_length] at this
 have hp := chunks_get hj
 exact ⟨hp.symm, hR _ _ (h.2 j _ (List.getElem?_eq_getElem hjl))⟩
section
variable {α : Type} {d : Kd α} {e base n cc g : Nat} {ok ok' okp S : Nat → Prop} {w w1 W W1 : World} {A : Option Addr} {u v v1 : Value} {xs : List α} {x : α} {c : List Value}
theorem F_get (h : F d W ok A n xs) (z : α) (i : Int) (h0 : 0 ≤ i) (h1 : i < n) :
  ∃ ad c, A = some ad ∧ c.length = d.sz ∧ FK d W ok (xs.getD i.toNat z) c ∧ (∀ j u, c[j]? = some u → W.cell? (ad.add (i.toNat * d.sz + j)) = some u) ∧ (0 < d.sz → ok ad.block) := by
 obtain ⟨ad, c, rfl, hcl, hK, hcc⟩ := C_get (F_now h) z i h0 h1
 have hin : 0 < d.sz → ok ad.block := by
  intro hs
  by_cases hk : ok ad.block
  ·exact hk
  ·obtain ⟨W', h2, h3⟩ := emptied W ad.block
   obtain ⟨ad', c', he, hcl', _, hcc'⟩ := C_get (h W' (fun k hk' _ => h2 k (fun e => hk (e ▸ hk')))) z i h0 h1
   injection he with he
   subst he
   have h4 := hcc' 0 _ (List.getElem?_eq_getElem (by omega))
   rw [h3 _ (add_block _ _)] at h4
   cases h4
 refine ⟨ad, c, rfl, hcl, fun W' hW => ?_, hcc, hin⟩
 obtain ⟨ad', c', he, hcl', hK', hcc'⟩ := C_get (h W' hW) z i h0 h1
 injection he with he
 subst he
 have hc : c = c' := by
  apply List.ext_getElem?
  intro j
  by_cases hj : j < d.sz
  ·have hb : W'.heap[ad.block]? = W.heap[ad.block]? := by
    have h5 := hcc j _ (List.getElem?_eq_getElem (by omega))
    have h6 := World.block_lt_of_cell? W _ h5
    rw [add_block] at h6
    exact hW _ (hin (by omega)) h6
   have h5 := hcc j _ (List.getElem?_eq_getElem (by omega))
   have h6 := hcc' j _ (List.getElem?_eq_getElem (by omega))
   have h7 : W'.cell? (ad.add (i.toNat * d.sz + j)) = W.cell? (ad.add (i.toNat * d.sz + j)) := by simp [World.cell?, add_block, hb]
   rw [h7, h5] at h6
   rw [List.getElem?_eq_getElem (by omega), List.getElem?_eq_getElem (by omega)]
   exact h6
  ·rw [List.getElem?_eq_none (by omega), List.getElem?_eq_none (by omega)]
 rw [hc]
 exact hK'
def N {α : Type} (d : Kd α) (e : Nat) (w : World) (base : Nat) (ok : Nat → Prop) (v : Value) (xs : List α) : Prop :=
 (∀ k, v.ownBlock = some k → ok k) ∧ ∃ rows : List (List Value), rows.length = xs.length ∧ (raw d.sz).R e w base (fun k => some k = v.ownBlock) v rows ∧ ∀ (j : Nat) (x : α) (c : List Value), xs[j]? = some x → rows[j]? = some c → FK d w (fun k => ok k ∧ some k ≠ v.ownBlock) x c
theorem R_N (h : d.R e w base ok v xs) : N d e w base ok v xs := by
 obtain ⟨h0, inner, ho, hr⟩ := h
 refine ⟨h0, chunks d.sz xs.length inner, chunks_length _ _ _, ⟨fun k hk => hk.symm, inner, by rw [chunks_length]; exact ho, reps_raw hr (fun x c hp => ⟨d.K_len (d.K_of_M hp), d.K_one (d.K_of_M hp)⟩)⟩, fun j x c hx hc => ?_⟩
 rw [chunks_get hc]
 exact FK_of_M (hr.2 j x hx)
theorem N_nil (d : Kd α) (e : Nat) (w : World) (base : Nat) (ok : Nat → Prop) : N d e w base ok (.slice none 0 0) [] := R_N (R_nil _ _ _ _ _)
end
end Kd
namespace Kd
section
variable {α : Type} {d : Kd α} {W : World} {g n : Nat} {S ok : Nat → Prop} {A : Option Addr} {ad : Addr} {xs : List α}
theorem C_not_empty (h : d.C W (some ad) n xs) (hn : 0 < n) (hs : 0 < d.sz) : W.cell? ad ≠ none := by
 obtain ⟨ad', he, hc⟩ := h.2.2 hn
 injection he with he
 subst he
 obtain ⟨c, hcl, _, hcell⟩ := hc 0 _ (List.getElem?_eq_getElem (by rw [h.1]; exact hn))
 have h1 := hcell 0 _ (List.getElem?_eq_getElem (by omega))
 rw [Nat.zero_mul, Nat.zero_add, Addr.add_zero'] at h1
 rw [h1]
 exact Option.some_ne_none _
theorem C_lt (h : d.C W (some ad) n xs) (hn : 0 < n) (hs : 0 < d.sz) : ad.block < W.heap.size := by
 cases hc : W.cell? ad with
 | none => exact absurd hc (C_not_empty h hn hs)
 | some v => exact World.block_lt_of_cell? W ad hc
theorem F_in (h : F d W ok A n xs) {ad : Addr} (hA : A = some ad) (hn : 0 < n) (hs : 0 < d.sz) : ok ad.block := by
 subst hA
 have hl := F_len h
 cases xs with
 | nil => simp at hl; omega
 | cons x r =>
  obtain ⟨ad', c, he, _, _, _, hin⟩ := F_get h x 0 (by omega) (by omega)
  injection he with he
  subst he
  exact hin hs
end
end Kd
end Go.Proofs.YtibbdjkboglepaaW.PrintWords
section
namespace Go.Proofs.YtibbdjkboglepaaW.PrintMore
open Go.RowKit Go.Proofs.YtibbdjkboglepaaW.PrintWords
theorem max2_int (k k' : IntKind) (x y : Int) : Builtin.max2 (.int k x) (.int k' y) = pure (.int k (if x < y then y else x)) := by simp only [Builtin.max2, gt_iff_lt]
theorem min2_int (k k' : IntKind) (x y : Int) : Builtin.min2 (.int k x) (.int k' y) = pure (.int k (if y < x then y else x)) := by simp only [Builtin.min2]
theorem max_two (ats : Array TypeId) (ty : TypeId) (a b : Value) : Builtin.max_ ats ty #[a, b] = (Builtin.max2 a b >>= fun s => pure s) := by simp only [Builtin.max_, List.foldlM_cons, List.foldlM_nil]
theorem min_two (ats : Array TypeId) (ty : TypeId) (a b : Value) : Builtin.min_ ats ty #[a, b] = (Builtin.min2 a b >>= fun s => pure s) := by simp only [Builtin.min_, List.foldlM_cons, List.foldlM_nil]
theorem max_three (ats : Array TypeId) (ty : TypeId) (a b c : Value) : Builtin.max_ ats ty #[a, b, c] = (Builtin.max2 a b >>= fun s => Builtin.max2 s c >>= fun s => pure s) := by simp only [Builtin.max_, List.foldlM_cons, List.foldlM_nil]
theorem min_three (ats : Array TypeId) (ty : TypeId) (a b c : Value) : Builtin.min_ ats ty #[a, b, c] = (Builtin.min2 a b >>= fun s => Builtin.min2 s c >>= fun s => pure s) := by simp only [Builtin.min_, List.foldlM_cons, List.foldlM_nil]
theorem max_four (ats : Array TypeId) (ty : TypeId) (a b c d : Value) : Builtin.max_ ats ty #[a, b, c, d] = (Builtin.max2 a b >>= fun s => Builtin.max2 s c >>= fun s => Builtin.max2 s d >>= fun s => pure s) := by simp only [Builtin.max_, List.foldlM_cons, List.foldlM_nil]
theorem min_four (ats : Array TypeId) (ty : TypeId) (a b c d : Value) : Builtin.min_ ats ty #[a, b, c, d] = (Builtin.min2 a b >>= fun s => Builtin.min2 s c >>= fun s => Builtin.min2 s d >>= fun s => pure s) := by simp only [Builtin.min_, List.foldlM_cons, List.foldlM_nil]
end Go.Proofs.YtibbdjkboglepaaW.PrintMore
namespace Go.Proofs.YtibbdjkboglepaaW.PrintWords
open Go.RowKit
section
variable {P : Program} {ops : Array Oper} {rest : List Oper} {o : Oper} {a : Act} {Q : Exit → Act → World → Prop} {W : World}
theorem gate_callee {f : FuncId} {as1 : Array Operand} {ts : Array TypeId} (_ho : o.op = .call { callee := .value (.func f), args := as1, argTypes := ts }) (h : wpList P ops Q (o :: rest) a W) : wpList P ops Q (o :: rest) a W := h
theorem gate_builtin {b : Builtin} {xs : Array Operand} {ts : Array TypeId} (_ho : o.op = .call { callee := .builtin b, args := xs, argTypes := ts }) (h : wpList P ops Q (o :: rest) a W) : wpList P ops Q (o :: rest) a W := h
end
def mn (a b : Int) : Int := if b < a then b else a
end Go.Proofs.YtibbdjkboglepaaW.PrintWords
namespace Go.Proofs.YtibbdjkboglepaaW.PrintWords
open Go.RowKit
namespace Kd
def V {α : Type} (d : Kd α) (_e : Nat) (W : World) (_base : Nat) (ok : Nat → Prop) (v : Value) (xs : List α) : Prop := ∃ A c, v = .slice A xs.length c ∧ xs.length ≤ c ∧ F d W ok A xs.length xs
section
variable {α β : Type} {d : Kd α} {e base base' n m c g N' lo hi : Nat} {ok ok' S : Nat → Prop} {w W w1 : World} {A : Option Addr} {ad : Addr} {u v v1 : Value} {xs : List α}
theorem V_map (h : V d e W base ok v xs) (hF : ∀ A, F d W ok A xs.length xs → F d w1 ok' A xs.length xs) : V d e w1 base' ok' v xs := by
 obtain ⟨A, c, hv, hl, hf⟩ := h
 exact ⟨A, c, hv, hl, hF A hf⟩
theorem V_mk (hl : xs.length ≤ c) (hf : F d W ok A xs.length xs) : V d e W base ok (.slice A xs.length c) xs := ⟨A, c, rfl, hl, hf⟩
theorem V_slice (h : V d e W base ok v xs) : ∃ A c, v = .slice A xs.length c := by
 obtain ⟨A, c, hv, _⟩ := h
 exact ⟨A, c, hv⟩
theorem V_at (h : V d e W base ok (.slice A n c) xs) : n = xs.length ∧ n ≤ c ∧ F d W ok A xs.length xs := by
 obtain ⟨A', c', hv, hl, hf⟩ := h
 injection hv with ha hn hc
 subst ha; subst hc
 exact ⟨hn, by rw [hn]; exact hl, hf⟩
theorem V_reads' (h : V d e W base ok (.slice A n c) xs) : n = xs.length ∧ n ≤ c ∧ d.C W A xs.length xs := ⟨(V_at h).1, (V_at h).2.1, F_now (V_at h).2.2⟩
theorem V_nil (d : Kd α) (e : Nat) (W : World) (base : Nat) (ok : Nat → Prop) : V d e W base ok (.slice none 0 0) [] := ⟨none, 0, rfl, Nat.le_refl _, F_nil d W ok⟩
theorem R_V (h : d.R e W base ok v xs) : V d e W base' ok v xs := by
 obtain ⟨A, c, rfl⟩ := R_slice h
 exact ⟨A, c, rfl, (R_reads' h).2.1, R_F h⟩
theorem V_mono (h : V d e W base ok v xs) (hok : ∀ k, ok k → ok' k) : V d e W base ok' v xs := V_map h (fun _ hf => F_mono hf hok)
theorem V_lower (h : V d e W base ok v xs) (_ : base' ≤ base) : V d e W base' ok v xs := h
theorem V_alloc (h : V d e W base ok v xs) (o : Obj) : V d e (W.alloc o) base ok v xs := V_map h (fun _ hf => F_alloc hf o)
theorem V_drew (h : V d e W base ok v xs) : V d e W.drew base ok v xs := V_map h (fun _ hf => F_drew hf)
theorem V_drewN (h : V d e W base ok v xs) (m : Nat) : V d e (W.drewN m) base ok v xs := V_map h (fun _ hf => F_drewN hf m)
theorem F_take (h : F d W ok A xs.length xs) (hm : m ≤ xs.length) : F d W ok A (xs.take m).length (xs.take m) := F_imp h (fun _ hC => C_take hC hm)
theorem R_newM {M : Nat → Prop} (h : d.R e w1 W.heap.size ok v xs) (hle : w.heap.size ≤ W.heap.size) (hM : ∀ k, w.heap.size ≤ k → M k) : d.R e w1 W.heap.size (fun k => M k ∧ ok k) v xs := R_mono (R_bound h) (fun k hk => ⟨hM k (Nat.le_trans hle hk.2.1), hk.1⟩)
end
end Kd
end Go.Proofs.YtibbdjkboglepaaW.PrintWords
end
namespace Go.Proofs.Ytibbdjkboglepaa.QBchRoots
open Go.RowKit Go.Proofs.YtibbdjkboglepaaW.PrintWords Go.Proofs.YtibbdjkboglepaaW.PrintLast Go.Proofs.YtibbdjkboglepaaW.PrintMore
attribute [local go_sem] max2_int min2_int max_two min_two max_three min_three max_four min_four
def errW : Option Int → Value
 | none => .nilIface
 | some c => .iface 0 (.int .i64 c)
theorem errW_none : errW none = .nilIface := rfl
theorem errW_some (c : Int) : errW (some c) = .iface 0 (.int .i64 c) := rfl
theorem info3 : (Try.prog.info? 3).map (fun i => (i.zero, i.size, i.bytes)) = some (some (.int .i64 0), 1, 8) := by kernel_rfl
theorem info4 : (Try.prog.info? 4).map (fun i => (i.zero, i.size, i.bytes)) = some (some (.bool false), 1, 1) := by kernel_rfl
end Go.Proofs.Ytibbdjkboglepaa.QBchRoots
namespace Go.Proofs.Ytibbdjkboglepaa.My
open Go.RowKit Go.Proofs.YtibbdjkboglepaaW.PrintWords Go.Proofs.YtibbdjkboglepaaW.PrintMore
theorem ev_succ {α : Type} {g : Nat → Option α} {r : α} (h : Ev (fun k => g (k + 1)) r) : Ev g r :=
 Ev.step (fun _ => rfl) h
theorem ev_now {α : Type} {g : Nat → Option α} {r : α} (h : ∀ k, g k = some r) : Ev g r := ⟨0, fun k _ => h k⟩
theorem ev_det {α : Type} {g : Nat → Option α} {r s : α} (h : Ev g r) (h' : Ev g s) : r = s := by
 obtain ⟨K, h⟩ := h
 obtain ⟨K', h'⟩ := h'
 have h1 := h (max K K') (Nat.le_max_left _ _)
 have h2 := h' (max K K') (Nat.le_max_right _ _)
 rw [h1] at h2
 injection h2
theorem ev_bind {α β : Type} {g : Nat → Option α} {f : Nat → α → Option β} {a : α} {r : β} (h : Ev g a) (k : Ev (fun n => f n a) r) : Ev (fun n => (g n).bind (f n)) r := Ev.bind h k
theorem ev_of_eq {α : Type} {g : Nat → Option α} {r s : α} (h : Ev g r) (e : r = s) : Ev g s := e ▸ h
theorem w64 {x : Int} (h1 : -9223372036854775808 ≤ x) (h2 : x < 9223372036854775808) : wrap64 x = x := by
 unfold wrap64
 omega
theorem tmod_nn {a b : Int} (h : 0 ≤ a) : Int.tmod a b = a % b := Int.tmod_eq_emod_of_nonneg h
theorem mod_go {a n : Int} (h1 : 1 ≤ n) (h2 : n < 4611686018427387904) : Int.tmod (wrap64 (Int.tmod a n + n)) n = a % n := by
 have hb : -n < Int.tmod a n ∧ Int.tmod a n < n := by
  rw [Int.tmod_eq_emod]
  have h3 := Int.emod_nonneg a (show n ≠ 0 by omega)
  have h4 := Int.emod_lt_of_pos a (show 0 < n by omega)
  have h5 : (n.natAbs : Int) = n := by omega
  split <;> rename_i hc
  ·simp; omega
  ·have : a % n ≠ 0 := fun e => hc (Or.inr (Int.dvd_of_emod_eq_zero e))
   omega
 rw [w64 (by omega) (by omega), tmod_nn (by omega), Int.add_emod_right, Int.tmod_eq_emod]
 split
 ·simp
 ·have h5 : (n.natAbs : Int) = n := by omega
  rw [h5, Int.sub_emod, Int.emod_self]; simp
def gc (a b : Int) : Int := (Nat.gcd a.toNat b.toNat : Nat)
theorem gc_zero {a : Int} (h : 0 ≤ a) : gc a 0 = a := by simp [gc]; omega
theorem gc_step {a b : Int} (ha : 0 ≤ a) (hb : 0 ≤ b) : gc b (a % b) = gc a b := by
 unfold gc
 rw [show (a % b).toNat = a.toNat % b.toNat from Int.toNat_emod ha hb, Nat.gcd_comm a.toNat b.toNat, Nat.gcd_rec b.toNat a.toNat, Nat.gcd_comm]
theorem rd_set_self {xs : List Int} {i : Int} {v : Int} (h0 : 0 ≤ i) (h : i < xs.length) : rd (xs.set i.toNat v) i = v := by
 unfold rd
 rw [List.getD_eq_getElem?_getD, List.getElem?_set_self (by omega)]; rfl
theorem rd_set_ne {xs : List Int} {i j : Int} {v : Int} (h0 : 0 ≤ i) (hj : 0 ≤ j) (h : i ≠ j) : rd (xs.set i.toNat v) j = rd xs j := by
 unfold rd
 rw [List.getD_eq_getElem?_getD, List.getElem?_set_ne (by omega), ← List.getD_eq_getElem?_getD]
theorem rdOf_set_self {α : Type} {d : α} {xs : List α} {i : Int} {v : α} (h0 : 0 ≤ i) (h : i < xs.length) : rdOf d (xs.set i.toNat v) i = v := by
 unfold rdOf
 rw [List.getD_eq_getElem?_getD, List.getElem?_set_self (by omega)]; rfl
theorem rdOf_set_ne {α : Type} {d : α} {xs : List α} {i j : Int} {v : α} (h0 : 0 ≤ i) (hj : 0 ≤ j) (h : i ≠ j) : rdOf d (xs.set i.toNat v) j = rdOf d xs j := by
 unfold rdOf
 rw [List.getD_eq_getElem?_getD, List.getElem?_set_ne (by omega), ← List.getD_eq_getElem?_getD]
theorem rd_mem {xs : List Int} {i : Int} (h0 : 0 ≤ i) (h : i < xs.length) : rd xs i ∈ xs := by
 unfold rd
 rw [List.getD_eq_getElem?_getD, List.getElem?_eq_getElem (by omega)]
 simp
theorem mem_rd {xs : List Int} {x : Int} (h : x ∈ xs) : ∃ i : Int, 0 ≤ i ∧ i < xs.length ∧ rd xs i = x := by
 obtain ⟨i, hi, rfl⟩ := List.getElem_of_mem h
 refine ⟨i, by omega, by omega, ?_⟩
 unfold rd
 rw [List.getD_eq_getElem?_getD, List.getElem?_eq_getElem (by omega)]
 simp
theorem rd_append_left {xs ys : List Int} {i : Int} (h0 : 0 ≤ i) (h : i < xs.length) : rd (xs ++ ys) i = rd xs i := by
 unfold rd
 rw [List.getD_eq_getElem?_getD, List.getD_eq_getElem?_getD, List.getElem?_append_left (by omega)]
theorem rd_append_self {xs : List Int} {y : Int} : rd (xs ++ [y]) xs.length = y := by
 unfold rd
 simp
def InS (n : Int) (zs : List Int) (x : Int) : Prop := ∃ z ∈ zs, z % n = x % n
theorem InS.congr {n : Int} {zs : List Int} {x y : Int} (e : x % n = y % n) : InS n zs x ↔ InS n zs y := by
 unfold InS; rw [e]
def Rect (n : Int) (zs : List Int) (s t c x m : Int) : Prop := ∀ i j : Int, 0 ≤ i → i < c → 0 ≤ j → j ≤ m → InS n zs (s + i * t + j * x)
def Proves (n : Int) (zs : List Int) (s t c x m : Int) : Prop :=
 1 ≤ c ∧ c ≤ n ∧ 0 ≤ m ∧ m ≤ n ∧ gc (t % n) n = 1 ∧ (0 < m → gc (x % n) n ≤ c) ∧ Rect n zs s t c x m
def IsBest (n : Int) (zs : List Int) (most b : Int) : Prop :=
 (b = 1 ∨ ∃ s t c x m, Proves n zs s t c x m ∧ m ≤ most ∧ b = c + 1 + m) ∧ ∀ s t c x m, Proves n zs s t c x m → m ≤ most → c + 1 + m ≤ b
theorem IsBest.unique {n : Int} {zs : List Int} {most b b' : Int} (h : IsBest n zs most b) (h' : IsBest n zs most b') (h1 : 1 ≤ b) (h1' : 1 ≤ b') : b = b' := by
 have key : ∀ {b b'}, IsBest n zs most b → IsBest n zs most b' → 1 ≤ b' → b ≤ b' := by
  intro b b' h h' h1
  rcases h.1 with rfl | ⟨s, t, c, x, m, hp, hm, rfl⟩
  ·exact h1
  ·exact h'.2 _ _ _ _ _ hp hm
 have := key h h' h1'
 have := key h' h h1
 omega
theorem mod_eq_iff {a b n : Int} : a % n = b % n ↔ n ∣ a - b := by
 rw [Int.emod_eq_emod_iff_emod_sub_eq_zero]
 exact ⟨Int.dvd_of_emod_eq_zero, Int.emod_eq_zero_of_dvd⟩
theorem gc_int {a n : Int} (ha : 0 ≤ a) (hn : 0 ≤ n) : gc a n = (Int.gcd a n : Int) := by
 unfold gc Int.gcd
 rw [show a.toNat = a.natAbs by omega, show n.toNat = n.natAbs by omega]
theorem gcd_mod (a n : Int) : Int.gcd (a % n) n = Int.gcd a n := by
 have e := Int.mul_ediv_add_emod a n
 have h := Int.gcd_add_mul_right_left n (a % n) (a / n)
 rw [← h]
 congr 1
 rw [Int.mul_comm]
 omega
theorem gc_mod {a n : Int} (hn : 0 < n) : gc (a % n) n = (Int.gcd a n : Int) := by
 rw [gc_int (Int.emod_nonneg _ (by omega)) (by omega), gcd_mod]
theorem bezout_nat (a b : Nat) : ∃ x y : Int, x * a + y * b = (Nat.gcd a b : Nat) := by
 induction a, b using Nat.gcd.induction with
 | H0 n => exact ⟨0, 1, by simp⟩
 | H1 m n hm ih =>
  obtain ⟨x, y, h⟩ := ih
  refine ⟨y - x * (n / m : Nat), x, ?_⟩
  rw [Nat.gcd_rec, ← h]
  have e : (n : Int) = (m : Int) * (n / m : Nat) + (n % m : Nat) := by
   have := Nat.div_add_mod n m
   exact_mod_cast this.symm
  generalize ((n / m : Nat) : Int) = q at *
  generalize ((n % m : Nat) : Int) = r at *
  rw [e]
  grind
theorem bezout (a b : Int) : ∃ x y : Int, x * a + y * b = (Int.gcd a b : Int) := by
 obtain ⟨x, y, h⟩ := bezout_nat a.natAbs b.natAbs
 have ha : ∃ s : Int, (a.natAbs : Int) = s * a := by
  rcases Int.natAbs_eq a with e | e
  ·exact ⟨1, by omega⟩
  ·exact ⟨-1, by omega⟩
 have hb : ∃ s : Int, (b.natAbs : Int) = s * b := by
  rcases Int.natAbs_eq b with e | e
  ·exact ⟨1, by omega⟩
  ·exact ⟨-1, by omega⟩
 obtain ⟨s, hs⟩ := ha
 obtain ⟨t, ht⟩ := hb
 refine ⟨x * s, y * t, ?_⟩
 unfold Int.gcd
 rw [← h, hs, ht, Int.mul_assoc, Int.mul_assoc]
theorem inverse_mod {b n : Int} (h : Int.gcd b n = 1) : ∃ u, n ∣ u * b - 1 ∧ Int.gcd u n = 1 := by
 obtain ⟨x, y, e⟩ := bezout b n
 rw [h] at e
 refine ⟨x, ⟨-y, by grind⟩, ?_⟩
 have h1 := Int.gcd_dvd_left x n
 have h2 := Int.gcd_dvd_right x n
 obtain ⟨p, hp⟩ := h1
 obtain ⟨q, hq⟩ := h2
 generalize hg : Int.gcd x n = g at *
 have : (g : Int) ∣ 1 := ⟨p * b + y * q, by
  have e' : x * b + y * n = 1 := by simpa using e
  rw [hp, hq] at e'
  grind⟩
 have := Int.natCast_dvd_natCast.1 (show (g : Int) ∣ ((1 : Nat) : Int) from this)
 exact Nat.dvd_one.1 this
theorem IsBest.two {n most b y : Int} {zs : List Int} (hn : 1 ≤ n) (hm : 0 ≤ most) (h : IsBest n zs most b) (hy : InS n zs y) : 2 ≤ b := by
 have g : gc (1 % n) n = 1 := by rw [gc_mod (by omega)]; simp
 have := h.2 y 1 1 0 0 ⟨by omega, hn, by omega, by omega, g, fun h => by omega, fun i j a b c d => by
  obtain rfl : i = 0 := by omega
  obtain rfl : j = 0 := by omega
  simpa using hy⟩ hm
 omega
end Go.Proofs.Ytibbdjkboglepaa.My
namespace Go.Proofs.Ytibbdjkboglepaa.Alg
class CR (α : Type) extends Add α, Mul α, Neg α, Zero α, One α where
 add_assoc : ∀ a b c : α, a + b + c = a + (b + c)
 add_comm : ∀ a b : α, a + b = b + a
 zero_add : ∀ a : α, 0 + a = a
 neg_add : ∀ a : α, -a + a = 0
 mul_assoc : ∀ a b c : α, a * b * c = a * (b * c)
 mul_comm : ∀ a b : α, a * b = b * a
 one_mul : ∀ a : α, 1 * a = a
 mul_add : ∀ a b c : α, a * (b + c) = a * b + a * c
section ring
variable {α : Type} [CR α]
theorem add_assoc (a b c : α) : a + b + c = a + (b + c) := CR.add_assoc a b c
theorem add_comm (a b : α) : a + b = b + a := CR.add_comm a b
theorem zero_add (a : α) : 0 + a = a := CR.zero_add a
theorem neg_add (a : α) : -a + a = 0 := CR.neg_add a
theorem mul_assoc (a b c : α) : a * b * c = a * (b * c) := CR.mul_assoc a b c
theorem mul_comm (a b : α) : a * b = b * a := CR.mul_comm a b
theorem one_mul (a : α) : 1 * a = a := CR.one_mul a
theorem mul_add (a b c : α) : a * (b + c) = a * b + a * c := CR.mul_add a b c
theorem add_zero (a : α) : a + 0 = a := by rw [add_comm, zero_add]
theorem add_neg (a : α) : a + -a = 0 := by rw [add_comm, neg_add]
theorem mul_one (a : α) : a * 1 = a := by rw [mul_comm, one_mul]
theorem add_mul (a b c : α) : (a + b) * c = a * c + b * c := by rw [mul_comm, mul_add, mul_comm c a, mul_comm c b]
theorem add_left_comm (a b c : α) : a + (b + c) = b + (a + c) := by rw [← add_assoc, add_comm a b, add_assoc]
theorem mul_left_comm (a b c : α) : a * (b * c) = b * (a * c) := by rw [← mul_assoc, mul_comm a b, mul_assoc]
theorem add_left_cancel {a b c : α} (h : a + b = a + c) : b = c := by
 have := congrArg (-a + ·) h
 simpa [← add_assoc, neg_add, zero_add] using this
theorem add_right_cancel {a b c : α} (h : b + a = c + a) : b = c := add_left_cancel (a := a) (by rw [add_comm a b, add_comm a c, h])
theorem zero_mul (a : α) : 0 * a = 0 := by
 have h : 0 * a + 0 * a = 0 * a + 0 := by rw [← add_mul, zero_add, add_zero]
 exact add_left_cancel h
theorem mul_zero (a : α) : a * 0 = 0 := by rw [mul_comm, zero_mul]
theorem eq_neg_of_add {a b : α} (h : a + b = 0) : a = -b := add_right_cancel (a := b) (by rw [h, neg_add])
theorem neg_eq_of_add {a b : α} (h : a + b = 0) : -a = b := (eq_neg_of_add (by rw [add_comm]; exact h)).symm
theorem neg_zero : -(0 : α) = 0 := neg_eq_of_add (zero_add 0)
theorem neg_neg (a : α) : - -a = a := neg_eq_of_add (neg_add a)
theorem neg_mul (a b : α) : -a * b = -(a * b) := (neg_eq_of_add (by rw [← add_mul, add_neg, zero_mul])).symm
theorem neg_add' (a b : α) : -(a + b) = -a + -b := neg_eq_of_add (by rw [add_assoc, add_left_comm b (-a), ← add_assoc a, add_neg, add_neg, zero_add])
theorem sub_eq_zero {a b : α} (h : a + -b = 0) : a = b := by rw [eq_neg_of_add h, neg_neg]
def pow (a : α) : Nat → α
 | 0 => 1
 | n + 1 => a * pow a n
theorem pow_zero (a : α) : pow a 0 = 1 := rfl
theorem pow_succ (a : α) (n : Nat) : pow a (n + 1) = a * pow a n := rfl
theorem pow_one (a : α) : pow a 1 = a := by rw [pow_succ, pow_zero, mul_one]
theorem pow_add (a : α) (m n : Nat) : pow a (m + n) = pow a m * pow a n := by
 induction m with
 | zero => rw [Nat.zero_add, pow_zero, one_mul]
 | succ m ih => rw [show m + 1 + n = (m + n) + 1 by omega, pow_succ, ih, pow_succ, mul_assoc]
theorem one_pow (n : Nat) : pow (1 : α) n = 1 := by
 induction n with
 | zero => rfl
 | succ n ih => rw [pow_succ, ih, one_mul]
theorem mul_pow (a b : α) (n : Nat) : pow (a * b) n = pow a n * pow b n := by
 induction n with
 | zero => rw [pow_zero, pow_zero, pow_zero, one_mul]
 | succ n ih => rw [pow_succ, pow_succ, pow_succ, ih, mul_assoc, mul_assoc, mul_left_comm b]
theorem pow_mul (a : α) (m n : Nat) : pow a (m * n) = pow (pow a m) n := by
 induction n with
 | zero => rw [Nat.mul_zero, pow_zero, pow_zero]
 | succ n ih => rw [Nat.mul_succ, pow_add, ih, pow_succ, mul_comm]
theorem zero_pow {n : Nat} (h : 0 < n) : pow (0 : α) n = 0 := by
 obtain ⟨m, rfl⟩ : ∃ m, n = m + 1 := ⟨n - 1, by omega⟩
 rw [pow_succ, zero_mul]
def sum (n : Nat) (f : Nat → α) : α := match n with
 | 0 => 0
 | n + 1 => sum n f + f n
theorem sum_zero (f : Nat → α) : sum 0 f = 0 := rfl
theorem sum_succ (n : Nat) (f : Nat → α) : sum (n + 1) f = sum n f + f n := rfl
theorem sum_congr {n : Nat} {f g : Nat → α} (h : ∀ i, i < n → f i = g i) : sum n f = sum n g := by
 induction n with
 | zero => rfl
 | succ n ih => rw [sum_succ, sum_succ, ih (fun i hi => h i (by omega)), h n (by omega)]
theorem sum_const_zero (n : Nat) : sum n (fun _ => (0 : α)) = 0 := by
 induction n with
 | zero => rfl
 | succ n ih => rw [sum_succ, ih, add_zero]
theorem sum_eq_zero {n : Nat} {f : Nat → α} (h : ∀ i, i < n → f i = 0) : sum n f = 0 := by
 rw [sum_congr (g := fun _ => 0) h, sum_const_zero]
theorem mul_sum (a : α) (n : Nat) (f : Nat → α) : a * sum n f = sum n (fun i => a * f i) := by
 induction n with
 | zero => rw [sum_zero, sum_zero, mul_zero]
 | succ n ih => rw [sum_succ, sum_succ, mul_add, ih]
theorem sum_head (n : Nat) (f : Nat → α) : sum (n + 1) f = f 0 + sum n (fun i => f (i + 1)) := by
 induction n with
 | zero => rw [sum_succ, sum_zero, sum_zero, zero_add, add_zero]
 | succ n ih => rw [sum_succ, ih, sum_succ, add_assoc]
theorem sum_one {n k : Nat} (f : Nat → α) (hk : k < n) (h : ∀ i, i < n → i ≠ k → f i = 0) : sum n f = f k := by
 induction n with
 | zero => omega
 | succ n ih =>
  rw [sum_succ]
  by_cases e : k = n
  ·subst e
   rw [sum_eq_zero (fun i hi => h i (by omega) (by omega)), zero_add]
  ·rw [ih (by omega) (fun i hi => h i (by omega)), h n (by omega) (by omega), add_zero]
end ring
class Fd (α : Type) extends CR α where
 inv : α → α
 mul_inv : ∀ a : α, a ≠ 0 → a * inv a = 1
 one_ne : (1 : α) ≠ 0
section field
variable {α : Type} [Fd α]
def inv (a : α) : α := Fd.inv a
theorem mul_inv (a : α) (h : a ≠ 0) : a * inv a = 1 := Fd.mul_inv a h
theorem one_ne : (1 : α) ≠ 0 := Fd.one_ne
theorem inv_mul {a : α} (h : a ≠ 0) : inv a * a = 1 := by rw [mul_comm, mul_inv a h]
theorem mul_eq_zero {a b : α} (h : a * b = 0) : a = 0 ∨ b = 0 := by
 apply Classical.or_iff_not_imp_left.2
 intro ha
 have := congrArg (inv a * ·) h
 simpa [← mul_assoc, inv_mul ha, one_mul, mul_zero] using this
theorem mul_ne_zero {a b : α} (ha : a ≠ 0) (hb : b ≠ 0) : a * b ≠ 0 := fun h => by
 rcases mul_eq_zero h with h | h
 ·exact ha h
 ·exact hb h
theorem pow_ne_zero {a : α} (ha : a ≠ 0) (n : Nat) : pow a n ≠ 0 := by
 induction n with
 | zero => exact one_ne
 | succ n ih => exact mul_ne_zero ha ih
theorem mul_left_cancel {a b c : α} (ha : a ≠ 0) (h : a * b = a * c) : b = c := by
 have := congrArg (inv a * ·) h
 simpa [← mul_assoc, inv_mul ha, one_mul] using this
theorem inv_ne_zero {a : α} (ha : a ≠ 0) : inv a ≠ 0 := fun h => by
 have := mul_inv a ha
 rw [h, mul_zero] at this
 exact one_ne this.symm
theorem inv_unique {a b : α} (ha : a ≠ 0) (h : a * b = 1) : inv a = b := mul_left_cancel ha (by rw [mul_inv a ha, h])
end field
end Go.Proofs.Ytibbdjkboglepaa.Alg
namespace Go.Proofs.Ytibbdjkboglepaa.Alg
def Pol (α : Type) : Type := Nat → α
section ring
variable {α : Type} [CR α]
def tail (f : Pol α) : Pol α := fun n => f (n + 1)
def padd (f g : Pol α) : Pol α := fun n => f n + g n
def pneg (f : Pol α) : Pol α := fun n => -f n
def smul (a : α) (f : Pol α) : Pol α := fun n => a * f n
def pzero : Pol α := fun _ => 0
def C (a : α) : Pol α := fun n => if n = 0 then a else 0
def xmul (f : Pol α) : Pol α := fun n => match n with
 | 0 => 0
 | n + 1 => f n
def conv (f g : Pol α) (n : Nat) : α := match n with
 | 0 => f 0 * g 0
 | n + 1 => f 0 * g (n + 1) + conv (tail f) g n
def pmul (f g : Pol α) : Pol α := fun n => conv f g n
theorem conv_zero (f g : Pol α) : conv f g 0 = f 0 * g 0 := rfl
theorem conv_succ (f g : Pol α) (n : Nat) : conv f g (n + 1) = f 0 * g (n + 1) + conv (tail f) g n := rfl
theorem conv_add_left (f f' g : Pol α) (n : Nat) : conv (padd f f') g n = conv f g n + conv f' g n := by
 induction n generalizing f f' with
 | zero => simp only [conv_zero, padd, add_mul]
 | succ n ih =>
  have e : tail (padd f f') = padd (tail f) (tail f') := rfl
  rw [conv_succ, conv_succ, conv_succ, e, ih]
  simp only [padd, add_mul, add_assoc, add_left_comm]
theorem conv_add_right (f g g' : Pol α) (n : Nat) : conv f (padd g g') n = conv f g n + conv f g' n := by
 induction n generalizing f with
 | zero => simp only [conv_zero, padd, mul_add]
 | succ n ih =>
  rw [conv_succ, conv_succ, conv_succ, ih]
  simp only [padd, mul_add, add_assoc, add_left_comm]
theorem conv_smul_left (a : α) (f g : Pol α) (n : Nat) : conv (smul a f) g n = a * conv f g n := by
 induction n generalizing f with
 | zero => simp only [conv_zero, smul, mul_assoc]
 | succ n ih =>
  have e : tail (smul a f) = smul a (tail f) := rfl
  rw [conv_succ, conv_succ, e, ih, mul_add]
  simp only [smul, mul_assoc]
theorem conv_zero_left (g : Pol α) (n : Nat) : conv pzero g n = 0 := by
 induction n with
 | zero => simp only [conv_zero, pzero, zero_mul]
 | succ n ih =>
  have e : tail (pzero : Pol α) = pzero := rfl
  rw [conv_succ, e, ih]
  simp only [pzero, zero_mul, add_zero]
theorem conv_succ_right (f g : Pol α) (n : Nat) : conv f g (n + 1) = f (n + 1) * g 0 + conv f (tail g) n := by
 induction n generalizing f with
 | zero =>
  rw [conv_succ, conv_zero, conv_zero, add_comm]
  rfl
 | succ n ih =>
  rw [conv_succ, ih, conv_succ f (tail g), add_left_comm]
  rfl
theorem conv_comm (f g : Pol α) (n : Nat) : conv f g n = conv g f n := by
 induction n generalizing f g with
 | zero => rw [conv_zero, conv_zero, mul_comm]
 | succ n ih => rw [conv_succ, conv_succ_right, ih, mul_comm]
theorem conv_assoc (f g h : Pol α) (n : Nat) : conv (pmul f g) h n = conv f (pmul g h) n := by
 induction n generalizing f with
 | zero => simp only [conv_zero, pmul, mul_assoc]
 | succ n ih =>
  have e : tail (pmul f g) = padd (smul (f 0) (tail g)) (pmul (tail f) g) := rfl
  rw [conv_succ, e, conv_add_left, conv_smul_left, ih, conv_succ f]
  have e2 : pmul g h (n + 1) = g 0 * h (n + 1) + conv (tail g) h n := rfl
  rw [e2, mul_add, ← add_assoc]
  simp only [pmul, conv_zero, mul_assoc]
theorem pmul_comm (f g : Pol α) : pmul f g = pmul g f := funext fun n => conv_comm f g n
theorem pmul_assoc (f g h : Pol α) : pmul (pmul f g) h = pmul f (pmul g h) := funext fun n => conv_assoc f g h n
theorem padd_assoc (f g h : Pol α) : padd (padd f g) h = padd f (padd g h) := funext fun n => add_assoc _ _ _
theorem padd_comm (f g : Pol α) : padd f g = padd g f := funext fun n => add_comm _ _
theorem pzero_padd (f : Pol α) : padd pzero f = f := funext fun n => zero_add _
theorem padd_pzero (f : Pol α) : padd f pzero = f := funext fun n => add_zero _
theorem pneg_padd (f : Pol α) : padd (pneg f) f = pzero := funext fun n => neg_add _
theorem padd_pneg (f : Pol α) : padd f (pneg f) = pzero := funext fun n => add_neg _
theorem pmul_padd (f g h : Pol α) : pmul f (padd g h) = padd (pmul f g) (pmul f h) := funext fun n => conv_add_right f g h n
theorem padd_pmul (f g h : Pol α) : pmul (padd f g) h = padd (pmul f h) (pmul g h) := funext fun n => conv_add_left f g h n
theorem smul_pmul (a : α) (f g : Pol α) : pmul (smul a f) g = smul a (pmul f g) := funext fun n => conv_smul_left a f g n
theorem pzero_pmul (f : Pol α) : pmul pzero f = pzero := funext fun n => conv_zero_left f n
theorem pmul_pzero (f : Pol α) : pmul f pzero = pzero := by rw [pmul_comm, pzero_pmul]
theorem C_pmul (a : α) (f : Pol α) : pmul (C a) f = smul a f := by
 funext n
 cases n with
 | zero => rfl
 | succ n =>
  have e : tail (C a) = pzero := rfl
  show conv (C a) f (n + 1) = _
  rw [conv_succ, e, conv_zero_left, add_zero]
  rfl
theorem one_smul (f : Pol α) : smul 1 f = f := funext fun n => one_mul _
theorem smul_padd (a : α) (f g : Pol α) : smul a (padd f g) = padd (smul a f) (smul a g) := funext fun n => mul_add _ _ _
theorem C_one_pmul (f : Pol α) : pmul (C 1) f = f := by rw [C_pmul, one_smul]
theorem pneg_pmul (f g : Pol α) : pmul (pneg f) g = pneg (pmul f g) := by
 have e : pneg f = smul (-1) f := funext fun n => by simp only [pneg, smul, neg_mul, one_mul]
 rw [e, smul_pmul]
 exact funext fun n => by simp only [pneg, smul, neg_mul, one_mul]
theorem xmul_pmul (f g : Pol α) : pmul (xmul f) g = xmul (pmul f g) := by
 funext n
 cases n with
 | zero => show conv (xmul f) g 0 = 0; rw [conv_zero]; exact zero_mul _
 | succ n =>
  show conv (xmul f) g (n + 1) = conv f g n
  rw [conv_succ]
  have e : tail (xmul f) = f := rfl
  have e0 : xmul f 0 = 0 := rfl
  rw [e, e0, zero_mul, zero_add]
theorem pmul_xmul (f g : Pol α) : pmul f (xmul g) = xmul (pmul f g) := by rw [pmul_comm, xmul_pmul, pmul_comm]
theorem split (f : Pol α) : f = padd (C (f 0)) (xmul (tail f)) := by
 funext n
 cases n with
 | zero => exact (add_zero _).symm
 | succ n => exact (zero_add _).symm
def DegLt (f : Pol α) (n : Nat) : Prop := ∀ i, n ≤ i → f i = 0
theorem DegLt.mono {f : Pol α} {m n : Nat} (h : DegLt f m) (hmn : m ≤ n) : DegLt f n := fun i hi => h i (by omega)
theorem DegLt.tail {f : Pol α} {n : Nat} (h : DegLt f (n + 1)) : DegLt (tail f) n := fun i hi => h (i + 1) (by omega)
theorem DegLt.add {f g : Pol α} {n : Nat} (h : DegLt f n) (h' : DegLt g n) : DegLt (padd f g) n := fun i hi => by simp only [padd, h i hi, h' i hi, add_zero]
theorem DegLt.neg {f : Pol α} {n : Nat} (h : DegLt f n) : DegLt (pneg f) n := fun i hi => by simp only [pneg, h i hi, neg_zero]
theorem DegLt.smul {f : Pol α} {n : Nat} (a : α) (h : DegLt f n) : DegLt (smul a f) n := fun i hi => by simp only [Alg.smul, h i hi, mul_zero]
theorem DegLt.xmul {f : Pol α} {n : Nat} (h : DegLt f n) : DegLt (xmul f) (n + 1) := fun i hi => by
 obtain ⟨j, rfl⟩ : ∃ j, i = j + 1 := ⟨i - 1, by omega⟩
 exact h j (by omega)
theorem DegLt.C (a : α) : DegLt (C a) 1 := fun i hi => if_neg (by omega)
theorem DegLt.zero {f : Pol α} (h : DegLt f 0) : f = pzero := funext fun n => h n (by omega)
theorem DegLt.pzero (n : Nat) : DegLt (pzero : Pol α) n := fun _ _ => rfl
theorem DegLt.pmul {f g : Pol α} {m n : Nat} (hf : DegLt f (m + 1)) (hg : DegLt g n) : DegLt (pmul f g) (m + n) := by
 induction m generalizing f with
 | zero =>
  have e : f = Alg.C (f 0) := by
   rw [split f]
   have := (hf.tail).zero
   rw [this]
   funext n
   cases n with
   | zero => rfl
   | succ n => exact zero_add _
  rw [e, C_pmul, Nat.zero_add]
  exact hg.smul _
 | succ m ih =>
  rw [split f, padd_pmul, C_pmul, xmul_pmul]
  refine DegLt.add ((hg.smul _).mono (by omega)) ?_
  rw [show m + 1 + n = (m + n) + 1 by omega]
  exact (ih hf.tail).xmul
theorem eq_C {f : Pol α} (h : DegLt f 1) : f = C (f 0) := by
 funext n
 cases n with
 | zero => rfl
 | succ n => exact h (n + 1) (by omega)
def ev (n : Nat) (f : Pol α) (x : α) : α := match n with
 | 0 => 0
 | n + 1 => f 0 + x * ev n (tail f) x
theorem ev_zero (f : Pol α) (x : α) : ev 0 f x = 0 := rfl
theorem ev_succ (n : Nat) (f : Pol α) (x : α) : ev (n + 1) f x = f 0 + x * ev n (tail f) x := rfl
theorem ev_pzero (n : Nat) (x : α) : ev n pzero x = 0 := by
 induction n with
 | zero => rfl
 | succ n ih =>
  have e : tail (pzero : Pol α) = pzero := rfl
  rw [ev_succ, e, ih, mul_zero]
  exact zero_add _
theorem ev_add (n : Nat) (f g : Pol α) (x : α) : ev n (padd f g) x = ev n f x + ev n g x := by
 induction n generalizing f g with
 | zero => exact (zero_add _).symm
 | succ n ih =>
  have e : tail (padd f g) = padd (tail f) (tail g) := rfl
  rw [ev_succ, e, ih, ev_succ, ev_succ, mul_add]
  simp only [padd, add_assoc, add_left_comm]
theorem ev_smul (n : Nat) (a : α) (f : Pol α) (x : α) : ev n (smul a f) x = a * ev n f x := by
 induction n generalizing f with
 | zero => exact (mul_zero _).symm
 | succ n ih =>
  have e : tail (smul a f) = smul a (tail f) := rfl
  rw [ev_succ, e, ih, ev_succ, mul_add, mul_left_comm]
  rfl
theorem ev_mono {n m : Nat} {f : Pol α} (h : DegLt f n) (hm : n ≤ m) (x : α) : ev m f x = ev n f x := by
 induction n generalizing m f with
 | zero => rw [h.zero, ev_pzero, ev_pzero]
 | succ n ih =>
  obtain ⟨k, rfl⟩ : ∃ k, m = k + 1 := ⟨m - 1, by omega⟩
  rw [ev_succ, ev_succ, ih h.tail (by omega)]
theorem ev_xmul (n : Nat) (f : Pol α) (x : α) : ev (n + 1) (xmul f) x = x * ev n f x := by
 rw [ev_succ]
 exact zero_add _
theorem ev_C (n : Nat) (a : α) (x : α) : ev (n + 1) (C a) x = a := by
 have e : tail (C a) = pzero := rfl
 rw [ev_succ, e, ev_pzero, mul_zero, add_zero]
 rfl
theorem ev_mul {m n : Nat} {f g : Pol α} (hf : DegLt f (m + 1)) (hg : DegLt g n) (x : α) : ev (m + n) (pmul f g) x = ev (m + 1) f x * ev n g x := by
 induction m generalizing f with
 | zero =>
  rw [eq_C hf, C_pmul, Nat.zero_add, ev_smul, Nat.zero_add, ev_C]
 | succ m ih =>
  have h1 : ev (m + 1 + n) (pmul f g) x = ev (m + 1 + n) (padd (smul (f 0) g) (xmul (pmul (tail f) g))) x := by
   conv => lhs; rw [split f, padd_pmul, C_pmul, xmul_pmul]
  rw [h1, ev_add, ev_smul, ev_mono hg (by omega), show m + 1 + n = (m + n) + 1 by omega, ev_xmul, ih hf.tail, ev_succ (m + 1) f, add_mul, mul_assoc]
theorem ev_sum (n : Nat) (f : Pol α) (x : α) : ev n f x = sum n (fun i => f i * pow x i) := by
 induction n generalizing f with
 | zero => rfl
 | succ n ih =>
  rw [ev_succ, ih, sum_head, pow_zero, mul_one, mul_sum]
  congr 1
  exact sum_congr fun i _ => by rw [pow_succ, mul_left_comm]; rfl
def Monic (d : Pol α) (m : Nat) : Prop := d m = 1 ∧ DegLt d (m + 1)
theorem Monic.top {d : Pol α} {m : Nat} (h : Monic d m) {q : Pol α} {k : Nat} (hq : DegLt q (k + 1)) : pmul q d (k + m) = q k := by
 induction k generalizing q with
 | zero => rw [eq_C hq, C_pmul, Nat.zero_add]; show q 0 * d m = _; rw [h.1, mul_one]; rfl
 | succ k ih =>
  have e : k + 1 + m = (k + m) + 1 := by omega
  rw [e]
  show conv q d (k + m + 1) = _
  rw [conv_succ, h.2 (k + m + 1) (by omega), mul_zero, zero_add]
  exact ih hq.tail
theorem Monic.mul {c d : Pol α} {m n : Nat} (hc : Monic c m) (hd : Monic d n) : Monic (pmul c d) (m + n) :=
 ⟨by rw [hd.top hc.2, hc.1], by have := hc.2.pmul hd.2; rwa [show m + n + 1 = m + (n + 1) by omega]⟩
theorem Monic.divides {d : Pol α} {m : Nat} (hd : Monic d m) : ∀ (n : Nat) (f : Pol α), DegLt f n → ∃ q r, f = padd (pmul q d) r ∧ DegLt r m ∧ DegLt q n := by
 intro n
 induction n with
 | zero =>
  intro f hf
  exact ⟨pzero, pzero, by rw [pzero_pmul, pzero_padd]; exact hf.zero, DegLt.pzero _, DegLt.pzero _⟩
 | succ n ih =>
  intro f hf
  obtain ⟨q, r, he, hr, hq⟩ := ih (tail f) hf.tail
  have h1 : f = padd (pmul (xmul q) d) (padd (C (f 0)) (xmul r)) := by
   have : f = padd (C (f 0)) (xmul (tail f)) := split f
   rw [xmul_pmul]
   conv => lhs; rw [this, he]
   funext i
   cases i with
   | zero => show _ + 0 = 0 + (_ + 0); rw [zero_add]
   | succ i => show 0 + (_ + _) = _ + (0 + _); rw [zero_add, zero_add]; rfl
  generalize hs : padd (C (f 0)) (xmul r) = s at h1
  have hsd : DegLt s (m + 1) := by rw [← hs]; exact ((DegLt.C _).mono (by omega)).add hr.xmul
  refine ⟨padd (xmul q) (C (s m)), padd s (pneg (smul (s m) d)), ?_, ?_, hq.xmul.add ((DegLt.C _).mono (by omega))⟩
  ·rw [padd_pmul, C_pmul]
   conv => lhs; rw [h1]
   funext i
   simp only [padd, pneg]
   rw [add_assoc, add_left_comm (smul (s m) d i), add_neg, add_zero]
  ·intro i hi
   by_cases e : i = m
   ·subst e
    show s i + -(s i * d i) = 0
    rw [hd.1, mul_one, add_neg]
   ·show s i + -(s m * d i) = 0
    rw [hsd i (by omega), hd.2 i (by omega), mul_zero, neg_zero, add_zero]
theorem Monic.unique {d : Pol α} {m : Nat} (hd : Monic d m) {q : Pol α} {n : Nat} (hq : DegLt q n) (h : DegLt (pmul q d) m) : q = pzero := by
 induction n with
 | zero => exact hq.zero
 | succ n ih =>
  have := hd.top hq
  rw [h (n + m) (by omega)] at this
  exact ih (fun i hi => by
   by_cases e : i = n
   ·subst e; exact this.symm
   ·exact hq i (by omega))
def lin (a : α) : Pol α := fun n => if n = 0 then -a else if n = 1 then 1 else 0
theorem lin_monic (a : α) : Monic (lin a) 1 := ⟨rfl, fun i hi => by unfold lin; rw [if_neg (by omega), if_neg (by omega)]⟩
theorem ev_lin (a x : α) : ev 2 (lin a) x = x + -a := by
 show -a + x * (1 + x * 0) = _
 rw [mul_zero, add_zero, mul_one, add_comm]
theorem factor {f : Pol α} {n : Nat} (hf : DegLt f (n + 1)) {a : α} (h : ev (n + 1) f a = 0) : ∃ g, f = pmul g (lin a) ∧ DegLt g n := by
 obtain ⟨q, r, he, hr, hq⟩ := (lin_monic a).divides (n + 1) f hf
 have hr0 : r 0 = 0 := by
  have h2 : ev (n + 1 + 2) f a = 0 := by rw [ev_mono hf (by omega), h]
  rw [he, ev_add] at h2
  have h3 : ev (n + 1 + 2) (pmul q (lin a)) a = 0 := by
   rw [ev_mul (hq.mono (by omega) : DegLt q (n + 1 + 1)) (lin_monic a).2]
   show _ * ev 2 (lin a) a = 0
   rw [ev_lin, add_neg, mul_zero]
  rw [h3, zero_add, ev_mono hr (by omega)] at h2
  have h4 : ev 1 r a = r 0 := by rw [ev_succ, ev_zero, mul_zero, add_zero]
  rw [← h4]; exact h2
 have hrz : r = pzero := by
  rw [eq_C hr, hr0]
  funext i
  show (if i = 0 then (0 : α) else 0) = 0
  split <;> rfl
 rw [hrz, padd_pzero] at he
 refine ⟨q, he, ?_⟩
 intro i hi
 by_cases e : n + 1 ≤ i
 ·exact hq i e
 ·obtain rfl : i = n := by omega
  have := (lin_monic a).top (hq.mono (Nat.le_refl _))
  rw [← he, hf (i + 1) (by omega)] at this
  exact this.symm
end ring
section field
variable {α : Type} [Fd α]
theorem roots_bound : ∀ (n : Nat) (f : Pol α) (l : List α), DegLt f n → l.Nodup → (∀ a ∈ l, ev n f a = 0) → n ≤ l.length → f = pzero := by
 intro n
 induction n with
 | zero => intro f l hf _ _ _; exact hf.zero
 | succ n ih =>
  intro f l hf hl hr hn
  match l, hl, hr, hn with
  | a :: l, hl, hr, hn =>
   obtain ⟨g, he, hg⟩ := factor hf (hr a List.mem_cons_self)
   have hl' := List.nodup_cons.1 hl
   have : g = pzero := ih g l hg hl'.2 (fun b hb => by
    have h1 := hr b (List.mem_cons_of_mem _ hb)
    have h2 : ev (n + 2) f b = 0 := by rw [ev_mono hf (by omega), h1]
    rw [he, ev_mul (hg.mono (by omega) : DegLt g (n + 1)) (lin_monic a).2] at h2
    rcases mul_eq_zero h2 with h3 | h3
    ·rw [← ev_mono hg (by omega : n ≤ n + 1)]; exact h3
    ·exfalso
     have h4 : ev 2 (lin a) b = 0 := h3
     rw [ev_lin] at h4
     exact hl'.1 ((sub_eq_zero h4) ▸ hb)) (by simpa using hn)
   rw [he, this, pzero_pmul]
theorem make_monic {f : Pol α} {n : Nat} (hf : DegLt f n) (h : f ≠ pzero) : ∃ k c, k < n ∧ c ≠ 0 ∧ Monic (smul c f) k := by
 induction n with
 | zero => exact absurd hf.zero h
 | succ n ih =>
  by_cases e : f n = 0
  ·obtain ⟨k, c, hk, hc, hm⟩ := ih (fun i hi => by
    by_cases e' : i = n
    ·subst e'; exact e
    ·exact hf i (by omega))
   exact ⟨k, c, by omega, hc, hm⟩
  ·exact ⟨n, inv (f n), by omega, inv_ne_zero e, inv_mul e, hf.smul _⟩
end field
end Go.Proofs.Ytibbdjkboglepaa.Alg
namespace Go.Proofs.Ytibbdjkboglepaa.Alg
open Go.Proofs.Ytibbdjkboglepaa.My
structure Pr where
 p : Int
 two : 2 ≤ p
 prime : ∀ d : Int, 2 ≤ d → d < p → ¬ d ∣ p
def Zp (P : Pr) : Type := {x : Int // 0 ≤ x ∧ x < P.p}
section
variable {P : Pr}
theorem Pr.pos (P : Pr) : 0 < P.p := by have := P.two; omega
theorem Pr.ne (P : Pr) : P.p ≠ 0 := by have := P.two; omega
def of (P : Pr) (x : Int) : Zp P := ⟨x % P.p, Int.emod_nonneg x P.ne, Int.emod_lt_of_pos x P.pos⟩
theorem of_val (x : Int) : (of P x).1 = x % P.p := rfl
theorem of_eq {x y : Int} : of P x = of P y ↔ x % P.p = y % P.p := ⟨fun h => congrArg Subtype.val h, fun h => Subtype.ext h⟩
theorem of_self (a : Zp P) : of P a.1 = a := Subtype.ext (Int.emod_eq_of_lt a.2.1 a.2.2)
instance : Add (Zp P) := ⟨fun a b => of P (a.1 + b.1)⟩
instance : Mul (Zp P) := ⟨fun a b => of P (a.1 * b.1)⟩
instance : Neg (Zp P) := ⟨fun a => of P (-a.1)⟩
instance : Zero (Zp P) := ⟨of P 0⟩
instance : One (Zp P) := ⟨of P 1⟩
instance : DecidableEq (Zp P) := fun a b => decidable_of_iff (a.1 = b.1) ⟨fun h => Subtype.ext h, fun h => congrArg _ h⟩
theorem mod_add_mod' (a b n : Int) : (a % n + b % n) % n = (a + b) % n := by rw [Int.emod_add_emod, Int.add_emod_emod]
theorem mod_mul_mod' (a b n : Int) : (a % n * (b % n)) % n = (a * b) % n := (Int.mul_emod a b n).symm
theorem of_add (x y : Int) : of P x + of P y = of P (x + y) := of_eq.2 (mod_add_mod' x y P.p)
theorem of_mul (x y : Int) : of P x * of P y = of P (x * y) := of_eq.2 (mod_mul_mod' x y P.p)
theorem of_neg (x : Int) : -of P x = of P (-x) := of_eq.2 (by
 show -(x % P.p) % P.p = -x % P.p
 rw [mod_eq_iff]
 have := Int.mul_ediv_add_emod x P.p
 exact ⟨x / P.p, by omega⟩)
theorem of_zero : of P 0 = 0 := rfl
theorem of_one : of P 1 = 1 := rfl
theorem of_cases (a : Zp P) : ∃ x, a = of P x := ⟨a.1, (of_self a).symm⟩
instance : CR (Zp P) where
 add_assoc a b c := by
  obtain ⟨x, rfl⟩ := of_cases a; obtain ⟨y, rfl⟩ := of_cases b; obtain ⟨z, rfl⟩ := of_cases c
  rw [of_add, of_add, of_add, of_add, Int.add_assoc]
 add_comm a b := by
  obtain ⟨x, rfl⟩ := of_cases a; obtain ⟨y, rfl⟩ := of_cases b
  rw [of_add, of_add, Int.add_comm]
 zero_add a := by
  obtain ⟨x, rfl⟩ := of_cases a
  rw [← of_zero, of_add, Int.zero_add]
 neg_add a := by
  obtain ⟨x, rfl⟩ := of_cases a
  rw [of_neg, of_add, Int.add_left_neg, of_zero]
 mul_assoc a b c := by
  obtain ⟨x, rfl⟩ := of_cases a; obtain ⟨y, rfl⟩ := of_cases b; obtain ⟨z, rfl⟩ := of_cases c
  rw [of_mul, of_mul, of_mul, of_mul, Int.mul_assoc]
 mul_comm a b := by
  obtain ⟨x, rfl⟩ := of_cases a; obtain ⟨y, rfl⟩ := of_cases b
  rw [of_mul, of_mul, Int.mul_comm]
 one_mul a := by
  obtain ⟨x, rfl⟩ := of_cases a
  rw [← of_one, of_mul, Int.one_mul]
 mul_add a b c := by
  obtain ⟨x, rfl⟩ := of_cases a; obtain ⟨y, rfl⟩ := of_cases b; obtain ⟨z, rfl⟩ := of_cases c
  rw [of_add, of_mul, of_mul, of_mul, of_add, Int.mul_add]
theorem of_eq_zero {x : Int} : of P x = 0 ↔ P.p ∣ x := by
 rw [← of_zero, of_eq, mod_eq_iff]
 simp
theorem Pr.coprime (P : Pr) {x : Int} (h : ¬ P.p ∣ x) : Int.gcd x P.p = 1 := by
 have h1 := Int.gcd_dvd_left x P.p
 have h2 := Int.gcd_dvd_right x P.p
 generalize Int.gcd x P.p = g at *
 have hg : (g : Int) ≤ P.p := Int.le_of_dvd P.pos h2
 by_cases e : g = 1
 ·exact e
 ·exfalso
  have hg0 : g ≠ 0 := by
   intro e0
   subst e0
   have := Int.zero_dvd.1 h2
   have := P.two
   omega
  by_cases e2 : (g : Int) = P.p
  ·exact h (e2 ▸ h1)
  ·exact P.prime g (by omega) (by omega) h2
theorem Zp_inv (a : Zp P) (h : a ≠ 0) : ∃ b, a * b = 1 := by
 obtain ⟨x, rfl⟩ := of_cases a
 obtain ⟨u, hu, _⟩ := inverse_mod (P.coprime (fun hd => h (of_eq_zero.2 hd)))
 refine ⟨of P u, ?_⟩
 rw [of_mul, ← of_one, of_eq, mod_eq_iff, Int.mul_comm]
 exact hu
open Classical in
noncomputable instance : Fd (Zp P) where
 inv a := if h : a = 0 then 0 else (Zp_inv a h).choose
 mul_inv a h := by
  simp only [h, dite_false]
  exact (Zp_inv a h).choose_spec
 one_ne h := by
  have h1 := of_eq_zero.1 (h : of P 1 = 0)
  have := Int.le_of_dvd (by omega) h1
  have := P.two
  omega
end
end Go.Proofs.Ytibbdjkboglepaa.Alg
namespace Go.Proofs.Ytibbdjkboglepaa.Alg
open Go.Proofs.Ytibbdjkboglepaa.My
section cong
variable {α : Type} [CR α]
def Cong (F f g : Pol α) : Prop := ∃ q n, DegLt q n ∧ f = padd g (pmul q F)
theorem Cong.refl (F f : Pol α) : Cong F f f := ⟨pzero, 0, DegLt.pzero _, by rw [pzero_pmul, padd_pzero]⟩
theorem Cong.symm {F f g : Pol α} (h : Cong F f g) : Cong F g f := by
 obtain ⟨q, n, hq, rfl⟩ := h
 exact ⟨pneg q, n, hq.neg, by rw [pneg_pmul, padd_assoc, padd_pneg, padd_pzero]⟩
theorem DegLt.max_add {f g : Pol α} {m n : Nat} (h : DegLt f m) (h' : DegLt g n) : DegLt (padd f g) (m + n) := (h.mono (by omega)).add (h'.mono (by omega))
theorem Cong.trans {F f g h : Pol α} (a : Cong F f g) (b : Cong F g h) : Cong F f h := by
 obtain ⟨q, n, hq, rfl⟩ := a
 obtain ⟨q', n', hq', rfl⟩ := b
 exact ⟨padd q' q, n' + n, hq'.max_add hq, by rw [padd_pmul, padd_assoc]⟩
theorem Cong.add {F f g f' g' : Pol α} (a : Cong F f g) (b : Cong F f' g') : Cong F (padd f f') (padd g g') := by
 obtain ⟨q, n, hq, rfl⟩ := a
 obtain ⟨q', n', hq', rfl⟩ := b
 refine ⟨padd q q', n + n', hq.max_add hq', ?_⟩
 rw [padd_pmul]
 funext i
 simp only [padd, add_assoc, add_left_comm]
theorem Cong.mul {F f g h : Pol α} {n : Nat} (a : Cong F f g) (hh : DegLt h n) : Cong F (pmul f h) (pmul g h) := by
 obtain ⟨q, k, hq, rfl⟩ := a
 refine ⟨pmul q h, k + n, (hq.mono (by omega) : DegLt q (k + 1)).pmul hh, ?_⟩
 rw [padd_pmul, pmul_assoc, pmul_assoc, pmul_comm F h]
theorem Cong.mul2 {F f g f' g' : Pol α} {n n' : Nat} (a : Cong F f g) (b : Cong F f' g') (h : DegLt f' n) (h' : DegLt g n') : Cong F (pmul f f') (pmul g g') := by
 refine (a.mul h).trans ?_
 rw [pmul_comm g f', pmul_comm g g']
 exact b.mul h'
theorem Cong.neg {F f g : Pol α} (a : Cong F f g) : Cong F (pneg f) (pneg g) := by
 obtain ⟨q, n, hq, rfl⟩ := a
 refine ⟨pneg q, n, hq.neg, ?_⟩
 rw [pneg_pmul]
 exact funext fun i => neg_add' _ _
theorem Cong.unique {F f g : Pol α} {m : Nat} (hF : Monic F m) (h : Cong F f g) (hf : DegLt f m) (hg : DegLt g m) : f = g := by
 obtain ⟨q, n, hq, he⟩ := h
 have h1 : pmul q F = padd f (pneg g) := by
  rw [he, padd_comm g, padd_assoc, padd_pneg, padd_pzero]
 have := hF.unique hq (by rw [h1]; exact hf.add hg.neg)
 rw [this, pzero_pmul, padd_pzero] at he
 exact he
theorem Cong.exists {F f : Pol α} {m n : Nat} (hF : Monic F m) (hf : DegLt f n) : ∃ r, Cong F f r ∧ DegLt r m := by
 obtain ⟨q, r, he, hr, hq⟩ := hF.divides n f hf
 exact ⟨r, ⟨q, n, hq, by rw [he, padd_comm]⟩, hr⟩
end cong
section digits
variable {P : Pr}
def dig (P : Pr) (x : Int) : Pol (Zp P) := fun i => of P (x / P.p ^ i)
theorem dig_zero (x : Int) : dig P x 0 = of P x := by simp [dig]
theorem dig_tail (x : Int) : tail (dig P x) = dig P (x / P.p) := by
 funext i
 show of P (x / P.p ^ (i + 1)) = of P (x / P.p / P.p ^ i)
 rw [Int.pow_succ, Int.mul_comm, Int.ediv_ediv, if_neg (by have := P.two; omega), Int.sub_zero]
def pval (m : Nat) (r : Pol (Zp P)) : Int := match m with
 | 0 => 0
 | m + 1 => (r 0).1 + P.p * pval m (tail r)
theorem pval_succ (m : Nat) (r : Pol (Zp P)) : pval (m + 1) r = (r 0).1 + P.p * pval m (tail r) := rfl
theorem pow_pos (P : Pr) (m : Nat) : 0 < P.p ^ m := Int.pow_pos P.pos
theorem pow_le (P : Pr) {m n : Nat} (h : m ≤ n) : P.p ^ m ≤ P.p ^ n := by
 obtain ⟨k, rfl⟩ : ∃ k, n = m + k := ⟨n - m, by omega⟩
 rw [Int.pow_add]
 have h1 := pow_pos P m
 have h2 := pow_pos P k
 have := Int.mul_le_mul_of_nonneg_left (show 1 ≤ P.p ^ k by omega) (show 0 ≤ P.p ^ m by omega)
 omega
theorem pval_range (m : Nat) (r : Pol (Zp P)) : 0 ≤ pval m r ∧ pval m r < P.p ^ m := by
 induction m generalizing r with
 | zero => exact ⟨by simp [pval], by simp [pval]⟩
 | succ m ih =>
  obtain ⟨h1, h2⟩ := ih (tail r)
  have h3 := (r 0).2
  have h4 : P.p * pval m (tail r) ≤ P.p * (P.p ^ m - 1) := Int.mul_le_mul_of_nonneg_left (by omega) (by have := P.pos; omega)
  have h5 : 0 ≤ P.p * pval m (tail r) := Int.mul_nonneg (by have := P.pos; omega) h1
  have h6 : P.p ^ (m + 1) = P.p * P.p ^ m := by rw [Int.pow_succ, Int.mul_comm]
  rw [Int.mul_sub, Int.mul_one, ← h6] at h4
  rw [pval_succ]
  omega
theorem dig_pval (m : Nat) (r : Pol (Zp P)) (h : DegLt r m) : dig P (pval m r) = r := by
 induction m generalizing r with
 | zero =>
  rw [h.zero]
  funext i
  show of P ((0 : Int) / _) = 0
  rw [Int.zero_ediv]; rfl
 | succ m ih =>
  have h0 := (r 0).2
  have e1 : (pval (m + 1) r) / P.p = pval m (tail r) := by
   rw [pval_succ, Int.add_mul_ediv_left _ _ P.ne, Int.ediv_eq_zero_of_lt h0.1 h0.2, Int.zero_add]
  rw [split (dig P (pval (m + 1) r)), dig_tail, e1, ih _ h.tail, dig_zero]
  have e2 : of P (pval (m + 1) r) = r 0 := by
   rw [pval_succ]
   conv => rhs; rw [← of_self (r 0)]
   rw [of_eq, Int.add_mul_emod_self_left]
  rw [e2, ← split r]
theorem pval_dig (m : Nat) (x : Int) (h0 : 0 ≤ x) (h : x < P.p ^ m) : pval m (dig P x) = x := by
 induction m generalizing x with
 | zero => simp at h; simp [pval]; omega
 | succ m ih =>
  have h1 : x / P.p < P.p ^ m := by
   apply Int.ediv_lt_of_lt_mul P.pos
   rwa [← Int.pow_succ]
  rw [pval_succ, dig_tail, ih _ (Int.ediv_nonneg h0 (by have := P.pos; omega)) h1, dig_zero, of_val]
  have := Int.emod_add_mul_ediv x P.p
  omega
theorem dig_deg (m : Nat) (x : Int) (h0 : 0 ≤ x) (h : x < P.p ^ m) : DegLt (dig P x) m := by
 intro i hi
 show of P (x / P.p ^ i) = 0
 rw [Int.ediv_eq_zero_of_lt h0 (Int.lt_of_lt_of_le h ?_)]
 ·rfl
 ·exact pow_le P hi
theorem dig_inj (m : Nat) {x y : Int} (h0 : 0 ≤ x) (h : x < P.p ^ m) (h0' : 0 ≤ y) (h' : y < P.p ^ m) (e : dig P x = dig P y) : x = y := by
 rw [← pval_dig m x h0 h, e, pval_dig m y h0' h']
end digits
structure FD extends Pr where
 m : Nat
 hm : 1 ≤ m
 F : Pol (Zp toPr)
 monic : Monic F m
 irr : ∀ (k : Nat) (g h : Pol (Zp toPr)), 1 ≤ k → k < m → Monic g k → Monic h (m - k) → pmul g h ≠ F
def FD.q (D : FD) : Int := D.p ^ D.m
def GF (D : FD) : Type := {x : Int // 0 ≤ x ∧ x < D.q}
section gf
variable {D : FD}
theorem FD.q_pos (D : FD) : 0 < D.q := pow_pos D.toPr D.m
theorem FD.two_q (D : FD) : 2 ≤ D.q := by
 unfold FD.q
 obtain ⟨k, hk⟩ : ∃ k, D.m = k + 1 := ⟨D.m - 1, by have := D.hm; omega⟩
 have h1 := pow_pos D.toPr k
 have h2 : D.p * 1 ≤ D.p * D.p ^ k := Int.mul_le_mul_of_nonneg_left (by omega) (by have := D.two; omega)
 rw [hk, Int.pow_succ, Int.mul_comm]
 have := D.two
 omega
def GF.dg (a : GF D) : Pol (Zp D.toPr) := dig D.toPr a.1
theorem GF.deg (a : GF D) : DegLt a.dg D.m := dig_deg D.m a.1 a.2.1 a.2.2
theorem GF.ext {a b : GF D} (h : a.dg = b.dg) : a = b := Subtype.ext (dig_inj D.m a.2.1 a.2.2 b.2.1 b.2.2 h)
theorem GF.ext_cong {a b : GF D} (h : Cong D.F a.dg b.dg) : a = b := GF.ext (h.unique D.monic a.deg b.deg)
def gval (D : FD) (r : Pol (Zp D.toPr)) : GF D := ⟨pval D.m r, (pval_range D.m r).1, (pval_range D.m r).2⟩
theorem dg_gval {r : Pol (Zp D.toPr)} (h : DegLt r D.m) : (gval D r).dg = r := dig_pval D.m r h
theorem GF.mul_ex (a b : GF D) : ∃ c : GF D, Cong D.F (pmul a.dg b.dg) c.dg := by
 obtain ⟨r, hr, hd⟩ := Cong.exists D.monic ((a.deg.mono (by omega) : DegLt a.dg (D.m + 1)).pmul b.deg)
 exact ⟨gval D r, by rw [dg_gval hd]; exact hr⟩
noncomputable instance : Mul (GF D) := ⟨fun a b => (GF.mul_ex a b).choose⟩
instance : Add (GF D) := ⟨fun a b => gval D (padd a.dg b.dg)⟩
instance : Neg (GF D) := ⟨fun a => gval D (pneg a.dg)⟩
instance : Zero (GF D) := ⟨⟨0, by omega, D.q_pos⟩⟩
instance : One (GF D) := ⟨⟨1, by omega, by have := D.two_q; omega⟩⟩
instance : DecidableEq (GF D) := fun a b => decidable_of_iff (a.1 = b.1) ⟨fun h => Subtype.ext h, fun h => congrArg _ h⟩
theorem dg_mul (a b : GF D) : Cong D.F (pmul a.dg b.dg) (a * b).dg := (GF.mul_ex a b).choose_spec
theorem dg_add (a b : GF D) : (a + b).dg = padd a.dg b.dg := dg_gval (a.deg.add b.deg)
theorem dg_neg (a : GF D) : (-a).dg = pneg a.dg := dg_gval a.deg.neg
theorem dg_zero : (0 : GF D).dg = pzero := by
 funext i
 show of D.toPr ((0 : Int) / _) = 0
 rw [Int.zero_ediv]; rfl
theorem dg_one : (1 : GF D).dg = C 1 := by
 funext i
 show of D.toPr ((1 : Int) / D.p ^ i) = _
 cases i with
 | zero => simp [C]; rfl
 | succ i =>
  rw [Int.ediv_eq_zero_of_lt (by omega) (Int.lt_of_lt_of_le (show 1 < D.p by have := D.two; omega) ?_)]
  ·rfl
  ·have h1 := pow_pos D.toPr i
   rw [Int.pow_succ, Int.mul_comm]
   have := Int.mul_le_mul_of_nonneg_left (show 1 ≤ D.p ^ i by omega) (show 0 ≤ D.p by have := D.two; omega)
   omega
theorem one_val : (1 : GF D).1 = 1 := rfl
theorem zero_val : (0 : GF D).1 = 0 := rfl
noncomputable instance : CR (GF D) where
 add_assoc a b c := GF.ext (by rw [dg_add, dg_add, dg_add, dg_add, padd_assoc])
 add_comm a b := GF.ext (by rw [dg_add, dg_add, padd_comm])
 zero_add a := GF.ext (by rw [dg_add, dg_zero, pzero_padd])
 neg_add a := GF.ext (by rw [dg_add, dg_neg, dg_zero, pneg_padd])
 mul_assoc a b c := GF.ext_cong (by
  have h1 := (dg_mul (a * b) c).symm.trans (((dg_mul a b).symm.mul c.deg))
  have h2 := (dg_mul a (b * c)).symm.trans ((Cong.refl D.F a.dg).mul2 (dg_mul b c).symm (b * c).deg a.deg)
  refine h1.trans ?_
  rw [pmul_assoc]
  exact h2.symm)
 mul_comm a b := GF.ext_cong (by
  refine (dg_mul a b).symm.trans ?_
  rw [pmul_comm]
  exact dg_mul b a)
 one_mul a := GF.ext_cong (by
  refine (dg_mul 1 a).symm.trans ?_
  rw [dg_one, C_one_pmul]
  exact Cong.refl _ _)
 mul_add a b c := GF.ext_cong (by
  refine (dg_mul a (b + c)).symm.trans ?_
  rw [dg_add, dg_add, pmul_padd]
  exact (dg_mul a b).add (dg_mul a c))
theorem GF.inv_ex (a : GF D) (ha : a ≠ 0) : ∃ b : GF D, a * b = 1 := by
 classical
 let I : Pol (Zp D.toPr) → Prop := fun f => ∃ u v n, DegLt u n ∧ DegLt v n ∧ f = padd (pmul u a.dg) (pmul v D.F)
 have hsm : ∀ c f, I f → I (smul c f) := by
  rintro c f ⟨u, v, n, hu, hv, rfl⟩
  exact ⟨smul c u, smul c v, n, hu.smul c, hv.smul c, by rw [smul_pmul, smul_pmul, smul_padd]⟩
 have hadz : a.dg ≠ pzero := fun h => ha (GF.ext (by rw [h, dg_zero]))
 have hIa : I a.dg := ⟨C 1, pzero, 1, DegLt.C _, DegLt.pzero _, by rw [C_one_pmul, pzero_pmul, padd_pzero]⟩
 let S : Nat → Prop := fun k => ∃ g, I g ∧ Monic g k
 obtain ⟨k0, c0, hk0, hc0, hm0⟩ := make_monic a.deg hadz
 have hS : S k0 := ⟨smul c0 a.dg, hsm _ _ hIa, hm0⟩
 have hleast : ∃ k, S k ∧ ∀ j, j < k → ¬ S j := by
  have : ∀ n, (∃ k, k ≤ n ∧ S k) → ∃ k, S k ∧ ∀ j, j < k → ¬ S j := by
   intro n
   induction n with
   | zero => rintro ⟨k, hk, hs⟩; exact ⟨k, hs, fun j hj => by omega⟩
   | succ n ih =>
    rintro ⟨k, hk, hs⟩
    by_cases h : ∃ j, j ≤ n ∧ S j
    ·exact ih h
    ·exact ⟨k, hs, fun j hj hs' => h ⟨j, by omega, hs'⟩⟩
  exact this k0 ⟨k0, Nat.le_refl _, hS⟩
 obtain ⟨k, ⟨g, hIg, hg⟩, hmin⟩ := hleast
 have hkm : k < D.m := Nat.lt_of_le_of_lt (Nat.le_of_not_lt fun h => hmin k0 h hS) hk0
 obtain ⟨q, r, he, hr, hq⟩ := hg.divides (D.m + 1) D.F D.monic.2
 obtain ⟨u, v, n, hu, hv, hgu⟩ := hIg
 have hrz : r = pzero := by
  apply Decidable.byContradiction
  intro hne
  obtain ⟨j, c, hj, hc, hmj⟩ := make_monic hr hne
  refine hmin j hj ⟨smul c r, hsm _ _ ?_, hmj⟩
  refine ⟨pneg (pmul q u), padd (C 1) (pneg (pmul q v)), D.m + 1 + n + 1, ?_, ?_, ?_⟩
  ·exact (((hq.mono (by omega) : DegLt q (D.m + 1 + 1)).pmul hu).mono (by omega)).neg
  ·exact ((DegLt.C 1).mono (by omega)).add (((hq.mono (by omega) : DegLt q (D.m + 1 + 1)).pmul hv).mono (by omega)).neg
  ·have h1 : r = padd (pneg (pmul q g)) D.F := by
    rw [he, ← padd_assoc, pneg_padd, pzero_padd]
   have h2 : pmul q g = padd (pmul (pmul q u) a.dg) (pmul (pmul q v) D.F) := by
    rw [hgu, pmul_padd, pmul_assoc, pmul_assoc]
   rw [h1, h2, pneg_pmul, padd_pmul, C_one_pmul, pneg_pmul]
   funext i
   simp only [padd, pneg]
   rw [neg_add', add_assoc, add_comm (-_ : Zp D.toPr) (D.F i)]
 rw [hrz, padd_pzero] at he
 have hk : k = 0 := by
  apply Decidable.byContradiction
  intro hk
  have hqm : Monic q (D.m - k) := by
   have hdq : ∀ e, DegLt q (D.m - k + 1 + e) → DegLt q (D.m - k + 1) := by
    intro e
    induction e with
    | zero => exact fun h => h
    | succ e ih =>
     intro h
     apply ih
     intro i hi
     by_cases e' : i = D.m - k + 1 + e
     ·have := hg.top (q := q) (k := i) (by rw [e']; exact h)
      rw [← he, D.monic.2 (i + k) (by omega)] at this
      exact this.symm
     ·exact h i (by omega)
   have hd : DegLt q (D.m - k + 1) := hdq k (hq.mono (by omega))
   refine ⟨?_, hd⟩
   have := hg.top hd
   rw [← he, show D.m - k + k = D.m by omega, D.monic.1] at this
   exact this.symm
  exact D.irr k g q (by omega) hkm hg hqm (by rw [pmul_comm]; exact he.symm)
 subst hk
 have hg1 : g = C 1 := by rw [eq_C hg.2, hg.1]
 have h1 : Cong D.F (pmul u a.dg) (C 1) := by
  refine ⟨pneg v, n, hv.neg, ?_⟩
  rw [← hg1, hgu, padd_assoc, pneg_pmul, padd_pneg, padd_pzero]
 obtain ⟨b, hb, hbd⟩ := Cong.exists D.monic hu
 refine ⟨gval D b, GF.ext_cong ?_⟩
 refine (dg_mul a (gval D b)).symm.trans ?_
 rw [dg_gval hbd, dg_one, pmul_comm]
 exact (hb.symm.mul a.deg).trans h1
open Classical in
noncomputable instance : Fd (GF D) where
 inv a := if h : a = 0 then 0 else (GF.inv_ex a h).choose
 mul_inv a h := by
  simp only [h, dite_false]
  exact (GF.inv_ex a h).choose_spec
 one_ne h := by
  have := congrArg Subtype.val h
  rw [one_val, zero_val] at this
  omega
end gf
end Go.Proofs.Ytibbdjkboglepaa.Alg
namespace Go.Proofs.Ytibbdjkboglepaa.Alg
section lists
variable {α : Type} [DecidableEq α]
theorem nodup_le {l l' : List α} (h : l.Nodup) (hs : ∀ a ∈ l, a ∈ l') : l.length ≤ l'.length := by
 induction l generalizing l' with
 | nil => simp
 | cons a l ih =>
  have hn := List.nodup_cons.1 h
  have ha := hs a List.mem_cons_self
  have := ih (l' := l'.erase a) hn.2 (fun b hb => (List.mem_erase_of_ne (fun e => hn.1 (by rw [← e]; exact hb))).2 (hs b (List.mem_cons_of_mem _ hb)))
  rw [List.length_erase_of_mem ha] at this
  have : 0 < l'.length := List.length_pos_of_mem ha
  simp; omega
theorem nodup_full {l l' : List α} (h : l.Nodup) (hs : ∀ a ∈ l, a ∈ l') (hl : l'.length ≤ l.length) (h' : l'.Nodup) : ∀ a ∈ l', a ∈ l := by
 intro a ha
 apply Decidable.byContradiction
 intro hn
 have := nodup_le (l := a :: l) (l' := l') (List.nodup_cons.2 ⟨hn, h⟩) (fun b hb => by
  rcases List.mem_cons.1 hb with rfl | hb
  ·exact ha
  ·exact hs b hb)
 simp at this; omega
theorem nodup_map {β : Type} {l : List α} {f : α → β} (h : l.Nodup) (hf : ∀ a ∈ l, ∀ b ∈ l, f a = f b → a = b) : (l.map f).Nodup := by
 induction l with
 | nil => simp
 | cons a l ih =>
  have hn := List.nodup_cons.1 h
  rw [List.map_cons, List.nodup_cons]
  refine ⟨?_, ih hn.2 (fun b hb c hc => hf b (List.mem_cons_of_mem _ hb) c (List.mem_cons_of_mem _ hc))⟩
  intro hm
  obtain ⟨b, hb, e⟩ := List.mem_map.1 hm
  exact hn.1 (hf b (List.mem_cons_of_mem _ hb) a List.mem_cons_self e ▸ hb)
end lists
theorem least_nat (S : Nat → Prop) : ∀ n, S n → ∃ k, k ≤ n ∧ S k ∧ ∀ j, j < k → ¬ S j := by
 classical
 intro n
 induction n using Nat.strongRecOn with
 | _ n ih =>
  intro h
  by_cases e : ∃ j, j < n ∧ S j
  ·obtain ⟨j, hj, hs⟩ := e
   obtain ⟨k, hk, h1, h2⟩ := ih j hj hs
   exact ⟨k, by omega, h1, h2⟩
  ·exact ⟨n, Nat.le_refl _, h, fun j hj hs => e ⟨j, hj, hs⟩⟩
section monoid
variable {α : Type} [CR α]
def IsOrd (x : α) (k : Nat) : Prop := 1 ≤ k ∧ pow x k = 1 ∧ ∀ j, 1 ≤ j → j < k → pow x j ≠ 1
theorem IsOrd.dvd {x : α} {k : Nat} (h : IsOrd x k) {j : Nat} : pow x j = 1 ↔ k ∣ j := by
 constructor
 ·intro hj
  have e := Nat.div_add_mod j k
  rw [← e, pow_add, pow_mul, h.2.1, one_pow, one_mul] at hj
  have hlt := Nat.mod_lt j (show 0 < k by have := h.1; omega)
  by_cases e0 : j % k = 0
  ·exact Nat.dvd_of_mod_eq_zero e0
  ·exact absurd hj (h.2.2 _ (by omega) hlt)
 ·rintro ⟨c, rfl⟩
  rw [pow_mul, h.2.1, one_pow]
theorem IsOrd.unique {x : α} {k j : Nat} (h : IsOrd x k) (h' : IsOrd x j) : k = j :=
 Nat.dvd_antisymm (h.dvd.1 h'.2.1) (h'.dvd.1 h.2.1)
theorem IsOrd.of_dvd {x : α} {k : Nat} (hk : 1 ≤ k) (h : ∀ j, pow x j = 1 ↔ k ∣ j) : IsOrd x k :=
 ⟨hk, (h k).2 (Nat.dvd_refl k), fun j hj hj' e => by
   have := Nat.le_of_dvd (by omega) ((h j).1 e)
   omega⟩
theorem ord_ex {x : α} {n : Nat} (hn : 1 ≤ n) (h : pow x n = 1) : ∃ k, IsOrd x k ∧ k ≤ n := by
 obtain ⟨k, hk, ⟨h1, h2⟩, h3⟩ := least_nat (fun k => 1 ≤ k ∧ pow x k = 1) n ⟨hn, h⟩
 exact ⟨k, ⟨h1, h2, fun j hj hj' e => h3 j hj' ⟨hj, e⟩⟩, hk⟩
theorem IsOrd.pow_mod {x : α} {k : Nat} (h : IsOrd x k) (j : Nat) : pow x (j % k) = pow x j := by
 conv => rhs; rw [← Nat.div_add_mod j k, pow_add, pow_mul, h.2.1, one_pow, one_mul]
theorem IsOrd.pow_pow {x : α} {k : Nat} (h : IsOrd x k) (i : Nat) : IsOrd (pow x i) (k / Nat.gcd k i) := by
 have hk := h.1
 have hg : 0 < Nat.gcd k i := Nat.gcd_pos_of_pos_left i (by omega)
 obtain ⟨a, ha⟩ := Nat.gcd_dvd_left k i
 obtain ⟨b, hb⟩ := Nat.gcd_dvd_right k i
 generalize hgg : Nat.gcd k i = g at *
 have hka : k / g = a := by rw [ha, Nat.mul_div_cancel_left a hg]
 rw [hka]
 have hco : Nat.Coprime a b := by
  have : g * Nat.gcd a b = g := by
   rw [← Nat.gcd_mul_left, ← ha, ← hb, hgg]
  have h1 : g * Nat.gcd a b = g * 1 := by rw [this, Nat.mul_one]
  exact Nat.eq_of_mul_eq_mul_left hg h1
 refine IsOrd.of_dvd ?_ (fun j => ?_)
 ·apply Nat.pos_of_ne_zero
  intro e
  rw [e, Nat.mul_zero] at ha
  omega
 ·rw [← pow_mul, h.dvd, ha, hb, Nat.mul_assoc]
  constructor
  ·intro hd
   have := Nat.dvd_of_mul_dvd_mul_left hg hd
   exact hco.dvd_of_dvd_mul_left this
  ·rintro ⟨c, rfl⟩
   exact ⟨b * c, by rw [Nat.mul_assoc, Nat.mul_left_comm b a c]⟩
theorem IsOrd.mul {x y : α} {a b : Nat} (hx : IsOrd x a) (hy : IsOrd y b) (hco : Nat.Coprime a b) : IsOrd (x * y) (a * b) := by
 refine IsOrd.of_dvd (Nat.mul_pos hx.1 hy.1) (fun j => ?_)
 rw [mul_pow]
 constructor
 ·intro h
  have h1 : pow y (j * a) = 1 := by
   have := congrArg (fun z => pow z a) h
   simp only [mul_pow, ← pow_mul, one_pow] at this
   rwa [show j * a = a * j from Nat.mul_comm _ _, pow_mul, hx.2.1, one_pow, one_mul, ← Nat.mul_comm j a] at this
  have h2 : pow x (j * b) = 1 := by
   have := congrArg (fun z => pow z b) h
   simp only [mul_pow, ← pow_mul, one_pow] at this
   rwa [show pow y (j * b) = 1 by rw [Nat.mul_comm, pow_mul, hy.2.1, one_pow], mul_one] at this
  exact hco.mul_dvd_of_dvd_of_dvd (hco.dvd_of_dvd_mul_right (hx.dvd.1 h2)) (hco.symm.dvd_of_dvd_mul_right (hy.dvd.1 h1))
 ·rintro ⟨c, rfl⟩
  rw [hx.dvd.2 ⟨b * c, Nat.mul_assoc _ _ _⟩, hy.dvd.2 ⟨a * c, by rw [Nat.mul_comm a b, Nat.mul_assoc]⟩, one_mul]
end monoid
theorem prime_dvd {n : Nat} (h : 2 ≤ n) : ∃ r, 2 ≤ r ∧ r ∣ n ∧ ∀ d, 2 ≤ d → d < r → ¬ d ∣ r := by
 obtain ⟨r, hr, ⟨h1, h2⟩, h3⟩ := least_nat (fun d => 2 ≤ d ∧ d ∣ n) n ⟨h, Nat.dvd_refl n⟩
 exact ⟨r, h1, h2, fun d hd hd' hdr => h3 d hd' ⟨hd, Nat.dvd_trans hdr h2⟩⟩
theorem prime_coprime {r n : Nat} (h2 : 2 ≤ r) (hp : ∀ d, 2 ≤ d → d < r → ¬ d ∣ r) (h : ¬ r ∣ n) : Nat.Coprime r n := by
 have h1 := Nat.gcd_dvd_left r n
 have h3 := Nat.gcd_dvd_right r n
 have hle := Nat.le_of_dvd (by omega) h1
 have hpos := Nat.gcd_pos_of_pos_left n (show 0 < r by omega)
 show Nat.gcd r n = 1
 generalize Nat.gcd r n = g at *
 by_cases e : g = 1
 ·exact e
 ·exfalso
  by_cases e2 : g = r
  ·exact h (e2 ▸ h3)
  ·exact hp g (by omega) (by omega) h1
theorem pow_part {r : Nat} (h2 : 2 ≤ r) (n : Nat) (hn : 1 ≤ n) : ∃ j n', n = r ^ j * n' ∧ ¬ r ∣ n' ∧ 1 ≤ n' := by
 induction n using Nat.strongRecOn with
 | _ n ih =>
  by_cases e : r ∣ n
  ·obtain ⟨c, rfl⟩ := e
   have hc : 1 ≤ c := by
    apply Nat.pos_of_ne_zero
    intro e0; subst e0; simp at hn
   have hlt : c < r * c := by
    have := Nat.mul_le_mul_right c h2
    omega
   obtain ⟨j, n', h1, h3, h4⟩ := ih c hlt hc
   exact ⟨j + 1, n', by (conv => lhs; rw [h1]); rw [Nat.pow_succ, ← Nat.mul_assoc, Nat.mul_comm r], h3, h4⟩
  ·exact ⟨0, n, by simp, e, hn⟩
section field
variable {α : Type} [Fd α] [DecidableEq α]
structure Full (L : List α) : Prop where
 nodup : L.Nodup
 all : ∀ a, a ∈ L
def prod (l : List α) : α := l.foldr (· * ·) 1
theorem prod_perm {l l' : List α} (h : l.Perm l') : prod l = prod l' := by
 induction h with
 | nil => rfl
 | cons a _ ih => exact congrArg (a * ·) ih
 | swap a b l => exact mul_left_comm _ _ _
 | trans _ _ ih1 ih2 => exact ih1.trans ih2
theorem prod_map (x : α) (l : List α) : prod (l.map (x * ·)) = pow x l.length * prod l := by
 induction l with
 | nil => exact (one_mul _).symm
 | cons a l ih =>
  show x * a * prod (l.map (x * ·)) = x * pow x l.length * (a * prod l)
  rw [ih, mul_assoc, mul_assoc, mul_left_comm a]
theorem prod_ne {l : List α} (h : ∀ a ∈ l, a ≠ 0) : prod l ≠ 0 := by
 induction l with
 | nil => exact one_ne
 | cons a l ih => exact mul_ne_zero (h a List.mem_cons_self) (ih fun b hb => h b (List.mem_cons_of_mem _ hb))
theorem Full.erase {L : List α} (h : Full L) : (L.erase 0).Nodup ∧ (∀ a, a ∈ L.erase 0 ↔ a ≠ 0) ∧ (L.erase 0).length = L.length - 1 :=
 ⟨h.nodup.erase 0, fun a => by rw [h.nodup.mem_erase_iff]; exact ⟨fun h => h.1, fun hn => ⟨hn, h.all a⟩⟩, List.length_erase_of_mem (h.all 0)⟩
theorem Full.two {L : List α} (h : Full L) : 2 ≤ L.length := by
 have := nodup_le (l := [(0 : α), 1]) (l' := L) (by simp; exact fun e => one_ne e.symm) (fun a _ => h.all a)
 simpa using this
theorem Full.fermat {L : List α} (h : Full L) {x : α} (hx : x ≠ 0) : pow x (L.length - 1) = 1 := by
 obtain ⟨h1, h2, h3⟩ := h.erase
 have hp : ((L.erase 0).map (x * ·)).Perm (L.erase 0) := by
  have hnd : ((L.erase 0).map (x * ·)).Nodup := nodup_map h1 (fun a _ b _ e => mul_left_cancel hx e)
  rw [List.perm_ext_iff_of_nodup hnd h1]
  have hsub : ∀ a ∈ (L.erase 0).map (x * ·), a ∈ L.erase 0 := by
   intro a ha
   obtain ⟨b, hb, rfl⟩ := List.mem_map.1 ha
   exact (h2 _).2 (mul_ne_zero hx ((h2 b).1 hb))
  exact fun a => ⟨hsub a, nodup_full hnd hsub (by simp) h1 a⟩
 have := prod_perm hp
 rw [prod_map, h3] at this
 have hne := prod_ne (l := L.erase 0) (fun a ha => (h2 a).1 ha)
 have h4 : prod (L.erase 0) * pow x (L.length - 1) = prod (L.erase 0) * 1 := by rw [mul_one, mul_comm, this]
 exact mul_left_cancel hne h4
theorem Full.ord {L : List α} (h : Full L) {x : α} (hx : x ≠ 0) : ∃ k, IsOrd x k ∧ k ∣ L.length - 1 := by
 obtain ⟨k, hk, _⟩ := ord_ex (by have := h.two; omega) (h.fermat hx)
 exact ⟨k, hk, hk.dvd.1 (h.fermat hx)⟩
theorem ord_ne_zero {x : α} {k : Nat} (h : IsOrd x k) : x ≠ 0 := by
 intro e
 have := h.2.1
 rw [e, zero_pow (by have := h.1; omega)] at this
 exact one_ne this.symm
theorem few_roots {l : List α} {n : Nat} (hn : 1 ≤ n) (hl : l.Nodup) (h : ∀ a ∈ l, pow a n = 1) : l.length ≤ n := by
 apply Decidable.byContradiction
 intro hlt
 let f : Pol α := fun i => if i = n then 1 else if i = 0 then -1 else 0
 have hf : DegLt f (n + 1) := fun i hi => by
  show (if i = n then (1 : α) else if i = 0 then -1 else 0) = 0
  rw [if_neg (by omega), if_neg (by omega)]
 have hev : ∀ a, ev (n + 1) f a = -1 + pow a n := by
  intro a
  obtain ⟨m, rfl⟩ : ∃ m, n = m + 1 := ⟨n - 1, by omega⟩
  rw [ev_sum, sum_succ, sum_head, pow_zero, mul_one, sum_eq_zero, add_zero]
  ·show (if 0 = m + 1 then (1 : α) else if 0 = 0 then -1 else 0) + (if m + 1 = m + 1 then (1 : α) else _) * _ = _
   rw [if_neg (by omega), if_pos rfl, if_pos rfl, one_mul]
  ·intro i hi
   show (if i + 1 = m + 1 then (1 : α) else if i + 1 = 0 then -1 else 0) * _ = 0
   rw [if_neg (by omega), if_neg (by omega), zero_mul]
 have := roots_bound (n + 1) f l hf hl (fun a ha => by rw [hev, h a ha, neg_add]) (by omega)
 have h1 : f n = 0 := by rw [this]; rfl
 have h2 : f n = 1 := if_pos rfl
 rw [h2] at h1
 exact one_ne h1
theorem Full.primitive {L : List α} (h : Full L) : ∃ g : α, IsOrd g (L.length - 1) := by
 have h2 := h.two
 have hmax : ∃ (g : α) (n : Nat), IsOrd g n ∧ ∀ (y : α) b, IsOrd y b → b ≤ n := by
  obtain ⟨k, hk, ⟨g, hg⟩, hm⟩ := least_nat (fun k => ∃ g : α, IsOrd g (L.length - k)) (L.length - 1) ⟨1, by
   rw [show L.length - (L.length - 1) = 1 by omega]
   exact ⟨Nat.le_refl 1, pow_one 1, fun j hj hj' => by omega⟩⟩
  refine ⟨g, L.length - k, hg, fun y b hy => ?_⟩
  apply Decidable.byContradiction
  intro hlt
  obtain ⟨c, hc, hcd⟩ := h.ord (ord_ne_zero hy)
  have hbc := hy.unique hc
  have := Nat.le_of_dvd (by omega) hcd
  exact hm (L.length - b) (by omega) ⟨y, by rw [show L.length - (L.length - b) = b by omega]; exact hy⟩
 obtain ⟨g, n, hg, hmax⟩ := hmax
 have hdiv : ∀ y : α, y ≠ 0 → pow y n = 1 := by
  intro y hy
  obtain ⟨b, hb, _⟩ := h.ord hy
  rw [hb.dvd]
  apply Decidable.byContradiction
  intro hnd
  have hb1 := hb.1
  have hn1 := hg.1
  have hgp := Nat.gcd_pos_of_pos_left n (show 0 < b by omega)
  obtain ⟨t, ht⟩ := Nat.gcd_dvd_left b n
  have ht2 : 2 ≤ t := by
   apply Decidable.byContradiction
   intro hlt
   have : t = 0 ∨ t = 1 := by omega
   rcases this with e | e
   ·rw [e, Nat.mul_zero] at ht; omega
   ·rw [e, Nat.mul_one] at ht
    exact hnd (ht ▸ Nat.gcd_dvd_right b n)
  obtain ⟨r, hr2, hrt, hrp⟩ := prime_dvd ht2
  obtain ⟨j, n', hn', hrn', hn'1⟩ := pow_part hr2 n hn1
  have hall : ∀ i, i ≤ j → r ^ (i + 1) ∣ b := by
   intro i
   induction i with
   | zero =>
    intro _
    rw [Nat.zero_add, Nat.pow_one, ht]
    exact Nat.dvd_trans hrt (Nat.dvd_mul_left _ _)
   | succ i ih =>
    intro hi
    have h1 : r ^ (i + 1) ∣ n := by
     rw [hn']
     exact Nat.dvd_trans (Nat.pow_dvd_pow r hi) (Nat.dvd_mul_right _ _)
    have h3 := Nat.dvd_gcd (ih (by omega)) h1
    rw [Nat.pow_succ, ht]
    exact Nat.mul_dvd_mul h3 hrt
  obtain ⟨e, he⟩ := hall j (Nat.le_refl j)
  have hrj : 0 < r ^ (j + 1) := Nat.pow_pos (by omega)
  have he1 : 1 ≤ e := by
   apply Nat.pos_of_ne_zero
   intro e0
   rw [e0, Nat.mul_zero] at he
   omega
  have hy' : IsOrd (pow y e) (r ^ (j + 1)) := by
   have := hb.pow_pow e
   rwa [show Nat.gcd b e = e by rw [he]; exact Nat.gcd_mul_left_left _ _, he, Nat.mul_div_cancel _ (by omega)] at this
  have hg' : IsOrd (pow g (r ^ j)) n' := by
   have := hg.pow_pow (r ^ j)
   rwa [show Nat.gcd n (r ^ j) = r ^ j by rw [hn']; exact Nat.gcd_mul_right_left _ _, hn', Nat.mul_div_cancel_left _ (Nat.pow_pos (by omega))] at this
  have hco : Nat.Coprime (r ^ (j + 1)) n' := Nat.Coprime.pow_left _ (prime_coprime hr2 hrp hrn')
  have := hmax _ _ (hy'.mul hg' hco)
  rw [hn', Nat.pow_succ] at this
  have h5 : r ^ j * n' * 2 ≤ r ^ j * n' * r := Nat.mul_le_mul_left _ hr2
  have h6 : 1 ≤ r ^ j * n' := Nat.mul_pos (Nat.pow_pos (by omega)) hn'1
  have h7 : r ^ j * r * n' = r ^ j * n' * r := by rw [Nat.mul_assoc, Nat.mul_comm r, ← Nat.mul_assoc]
  omega
 obtain ⟨e1, e2, e3⟩ := h.erase
 have := few_roots hg.1 e1 (fun a ha => hdiv a ((e2 a).1 ha))
 obtain ⟨k, hk, hkd⟩ := h.ord (ord_ne_zero hg)
 have := Nat.le_of_dvd (by omega) hkd
 have := hg.unique hk
 have hne : n = L.length - 1 := by omega
 exact ⟨g, hne ▸ hg⟩
theorem Full.powers {L : List α} (h : Full L) {g : α} (hg : IsOrd g (L.length - 1)) {x : α} (hx : x ≠ 0) : ∃ i, i < L.length - 1 ∧ pow g i = x := by
 obtain ⟨e1, e2, e3⟩ := h.erase
 have hgn := ord_ne_zero hg
 have hinj : ∀ i, i < L.length - 1 → ∀ j, j < L.length - 1 → pow g i = pow g j → i = j := by
  have key : ∀ i j, i ≤ j → j < L.length - 1 → pow g i = pow g j → i = j := by
   intro i j hij hj e
   obtain ⟨d, rfl⟩ : ∃ d, j = i + d := ⟨j - i, by omega⟩
   rw [pow_add] at e
   have : pow g i * 1 = pow g i * pow g d := by rw [mul_one]; exact e
   have := mul_left_cancel (pow_ne_zero hgn i) this
   have := hg.dvd.1 this.symm
   have := Nat.eq_zero_of_dvd_of_lt this (by omega)
   omega
  intro i hi j hj e
  rcases Nat.le_total i j with hij | hij
  ·exact key i j hij hj e
  ·exact (key j i hij hi e.symm).symm
 have hnd : ((List.range (L.length - 1)).map (pow g)).Nodup := nodup_map List.nodup_range (fun a ha b hb => hinj a (List.mem_range.1 ha) b (List.mem_range.1 hb))
 have := nodup_full hnd (l' := L.erase 0) (fun a ha => by
  obtain ⟨i, hi, rfl⟩ := List.mem_map.1 ha
  exact (e2 _).2 (pow_ne_zero hgn i)) (by simp [e3]) e1 x ((e2 x).2 hx)
 obtain ⟨i, hi, e⟩ := List.mem_map.1 this
 exact ⟨i, List.mem_range.1 hi, e⟩
end field
end Go.Proofs.Ytibbdjkboglepaa.Alg
namespace Go.Proofs.Ytibbdjkboglepaa.Alg
open Go.RowKit Go.Proofs.YtibbdjkboglepaaW.PrintWords Go.Proofs.YtibbdjkboglepaaW.PrintMore Go.Proofs.Ytibbdjkboglepaa.My
theorem list_ext_rd {l l' : List Int} (h : l.length = l'.length) (he : ∀ i : Int, 0 ≤ i → i < l.length → rd l i = rd l' i) : l = l' := by
 apply List.ext_getElem h
 intro i h1 h2
 have := he i (by omega) (by omega)
 unfold rd at this
 simpa [List.getD_eq_getElem?_getD, List.getElem?_eq_getElem, h1, h2] using this
theorem rd_map_range {n : Nat} {f : Nat → Int} {i : Int} (h0 : 0 ≤ i) (h : i < n) : rd ((List.range n).map f) i = f i.toNat := by
 unfold rd
 rw [List.getD_eq_getElem?_getD, List.getElem?_map, List.getElem?_range (by omega)]
 rfl
theorem rd_take {l : List Int} {n : Nat} {i : Int} (h0 : 0 ≤ i) (h : i < n) : rd (l.take n) i = rd l i := by
 unfold rd
 rw [List.getD_eq_getElem?_getD, List.getD_eq_getElem?_getD, List.getElem?_take_of_lt (by omega)]
theorem rd_replicate {n : Nat} {i : Int} : rd (List.replicate n 0) i = 0 := by
 unfold rd
 rw [List.getD_eq_getElem?_getD, List.getElem?_replicate]
 split <;> rfl
theorem rd_cons_succ {x : Int} {l : List Int} {i : Int} (h : 0 ≤ i) : rd (x :: l) (i + 1) = rd l i := by
 unfold rd
 rw [show (i + 1).toNat = i.toNat + 1 by omega]
 rfl
theorem rd_cons_zero {x : Int} {l : List Int} : rd (x :: l) 0 = x := rfl
def lp (P : Pr) (l : List Int) : Pol (Zp P) := fun i => if i < l.length then of P (rd l i) else 0
theorem lp_deg (P : Pr) (l : List Int) : DegLt (lp P l) l.length := fun i hi => if_neg (by omega)
theorem lp_at {P : Pr} {l : List Int} {i : Nat} (h : i < l.length) : lp P l i = of P (rd l i) := if_pos h
theorem lp_cons (P : Pr) (x : Int) (l : List Int) : tail (lp P (x :: l)) = lp P l := by
 funext i
 show lp P (x :: l) (i + 1) = _
 unfold lp
 by_cases h : i < l.length
 ·rw [if_pos h, if_pos (by simp; omega), show ((i + 1 : Nat) : Int) = (i : Int) + 1 by omega, rd_cons_succ (by omega)]
 ·rw [if_neg h, if_neg (by simp; omega)]
def lval (p : Int) (l : List Int) : Int := l.foldr (fun d a => d + p * a) 0
theorem lval_cons (p x : Int) (l : List Int) : lval p (x :: l) = x + p * lval p l := rfl
theorem lval_pval {P : Pr} {l : List Int} (h : ∀ d ∈ l, 0 ≤ d ∧ d < P.p) : lval P.p l = pval l.length (lp P l) := by
 induction l with
 | nil => rfl
 | cons x l ih =>
  have hx := h x List.mem_cons_self
  rw [lval_cons, List.length_cons, pval_succ, lp_cons, ih fun d hd => h d (List.mem_cons_of_mem _ hd)]
  congr 1
  rw [lp_at (by simp), show ((0 : Nat) : Int) = 0 from rfl, rd_cons_zero, of_val, Int.emod_eq_of_lt hx.1 hx.2]
structure Desc (D : FD) (P M : Int) (Mod : List Int) : Prop where
 hp : D.p = P
 hm : (D.m : Int) = M
 hm8 : M ≤ 8
 hq : D.q ≤ 256
 one : M = 1 → Mod = []
 len : 1 < M → (Mod.length : Int) = M
 low : 1 < M → ∀ i : Nat, i < D.m → rd Mod i = (D.F i).1
section
variable {D : FD} {P M : Int} {Mod : List Int}
theorem Desc.m1 (h : Desc D P M Mod) : 1 ≤ M := by have := D.hm; have := h.hm; omega
theorem Desc.p2 (h : Desc D P M Mod) : 2 ≤ P := by have := D.two; have := h.hp; omega
theorem Desc.pq (h : Desc D P M Mod) : P ≤ D.q := by
 have := h.hp
 have e : D.q = D.p ^ D.m := rfl
 have h1 := pow_le D.toPr D.hm
 rw [e]
 rw [Int.pow_succ, Int.pow_zero, Int.one_mul] at h1
 omega
theorem Desc.p256 (h : Desc D P M Mod) : P ≤ 256 := by have := h.pq; have := h.hq; omega
def inn (D : FD) (x : Int) : GF D := ⟨if 0 ≤ x ∧ x < D.q then x else 0, by have := D.q_pos; split <;> omega⟩
theorem inn_val (D : FD) (x : Int) : (inn D x).1 = if 0 ≤ x ∧ x < D.q then x else 0 := rfl
theorem inn_of {x : Int} (h0 : 0 ≤ x) (h : x < D.q) : (inn D x).1 = x := by rw [inn_val, if_pos ⟨h0, h⟩]
theorem inn_self (a : GF D) : inn D a.1 = a := Subtype.ext (inn_of a.2.1 a.2.2)
theorem inn_zero : inn D 0 = 0 := inn_self 0
theorem inn_one : inn D 1 = 1 := inn_self 1
theorem GF.lt (a : GF D) (h : Desc D P M Mod) : 0 ≤ a.1 ∧ a.1 < 256 := by have := a.2; have := h.hq; omega
theorem GF.val_eq {a b : GF D} : a.1 = b.1 ↔ a = b := ⟨Subtype.ext, fun h => congrArg _ h⟩
theorem GF.val_zero {a : GF D} : a.1 = 0 ↔ a = 0 := GF.val_eq (b := (0 : GF D))
theorem GF.val_one {a : GF D} : a.1 = 1 ↔ a = 1 := GF.val_eq (b := (1 : GF D))
def elems (D : FD) : List (GF D) := (List.range D.q.toNat).map fun i : Nat => inn D (i : Int)
theorem elems_full (D : FD) : Full (elems D) where
 nodup := nodup_map (f := fun i : Nat => inn D (i : Int)) List.nodup_range (fun a ha b hb e => by
  have h1 := List.mem_range.1 ha
  have h2 := List.mem_range.1 hb
  have := congrArg Subtype.val e
  rw [inn_of (by omega) (by omega), inn_of (by omega) (by omega)] at this
  omega)
 all a := List.mem_map.2 ⟨a.1.toNat, List.mem_range.2 (by have := a.2; omega), by
  rw [show ((a.1.toNat : Nat) : Int) = a.1 by have := a.2; omega, inn_self]⟩
theorem elems_length (D : FD) : ((elems D).length : Int) = D.q := by
 unfold elems
 have := D.q_pos
 simp; omega
def digL (a : GF D) : List Int := (List.range D.m).map fun i => (a.dg i).1
theorem digL_length (a : GF D) : (digL a).length = D.m := by simp [digL]
theorem digL_rd (a : GF D) {i : Int} (h0 : 0 ≤ i) (h : i < D.m) : rd (digL a) i = (a.dg i.toNat).1 := rd_map_range h0 h
theorem digL_mem (a : GF D) : ∀ d ∈ digL a, 0 ≤ d ∧ d < D.p := by
 intro d hd
 obtain ⟨i, _, rfl⟩ := List.mem_map.1 hd
 exact (a.dg i).2
theorem lp_digL (a : GF D) : lp D.toPr (digL a) = a.dg := by
 funext i
 unfold lp
 rw [digL_length]
 by_cases h : i < D.m
 ·rw [if_pos h, digL_rd a (by omega) (by omega)]
  exact of_self _
 ·rw [if_neg h, a.deg i (by omega)]
theorem lval_digL (a : GF D) : lval D.p (digL a) = a.1 := by
 rw [lval_pval (digL_mem a), lp_digL, digL_length]
 exact pval_dig D.m a.1 a.2.1 a.2.2
theorem digL_div (a : GF D) {i : Int} (h0 : 0 ≤ i) (h : i < D.m) : rd (digL a) i = a.1 / D.p ^ i.toNat % D.p := digL_rd a h0 h
theorem lval_elem {l : List Int} (hl : l.length = D.m) (h : ∀ d ∈ l, 0 ≤ d ∧ d < D.p) : lval D.p l = (gval D (lp D.toPr l)).1 := by
 rw [lval_pval h, hl]; rfl
theorem lval_bd {p : Int} {l : List Int} (hp : 2 ≤ p) (h : ∀ d ∈ l, 0 ≤ d ∧ d < p) : 0 ≤ lval p l ∧ lval p l < p ^ l.length := by
 induction l with
 | nil => exact ⟨by simp [lval], by simp [lval]⟩
 | cons x l ih =>
  have hx := h x List.mem_cons_self
  obtain ⟨h1, h2⟩ := ih fun d hd => h d (List.mem_cons_of_mem _ hd)
  have h4 : p * lval p l ≤ p * (p ^ l.length - 1) := Int.mul_le_mul_of_nonneg_left (by omega) (by omega)
  have h5 : 0 ≤ p * lval p l := Int.mul_nonneg (by omega) h1
  have h6 : p ^ (l.length + 1) = p * p ^ l.length := by rw [Int.pow_succ, Int.mul_comm]
  rw [Int.mul_sub, Int.mul_one, ← h6] at h4
  rw [lval_cons, List.length_cons]
  omega
end
end Go.Proofs.Ytibbdjkboglepaa.Alg
namespace Go.Proofs.Ytibbdjkboglepaa.Alg
open Go.Proofs.YtibbdjkboglepaaW.PrintWords
section
variable {α : Type} [CR α]
def cf (a b : Pol α) (i t : Nat) : α := if i ≤ t then a i * b (t - i) else 0
theorem conv_cf (a b : Pol α) (n : Nat) (h : DegLt a n) (t : Nat) : conv a b t = sum n (fun i => cf a b i t) := by
 induction t generalizing a n with
 | zero =>
  match n with
  | 0 => rw [h.zero, conv_zero_left]; rfl
  | n + 1 =>
   rw [sum_head, sum_eq_zero, add_zero]
   ·rfl
   ·intro i hi
    unfold cf
    rw [if_neg (by omega)]
 | succ t ih =>
  match n with
  | 0 => rw [h.zero, conv_zero_left]; rfl
  | n + 1 =>
   rw [sum_head, conv_succ, ih (tail a) n h.tail]
   congr 1
   apply sum_congr
   intro i hi
   unfold cf
   by_cases e : i ≤ t
   ·rw [if_pos e, if_pos (by omega), show t + 1 - (i + 1) = t - i by omega]; rfl
   ·rw [if_neg e, if_neg (by omega)]
def monom (k : Nat) (a : α) : Pol α := fun t => if t = k then a else 0
theorem monom_deg (k : Nat) (a : α) : DegLt (monom k a) (k + 1) := fun i hi => if_neg (by omega)
theorem monom_pmul (k : Nat) (a : α) (f : Pol α) (t : Nat) : pmul (monom k a) f t = if k ≤ t then a * f (t - k) else 0 := by
 show conv (monom k a) f t = _
 rw [conv_cf _ _ (k + 1) (monom_deg k a), sum_one (k := k) _ (by omega)]
 ·unfold cf
  by_cases e : k ≤ t
  ·rw [if_pos e, if_pos e]; unfold monom; rw [if_pos rfl]
  ·rw [if_neg e, if_neg e]
 ·intro i hi hne
  unfold cf monom
  split
  ·first | rw [zero_mul] | rw [if_neg hne, zero_mul]
  ·rfl
end
def cut (P : Pr) (n : Nat) (l : List Int) : Pol (Zp P) := fun t => if t < n then of P (rd l t) else 0
theorem cut_take {P : Pr} {n : Nat} {l : List Int} (h : n ≤ l.length) : lp P (l.take n) = cut P n l := by
 funext t
 unfold lp cut
 rw [List.length_take, Nat.min_eq_left h]
 by_cases e : t < n
 ·rw [if_pos e, if_pos e, rd_take (by omega) (by omega)]
 ·rw [if_neg e, if_neg e]
theorem cut_deg (P : Pr) (n : Nat) (l : List Int) : DegLt (cut P n l) n := fun t ht => if_neg (by omega)
theorem lp_cut {P : Pr} {l : List Int} : lp P l = cut P l.length l := rfl
end Go.Proofs.Ytibbdjkboglepaa.Alg
namespace Go.Proofs.Ytibbdjkboglepaa.Alg
open Go.Proofs.YtibbdjkboglepaaW.PrintWords Go.Proofs.Ytibbdjkboglepaa.My
def mon (P : Pr) (m : Nat) (l : List Int) : Pol (Zp P) := fun i => if i < m then of P (rd l i) else if i = m then 1 else 0
theorem mon_monic (P : Pr) (m : Nat) (l : List Int) : Monic (mon P m l) m := ⟨by unfold mon; rw [if_neg (by omega), if_pos rfl], fun i hi => by unfold mon; rw [if_neg (by omega), if_neg (by omega)]⟩
theorem Monic.cofactor {α : Type} [CR α] {g F q : Pol α} {k m n : Nat} (hg : Monic g k) (hF : Monic F m) (hq : DegLt q n) (he : F = pmul q g) (hk : k ≤ m) : Monic q (m - k) := by
 have hdq : ∀ e, DegLt q (m - k + 1 + e) → DegLt q (m - k + 1) := by
  intro e
  induction e with
  | zero => exact fun h => h
  | succ e ih =>
   intro h
   apply ih
   intro i hi
   by_cases e' : i = m - k + 1 + e
   ·have := hg.top (q := q) (k := i) (by rw [e']; exact h)
    rw [← he, hF.2 (i + k) (by omega)] at this
    exact this.symm
   ·exact h i (by omega)
 have hd : DegLt q (m - k + 1) := hdq n (hq.mono (by omega))
 refine ⟨?_, hd⟩
 have := hg.top hd
 rw [← he, show m - k + k = m by omega, hF.1] at this
 exact this.symm
section
variable {Q : Pr}
def DLn (p : Int) (c : List Int) : Prop := ∀ t : Int, 0 ≤ t → t < c.length → 0 ≤ rd c t ∧ rd c t < p
theorem DLn.set {p : Int} {c : List Int} (h : DLn p c) {t v : Int} (ht : 0 ≤ t) (ht' : t < c.length) (h0 : 0 ≤ v) (hv : v < p) : DLn p (c.set t.toNat v) := by
 intro s hs hs'
 rw [List.length_set] at hs'
 by_cases e : t = s
 ·subst e; rw [rd_set_self ht ht']; exact ⟨h0, hv⟩
 ·rw [rd_set_ne ht hs e]; exact h s hs hs'
theorem cong_zero {α : Type} [CR α] {G F : Pol α} : Cong G F pzero ↔ ∃ h n, DegLt h n ∧ F = pmul h G := by
 constructor
 ·rintro ⟨q, n, hq, he⟩; exact ⟨q, n, hq, by rw [he, pzero_padd]⟩
 ·rintro ⟨q, n, hq, he⟩; exact ⟨q, n, hq, by rw [he, pzero_padd]⟩
def InR (P M : Int) : Prop := 2 ≤ P ∧ 1 ≤ M ∧ M ≤ 8 ∧ P ^ M.toNat ≤ 256
theorem pow_mono {P : Int} (h : 1 ≤ P) {m n : Nat} (hmn : m ≤ n) : P ^ m ≤ P ^ n := by
 obtain ⟨k, rfl⟩ : ∃ k, n = m + k := ⟨n - m, by omega⟩
 rw [Int.pow_add]
 have h1 : 0 < P ^ m := Int.pow_pos (by omega)
 have h2 : 0 < P ^ k := Int.pow_pos (by omega)
 have := Int.mul_le_mul_of_nonneg_left (show 1 ≤ P ^ k by omega) (show 0 ≤ P ^ m by omega)
 omega
def Irr (Q : Pr) (md : List Int) (d : Nat) : Prop := ∀ low : List Int, low.length = d → DLn Q.p low → ¬ ∃ h n, DegLt h n ∧ mon Q md.length md = pmul h (mon Q low.length low)
def lowL (m : Nat) (f : Pol (Zp Q)) : List Int := (List.range m).map fun i => (f i).1
theorem lowL_length (m : Nat) (f : Pol (Zp Q)) : (lowL m f).length = m := by simp [lowL]
theorem lowL_DLn (m : Nat) (f : Pol (Zp Q)) : DLn Q.p (lowL m f) := fun t h0 h1 => by
 rw [lowL_length] at h1
 unfold lowL
 rw [rd_map_range h0 h1]
 exact (f t.toNat).2
theorem mon_lowL {m : Nat} {f : Pol (Zp Q)} (h : Monic f m) : mon Q (lowL m f).length (lowL m f) = f := by
 rw [lowL_length]
 funext i
 unfold mon
 by_cases e : i < m
 ·rw [if_pos e]
  unfold lowL
  rw [rd_map_range (by omega) (by omega)]
  exact of_self _
 ·rw [if_neg e]
  by_cases e2 : i = m
  ·rw [if_pos e2, e2, h.1]
  ·rw [if_neg e2, h.2 i (by omega)]
theorem Irr_all {md : List Int} (h : ∀ d', 1 ≤ d' → 2 * d' ≤ md.length → Irr Q md d') : ∀ (k : Nat) (g h : Pol (Zp Q)), 1 ≤ k → k < md.length → Monic g k → Monic h (md.length - k) → pmul g h ≠ mon Q md.length md := by
 intro k g g' hk hk' hg hg' he
 by_cases e : 2 * k ≤ md.length
 ·exact h k hk e (lowL k g) (lowL_length _ _) (lowL_DLn _ _) ⟨g', _, hg'.2, by rw [mon_lowL hg, ← he, pmul_comm]⟩
 ·exact h (md.length - k) (by omega) (by omega) (lowL _ g') (lowL_length _ _) (lowL_DLn _ _) ⟨g, _, hg.2, by rw [mon_lowL hg', ← he]⟩
end
section
variable {P M : Int} {Mod : List Int}
def lowOf (M : Int) (Mod : List Int) : List Int := if M = 1 then [0] else Mod
def Shp (P M : Int) (Mod : List Int) : Prop := InR P M ∧ (∀ c : Int, 2 ≤ c → c < P → ¬ c ∣ P) ∧ (M = 1 → Mod = []) ∧ (1 < M → (Mod.length : Int) = M ∧ DLn P Mod)
theorem Shp.make {Q : Pr} (hQ : Q.p = P) (h : Shp P M Mod) (hI : 1 < M → ∀ d', 1 ≤ d' → 2 * d' ≤ Mod.length → Irr Q Mod d') : ∃ D : FD, Desc D P M Mod := by
 obtain ⟨⟨h1, h2, h3, h4⟩, h5, h6, h7⟩ := h
 by_cases e : M = 1
 ·refine ⟨{ Q with m := 1, hm := Nat.le_refl 1, F := monom 1 1, monic := ⟨if_pos rfl, monom_deg 1 1⟩, irr := fun k g h hk hk' => by omega }, ?_⟩
  refine ⟨hQ, e.symm, h3, ?_, h6, fun h => by omega, fun h => by omega⟩
  show Q.p ^ 1 ≤ 256
  rw [hQ]
  rw [show M.toNat = 1 by omega] at h4
  exact h4
 ·obtain ⟨h8, h9⟩ := h7 (by omega)
  have hm : Mod.length = M.toNat := by omega
  refine ⟨{ Q with m := Mod.length, hm := by omega, F := mon Q Mod.length Mod, monic := mon_monic Q _ _, irr := Irr_all (hI (by omega)) }, ?_⟩
  refine ⟨hQ, h8, h3, ?_, h6, fun _ => h8, fun _ i hi => ?_⟩
  ·show Q.p ^ Mod.length ≤ 256
   rw [hQ, hm]; exact h4
  ·show rd Mod i = (mon Q Mod.length Mod i).1
   have hi' : i < Mod.length := hi
   unfold mon
   rw [if_pos hi', of_val, hQ]
   have := h9 i (by omega) (by omega)
   rw [Int.emod_eq_of_lt this.1 this.2]
theorem Desc.shp {D : FD} (h : Desc D P M Mod) : Shp P M Mod := by
 have hm := h.hm
 refine ⟨⟨h.p2, h.m1, h.hm8, ?_⟩, ?_, h.one, fun h1 => ⟨h.len h1, fun t h0 h2 => ?_⟩⟩
 ·have := h.hq
  have e : D.q = D.p ^ D.m := rfl
  rw [e, h.hp, show D.m = M.toNat by omega] at this
  exact this
 ·have := D.prime
  rw [h.hp] at this
  exact this
 ·have hl := h.len h1
  have := h.low h1 t.toNat (by omega)
  rw [show ((t.toNat : Nat) : Int) = t by omega] at this
  rw [this, ← h.hp]
  exact (D.F t.toNat).2
theorem Desc.F_eq {D : FD} (h : Desc D P M Mod) (h1 : 1 < M) : D.F = mon D.toPr Mod.length Mod := by
 have hl := h.len h1
 have hm := h.hm
 funext i
 unfold mon
 by_cases e : i < Mod.length
 ·rw [if_pos e, h.low h1 i (by omega), of_self]
 ·rw [if_neg e]
  by_cases e2 : i = Mod.length
  ·rw [if_pos e2, show i = D.m by omega, D.monic.1]
  ·rw [if_neg e2, D.monic.2 i (by omega)]
theorem Desc.irr {D : FD} (h : Desc D P M Mod) (h1 : 1 < M) : ∀ d', 1 ≤ d' → 2 * d' ≤ Mod.length → Irr D.toPr Mod d' := by
 have hl := h.len h1
 have hm := h.hm
 rintro d hd hd2 low hlow hDL ⟨g, n, hg, he⟩
 rw [hlow] at he
 have hmon := (mon_monic D.toPr d low).cofactor (mon_monic D.toPr Mod.length Mod) hg he (by omega)
 exact D.irr d (mon D.toPr d low) g hd (by omega) (mon_monic _ _ _) (by rw [show D.m = Mod.length by omega]; exact hmon) (by rw [pmul_comm, ← he, ← h.F_eq h1])
end
end Go.Proofs.Ytibbdjkboglepaa.Alg
namespace Go.Proofs.YtibbdjkboglepaaW.PrintWords
open Go.RowKit Go.Proofs.YtibbdjkboglepaaW.PrintLast Go.Proofs.YtibbdjkboglepaaW.PrintMore
def bl : Nat → Nat → List Bool
  | 0, _ => []
  | n + 1, m => (m % 2 == 1) :: bl n (m / 2)
def bb (n m : Nat) : Array Bool := (bl n m).toArray
section
variable {P : Program} {ops : Array Oper} {Q : Exit → Act → World → Prop} {S : World → Prop} {ds : List Nat} {T : Bool × List (List Nat × List Nat)} {B : List Nat} {l : Array Bool} {a a' : Act} {w : World} {oi : Oper} {v : Value} {fuel : Nat}
theorem pq (hT : Aside0 (rtab .any ops = T)) (i N : Nat) (l' : Array Bool) (h : wpAnyLast P .any ops Q S ds fuel l' a' w) (hi : ops[i]? = some oi := by exact rfl) (hN : oi.dst = some N := by exact rfl) (hc : anyT T l.toList l'.toList i = true := by kernel_rfl)
    (hQ : ∀ c a w, Q (.panic c) (a.put oi.dst v) w → Q (.panic c) a w := by exact fun _ _ _ h => h) (hw : Region.wanted oi (yielded ops a.tmps) = true := by rfl) (hy : ∀ w, (execOp a.eval oi).run P w = .ok (.value v) w := by (intro w'; go_simp; with_reducible rfl))
    (ha : a.put (some N) v = a' := by (simp only [Act.put, List.setIfInBounds_toArray, List.set_cons_zero, List.set_cons_succ, i64_w, i32_w]; rfl)) : wpAnyLast P .any ops Q S ds (fuel + 1) l a w :=
  pure_ (i := i) (N := some N) l' hi hN (any_of hT.out hc) hQ (Or.inl ⟨hw, hy⟩) ha h
theorem pu (hT : Aside0 (rtab .any ops = T)) (i N : Nat) (l' : Array Bool) (h : wpAnyLast P .any ops Q S ds fuel l' a' w) (hi : ops[i]? = some oi := by exact rfl) (hN : oi.dst = some N := by exact rfl) (hc : anyT T l.toList l'.toList i = true := by kernel_rfl)
    (hQ : ∀ c a w, Q (.panic c) (a.put oi.dst undef) w → Q (.panic c) a w := by exact fun _ _ _ h => h) (hw : Region.wanted oi (yielded ops a.tmps) = false := by rfl)
    (ha : a.put (some N) undef = a' := by (simp only [Act.put, List.setIfInBounds_toArray, List.set_cons_zero, List.set_cons_succ, i64_w, i32_w]; rfl)) : wpAnyLast P .any ops Q S ds (fuel + 1) l a w :=
  pure_ (i := i) (N := some N) l' hi hN (any_of hT.out hc) hQ (Or.inr ⟨hw, rfl⟩) ha h
theorem tq (hT : Aside0 (rtab .any ops = T)) (hB : Aside0 (waitsOk T.2 B = true)) (hS : S w) (i N : Nat) (l' : Array Bool) (h : wpAnyLast P .any ops Q S ds fuel l' a' w) (hi : ops[i]? = some oi := by exact rfl) (hN : oi.dst = some N := by exact rfl) (hc : takeW T B ds l.toList l'.toList i = true := by kernel_rfl)
    (hQ : ∀ c a w, Q (.panic c) (a.put oi.dst v) w → Q (.panic c) a w := by exact fun _ _ _ h => h) (hw : Region.wanted oi (yielded ops a.tmps) = true := by rfl) (hy : ∀ w, S w → (execOp a.eval oi).run P w = .ok (.value v) w := by (intro w' hs; (repeat (obtain ⟨hx_, hs⟩ := hs)); go_simp; with_reducible rfl))
    (ha : a.put (some N) v = a' := by (simp only [Act.put, List.setIfInBounds_toArray, List.set_cons_zero, List.set_cons_succ, i64_w, i32_w]; rfl)) : wpAnyLast P .any ops Q S ds (fuel + 1) l a w :=
  take_ (i := i) (N := some N) l' hi hN (take_ofW hT.out hB.out hc) hQ (Or.inl ⟨hw, hy⟩) hS ha h
theorem tu (hT : Aside0 (rtab .any ops = T)) (hB : Aside0 (waitsOk T.2 B = true)) (hS : S w) (i N : Nat) (l' : Array Bool) (h : wpAnyLast P .any ops Q S ds fuel l' a' w) (hi : ops[i]? = some oi := by exact rfl) (hN : oi.dst = some N := by exact rfl) (hc : takeW T B ds l.toList l'.toList i = true := by kernel_rfl)
    (hQ : ∀ c a w, Q (.panic c) (a.put oi.dst undef) w → Q (.panic c) a w := by exact fun _ _ _ h => h) (hw : Region.wanted oi (yielded ops a.tmps) = false := by rfl)
    (ha : a.put (some N) undef = a' := by (simp only [Act.put, List.setIfInBounds_toArray, List.set_cons_zero, List.set_cons_succ, i64_w, i32_w]; rfl)) : wpAnyLast P .any ops Q S ds (fuel + 1) l a w :=
  take_ (i := i) (N := some N) l' hi hN (take_ofW hT.out hB.out hc) hQ (Or.inr ⟨hw, rfl⟩) hS ha h
theorem nq {b : Act} {v0 : Value} (N : Nat) (h : wpAnyLast P .any ops Q S ds fuel l a' w) (ha : b.put (some N) v0 = a' := by (simp only [Act.put, List.setIfInBounds_toArray, List.set_cons_zero, List.set_cons_succ, i64_w, i32_w]; rfl)) : wpAnyLast P .any ops Q S ds fuel l (b.put (some N) v0) w := norm_ ha h
theorem oq (hT : Aside0 (rtab .any ops = T)) (i : Nat) (N : Option Tmp) (l' : Array Bool) (h : ∀ K : Act → World → Prop, Shut (∀ a' w', S w' → (S w' → wpAnyLast P .any ops Q S ds fuel l' a' w') → K a' w') → if Region.wanted oi (yielded ops a.tmps) = true then Oper.wp P oi a w K Q else K (a.put N undef) w)
    (hi : ops[i]? = some oi := by exact rfl) (hN : oi.dst = N := by exact rfl) (hc : (readyT T.2 l.toList == [i] && l.toList.set i true == l'.toList) = true := by kernel_rfl) (hd : i ∉ ds := by decide) : wpAnyLast P .any ops Q S ds (fuel + 1) l a w := one_ l' hi hN (one_of hT.out hc) hd h
theorem lq (hT : Aside0 (rtab .any ops = T)) (i : Nat) (N : Option Tmp) (l' : Array Bool) (h : ∀ K : Act → World → Prop, Shut (∀ a' w', wpAnyLast P .any ops Q S ds fuel l' a' w' → K a' w') → if Region.wanted oi (yielded ops a.tmps) = true then Oper.wp P oi a w K Q else K (a.put N undef) w)
    (hi : ops[i]? = some oi := by exact rfl) (hN : oi.dst = N := by exact rfl) (hc : (readyT T.2 l.toList == [i] && l.toList.set i true == l'.toList) = true := by kernel_rfl) (hd : i ∈ ds := by decide) : wpAnyLast P .any ops Q S ds (fuel + 1) l a w := last_ l' hi hN (one_of hT.out hc) hd h
theorem dq {a : Act} {n : Nat} (hT : Aside0 (rtab .any ops = T)) (h : Q .normal a w) (hc : (readyT T.2 l.toList == []) = true := by kernel_rfl) : wpAnyLast P .any ops Q S ds n l a w := done_ (done_of hT.out hc) h
theorem gq {K : Act → World → Prop} {N : Option Tmp} {f : FuncId} {fn : Func} {as1 : Array Operand} {ts : Array TypeId} (hf : P.funcs[f]? = some fn) (args : Array Value) (h : Calls P f args w fun e w' => ∃ v, e = .returned v ∧ K (a.put N v) w') (hname : (fn.name == "runtime.NumGoroutine") = false := by kernel_rfl) (hb : fn.body.isSome = true := by exact rfl)
    (hw : Region.wanted oi (yielded ops a.tmps) = true := by rfl) (hN : oi.dst = N := by exact rfl) (hop : oi.op = .call { callee := .value (.func f), args := as1, argTypes := ts } := by exact rfl) (hargs : as1.map a.eval = args := by ((try simp only [List.map_toArray, List.map_cons, List.map_nil]); first | done | rfl | (simp only [List.length_drop, List.length_take]; rfl))) : if Region.wanted oi (yielded ops a.tmps) = true then Oper.wp P oi a w K Q else K (a.put N undef) w :=
  goes_ hf hname hb args hw hN hop hargs h
end
section
variable {P : Program} {ops : Array Oper} {rest : List Oper} {o : Oper} {a : Act} {Q : Exit → Act → World → Prop} {W W1 w : World}
theorem bx (N : Nat) (cs : Array Value) (t : TypeId) (h : ∀ g, g = W.heap.size → ∀ w1, w1.heap[g]? = some (.cells cs t (0, 0)) → Below W.heap.size W w1 → wpList P ops Q rest (a.put o.dst (.pointer (some ⟨g, 0, none⟩))) w1) (hd : o.dst = some N := by with_reducible rfl) (hg : o.guard = none := by rfl)
    (hr : (execOp a.eval o).run P W = .ok (.value (.pointer (some ⟨W.heap.size, 0, none⟩))) (W.alloc (.cells cs t (0, 0))) := by first | (go_simp; done) | (go_simp; rfl)) : wpList P ops Q (o :: rest) a W := box_event hg hd hr h
theorem bc0 {b : Nat} {x0 : Value} {l : List Value} {t : TypeId} (h : W.heap[b]? = some (.cells (List.toArray (x0 :: l)) t (0, 0))) : W.cell? ⟨b, 0, none⟩ = some x0 := by rw [blk_cell h 0]; rfl
theorem bc1 {b : Nat} {x0 x1 : Value} {l : List Value} {t : TypeId} (h : W.heap[b]? = some (.cells (List.toArray (x0 :: x1 :: l)) t (0, 0))) : W.cell? ⟨b, 1, none⟩ = some x1 := by rw [blk_cell h 1]; rfl
theorem bc2 {b : Nat} {x0 x1 x2 : Value} {l : List Value} {t : TypeId} (h : W.heap[b]? = some (.cells (List.toArray (x0 :: x1 :: x2 :: l)) t (0, 0))) : W.cell? ⟨b, 2, none⟩ = some x2 := by rw [blk_cell h 2]; rfl
theorem bc3 {b : Nat} {x0 x1 x2 x3 : Value} {l : List Value} {t : TypeId} (h : W.heap[b]? = some (.cells (List.toArray (x0 :: x1 :: x2 :: x3 :: l)) t (0, 0))) : W.cell? ⟨b, 3, none⟩ = some x3 := by rw [blk_cell h 3]; rfl
theorem bc4 {b : Nat} {x0 x1 x2 x3 x4 : Value} {l : List Value} {t : TypeId} (h : W.heap[b]? = some (.cells (List.toArray (x0 :: x1 :: x2 :: x3 :: x4 :: l)) t (0, 0))) : W.cell? ⟨b, 4, none⟩ = some x4 := by rw [blk_cell h 4]; rfl
theorem cw {p : Addr} {v : Value} (hb : Aside0 (Below w.heap.size w W)) (h : w.cell? p = some v) : W.cell? p = some v := (hb.out.cell (World.block_lt_of_cell? w _ h)).trans h
theorem bw {b : Nat} (h : Below b w W := by repeat (first | (with_reducible first | exact HB.out | apply below_alloc | apply pw_below_drewN | apply below_drew1 | refine below_set ?_ (Aside0.out (by assumption))) | exact HB.out | assumption)) : Below b w W := h
theorem iE {α : Type} {c : Prop} [Decidable c] {x : Option α} {r : α} (h : (if c then x else none) = some r) : c ∧ x = some r := by
  by_cases hc : c
  · rw [if_pos hc] at h; exact ⟨hc, h⟩
  · rw [if_neg hc] at h; cases h
theorem bE {α β : Type} {x : Option α} {f : α → Option β} {r : β} (h : x.bind f = some r) : ∃ t, Aside0 (x = some t) ∧ f t = some r := by
  obtain ⟨t, h1, h2⟩ := Option.bind_eq_some_iff.mp h
  exact ⟨t, ⟨h1⟩, h2⟩
theorem rW {p : Prop} (h : p := by first | rfl | (simp [errW_none, errW_some] <;> rfl) | (simp [*, errW_none, errW_some] <;> rfl)) : p := h
theorem rX {p : Prop} (h : p := by first | rfl | (simp; done) | (simp [*]; done)) : p := h
theorem dT {p : Prop} (h : p := by exact of_decide_eq_true (by first | (with_reducible assumption) | assumption)) : p := h
theorem rY {p : Prop} (h : p := by first | rfl | (simp; done) | (simp [hwn]; done)) : p := h
theorem kk {b : Nat} {o : Obj} (_ : Aside0 (w.heap[b]? = some o)) (h : W.heap[b]? = some o := by (with_reducible repeat (first | refine blk_drewN ?_ _ | refine blk_drew ?_ | refine blk_alloc ?_ _)); exact Aside0.out (by assumption)) : W.heap[b]? = some o := h
theorem bkb {b : Nat} {o : Obj} (_ : Aside0 (w.heap[b]? = some o)) (hb : Below W.heap.size W W1) (h : W.heap[b]? = some o := by (with_reducible repeat (first | refine blk_drewN ?_ _ | refine blk_drew ?_ | refine blk_alloc ?_ _)); exact Aside0.out (by assumption)) : W1.heap[b]? = some o := blk_below h hb
theorem gL (N : Nat) {f : FuncId} {fn : Func} {as1 : Array Operand} {ts : Array TypeId} (hf : P.funcs[f]? = some fn) (args : Array Value) (h : Calls P f args W fun e w' => ∃ v, e = .returned v ∧ wpList P ops Q rest (a.put (some N) v) w') (hop : o.op = .call { callee := .value (.func f), args := as1, argTypes := ts } := by with_reducible rfl) (hd : o.dst = some N := by rfl) (hg : o.guard = none := by rfl) (hname : (fn.name == "runtime.NumGoroutine") = false := by kernel_rfl) (hb : fn.body.isSome = true := by exact rfl)
    (hargs : as1.map a.eval = args := by ((try simp only [List.map_toArray, List.map_cons, List.map_nil]); first | done | rfl | (simp only [List.length_drop, List.length_take]; rfl))) : wpList P ops Q (o :: rest) a W := goesL_ (some N) hd hg hf hname hb args hop hargs h
theorem bK {g : Nat} {row : Option Nat} (h : KeepBut w W g row := by repeat (first | (with_reducible first | exact HK.out | apply KeepBut.set_ | apply keep_drewN | apply keep_drew | apply keep_alloc) | exact HK.out)) : KeepBut w W g row := h
theorem mK {p : Prop} (h : p := by have := HK1.out; omega) : Aside0 p := ⟨h⟩
theorem bq1 {b : Nat} {x0 : Value} {t : TypeId} (h : W.heap[b]? = some (.cells (List.toArray (x0 :: [])) t (0, 0))) : W.cell? ⟨b, 0, none⟩ = some x0 ∧ W.frozen? ⟨b, 0, none⟩ = false := ⟨bc0 h, blk_frozen h 0⟩
theorem bq2 {b : Nat} {x0 x1 : Value} {t : TypeId} (h : W.heap[b]? = some (.cells (List.toArray (x0 :: x1 :: [])) t (0, 0))) : W.cell? ⟨b, 0, none⟩ = some x0 ∧ W.cell? ⟨b, 1, none⟩ = some x1 ∧ W.frozen? ⟨b, 0, none⟩ = false ∧ W.frozen? ⟨b, 1, none⟩ = false := ⟨bc0 h, bc1 h, blk_frozen h 0, blk_frozen h 1⟩
theorem bq3 {b : Nat} {x0 x1 x2 : Value} {t : TypeId} (h : W.heap[b]? = some (.cells (List.toArray (x0 :: x1 :: x2 :: [])) t (0, 0))) : W.cell? ⟨b, 0, none⟩ = some x0 ∧ W.cell? ⟨b, 1, none⟩ = some x1 ∧ W.cell? ⟨b, 2, none⟩ = some x2 ∧ W.frozen? ⟨b, 0, none⟩ = false ∧ W.frozen? ⟨b, 1, none⟩ = false ∧ W.frozen? ⟨b, 2, none⟩ = false := ⟨bc0 h, bc1 h, bc2 h, blk_frozen h 0, blk_frozen h 1, blk_frozen h 2⟩
theorem bq4 {b : Nat} {x0 x1 x2 x3 : Value} {t : TypeId} (h : W.heap[b]? = some (.cells (List.toArray (x0 :: x1 :: x2 :: x3 :: [])) t (0, 0))) : W.cell? ⟨b, 0, none⟩ = some x0 ∧ W.cell? ⟨b, 1, none⟩ = some x1 ∧ W.cell? ⟨b, 2, none⟩ = some x2 ∧ W.cell? ⟨b, 3, none⟩ = some x3 ∧ W.frozen? ⟨b, 0, none⟩ = false ∧ W.frozen? ⟨b, 1, none⟩ = false ∧ W.frozen? ⟨b, 2, none⟩ = false ∧ W.frozen? ⟨b, 3, none⟩ = false := ⟨bc0 h, bc1 h, bc2 h, bc3 h, blk_frozen h 0, blk_frozen h 1, blk_frozen h 2, blk_frozen h 3⟩
theorem bq5 {b : Nat} {x0 x1 x2 x3 x4 : Value} {t : TypeId} (h : W.heap[b]? = some (.cells (List.toArray (x0 :: x1 :: x2 :: x3 :: x4 :: [])) t (0, 0))) : W.cell? ⟨b, 0, none⟩ = some x0 ∧ W.cell? ⟨b, 1, none⟩ = some x1 ∧ W.cell? ⟨b, 2, none⟩ = some x2 ∧ W.cell? ⟨b, 3, none⟩ = some x3 ∧ W.cell? ⟨b, 4, none⟩ = some x4 ∧ W.frozen? ⟨b, 0, none⟩ = false ∧ W.frozen? ⟨b, 1, none⟩ = false ∧ W.frozen? ⟨b, 2, none⟩ = false ∧ W.frozen? ⟨b, 3, none⟩ = false ∧ W.frozen? ⟨b, 4, none⟩ = false := ⟨bc0 h, bc1 h, bc2 h, bc3 h, bc4 h, blk_frozen h 0, blk_frozen h 1, blk_frozen h 2, blk_frozen h 3, blk_frozen h 4⟩
theorem rR {α : Type} {d : Kd α} {e : TypeId} {base : Nat} {ok : Nat → Prop} {v : Value} {xs : List α} {W0 : World} (_ : Aside0 (d.R e W0 base ok v xs)) (h : d.R e W base ok v xs := by (with_reducible repeat (first | apply Kd.R_alloc | apply Kd.R_drewN | apply Kd.R_drew)); exact Aside0.out (by assumption)) : d.R e W base ok v xs := h
theorem bz {w0 : World} (N : Nat) (cs : Array Value) (t : TypeId) (h : ∀ g w1, Aside0 (w1.heap[g]? = some (.cells cs t (0, 0))) → Aside0 (w0.heap.size ≤ g) → Aside0 (w0.heap.size ≤ g) → Aside0 (Below w0.heap.size w0 w1) → wpList P ops Q rest (a.put o.dst (.pointer (some ⟨g, 0, none⟩))) w1) (hB : Below w0.heap.size w0 W := by exact bw) (hd : o.dst = some N := by with_reducible rfl) (hg : o.guard = none := by rfl)
    (hr : (execOp a.eval o).run P W = .ok (.value (.pointer (some ⟨W.heap.size, 0, none⟩))) (W.alloc (.cells cs t (0, 0))) := by first | (go_simp; done) | (go_simp; rfl)) : wpList P ops Q (o :: rest) a W :=
  box_event hg hd hr fun g hg w1 hbox hb => h g w1 ⟨hbox⟩ ⟨by rw [hg]; exact below_size hB⟩ ⟨by rw [hg]; exact below_size hB⟩ ⟨below_step hB hb⟩
end
end Go.Proofs.YtibbdjkboglepaaW.PrintWords

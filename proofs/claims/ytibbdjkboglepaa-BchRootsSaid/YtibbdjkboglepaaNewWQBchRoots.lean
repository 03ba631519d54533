/- Words for the walk of field.New: a world cut at a block, rows read in it, the table of logarithms. No further condition. -/
import Derived.Test.YtibbdjkboglepaaQBchRootsx4
import Derived.Test.YtibbdjkboglepaaAlgAll
set_option linter.unusedVariables false
set_option linter.unusedSimpArgs false
namespace Go.Proofs.Ytibbdjkboglepaa.MyQBchRoots
open Go Go.RowKit Go.Proofs.YtibbdjkboglepaaW.PrintWords Go.Proofs.YtibbdjkboglepaaW.PrintLast Go.Proofs.Ytibbdjkboglepaa.My Go.Proofs.Ytibbdjkboglepaa.QBchRoots

/-- The world with the first g blocks alone. -/
def cutW (W : World) (g : Nat) : World := { W with heap := W.heap.extract 0 g }
theorem cutW_size {W : World} {g : Nat} (h : g ≤ W.heap.size) : (cutW W g).heap.size = g := by simp [cutW]; omega
theorem cutW_at {W : World} {g k : Nat} (h : k < g) : (cutW W g).heap[k]? = W.heap[k]? := by
  simp [cutW, Array.getElem?_extract]
  intro hk
  omega
theorem cutW_below {W : World} {g : Nat} (h : g ≤ W.heap.size) : Below (cutW W g).heap.size (cutW W g) W :=
  ⟨rfl, rfl, rfl, by rw [cutW_size h]; exact h, fun k hk => (cutW_at (by rw [cutW_size h] at hk; exact hk)).symm⟩
theorem cutW_C {W : World} {g n : Nat} {A : Option Addr} {xs : List Int} (h : (Kd.int .i64).C W A n xs) (hb : ∀ ad, A = some ad → 0 < n → ad.block < g) : (Kd.int .i64).C (cutW W g) A n xs := by
  have hr := Kd.reads_of_C (enc := Value.int .i64) (d := (0 : Int)) (h1 := fun _ => rfl) h
  refine Kd.C_of_reads (enc := Value.int .i64) (d := (0 : Int)) (h1 := fun _ => rfl) ?_
  refine ⟨hr.1, hr.2.1, fun hn => ?_⟩
  obtain ⟨ad, e, hc⟩ := hr.2.2 hn
  refine ⟨ad, e, fun j hj => ?_⟩
  have := hc j hj
  rw [← this]
  have hblk : (ad.add j).block = ad.block := by unfold Addr.add; split <;> rfl
  exact World.cell?_of_block (by rw [hblk]; exact cutW_at (hb ad e hn))
theorem cutW_R {W : World} {e base g : Nat} {ok : Nat → Prop} {A : Option Addr} {n c : Nat} {xs : List Int} (h : (Kd.int .i64).R e W base ok (.slice A n c) xs) (hb : ∀ k, (Value.slice A n c).ownBlock = some k → k < g) : (Kd.int .i64).C (cutW W g) A xs.length xs :=
  cutW_C (Kd.R_reads' h).2.2 (fun ad e _ => hb ad.block (by rw [e]; rfl))
/-- log[x] = n for the entries from number i on. -/
def logs (ex : List Int) (lg : List Int) : Nat → List Int
  | 0 => lg
  | n + 1 => (logs ex lg n).set (rd ex n).toNat n
theorem logs_length (ex lg : List Int) (n : Nat) : (logs ex lg n).length = lg.length := by
  induction n with
  | zero => rfl
  | succ n ih => rw [logs, List.length_set, ih]
theorem Ri_ok {e base : Nat} {w : World} {ok ok' : Nat → Prop} {v : Value} {xs : List Int} (h : (Kd.int .i64).R e w base ok v xs) (h' : ∀ k, v.ownBlock = some k → ok' k) : (Kd.int .i64).R e w base ok' v xs :=
  ⟨h', h.2.imp_ (fun _ _ hp => hp)⟩
theorem Ri_grown {e base : Nat} {w w1 : World} {ok : Nat → Prop} {v : Value} {xs : List Int} {row : Option Nat} (h : (Kd.int .i64).R e w base ok v xs) (hg : w.grownBy w1 row) (hne : ∀ k, v.ownBlock = some k → some k ≠ row) : (Kd.int .i64).R e w1 base ok v xs :=
  Ri_ok (Kd.R_grown (Ri_ok h (ok' := fun k => some k ≠ row) hne) hg (fun k hk => hk)) h.1
theorem grownBy_size {w w1 : World} {row : Option Nat} (hg : w.grownBy w1 row) : w.heap.size ≤ w1.heap.size := hg.size
end Go.Proofs.Ytibbdjkboglepaa.MyQBchRoots

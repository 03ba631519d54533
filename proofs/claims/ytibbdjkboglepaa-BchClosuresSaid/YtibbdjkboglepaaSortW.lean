/- slices.Sort at a row of the call's own: by the shelf's contract (laid in plain words in <Name>Shelf), in the words of the print. -/
import Derived.Test.YtibbdjkboglepaaShelf
import Derived.Test.YtibbdjkboglepaaWWords
namespace Go.Proofs.Ytibbdjkboglepaa.My
open Go Go.RowKit Go.Shelf Go.Sort Go.Proofs.YtibbdjkboglepaaW.PrintWords
/-- The list in order. -/
def sorted (xs : List Int) : List Int := xs.mergeSort fun x y => decide (x ≤ y)
theorem sorted_length (xs : List Int) : (sorted xs).length = xs.length := List.length_mergeSort _
theorem put_block {W : World} {g : Nat} {cur : Array Value} {e : TypeId} {d : Array Int} (hg : W.heap[g]? = some (.cells cur e (0, 0))) : (putRow (Value.int .i64) W g 0 d).heap[g]? = some (.cells (putCells (Value.int .i64) 0 d cur) e (0, 0)) := by
  simp [putRow, mapBlock, Array.getElem?_modify, hg, onCells]
theorem put_other {W : World} {g k : Nat} {d : Array Int} (hk : k ≠ g) : (putRow (Value.int .i64) W g 0 d).heap[k]? = W.heap[k]? := by
  simp [putRow, mapBlock, Array.getElem?_modify, Ne.symm hk]
theorem sort_calls {e base g cap : Nat} {ok : Nat → Prop} {W : World} {xs : List Int} (h : (Kd.int .i64).R e W base ok (.slice (some ⟨g, 0, none⟩) xs.length cap) xs) (hl : xs.length < 4611686018427387904) :
    Calls Try.prog 46 #[.slice (some ⟨g, 0, none⟩) xs.length cap] W fun ex w' => ex = .returned (.tuple #[]) ∧ (Kd.int .i64).R e w' base ok (.slice (some ⟨g, 0, none⟩) xs.length cap) (sorted xs) ∧ W.grownBy w' (some g) := by
  have ho := Kd.own_of_R (enc := Value.int .i64) (h1 := fun _ => rfl) h
  obtain ⟨_, hor⟩ := ho
  rcases hor with ⟨he, _⟩ | ⟨g', cap', cur, he, hb, hh, h1, h2, h3, h4⟩
  · cases he
  · cases he
    rw [Nat.mul_one] at h3 h4
    have hlt : g < W.heap.size := (Array.getElem?_eq_some_iff.1 hh).1
    have hH : Holds (Value.int .i64) W g 0 xs.toArray := by
      intro j hj
      have hj' : j < xs.length := by simpa using hj
      have hc := Kd.R_celln 0 h (j : Int) (by omega) (by omega)
      refine ⟨?_, ?_⟩
      · rw [Nat.zero_add]
        have := hc.1
        rw [show ((j : Int)).toNat = j from rfl] at this
        rw [this]
        simp [rdOf, hj', List.getElem?_eq_getElem]
      · rw [Nat.zero_add]
        exact hc.2
    refine (Try.slices_Sort_int g 0 cap xs W hH hlt hl).mono ?_
    rintro ex w' ⟨rfl, n, os, rfl⟩
    refine ⟨rfl, ?_, ?_⟩
    · have hl' := sorted_length xs
      refine Kd.R_of_own (enc := Value.int .i64) (h1 := fun _ => rfl) ?_ h.1
      refine ⟨by rw [encs_length, Nat.mul_one], .inr ⟨g, cap, putCells (Value.int .i64) 0 (sorted xs).toArray cur, by rw [hl'], hb, ?_, by omega, h2, ?_, ?_⟩⟩
      · show ((putRow (Value.int .i64) (Sort.ahead W n) g 0 (sorted xs).toArray).heap ++ os)[g]? = _
        rw [Array.getElem?_append_left (by rw [size_putRow]; exact hlt)]
        exact put_block (W := Sort.ahead W n) hh
      · simp [putCells]; omega
      · rw [hl', Nat.mul_one]
        apply List.ext_getElem?
        intro i
        by_cases hi : i < xs.length
        · have hic : i < cur.size := by omega
          have his : i < (sorted xs).length := by omega
          rw [List.getElem?_take_of_lt hi, Array.getElem?_toList, putCells, Array.getElem?_mapIdx, Array.getElem?_eq_getElem hic]
          simp only [Option.map_some]
          rw [if_pos ⟨Nat.zero_le _, by simp; omega⟩]
          simp [encs, his]
        · rw [List.getElem?_eq_none (by simp; omega), List.getElem?_eq_none (by rw [encs_length]; omega)]
    · have hs : (putRow (Value.int .i64) (Sort.ahead W n) g 0 (sorted xs).toArray).heap.size = W.heap.size := size_putRow _ _ _ _ _
      refine ⟨rfl, rfl, rfl, ?_, fun k hk hne => ?_⟩
      · show W.heap.size ≤ ((putRow (Value.int .i64) (Sort.ahead W n) g 0 (sorted xs).toArray).heap ++ os).size
        rw [Array.size_append, hs]
        omega
      · show ((putRow (Value.int .i64) (Sort.ahead W n) g 0 (sorted xs).toArray).heap ++ os)[k]? = _
        rw [Array.getElem?_append_left (by rw [hs]; exact hk)]
        exact put_other (W := Sort.ahead W n) (fun e => hne (by rw [e]))
end Go.Proofs.Ytibbdjkboglepaa.My

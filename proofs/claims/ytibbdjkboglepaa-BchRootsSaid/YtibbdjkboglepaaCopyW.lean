/- The builtin copy between two parts of one row of the call's own, as one step of a region: a word for walks. No further condition. -/
import Derived.Test.YtibbdjkboglepaaWWords
import Derived.Test.YtibbdjkboglepaaWLast
import Derived.Laws.CopyOwn
namespace Go.Proofs.Ytibbdjkboglepaa.My
open Go Go.RowKit Go.Proofs.YtibbdjkboglepaaW.PrintWords Go.Proofs.YtibbdjkboglepaaW.PrintLast

/-- copy(xs[1:], xs[:m]). -/
def shiftL (m : Nat) (xs : List Int) : List Int := xs.take 1 ++ (xs.take (min m (xs.length - 1)) ++ xs.drop (1 + min m (xs.length - 1)))
theorem shiftL_length (m : Nat) (xs : List Int) : (shiftL m xs).length = xs.length := by
  unfold shiftL
  cases xs with
  | nil => simp
  | cons x l => simp; omega
theorem encs_take {α : Type} (enc : α → Value) (xs : List α) (n : Nat) : encs enc (xs.take n) = (encs enc xs).take n := by
  unfold encs; rw [List.map_take]
theorem shift_row {e base g cap : Nat} {ok : Nat → Prop} {W : World} {xs : List Int} (h : (Kd.int .i64).R e W base ok (.slice (some ⟨g, 0, none⟩) xs.length cap) xs) :
    ∃ cur : Array Value, W.heap[g]? = some (.cells cur e (0, 0)) ∧ xs.length ≤ cur.size ∧ cur.toList.take xs.length = encs (Value.int .i64) xs ∧
      ∀ cs : List Int, 1 + cs.length ≤ xs.length → (Kd.int .i64).R e (W.setRow g (cur.toList.take 1 ++ (encs (Value.int .i64) cs ++ cur.toList.drop (1 + cs.length))).toArray) base ok (.slice (some ⟨g, 0, none⟩) xs.length cap) (xs.take 1 ++ (cs ++ xs.drop (1 + cs.length))) := by
  have ho := Kd.own_of_R (enc := Value.int .i64) (h1 := fun _ => rfl) h
  obtain ⟨hl, hor⟩ := ho
  rcases hor with ⟨he, _⟩ | ⟨g', cap', cur, he, hb, hh, h1, h2, h3, h4⟩
  · cases he
  · cases he
    rw [Nat.mul_one] at h3 h4
    refine ⟨cur, hh, by omega, h4, fun cs hcs => ?_⟩
    have hlen : (xs.take 1 ++ (cs ++ xs.drop (1 + cs.length))).length = xs.length := by simp; omega
    refine Kd.R_of_own (enc := Value.int .i64) (h1 := fun _ => rfl) ?_ h.1
    rw [hlen]
    refine ⟨by rw [encs_length, hlen, Nat.mul_one], .inr ⟨g, cap, _, rfl, hb, setRow_heap W g cur _ e (0, 0) hh, h1, h2, ?_, ?_⟩⟩
    · have : cur.toList.length = cur.size := Array.length_toList
      simp [encs_length]
      omega
    · have h5 : cur.toList.length = cur.size := Array.length_toList
      rw [Nat.mul_one]
      have hsplit : cur.toList = encs (Value.int .i64) xs ++ cur.toList.drop xs.length := by
        rw [← h4, List.take_append_drop]
      generalize cur.toList.drop xs.length = R at hsplit
      have hel : (encs (Value.int .i64) xs).length = xs.length := encs_length _
      have e1 : cur.toList.take 1 = (encs (Value.int .i64) xs).take 1 := by
        rw [hsplit, List.take_append_of_le_length (by omega)]
      have e2 : cur.toList.drop (1 + cs.length) = (encs (Value.int .i64) xs).drop (1 + cs.length) ++ R := by
        rw [hsplit, List.drop_append_of_le_length (by omega)]
      rw [e1, e2]
      have e3 : encs (Value.int .i64) (xs.take 1 ++ (cs ++ xs.drop (1 + cs.length))) = (encs (Value.int .i64) xs).take 1 ++ (encs (Value.int .i64) cs ++ (encs (Value.int .i64) xs).drop (1 + cs.length)) := by
        rw [encs_append, encs_append, encs_take]
        unfold encs
        rw [List.map_drop]
      rw [e3]
      show List.take xs.length ((encs (Value.int .i64) xs).take 1 ++ (encs (Value.int .i64) cs ++ ((encs (Value.int .i64) xs).drop (1 + cs.length) ++ R))) = _
      rw [← List.append_assoc (encs (Value.int .i64) cs), ← List.append_assoc]
      apply List.take_left'
      rw [← e3, encs_length, hlen]
theorem shift_step {P : Program} {ops : Array Oper} {o : Oper} {a : Act} {W : World} {K : Act → World → Prop} {Q : Exit → Act → World → Prop} {E : Prop} (hgd : o.guard = none) (d s : Operand) (dT sT : TypeId)
    (ho : o.op = .call { callee := .builtin .copy, args := #[d, s], argTypes := #[dT, sT] }) (elem : TypeId) (hu : P.underlying dT = some (.slice elem)) (hsz : (P.info? elem).map (·.size) = some 1)
    {e base g cap dLen dCap sLen : Nat} {ok : Nat → Prop} {xs : List Int} {A : Option Addr} (hR : (Kd.int .i64).R e W base ok (.slice (some ⟨g, 0, none⟩) xs.length cap) xs) (hx : 0 < xs.length)
    (hA : A = if cap = 1 then some (⟨g, 0, none⟩ : Addr) else (some (⟨g, 0, none⟩ : Addr)).map (·.add 1)) (hdl : dLen = xs.length - 1) (hsl : sLen ≤ xs.length) (hcap : xs.length ≤ cap)
    (hd : a.eval d = .slice A dLen dCap) (hs : a.eval s = .slice (some ⟨g, 0, none⟩) sLen cap)
    (h : ∀ w', (Kd.int .i64).R e w' base ok (.slice (some ⟨g, 0, none⟩) xs.length cap) (shiftL sLen xs) → W.grownBy w' (some g) → K (a.put o.dst (goInt (min sLen (xs.length - 1) : Nat))) w') :
    if Region.wanted o (yielded ops a.tmps) = true then Oper.wp P o a W K Q else E := by
  subst hdl
  have hw : Region.wanted o (yielded ops a.tmps) = true := by simp [Region.wanted, hgd]
  rw [if_pos hw]
  obtain ⟨cur, hcur, hcs, htake, hset⟩ := shift_row hR
  by_cases h0 : min sLen (xs.length - 1) = 0
  · have hrun := run_copy_none (P := P) W dT sT o.type elem A (some ⟨g, 0, none⟩) (xs.length - 1) dCap sLen cap hu hsz h0
    unfold Oper.wp
    simp [execOp, ho, resolve, invoke, builtin, hd, hs, hrun, Result.andThen]
    have e : shiftL sLen xs = xs := by
      unfold shiftL
      rw [h0, List.take_zero, List.nil_append, Nat.add_zero, List.take_append_drop]
    have := h W (by rw [e]; exact hR) ⟨rfl, rfl, rfl, Nat.le_refl _, fun _ _ _ => rfl⟩
    rw [h0] at this
    exact this
  · have hcap1 : cap ≠ 1 := by omega
    rw [if_neg hcap1] at hA
    have hA' : A = some ⟨g, 1, none⟩ := by rw [hA]; simp [Addr.add]
    subst hA'
    generalize hm : min sLen (xs.length - 1) = m at *
    have htl : ∀ j v, (encs (Value.int .i64) (xs.take m))[j]? = some v → W.cell? ((⟨g, 0, none⟩ : Addr).add j) = some v := by
      intro j v hj
      have hjl : j < m := by
        have := (List.getElem?_eq_some_iff.1 hj).1
        rw [encs_length, List.length_take] at this
        omega
      rw [encs_take, List.getElem?_take_of_lt hjl, ← htake, List.getElem?_take_of_lt (by omega)] at hj
      rw [add_plain]
      simp only [World.cell?, hcur]
      simpa using hj
    have hlenc : (encs (Value.int .i64) (xs.take m)).length = m := by rw [encs_length, List.length_take]; omega
    have hrun := run_copy_row (P := P) W dT sT o.type elem g 1 (xs.length - 1) dCap ⟨g, 0, none⟩ sLen cap cur e (encs (Value.int .i64) (xs.take m)) hu hsz hcur (by rw [hlenc, ← hm]) htl (by rw [hlenc]; omega) (fun v hv => by
      obtain ⟨x, _, rfl⟩ := List.mem_map.1 hv
      rfl)
    unfold Oper.wp
    simp [execOp, ho, resolve, invoke, builtin, hd, hs, hrun, Result.andThen]
    have hlm : (xs.take m).length = m := by rw [List.length_take]; omega
    have h2 := hset (xs.take m) (by omega)
    have e2 : xs.take 1 ++ (xs.take m ++ xs.drop (1 + (xs.take m).length)) = shiftL sLen xs := by
      unfold shiftL
      rw [hm, hlm]
    rw [e2] at h2
    have h3 := h _ h2 ⟨rfl, rfl, rfl, by simp [World.setRow], fun k _ hk => setRow_other W g k _ (fun e' => hk (by rw [e']))⟩
    rw [hlenc]
    rw [hlm] at h3
    exact h3
end Go.Proofs.Ytibbdjkboglepaa.My

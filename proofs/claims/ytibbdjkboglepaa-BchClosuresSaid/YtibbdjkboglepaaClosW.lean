/- Words for the walk of bch.Closure: the function literal that looks up a mark, slices.IndexFunc and slices.ContainsFunc with it. -/
import Derived.Test.YtibbdjkboglepaaQBchClosuresx8
import Derived.Test.YtibbdjkboglepaaAux
import Derived.WalkSpells
set_option linter.unusedVariables false
set_option linter.unusedSimpArgs false
namespace Go.Proofs.Ytibbdjkboglepaa.MyQBchClosures
open Go Go.RowKit Go.Proofs.YtibbdjkboglepaaW.PrintWords Go.Proofs.YtibbdjkboglepaaW.PrintLast Go.Proofs.YtibbdjkboglepaaW.PrintMore Go.Proofs.Ytibbdjkboglepaa.QBchClosures
/-- The marks in memory: the box of the function literal and the row. -/
def Marks (w : World) (Bn : Nat) (xs : List Bool) : Prop := ∃ gi cap, w.cell? ⟨Bn, 0, none⟩ = some (.slice (some ⟨gi, 0, none⟩) xs.length cap) ∧ ∀ x : Int, 0 ≤ x → x < xs.length → w.cell? ⟨gi, x.toNat, none⟩ = some (.bool (rdOf false xs x))
set_option maxHeartbeats 4000000 in
set_option maxRecDepth 100000 in
theorem pred_calls {w : World} {Bn : Nat} {xs : List Bool} {x : Int} (hM : Marks w Bn xs) (h0 : 0 ≤ x) (h1 : x < xs.length) :
    Calls Try.prog 45 #[.int .i64 x, .pointer (some ⟨Bn, 0, none⟩)] w fun e w' => e = .returned (.bool (rdOf false xs x)) ∧ w' = w := by
  obtain ⟨gi, cap, hb, hc⟩ := hM
  have hcx := hc x h0 h1
  clear hc
  have p1 : (0 ≤ x) = True := eq_true h0
  have p2 : (x < (xs.length : Int)) = True := eq_true h1
  have d1 : decide (0 ≤ x) = true := decide_eq_true h0
  have d2 : decide (x < (xs.length : Int)) = true := decide_eq_true h1
  go_enter Try.func45, Try.ntmps45
  go_wp2
  go_ret
  exact ⟨rfl, rfl⟩
/-- The first number of the list that is marked. -/
def hit (xs : List Bool) (l : List Int) : Bool := l.any fun x => rdOf false xs x
set_option maxHeartbeats 4000000 in
set_option maxRecDepth 100000 in
theorem index_calls {w : World} {Bn : Nat} {xs : List Bool} {A : Option Addr} {c : Nat} {l : List Int} (hM : Marks w Bn xs) (hr : Kd.C (Kd.int .i64) w A l.length l) (hl : ∀ x ∈ l, 0 ≤ x ∧ x < xs.length) :
    Calls Try.prog 71 #[.slice A l.length c, .func (.func 45) #[] #[.pointer (some ⟨Bn, 0, none⟩)]] w fun e w' => ∃ r : Int, e = .returned (.int .i64 r) ∧ (decide (r ≥ 0) = hit xs l) ∧ w' = w := by
  have HM := Aside0.mk hM
  have HR := Aside0.mk hr
  have HL := Aside0.mk hl
  have hlen : l.length ≤ 9223372036854775807 := hr.2.1
  clear hM hr hl
  go_enter Try.func71, Try.ntmps71
  go_wp2
  go_loopg [8] (l.length + 1) (fun kq v8 w' => ∃ n : Nat, v8 = .int .i64 (n : Int) ∧ Aside0 (n ≤ l.length ∧ n + kq = l.length + 1) ∧ Aside0 ((l.take n).any (fun x => rdOf false xs x) = false) ∧ Aside0 (w' = w))
  case atStart => exact ⟨0, rfl, ⟨by omega, by omega⟩, ⟨rfl⟩, ⟨rfl⟩⟩
  case round =>
    obtain ⟨n, rfl, HN, HA, HW⟩ := hrel
    obtain rfl := HW.out
    cases gk with
    | zero => exact absurd HN.out (by omega)
    | succ k1 =>
      by_cases hn : n < l.length
      · have c1 : decide ((n : Int) < (l.length : Int)) = true := decide_eq_true (by omega)
        have hxm := HL.out (l[n]'hn) (List.getElem_mem _)
        obtain ⟨ad1, e1, hx1⟩ := Kd.at_int HR.out (n : Int) (by omega) (by omega)
        subst e1
        have hrx : rd l (n : Int) = l[n]'hn := by simp [rd, List.getD_eq_getElem?_getD, List.getElem?_eq_getElem hn]
        rw [hrx] at hx1
        have htk : (l.take (n + 1)).any (fun x => rdOf false xs x) = rdOf false xs (l[n]'hn) := by
          rw [List.take_add_one, List.any_append, HA.out, List.getElem?_eq_getElem hn]
          simp
        have hmem : l[n]'hn ∈ l := List.getElem_mem _
        clear hrx
        generalize hxe : l[n]'hn = x at hx1 hxm htk hmem
        clear hxe
        (try simp only [Int.toNat_natCast] at hx1)
        have p6 : (0 ≤ (n : Int)) = True := eq_true (by omega)
        have p7 : ((n : Int) < (l.length : Int)) = True := eq_true (by omega)
        have hwn : wrap64 ((n : Int) + 1) = ((n + 1 : Nat) : Int) := by rw [My.w64] <;> omega
        by_cases hb : rdOf false xs x = true
        · go_wp2_with (go_at_call 45; refine (pred_calls HM.out hxm.1 hxm.2).mono ?_; rintro e w1 ⟨rfl, rfl⟩; rw [hb])
          go_ret
          exact ⟨_, rfl, by rw [decide_eq_true (by omega)]; exact (List.any_eq_true.2 ⟨x, hmem, hb⟩).symm, rfl⟩
        · rw [Bool.not_eq_true] at hb
          go_wp2_with (go_at_call 45; refine (pred_calls HM.out hxm.1 hxm.2).mono ?_; rintro e w1 ⟨rfl, rfl⟩; rw [hb])
          go_roundg k1
          case measure => omega
          case rel => exact ⟨n + 1, (by first | rfl | (simp; done) | (simp [hwn]; done)), ⟨by omega, by have := HN.out; omega⟩, ⟨by rw [htk]; exact hb⟩, ⟨rfl⟩⟩
      · have c1 : decide ((n : Int) < (l.length : Int)) = false := decide_eq_false (by omega)
        have hall : hit xs l = false := by
          have := HA.out
          rw [List.take_of_length_le (by omega)] at this
          exact this
        go_wp2
        go_ret
        exact ⟨_, rfl, by first | omega | decide | (rw [hall]; rfl), rfl⟩
set_option maxHeartbeats 4000000 in
set_option maxRecDepth 100000 in
theorem contains_calls {w : World} {Bn : Nat} {xs : List Bool} {A : Option Addr} {c : Nat} {l : List Int} (hM : Marks w Bn xs) (hr : Kd.C (Kd.int .i64) w A l.length l) (hl : ∀ x ∈ l, 0 ≤ x ∧ x < xs.length) :
    Calls Try.prog 44 #[.slice A l.length c, .func (.func 45) #[] #[.pointer (some ⟨Bn, 0, none⟩)]] w fun e w' => e = .returned (.bool (hit xs l)) ∧ w' = w := by
  have HI := Aside0.mk (index_calls (c := c) hM hr hl)
  clear hM hr hl
  go_enter Try.func44, Try.ntmps44
  go_wp2_with (go_at_call 71; refine HI.out.mono ?_; rintro e w1 ⟨r, rfl, hd, rfl⟩)
  go_ret
  exact ⟨by rw [← hd]; rfl, rfl⟩
end Go.Proofs.Ytibbdjkboglepaa.MyQBchClosures

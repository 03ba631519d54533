/- The walk of bch.Closure: the list. -/
import Derived.Test.YtibbdjkboglepaaClosWalk
import Derived.Test.YtibbdjkboglepaaQBchClosuresx1
set_option linter.unusedVariables false
set_option linter.unusedSimpArgs false
namespace Go.Proofs.Ytibbdjkboglepaa.MyQBchClosures
open Go Go.RowKit Go.Proofs.YtibbdjkboglepaaW.PrintWords Go.Proofs.YtibbdjkboglepaaW.PrintLast Go.Proofs.YtibbdjkboglepaaW.PrintMore Go.Proofs.Ytibbdjkboglepaa.QBchClosures
/-- The cosets that are hit, joined. -/
def joined (xs : List Bool) (cs : List (List Int)) : List Int := (cs.filter (hit xs)).flatten
theorem marks_below {w w1 : World} {Bn : Nat} {xs : List Bool} (hp : 0 < xs.length) (h : Marks w Bn xs) (hb : Below w.heap.size w w1) : Marks w1 Bn xs := by
  obtain ⟨gi, cap, h1, h2⟩ := h
  have lt : ∀ {p : Addr} {v : Value}, w.cell? p = some v → p.block < w.heap.size := by
    intro p v hc
    apply Classical.byContradiction
    intro hn
    rw [World.cell?, Array.getElem?_eq_none (by omega)] at hc
    cases hc
  exact ⟨gi, cap, (hb.cell (p := ⟨Bn, 0, none⟩) (lt h1)).trans h1, fun x h0 hx => (hb.cell (p := ⟨gi, x.toNat, none⟩) (lt (h2 x h0 hx))).trans (h2 x h0 hx)⟩
theorem no_zero {i m : Nat} : ¬ (i ≤ m ∧ i + 0 = m + 1) := by omega
theorem wn_step {i m : Nat} (h : i < m) (hm : m ≤ 1000000) : wrap64 ((i : Int) + 1) = ((i + 1 : Nat) : Int) := by rw [My.w64] <;> omega
theorem p_ge {i : Nat} : (0 ≤ (i : Int)) = True := eq_true (by omega)
theorem p_lt {i m : Nat} (h : i < m) : ((i : Int) < (m : Int)) = True := eq_true (by omega)
theorem joined_take {xs : List Bool} {cs : List (List Int)} {i : Nat} (h : i < cs.length) : joined xs (cs.take (i + 1)) = if hit xs (cs[i]'h) = true then joined xs (cs.take i) ++ cs[i]'h else joined xs (cs.take i) := by
  have ht : cs.take (i + 1) = cs.take i ++ [cs[i]'h] := by rw [List.take_add_one, List.getElem?_eq_getElem h]; rfl
  unfold joined
  rw [ht, List.filter_append]
  by_cases hh : hit xs (cs[i]'h) = true
  · rw [if_pos hh, List.filter_cons_of_pos hh, List.filter_nil, List.flatten_append]; simp
  · rw [if_neg hh, List.filter_cons_of_neg hh, List.filter_nil, List.append_nil]
theorem joined_le {xs : List Bool} : ∀ cs : List (List Int), (joined xs cs).length ≤ cs.flatten.length
  | [] => Nat.le_refl _
  | c :: cs => by
    have := joined_le (xs := xs) cs
    unfold joined at this ⊢
    by_cases hh : hit xs c = true
    · rw [List.filter_cons_of_pos hh, List.flatten_cons, List.flatten_cons, List.length_append, List.length_append]; omega
    · rw [List.filter_cons_of_neg hh, List.flatten_cons, List.length_append]; omega
theorem joined_len {xs : List Bool} {cs : List (List Int)} {i : Nat} (h : i < cs.length) : (joined xs (cs.take i)).length + (cs[i]'h).length ≤ cs.flatten.length := by
  have h1 := joined_le (xs := xs) (cs.take i)
  have h2 : cs.flatten.length = (cs.take i).flatten.length + (cs.drop i).flatten.length := by
    rw [← List.length_append, ← List.flatten_append, List.take_append_drop]
  rw [List.drop_eq_getElem_cons h, List.flatten_cons, List.length_append] at h2
  omega
theorem dec_ge {i m : Nat} (h : ¬ i < m) : decide ((i : Int) < (m : Int)) = false := decide_eq_false (by omega)
theorem sort_f {l : List Int} (h : l.length ≤ 1000000) : slices_Sort_int_int.f 0 l = some (My.sorted l) := by unfold slices_Sort_int_int.f; rw [if_pos (by omega)]
theorem dec_lt {i m : Nat} (h : i < m) : decide ((i : Int) < (m : Int)) = true := decide_eq_true (by omega)
set_option maxHeartbeats 8000000 in
set_option maxRecDepth 100000 in
theorem Closure_ok (k : Nat) (q n : Int) (cos : List (List Int)) (mk : List Bool) (A : Option Addr) (c : Nat) (ex : List Int) (w : World) (hr : Kd.C (Kd.int .i64) w A ex.length ex) (hx : ex.length ≤ c) (hq1 : 2 ≤ q) (hq2 : q ≤ 256) (hn1 : 1 ≤ n) (hn2 : n ≤ 64)
    (hc : cyclic_Cosets.f k q n = some (cos, 0)) (hm : bch_members.f k n ex = some mk) (hml : 0 < mk.length) (hcl : cos.flatten.length ≤ 1000000) (hcc : cos.length ≤ 1000000) (hin : ∀ l ∈ cos, ∀ x ∈ l, 0 ≤ x ∧ x < mk.length) :
    Calls Try.prog 20 #[.int .i64 q, .int .i64 n, .slice A ex.length c] w fun e w' => ∃ v, e = .returned (.tuple #[v, .int .i64 0]) ∧ Kd.R (Kd.int .i64) 3 w' w.heap.size (fun _ => True) v (My.sorted (joined mk cos)) ∧ Below w.heap.size w w' := by
  have d1 : decide (q < 2) = false := decide_eq_false (by omega)
  have d2 : decide (q > 256) = false := decide_eq_false (by omega)
  have d3 : decide (256 < q) = false := decide_eq_false (by omega)
  have d4 : decide (n < 1) = false := decide_eq_false (by omega)
  have d5 : decide (n > 64) = false := decide_eq_false (by omega)
  have d6 : decide (64 < n) = false := decide_eq_false (by omega)
  have HC := Aside0.mk hc
  have HM := Aside0.mk hm
  have HR := Aside0.mk hr
  have HX := Aside0.mk hx
  have HI := Aside0.mk hin
  have HCL0 := Aside0.mk hcl
  have HCC := Aside0.mk hcc
  clear hc hm hr hx hin hcl hcc
  go_enter Try.func20, Try.ntmps20
  go_wp2_with (first
    | (go_at_call 43; refine (cyclic_Cosets.calls k q n cos 0 _ HC.out).mono ?_; rintro e w1 ⟨v0, rfl, hS, hb⟩; have HS := Aside0.mk hS; have HB := Aside0.mk hb; clear hS hb; obtain ⟨AC, cC, eC⟩ := Kd.S_slice HS.out; subst eC)
    | (go_at_call 29; refine (bch_members.calls k n A c ex mk _ (Kd.C_below HR.out HB.out) HX.out HM.out).mono ?_; rintro e w2 ⟨v1, rfl, hR, hb2⟩; have HS2 := Aside0.mk (Kd.S_below HS.out hb2); have HB2 := Aside0.mk (below_step HB.out hb2); have HMK := Aside0.mk hR; clear hR hb2 HS HB; have HS := HS2; have HB := HB2; clear HS2 HB2
       obtain ⟨gi, ci, rfl, _, _, _⟩ := Kd.R_form HMK.out hml)
    | ((with_reducible refine gate_dst (N := 10) rfl ?_); refine box_event ?hg (N := 10) ?hd (cs := #[.slice none 0 0]) (t := 56) ?hr ?_; (case hd => rfl); (case hg => rfl); (case hr => first | (go_simp; done) | (go_simp; rfl)); intro gb hgb w3 hbox hb3; have HBX := Aside0.mk hbox; have HB3 := Aside0.mk hb3; have HGB := Aside0.mk hgb; have hcb := (blk_cell hbox 0).trans rfl; have hfb := blk_frozen hbox 0; clear hbox hb3 hgb)
    | ((with_reducible refine gate_store (t := 56) (p := 10) rfl ?_); refine store_event (t := 56) (p := 10) (v := ?vo_10) (w1 := (w3.setCell ⟨gb, 0, none⟩ (.slice (some ⟨gi, 0, none⟩) mk.length ci))) ?hg ?ho ?hn ?hr ?_; (case ho => rfl); (case hg => rfl); (case hn => rfl); (case hr => first | (go_simp; done) | (go_simp; rfl)); intro wS hw
       have hBS : Below w2.heap.size w2 wS := by rw [hw]; exact below_set HB3.out (by rw [HGB.out]; exact Nat.le_refl _)
       have hcS : wS.cell? ⟨gb, 0, none⟩ = some (.slice (some ⟨gi, 0, none⟩) mk.length ci) := by rw [hw]; exact (blk_cell (blk_put HBX.out 0 _ rfl) 0).trans rfl
       have hMS : Marks wS gb mk := ⟨gi, ci, hcS, fun x h0 h1 => (hBS.cell (p := ⟨gi, x.toNat, none⟩) (Kd.R_lt HMK.out gi rfl)).trans (Kd.R_celln false HMK.out x h0 h1).1⟩
       have HMS := Aside0.mk hMS
       have HCS := Aside0.mk (Kd.C_below (Kd.S_reads' HS.out).2.2 hBS)
       have HBW := Aside0.mk (below_step HB.out hBS)
       clear hw hcb hfb hcS hMS hBS HBX HB3 HGB HMK HS))
  go_loopg [11, 42] (cos.length + 1) (fun kq v11 v42 w' => ∃ i : Nat, v42 = .int .i64 (i : Int) ∧ Aside0 (i ≤ cos.length ∧ i + kq = cos.length + 1) ∧ Aside0 (Kd.R (Kd.int .i64) 3 w' wS.heap.size (fun _ => True) v11 (joined mk (cos.take i))) ∧ Aside0 (Below wS.heap.size wS w'))
  case atStart => exact ⟨0, rfl, ⟨by omega, by omega⟩, ⟨Kd.R_nil _ _ _ _ _⟩, ⟨Below.refl _ _⟩⟩
  case round =>
    obtain ⟨i, rfl, HN, HO, HL⟩ := hrel
    cases gk with
    | zero => exact absurd HN.out no_zero
    | succ k1 =>
      by_cases hn : i < cos.length
      · have c1 : decide ((i : Int) < (cos.length : Int)) = true := dec_lt hn
        obtain ⟨ad, cs, e1, hl1, hK, hcell⟩ := ReadsRow.get_ (Kd.C_below HCS.out HL.out) [] (i : Int) (by omega) (by omega)
        subst e1
        have hget : cos.getD ((i : Int)).toNat [] = cos[i]'hn := by simp [List.getD_eq_getElem?_getD, List.getElem?_eq_getElem hn]
        rw [hget] at hK
        obtain ⟨A', c', rfl, hc', hC'⟩ := hK
        have hx1 := hcell 0 _ rfl
        rw [show (Kd.slice 3 (Kd.int .i64)).sz = 1 from rfl, Int.toNat_natCast, Nat.mul_one, Nat.add_zero] at hx1
        clear hcell hl1
        have hmem : cos[i]'hn ∈ cos := List.getElem_mem _
        have htake : cos.take (i + 1) = cos.take i ++ [cos[i]'hn] := by rw [List.take_add_one, List.getElem?_eq_getElem hn]; rfl
        have hwn := wn_step hn HCC.out
        have p6 := p_ge (i := i)
        have p7 := p_lt hn
        have hcalls := contains_calls (c := c') (marks_below hml HMS.out HL.out) hC' (HI.out _ hmem)
        have HCL := Aside0.mk hcalls
        clear hcalls
        have HLE := Aside0.mk (Nat.le_trans (joined_len (xs := mk) hn) HCL0.out)
        have hjt := joined_take (xs := mk) hn
        clear htake
        generalize cos[i]'hn = ci0 at *
        by_cases hb : hit mk ci0 = true
        · go_wp2_with (first
            | (go_at_call 44; refine HCL.out.mono ?_; rintro e w5 ⟨rfl, rfl⟩; rw [hb])
            | ((with_reducible refine gate_builtin (b := .append) (xs := #[.tmp 49, .tmp 50]) rfl ?_); at_builtin; refine Kd.R_append_rows (Kd.int .i64) (w0 := wS) wS.heap.size rfl (.tmp 49) (.tmp 50) 22 3 (.int .i64 0) 8 rfl Try.underlying22 info3 rfl (by decide) (by omega) u11 (joined mk (cos.take i)) ci0 _ _ _ (fun _ => True) (fun _ => False) rfl rfl HO.out hC' (fun _ _ h => h) (fun _ h => h.elim) (fun _ _ => trivial) HL.out (below_size HL.out) (by have := HLE.out; omega) ?_; intro v219 w8 ho hb8 hg hat; have HO8 := Aside0.mk ho; have HB8 := Aside0.mk hb8; clear ho hb8 hg hat))
          go_roundg k1
          case measure => omega
          case rel => exact ⟨i + 1, (by first | rfl | (simp; done) | (simp [hwn]; done)), ⟨by have := HN.out; omega⟩, ⟨by rw [hjt, if_pos hb]; exact HO8.out⟩, ⟨HB8.out⟩⟩
        · have hb' : hit mk ci0 = false := by simpa using hb
          go_wp2_with (first
            | (go_at_call 44; refine HCL.out.mono ?_; rintro e w5 ⟨rfl, rfl⟩; rw [hb']))
          go_roundg k1
          case measure => omega
          case rel => exact ⟨i + 1, (by first | rfl | (simp; done) | (simp [hwn]; done)), ⟨by have := HN.out; omega⟩, ⟨by rw [hjt, if_neg hb]; exact HO.out⟩, ⟨HL.out⟩⟩
      · have c1 : decide ((i : Int) < (cos.length : Int)) = false := dec_ge hn
        have hfin : joined mk (cos.take i) = joined mk cos := by rw [List.take_of_length_le (Nat.le_of_not_lt hn)]
        rw [hfin] at HO
        have HS := Aside0.mk (slices_Sort_int_int.calls 0 (fun _ => True) _ _ (My.sorted (joined mk cos)) wS wr HL.out HO.out (sort_f (Nat.le_trans (joined_le cos) HCL0.out)))
        go_wp2_with (first
            | (go_at_call 46; refine HS.out.mono ?_; rintro e w7 ⟨rfl, hR7, hB7, _⟩; have HR7 := Aside0.mk hR7; have HB7 := Aside0.mk hB7; clear hR7 hB7))
        go_ret2
        exact ⟨_, rfl, Kd.R_lower (Kd.R_mono HR7.out fun _ _ => trivial) (below_size HBW.out), below_step HBW.out HB7.out⟩
end Go.Proofs.Ytibbdjkboglepaa.MyQBchClosures

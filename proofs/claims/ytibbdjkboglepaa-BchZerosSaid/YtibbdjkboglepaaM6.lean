import Derived.Test.YtibbdjkboglepaaM5
import Derived.ChangeOld
import Derived.Deep.Fields
import Derived.Deep.Matrix
import Derived.Deep.Strs
import Derived.OpenShut
import Derived.ProofKit
import Derived.ShutString
import Derived.SizedLaws
import Derived.Test.YtibbdjkboglepaaRows
set_option maxHeartbeats 8000000
set_option maxRecDepth 100000
set_option linter.unusedVariables false
set_option linter.unusedSimpArgs false
set_option linter.unusedSectionVars false
namespace Go.Proofs.Ytibbdjkboglepaa.MyQBchZeros
open Go Go.RowKit Go.Proofs.YtibbdjkboglepaaW.PrintWords Go.Proofs.YtibbdjkboglepaaW.PrintLast Go.Proofs.YtibbdjkboglepaaW.PrintMore Go.Proofs.Ytibbdjkboglepaa.My Go.Proofs.Ytibbdjkboglepaa.Alg Go.Proofs.Ytibbdjkboglepaa.MyQBchRoots Go.Proofs.Ytibbdjkboglepaa.QBchRoots Go.Proofs.Ytibbdjkboglepaa.QBchZeros Go.Proofs.Ytibbdjkboglepaa.QMat
def Rec4 (w : World) (b : Nat) (P M q : Int) : Prop := ∃ x2 x4 x5 : Value, w.heap[b]? = some (.cells #[.int .i64 P, .int .i64 M, x2, .int .i64 q, x4, x5] 92 (0, 0))
section
variable {D S : FD} {P M q : Int} {Mod : List Int} {w0 w w1 : World} {g b : Nat} {γ : GF D}
theorem Fs.rec4 (h : Fs D P M Mod w0 w g γ) : Rec4 w g P M D.q := by
 obtain ⟨A2, c2, A4, c4, A5, c5, hb, _⟩ := h.I
 exact ⟨_, _, _, hb⟩
theorem Rec4.kept {S : Nat → Prop} (h : Rec4 w b P M q) (hk : Kept w w1 S) (hb : ¬ S b) : Rec4 w1 b P M q := by
 obtain ⟨x2, x4, x5, h⟩ := h
 exact ⟨x2, x4, x5, blk_kept h hk hb⟩
theorem Rec4.below (h : Rec4 w b P M q) (hb : Below w.heap.size w w1) : Rec4 w1 b P M q := h.kept (Kept.of_below hb (fun _ => False)) id
theorem Rec4.lt (h : Rec4 w b P M q) : b < w.heap.size := by
 obtain ⟨x2, x4, x5, h⟩ := h
 exact blk_lt h
theorem Rec4.drew (h : Rec4 w b P M q) : Rec4 w.drew b P M q := h
theorem Rec4.store (h : Rec4 w b P M q) {k j : Nat} (hk : k ≠ b) (v : Value) : Rec4 (w.setCell ⟨k, j, none⟩ v) b P M q := by
 obtain ⟨x2, x4, x5, h⟩ := h
 exact ⟨x2, x4, x5, blk_far h (Ne.symm hk) v⟩
theorem Rec4.cells (h : Rec4 w b P M q) : w.cell? ⟨b, 0, none⟩ = some (.int .i64 P) ∧ w.cell? ⟨b, 1, none⟩ = some (.int .i64 M) ∧ w.cell? ⟨b, 3, none⟩ = some (.int .i64 q) := by
 obtain ⟨x2, x4, x5, h⟩ := h
 exact ⟨bc0 h, bc1 h, bc3 h⟩
theorem Rec4.is (h : Rec4 w b P M q) (x : Int) : Calls Try.prog 93 #[.pointer (some ⟨b, 0, none⟩), .int .i64 x] w fun e w' => e = .returned (.bool (decide (0 ≤ x ∧ x < q))) ∧ Below w.heap.size w w' := by
 have hc := h.cells.2.2
 clear h
 by_cases h0 : 0 ≤ x
 ·have d0 : decide (x ≥ 0) = true := decide_eq_true h0
  have d1 : decide (0 ≤ x) = true := decide_eq_true h0
  have hv : decide (0 ≤ x ∧ x < q) = decide (x < q) := by simp [h0]
  have HV := Aside0.mk hv
  clear h0 hv
  go_enter Try.func93, Try.ntmps93
  go_wp2
  go_ret
  exact ⟨by rw [HV.out]; rfl, Below.refl _ _⟩
 ·have d0 : decide (x ≥ 0) = false := decide_eq_false h0
  have d1 : decide (0 ≤ x) = false := decide_eq_false h0
  have hv : decide (0 ≤ x ∧ x < q) = false := by simp [h0]
  have HV := Aside0.mk hv
  clear h0 hv
  go_enter Try.func93, Try.ntmps93
  go_wp2
  go_ret
  exact ⟨by rw [HV.out]; rfl, Below.refl _ _⟩
theorem Rec4.in_ (h : Rec4 w b P M D.q) (x : Int) : Calls Try.prog 66 #[.pointer (some ⟨b, 0, none⟩), .int .i64 x] w fun e w' => e = .returned (.int .i64 (inn D x).1) ∧ Below w.heap.size w w' := by
 have H := Aside0.mk h
 have hv := inn_val D x
 clear h
 by_cases h0 : 0 ≤ x ∧ x < D.q
 all_goals
  first | rw [if_pos h0] at hv | rw [if_neg h0] at hv
  have HV := Aside0.mk hv
  have HD : Aside0 (decide (0 ≤ x ∧ x < D.q) = _) := Aside0.mk (by first | exact decide_eq_true h0 | exact decide_eq_false h0)
  clear hv h0
  go_enter Try.func66, Try.ntmps66
  go_wp2_with (go_at_call 93; refine (H.out.is x).mono ?_; rintro e w2 ⟨rfl, hb⟩; rw [HD.out]; have HB := Aside0.mk hb; clear hb)
  go_ret
  exact ⟨by rw [HV.out]; rfl, HB.out⟩
theorem Rec4.order (h : Rec4 w b P M q) : Calls Try.prog 117 #[.pointer (some ⟨b, 0, none⟩)] w fun e w' => e = .returned (.int .i64 q) ∧ Below w.heap.size w w' := by
 have hc := h.cells.2.2
 clear h
 go_enter Try.func117, Try.ntmps117
 go_wp2
 go_ret
 exact ⟨rfl, Below.refl _ _⟩
def Dig4.T : Bool × List (List Nat × List Nat) := (true, [([], []), ([], []), ([0, 1], [0, 1]), ([], []), ([3], [3]), ([4], [4]), ([5], [5]), ([6], [6]), ([], []), ([8], [8]), ([9], [9]), ([10], [10]), ([11], [11]), ([2, 7, 12, 2], [2, 7, 12]), ([13, 13, 0, 1, 2, 3, 4, 5, 6, 7, 8, 9, 10, 11, 12, 13], [13])])
def Dig4.B : List Nat := [0, 0, 3, 0, 8, 24, 56, 120, 0, 256, 768, 1792, 3840, 8191, 16383]
theorem Dig4.tab : rtab .any (opsOf Try.f119 1) = Dig4.T := by kernel_rfl
theorem Dig4.bits : waitsOk Dig4.T.2 Dig4.B = true := by kernel_rfl
theorem Rec4.digits (hD : Desc D P M Mod) (hF : Rec4 w b P M D.q) (x : Int) :
  Calls Try.prog 119 #[.pointer (some ⟨b, 0, none⟩), .int .i64 x] w fun e w' => ∃ v, e = .returned v ∧ Kd.R (Kd.int .i64) 3 w' w.heap.size (fun _ => True) v (digL (inn D x)) ∧ Below w.heap.size w w' := by
 have HD := Aside0.mk hD
 have HF := Aside0.mk hF.drew
 have HB := Aside0.mk (below_drew1 (Below.refl w.heap.size w))
 have hs0 : w.drew.cell? ⟨b, 0, none⟩ = some (.int .i64 P) ∧ w.drew.cell? ⟨b, 1, none⟩ = some (.int .i64 M) := ⟨hF.drew.cells.1, hF.drew.cells.2.1⟩
 clear hF hD
 go_enter Try.func119, Try.ntmps119
 go_wp2
 refine start_ (n := 15) (S := fun w' => w'.cell? ⟨b, 0, none⟩ = some (.int .i64 P) ∧ w'.cell? ⟨b, 1, none⟩ = some (.int .i64 M)) (ds := [13]) (bb 15 0) (by kernel_rfl) rfl rfl hs0 (fun hHeld => ?_); refine with_tabW Dig4.tab Dig4.bits (fun HT_ HW_ => ?_)
 generalize w.drew = w11 at HF HB hHeld ⊢
 clear hs0
 refine pq HT_ 0 5 (bb 15 1) ?_
 refine pq HT_ 1 6 (bb 15 3) ?_
 refine pq HT_ 3 8 (bb 15 11) ?_
 refine pq HT_ 4 9 (bb 15 27) ?_
 refine pq HT_ 5 10 (bb 15 59) ?_
 refine pq HT_ 6 11 (bb 15 123) ?_
 refine tq HT_ HW_ hHeld 7 12 (bb 15 251) ?_
 refine pq HT_ 8 13 (bb 15 507) ?_
 refine pq HT_ 9 14 (bb 15 1019) ?_
 refine pq HT_ 10 15 (bb 15 2043) ?_
 refine pq HT_ 11 16 (bb 15 4091) ?_
 refine tq HT_ HW_ hHeld 12 17 (bb 15 8187) ?_
 refine oq HT_ 2 (some 7) (bb 15 8191) (fun K hK => ?_)
 refine gq Try.func66 #[.pointer (some ⟨b, 0, none⟩), .int .i64 x] ?_
 refine (HF.out.in_ x).mono ?_
 rintro e w12 ⟨rfl, hb⟩
 refine ⟨_, rfl, ?_⟩
 have HB := Aside0.mk (below_step HB.out hb)
 have HF := Aside0.mk (HF.out.below hb)
 have hh : w12.cell? ⟨b, 0, none⟩ = some (.int .i64 P) ∧ w12.cell? ⟨b, 1, none⟩ = some (.int .i64 M) := ⟨HF.out.cells.1, HF.out.cells.2.1⟩
 clear hb hHeld
 refine hK.out _ _ hh (fun hHeld => ?_)
 clear hK K hh
 refine nq 7 ?_
 refine lq HT_ 13 (some 18) (bb 15 16383) (fun K hK => ?_)
 obtain ⟨kd, hkd⟩ := (digits_ev HD.out (inn D x)).rounds
 refine gq Try.func122 #[.int .i64 (inn D x).1, .int .i64 P, .int .i64 M] ?_
 refine (field_digitsOf.calls kd (inn D x).1 P M _ w12 hkd).mono ?_
 rintro e w13 ⟨v, rfl, ho, hb⟩
 refine ⟨_, rfl, ?_⟩
 have HO := Aside0.mk (Kd.R_lower ho (below_size HB.out))
 have HB := Aside0.mk (below_step HB.out hb)
 clear ho hb hkd
 refine hK.out _ _ ?_
 clear hK K
 refine nq 18 ?_
 refine pq HT_ 14 4 (bb 15 32767) ?_
 refine dq HT_ ?_
 go_wp2
 go_ret
 exact ⟨_, rfl, HO.out, HB.out⟩
end
section
variable {S D : FD} {Ps Ms P M : Int} {Mods Mod : List Int}
theorem embL_ext {β : GF D} {out : List Int} (hl : out.length = S.q.toNat) (h : ∀ t : Int, 0 ≤ t → t < S.q → rd out t = (embV S D β t).1) : out = embL S D β := by
 have hq := S.q_pos
 refine list_ext_rd (by rw [embL_len, hl]) fun t h0 h1 => ?_
 rw [h t h0 (by omega), embL_rd β h0 (by omega)]
theorem remb_l1 (hS : Desc S Ps Ms Mods) (hD : Desc D P M Mod) (β : GF D) : ∀ (d : Nat) (x : Int) (out : List Int), 0 ≤ x → x + d = S.q → out.length = S.q.toNat → (∀ t : Int, 0 ≤ t → t < x → rd out t = (embV S D β t).1) →
  Ev (fun k => r7_Embed.l1 k S.q out β.1 x Ps Ms Mods P M Mod) (embL S D β) := by
 have hq := hS.hq
 intro d
 induction d with
 | zero =>
  intro x out h0 hx hl ht
  rw [← embL_ext hl (fun t h1 h2 => ht t h1 (by omega))]
  exact ev_succ (ev_now fun k => by rw [r7_Embed.l1, if_neg (by omega)])
 | succ d ih =>
  intro x out h0 hx hl ht
  have h1 := Digits_eq hS x
  have h2 := ref_eval hD (digL (inn S x)) β.1 (by rw [digL_length]; have := hS.hm; have := hS.hm8; omega)
  rw [inn_self, embV_ev] at h2
  refine Ev.step (fun k => by rw [r7_Embed.l1, if_pos (by omega)]) (Ev.bind h1 (Ev.bind h2 (Ev.congr (fun k => ?_) (ih (x + 1) (out.set x.toNat (embV S D β x).1) (by omega) (by omega) (by simp [hl]) (fun t h3 h4 => ?_)))))
  ·rw [if_pos h0, if_pos (by omega), w64 (by omega) (by omega)]
  ·by_cases e : t = x
   ·subst e; rw [rd_set_self h0 (by omega)]
   ·rw [rd_set_ne h0 h3 (Ne.symm e)]; exact ht t h3 (by omega)
theorem remb_j1 (hS : Desc S Ps Ms Mods) (hD : Desc D P M Mod) (β : GF D) : Ev (fun k => r7_Embed.j1 k S.q (List.replicate S.q.toNat 0) β.1 Ps Ms Mods P M Mod) (embL S D β) := by
 have hq := S.q_pos
 exact Ev.step (fun k => by rw [r7_Embed.j1]) (remb_l1 hS hD β S.q.toNat 0 _ (by omega) (by omega) (by simp) (fun t h1 h2 => by omega))
theorem remb_l0 (hS : Desc S Ps Ms Mods) (hD : Desc D P M Mod) {β : GF D} (hβ : Beta D Ms Mods β) : ∀ (d : Nat) (r : Int), 0 ≤ r → r + d = β.1 →
  Ev (fun k => r7_Embed.l0 k S.q (List.replicate S.q.toNat 0) (Mods ++ [1]) r Ps Ms Mods P M Mod) (embL S D β) := by
 have hml : (Mods ++ [(1 : Int)]).length ≤ 1000000 := by
  have := hS.hm8
  by_cases e : Ms = 1
  ·rw [hS.one e]; simp
  ·have := hS.len (by have := hS.m1; omega); simp; omega
 intro d
 induction d with
 | zero =>
  intro r h0 hr
  obtain rfl : r = β.1 := by omega
  rcases hβ with ⟨h1, _⟩ | ⟨h1, h2, h3⟩
  ·exact Ev.step (fun k => by rw [r7_Embed.l0, if_neg (by omega)]) (remb_j1 hS hD β)
  ·have he := ref_eval hD (Mods ++ [1]) β.1 hml
   rw [inn_self, h2] at he
   exact Ev.step (fun k => by rw [r7_Embed.l0, if_pos (by omega)]) (Ev.bind he (Ev.congr (fun k => if_pos rfl) (remb_j1 hS hD β)))
 | succ d ih =>
  intro r h0 hr
  have hβ2 := β.2
  have hq := hD.hq
  rcases hβ with ⟨h1, h2⟩ | ⟨h1, h2, h3⟩
  ·subst h2
   rw [zero_val] at hr
   omega
  ·have he := ref_eval hD (Mods ++ [1]) r hml
   have hv : (inn D r).1 = r := inn_of h0 (by omega)
   have hne : evL D (Mods ++ [1]) (inn D r) ≠ 0 := h3 _ (by rw [hv]; omega)
   refine Ev.step (fun k => by rw [r7_Embed.l0, if_pos (by omega)]) (Ev.bind he (Ev.congr (fun k => ?_) (ih (r + 1) (by omega) (by omega))))
   rw [if_neg (fun e => hne (GF.val_zero.1 e)), w64 (by omega) (by omega)]
theorem remb_eq (hS : Desc S Ps Ms Mods) (hD : Desc D P M Mod) {β : GF D} (hβ : Beta D Ms Mods β) : Ev (fun k => r7_Embed.f k Ps Ms Mods P M Mod) (embL S D β) := by
 have hq := hS.hq
 have hq2 := S.two_q
 have hβ2 := β.2
 have hml : Mods.length ≤ 8 := by
  have := hS.hm8
  by_cases e : Ms = 1
  ·rw [hS.one e]; simp
  ·have := hS.len (by have := hS.m1; omega); omega
 refine Ev.bind (Order_eq hS) (Ev.congr (fun k => ?_) (remb_l0 hS hD hβ β.1.toNat 0 (by omega) (by omega)))
 rw [if_pos (by omega), if_pos (by omega)]
 simp only [Option.bind_some, List.nil_append, List.length_nil]
 rw [if_pos (by omega), if_pos (by omega)]
noncomputable def valV (D : FD) (im : List Int) (a : GF D) (n : Nat) (l : List Int) (i : Nat) : GF D := Alg.sum n (fun j => inn D (rd im (rd l (j : Int))) * Alg.pow (Alg.pow a i) j)
theorem rval_l0 (hD : Desc D P M Mod) (im l : List Int) (x : GF D) (n : Nat) (hn : n ≤ 1000000) (hl : l.length = n) (hr : ∀ t : Int, 0 ≤ t → t < n → 0 ≤ rd l t ∧ rd l t < im.length) : ∀ (d j : Nat), j + d = n →
  Ev (fun k => r17_value.l0 k im n l x.1 (Alg.pow x j).1 (Alg.sum j (fun t => inn D (rd im (rd l (t : Int))) * Alg.pow x t)).1 j P M Mod) (Alg.sum n (fun t => inn D (rd im (rd l (t : Int))) * Alg.pow x t)).1 := by
 intro d
 induction d with
 | zero =>
  intro j hj
  obtain rfl : j = n := by omega
  exact ev_succ (ev_now fun k => by rw [r17_value.l0, if_neg (by omega)])
 | succ d ih =>
  intro j hj
  have h1 := Mul_eq hD (rd im (rd l (j : Int))) (Alg.pow x j).1
  have h2 := Add_eq hD (Alg.sum j (fun t => inn D (rd im (rd l (t : Int))) * Alg.pow x t)).1 (inn D (rd im (rd l (j : Int))) * Alg.pow x j).1
  have h3 := Mul_eq hD (Alg.pow x j).1 x.1
  have hb := hr (j : Int) (by omega) (by omega)
  rw [inn_self] at h1
  rw [inn_self, inn_self] at h2
  rw [inn_self, inn_self, Alg.mul_comm, ← Alg.pow_succ] at h3
  refine Ev.step (fun k => by rw [r17_value.l0, if_pos (by omega), if_pos (by omega), if_pos (by omega), if_pos hb.1, if_pos hb.2]) (Ev.bind h1 (Ev.bind h2 (Ev.bind h3 (Ev.congr (fun k => ?_) (ih (j + 1) (by omega))))))
  rw [w64 (by omega) (by omega)]; rfl
theorem rval_eq (hD : Desc D P M Mod) (im l : List Int) (a : GF D) (n i : Nat) (hn1 : 1 ≤ n) (hn : n ≤ 1000000) (hi : i < n) (hl : l.length = n) (hr : ∀ t : Int, 0 ≤ t → t < n → 0 ≤ rd l t ∧ rd l t < im.length) :
  Ev (fun k => r17_value.f k P M Mod im a.1 n l i) (valV D im a n l i).1 := by
 have hm : r17_Mod.f (i : Int) (n : Int) = some (i : Int) := by
  unfold r17_Mod.f
  rw [if_neg (by omega), mod_go (by omega) (by omega), Int.emod_eq_of_lt (by omega) (by omega)]
 have hp := Pow_eq hD a.1 i
 rw [inn_self] at hp
 have h0 := rval_l0 hD im l (Alg.pow a i) n hn hl hr n 0 (by omega)
 refine Ev.congr (fun k => ?_) (ev_bind (f := fun k (t : Int × Int) => r17_value.l0 k im n l t.1 1 0 0 P M Mod) hp h0)
 unfold r17_value.f
 rw [hm]
 rfl
noncomputable def allZ (D : FD) (im : List Int) (a : GF D) (n : Nat) (L : List (List Int)) (i : Nat) : Bool := L.all fun l => decide (valV D im a n l i = 0)
noncomputable def zerosL (D : FD) (im : List Int) (a : GF D) (n : Nat) (L : List (List Int)) (m : Nat) : List Int := ((List.range m).filter (allZ D im a n L)).map fun i : Nat => (i : Int)
theorem zerosL_succ (im : List Int) (a : GF D) (n : Nat) (L : List (List Int)) (m : Nat) : zerosL D im a n L (m + 1) = if allZ D im a n L m = true then zerosL D im a n L m ++ [(m : Int)] else zerosL D im a n L m := by
 unfold zerosL
 rw [List.range_succ, List.filter_append, List.map_append]
 by_cases h : allZ D im a n L m = true
 ·rw [if_pos h, List.filter_cons_of_pos h]; rfl
 ·rw [if_neg h, List.filter_cons_of_neg h]; simp
theorem zerosL_len (im : List Int) (a : GF D) (n : Nat) (L : List (List Int)) (m : Nat) : (zerosL D im a n L m).length ≤ m := by
 unfold zerosL
 rw [List.length_map]
 exact Nat.le_trans (List.length_filter_le _ _) (by simp)
def Fits (n : Nat) (im : List Int) (L : List (List Int)) : Prop := ∀ l ∈ L, l.length = n ∧ ∀ t : Int, 0 ≤ t → t < n → 0 ≤ rd l t ∧ rd l t < im.length
theorem take_all {α : Type} {p : α → Bool} {L : List α} {c : Nat} (h : c < L.length) : (L.take (c + 1)).all p = ((L.take c).all p && p (L[c]'h)) := by
 rw [List.take_add_one, List.all_append, List.getElem?_eq_getElem h]
 simp
theorem rd_L1_get {L : List (List Int)} {c : Nat} (h : c < L.length) : rd_L1 L (c : Int) = L[c]'h := by
 simp [rd_L1, List.getD_eq_getElem?_getD, List.getElem?_eq_getElem h]
theorem rzer_l1 (hD : Desc D P M Mod) (im : List Int) (a : GF D) (n : Nat) (L : List (List Int)) (hn1 : 1 ≤ n) (hn : n ≤ 1000000) (hf : Fits n im L) (hL : L.length ≤ 1000000) (i : Nat) (hi : i < n) (out : List Int) (ho : out.length ≤ 1000000) (R : List Int)
  (hR : Ev (fun k => r17_Zeros.l0 k im a.1 (if allZ D im a n L i = true then out ++ [(i : Int)] else out) ((i + 1 : Nat) : Int) Ps Ms Mods n L P M Mod) R) : ∀ (d c : Nat), c + d = L.length →
  Ev (fun k => r17_Zeros.l1 k im a.1 out i ((L.take c).all fun l => decide (valV D im a n l i = 0)) c Ps Ms Mods n L P M Mod) R := by
 intro d
 induction d with
 | zero =>
  intro c hc
  have e : ((L.take c).all fun l => decide (valV D im a n l i = 0)) = allZ D im a n L i := by rw [List.take_of_length_le (by omega)]; rfl
  rw [e]
  by_cases h : allZ D im a n L i = true
  ·rw [if_pos h] at hR
   refine Ev.step (fun k => ?_) hR
   rw [r17_Zeros.l1, if_neg (by omega), if_pos h, if_pos (by omega), w64 (by omega) (by omega)]
   rfl
  ·rw [if_neg h] at hR
   refine Ev.step (fun k => ?_) hR
   rw [r17_Zeros.l1, if_neg (by omega), if_neg h, w64 (by omega) (by omega)]
   rfl
 | succ d ih =>
  intro c hc
  have hcl : c < L.length := by omega
  have ih := ih (c + 1) (by omega)
  rw [take_all hcl] at ih
  by_cases h : ((L.take c).all fun l => decide (valV D im a n l i = 0)) = true
  ·rw [h, Bool.true_and] at ih
   have hfl := hf _ (List.getElem_mem hcl)
   have hv := rval_eq hD im (L[c]'hcl) a n i hn1 hn hi hfl.1 hfl.2
   rw [← rd_L1_get hcl] at hv ih
   rw [h]
   refine Ev.step (fun k => by rw [r17_Zeros.l1, if_pos (by omega), if_pos rfl, if_pos (by omega)]) (Ev.bind hv (Ev.congr (fun k => ?_) ih))
   rw [w64 (by omega) (by omega)]
   congr 1
   by_cases e : valV D im a n (rd_L1 L c) i = 0
   ·rw [decide_eq_true e, e]; rfl
   ·rw [decide_eq_false e]
    exact beq_eq_false_iff_ne.2 (fun e2 => e (GF.val_zero.1 e2))
  ·rw [Bool.not_eq_true] at h
   rw [h, Bool.false_and] at ih
   rw [h]
   refine Ev.step (fun k => ?_) ih
   rw [r17_Zeros.l1, if_pos (by omega), if_neg (by simp), w64 (by omega) (by omega)]
   rfl
theorem rzer_l0 (hD : Desc D P M Mod) (im : List Int) (a : GF D) (n : Nat) (L : List (List Int)) (hn1 : 1 ≤ n) (hn : n ≤ 1000000) (hf : Fits n im L) (hL : L.length ≤ 1000000) : ∀ (d i : Nat), i + d = n →
  Ev (fun k => r17_Zeros.l0 k im a.1 (zerosL D im a n L i) i Ps Ms Mods n L P M Mod) (zerosL D im a n L n) := by
 intro d
 induction d with
 | zero =>
  intro i hi
  obtain rfl : i = n := by omega
  exact ev_succ (ev_now fun k => by rw [r17_Zeros.l0, if_neg (by omega)])
 | succ d ih =>
  intro i hi
  have h := ih (i + 1) (by omega)
  rw [zerosL_succ] at h
  have h1 := rzer_l1 (Ps := Ps) (Ms := Ms) (Mods := Mods) hD im a n L hn1 hn hf hL i (by omega) (zerosL D im a n L i) (by have := zerosL_len im a n L i; omega) _ h L.length 0 (by omega)
  exact Ev.step (fun k => by rw [r17_Zeros.l0, if_pos (by omega)]; rfl) h1
theorem rzer_eq (hS : Desc S Ps Ms Mods) (hD : Desc D P M Mod) {β a : GF D} (hβ : Beta D Ms Mods β) (n : Nat) (L : List (List Int)) (hn1 : 1 ≤ n) (hn : n ≤ 1000000) (hf : Fits n (embL S D β) L) (hL : L.length ≤ 1000000) (ha : Ev (fun k => r17_Root.f k P M Mod n) a.1) :
  Ev (fun k => r17_Zeros.f k Ps Ms Mods n L P M Mod) (zerosL D (embL S D β) a n L n) :=
 Ev.bind (remb_eq hS hD hβ) (Ev.bind ha (rzer_l0 hD (embL S D β) a n L hn1 hn hf hL n 0 (by omega)))
theorem few_l0 (L : List (List Int)) (hL : L.length ≤ 64) : ∀ (d c : Nat) (left : Int), c + d = L.length → 0 ≤ left → left ≤ 10000 → ∃ b, Ev (fun k => r9_Few.l0 k left c 0 L) b := by
 intro d
 induction d with
 | zero =>
  intro c left hc h0 h1
  exact ⟨true, ev_succ (ev_now fun k => by rw [r9_Few.l0, if_neg (by omega)])⟩
 | succ d ih =>
  intro c left hc h0 h1
  by_cases h : ((rd_L1 L c).length : Int) > left
  ·exact ⟨false, ev_succ (ev_now fun k => by rw [r9_Few.l0, if_pos (by omega), if_pos (by omega), if_pos h])⟩
  ·obtain ⟨b, hb⟩ := ih (c + 1) (left - (rd_L1 L c).length) (by omega) (by omega) (by omega)
   refine ⟨b, Ev.step (fun k => ?_) hb⟩
   rw [r9_Few.l0, if_pos (by omega), if_pos (by omega), if_neg h, w64 (by omega) (by omega), w64 (by omega) (by omega)]
   rfl
theorem few_eq (Ps Ms : Int) (Mods : List Int) (n : Int) (L : List (List Int)) : ∃ b, Ev (fun k => l17_few.f k Ps Ms Mods n L) b ∧ (b = true → L.length ≤ 64) := by
 by_cases h : L.length ≤ 64
 ·obtain ⟨b, hb⟩ := few_l0 L h L.length 0 (4200 - (L.length : Int)) (by omega) (by omega) (by omega)
  refine ⟨b, ?_, fun _ => h⟩
  refine Ev.congr (fun k => ?_) (Ev.step (g := fun k => r9_Few.j0 k 4200 false 0 L) (fun k => ?_) hb)
  ·unfold l17_few.f r12_Few.f r9_Few.f
   rw [if_pos (by omega), if_neg (by omega), decide_eq_false (by omega)]
   simp
  ·rw [r9_Few.j0, if_neg (by simp), w64 (by omega) (by omega)]
   rfl
 ·refine ⟨false, ev_now fun k => ?_, by simp⟩
  unfold l17_few.f
  rw [if_neg (by omega)]
end
section
variable {D : FD} {P M : Int} {Mod : List Int} {w0 w W W1 : World} {g : Nat} {γ : GF D}
theorem F_of_R {base : Nat} {ok : Nat → Prop} {A : Option Addr} {n c : Nat} {xs : List Int} (h : Kd.R (Kd.int .i64) 3 W base ok (.slice A n c) xs) : Kd.F (Kd.int .i64) W ok A xs.length xs :=
 fun _ hm => (Kd.R_reads' (Kd.R_step h hm)).2.2
theorem R_base {base : Nat} {ok : Nat → Prop} {n c : Nat} {xs : List Int} (h : Kd.R (Kd.int .i64) 3 W base ok (.slice (some ⟨g, 0, none⟩) n c) xs) : base ≤ g := ((Kd.R_bound h).1 g rfl).2.1
theorem Fs.neOwn (h : Fs D P M Mod w0 W g γ) {base : Nat} {ok : Nat → Prop} {v : Value} {xs : List Int} (hr : Kd.R (Kd.int .i64) 3 W base ok v xs) : Kd.R (Kd.int .i64) 3 W base (fun k => ok k ∧ k ≠ g) v xs := by
 obtain ⟨cs, hb⟩ := h.blk
 exact Kd.R_types hr hb (by decide)
theorem below_fs (h0 : Fs D P M Mod w0 W g γ) (h1 : Fs D P M Mod w0 W1 g γ) (hk : Kept W W1 (fun b => b = g)) (hB : Below w.heap.size w W) (hg : w.heap.size ≤ g) : Below w.heap.size w W1 :=
 ⟨h1.B.os.trans (h0.B.os.symm.trans hB.os), h1.B.tape.trans (h0.B.tape.symm.trans hB.tape), h1.B.output.trans (h0.B.output.symm.trans hB.output), Nat.le_trans hB.size hk.1, fun k hlt => (hk.2 k (Nat.lt_of_lt_of_le hlt hB.size) (fun e => by have e2 : k = g := e; omega)).trans (hB.block k hlt)⟩
def lk (im l : List Int) (j : Nat) : List Int := (List.range l.length).map fun t : Nat => if t < j then rd im (rd l (t : Int)) else 0
theorem lk_len (im l : List Int) (j : Nat) : (lk im l j).length = l.length := by simp [lk]
theorem lk_rd (im l : List Int) (j : Nat) {t : Int} (h0 : 0 ≤ t) (h1 : t < l.length) : rd (lk im l j) t = if t.toNat < j then rd im (rd l t) else 0 := by
 have := rd_map_range (n := l.length) (f := fun t : Nat => if t < j then rd im (rd l (t : Int)) else 0) (i := t) h0 h1
 rw [show ((t.toNat : Nat) : Int) = t by omega] at this
 exact this
theorem lk_zero (im l : List Int) : lk im l 0 = List.replicate l.length 0 := by
 refine list_ext_rd (by simp [lk]) fun t h0 h1 => ?_
 rw [lk_len] at h1
 rw [lk_rd im l 0 h0 h1, rd_replicate, if_neg (by omega)]
theorem lk_succ (im l : List Int) (j : Nat) (hj : j < l.length) : (lk im l j).set ((j : Int)).toNat (rd im (rd l (j : Int))) = lk im l (j + 1) := by
 refine list_ext_rd (by simp [lk]) fun t h0 h1 => ?_
 rw [List.length_set, lk_len] at h1
 by_cases e : (j : Int) = t
 ·subst e
  rw [rd_set_self (by omega) (by rw [lk_len]; omega), lk_rd im l (j + 1) h0 h1, if_pos (by omega)]
 ·rw [rd_set_ne (by omega) h0 e, lk_rd im l j h0 h1, lk_rd im l (j + 1) h0 h1]
  by_cases e2 : t.toNat < j
  ·rw [if_pos e2, if_pos (by omega)]
  ·rw [if_neg e2, if_neg (by omega)]
theorem lk_val (im l : List Int) (a : GF D) (i : Nat) : evL D (lk im l l.length) (Alg.pow a i) = valV D im a l.length l i := by
 rw [evL_sum, lk_len]
 refine Alg.sum_congr fun t ht => ?_
 rw [lk_rd im l l.length (by omega) (by omega), if_pos (by omega)]
theorem value_in (hF : Fs D P M Mod w0 w g γ) (hgl : w0.heap.size ≤ w.heap.size) {Ai Al : Option Addr} {ci cl : Nat} {im l : List Int} (hi : Kd.C (Kd.int .i64) w Ai im.length im) (hl : Kd.C (Kd.int .i64) w Al l.length l) (h1 : 1 ≤ l.length) (hn : l.length ≤ 1000000) (hr : ∀ t : Int, 0 ≤ t → t < l.length → 0 ≤ rd l t ∧ rd l t < im.length) (a : GF D) (i : Nat) :
  Calls Try.prog 56 #[.pointer (some ⟨g, 0, none⟩), .slice Ai im.length ci, .slice Al l.length cl, .int .i64 (Alg.pow a i).1] w fun e w' => e = .returned (.int .i64 (valV D im a l.length l i).1) ∧ Fs D P M Mod w0 w' g γ ∧ Kept w w' (fun b => b = g) := by
 have HF := Aside0.mk hF
 have HI := Aside0.mk hi
 have HL := Aside0.mk hl
 have HN := Aside0.mk (And.intro h1 hn)
 have HR := Aside0.mk hr
 have HG := Aside0.mk hF.I.lt
 have HGL := Aside0.mk hgl
 clear hF hi hl h1 hn hr hgl
 go_enter Try.func56, Try.ntmps56
 go_wp2_with ((with_reducible refine gate_dst (N := 14) rfl ?_); refine Kd.R_make (Kd.int .i64) _ 3 rfl (N := 14) rfl 22 _ _ rfl (l.length : Int) rfl rfl Try.underlying22 (.int .i64 0) 8 info3 rfl (by decide) (by omega) 0 (ok := fun _ => True) (okp := fun _ => True) rfl (fun _ hk => hk) trivial (by omega) (by have := HN.out; simp; omega) (Below.refl _ _) (Nat.le_refl _) ?_; intro v14 w14 ho hb _ _; rw [Int.toNat_natCast, ← lk_zero im l] at ho; have HO := Aside0.mk ho; have HB := Aside0.mk hb; obtain ⟨gp, cp, rfl, _, _, _⟩ := Kd.R_form ho (by rw [lk_len]; exact HN.out.1); rw [lk_len] at HO ⊢; clear ho hb)
 go_loopg [17] (l.length + 1) (fun kq v17 w' => ∃ j : Nat, v17 = .int .i64 (j : Int) ∧ Aside0 (j ≤ l.length ∧ j + kq = l.length + 1) ∧ Aside0 (Kd.R (Kd.int .i64) 3 w' w.heap.size (fun _ => True) (.slice (some ⟨gp, 0, none⟩) l.length cp) (lk im l j)) ∧ Aside0 (Below w.heap.size w w'))
 case atStart => exact ⟨0, rfl, ⟨by omega, by omega⟩, HO, HB⟩
 case round =>
  clear HO HB
  obtain ⟨j, rfl, HJ, HO, HB⟩ := hrel
  cases gk with
  | zero => exact absurd HJ.out (by omega)
  | succ k1 =>
   by_cases hj : j < l.length
   ·have c1 : decide ((j : Int) < (l.length : Int)) = true := decide_eq_true (by omega)
    have hrg := HR.out (j : Int) (by omega) (by omega)
    obtain ⟨ad1, e1, hx1⟩ := Kd.at_int (Kd.C_below HL.out HB.out) (j : Int) (by omega) (by omega)
    subst e1
    obtain ⟨ad2, e2, hx2⟩ := Kd.at_int (Kd.C_below HI.out HB.out) (rd l (j : Int)) hrg.1 hrg.2
    subst e2
    obtain ⟨hx3, hf3⟩ := Kd.R_celln 0 HO.out (j : Int) (by omega) (by omega)
    have HP := Aside0.mk (Kd.R_putn HO.out (j : Int) (rd im (rd l (j : Int))))
    rw [lk_succ im l j hj] at HP
    have HLO := Aside0.mk (R_base (g := gp) HO.out)
    have p1 : (0 ≤ (j : Int)) = True := eq_true (by omega)
    have p2 : ((j : Int) < (l.length : Int)) = True := eq_true (by omega)
    have p3 : (0 ≤ rd l (j : Int)) = True := eq_true hrg.1
    have p4 : (rd l (j : Int) < (im.length : Int)) = True := eq_true hrg.2
    have hwn : wrap64 ((j : Int) + 1) = ((j + 1 : Nat) : Int) := by have := HN.out; rw [w64] <;> omega
    clear hrg
    (try simp only [Int.toNat_natCast] at hx1 hx3 hf3 HP)
    go_wp2
    go_roundg k1
    case measure => omega
    case rel => exact ⟨j + 1, rY, ⟨by have := HJ.out; omega⟩, HP, ⟨below_set HB.out HLO.out⟩⟩
   ·have c1 : decide ((j : Int) < (l.length : Int)) = false := decide_eq_false (by omega)
    obtain rfl : j = l.length := by have := HJ.out; omega
    have hev := lk_val (D := D) im l a i
    have HC := Aside0.mk ((HF.out.below HB.out).eval (A := some ⟨gp, 0, none⟩) (c := cp) (Kd.R_reads' HO.out).2.2 (by rw [lk_len]; exact (Kd.R_reads' HO.out).2.1) (by rw [lk_len]; exact HN.out.2) (fun ad e _ => by
     have h5 := R_base (g := gp) HO.out
     cases e
     have h6 := HG.out
     show gp ≠ g
     omega) (Alg.pow a i).1)
    rw [inn_self, hev, lk_len] at HC
    clear hev
    go_wp2_with (go_at_call 82; refine HC.out.mono ?_; rintro e w5 ⟨rfl, hf, hk⟩; have HF5 := Aside0.mk hf; have HK5 := Aside0.mk hk; clear hf hk)
    go_ret
    exact ⟨rfl, HF5.out, (Kept.of_below HB.out (fun b => b = g)).then_ (kept_but HK5.out) (fun k e => .inl e)⟩
structure ZSt (D : FD) (P M : Int) (Mod : List Int) (w0 w : World) (g : Nat) (γ : GF D) (b7 b8 b13 : Nat) (Ai : Option Addr) (ci : Nat) (im : List Int) (x : Int) (W : World) : Prop where
 F : Fs D P M Mod w0 W g γ
 h7 : W.heap[b7]? = some (.cells #[.pointer (some ⟨g, 0, none⟩)] 63 (0, 0))
 h8 : W.heap[b8]? = some (.cells #[.slice Ai im.length ci] 22 (0, 0))
 h13 : W.heap[b13]? = some (.cells #[.int .i64 x] 3 (0, 0))
 I : Kd.F (Kd.int .i64) W (fun k => k ≠ g) Ai im.length im
 B : Below w.heap.size w W
 lg : w.heap.size ≤ g
 lw : w0.heap.size ≤ W.heap.size
variable {b7 b8 b13 : Nat} {Ai : Option Addr} {ci : Nat} {im : List Int} {x : Int}
theorem ZSt.step (h : ZSt D P M Mod w0 w g γ b7 b8 b13 Ai ci im x W) (hF : Fs D P M Mod w0 W1 g γ) (hk : Kept W W1 (fun b => b = g)) : ZSt D P M Mod w0 w g γ b7 b8 b13 Ai ci im x W1 := by
 obtain ⟨cs, hb⟩ := h.F.blk
 exact ⟨hF, blk_kept h.h7 hk (blk_ne h.h7 hb (by decide)), blk_kept h.h8 hk (blk_ne h.h8 hb (by decide)), blk_kept h.h13 hk (blk_ne h.h13 hb (by decide)), Kd.F_kept h.I hk (fun k hk2 e => hk2 e), below_fs h.F hF hk h.B h.lg, h.lg, Nat.le_trans h.lw hk.1⟩
theorem ZSt.cells (h : ZSt D P M Mod w0 w g γ b7 b8 b13 Ai ci im x W) : W.cell? ⟨b7, 0, none⟩ = some (.pointer (some ⟨g, 0, none⟩)) ∧ W.cell? ⟨b8, 0, none⟩ = some (.slice Ai im.length ci) ∧ W.cell? ⟨b13, 0, none⟩ = some (.int .i64 x) :=
 ⟨bc0 h.h7, bc0 h.h8, bc0 h.h13⟩
theorem pred_in {a : GF D} {i : Nat} (hZ : ZSt D P M Mod w0 w g γ b7 b8 b13 Ai ci im (Alg.pow a i).1 W) {Al : Option Addr} {cl : Nat} {l : List Int} (hl : Kd.C (Kd.int .i64) w Al l.length l) (h1 : 1 ≤ l.length) (hn : l.length ≤ 1000000) (hr : ∀ t : Int, 0 ≤ t → t < l.length → 0 ≤ rd l t ∧ rd l t < im.length) :
  Calls Try.prog 55 #[.slice Al l.length cl, .pointer (some ⟨b7, 0, none⟩), .pointer (some ⟨b8, 0, none⟩), .pointer (some ⟨b13, 0, none⟩)] W fun e w' => e = .returned (.bool (!decide (valV D im a l.length l i = 0))) ∧ ZSt D P M Mod w0 w g γ b7 b8 b13 Ai ci im (Alg.pow a i).1 w' ∧ Kept W w' (fun b => b = g) := by
 have HC := Aside0.mk (value_in (ci := ci) (cl := cl) hZ.F hZ.lw (Kd.F_now hZ.I) (Kd.C_below hl hZ.B) h1 hn hr a i)
 have HZ := Aside0.mk hZ
 obtain ⟨hc1, hc2, hc3⟩ := hZ.cells
 have hv : ((valV D im a l.length l i).1 != 0) = !decide (valV D im a l.length l i = 0) := by
  by_cases e : valV D im a l.length l i = 0
  ·rw [e]; rfl
  ·rw [decide_eq_false e]
   exact bne_iff_ne.2 (fun e2 => e (GF.val_zero.1 e2))
 have HV := Aside0.mk hv
 clear hZ hl h1 hn hr hv
 go_enter Try.func55, Try.ntmps55
 go_wp2_with (go_at_call 56; refine HC.out.mono ?_; rintro e w5 ⟨rfl, hf, hk⟩; have HZ5 := Aside0.mk (HZ.out.step hf hk); have HK5 := Aside0.mk hk; clear hf hk hc1 hc2 hc3)
 go_ret
 exact ⟨by rw [← HV.out]; rfl, HZ5.out, HK5.out⟩
theorem zindex_in {a : GF D} {i n : Nat} (hZ : ZSt D P M Mod w0 w g γ b7 b8 b13 Ai ci im (Alg.pow a i).1 W) {A : Option Addr} {c : Nat} {L : List (List Int)} (hl : Kd.C (Kd.slice 3 (Kd.int .i64)) w A L.length L) (hL : L.length ≤ 1000000) (h1 : 1 ≤ n) (hn : n ≤ 1000000) (hf : Fits n im L) :
  Calls Try.prog 81 #[.slice A L.length c, .func (.func 55) #[] #[.pointer (some ⟨b7, 0, none⟩), .pointer (some ⟨b8, 0, none⟩), .pointer (some ⟨b13, 0, none⟩)]] W fun e w' => ∃ r : Int, e = .returned (.int .i64 r) ∧ decide (r ≥ 0) = !allZ D im a n L i ∧ ZSt D P M Mod w0 w g γ b7 b8 b13 Ai ci im (Alg.pow a i).1 w' ∧ Kept W w' (fun b => b = g) := by
 have HZ := Aside0.mk hZ
 have HL := Aside0.mk hl
 have HN := Aside0.mk (And.intro h1 (And.intro hn hL))
 have HF := Aside0.mk hf
 clear hZ hl hL h1 hn hf
 go_enter Try.func81, Try.ntmps81
 go_wp2
 go_loopg [8] (L.length + 1) (fun kq v8 w' => ∃ m : Nat, v8 = .int .i64 (m : Int) ∧ Aside0 (m ≤ L.length ∧ m + kq = L.length + 1) ∧ Aside0 (((L.take m).all fun l => decide (valV D im a n l i = 0)) = true) ∧ Aside0 (ZSt D P M Mod w0 w g γ b7 b8 b13 Ai ci im (Alg.pow a i).1 w') ∧ Aside0 (Kept W w' (fun b => b = g)))
 case atStart => exact ⟨0, rfl, ⟨by omega, by omega⟩, ⟨rfl⟩, HZ, ⟨Kept.refl _ _⟩⟩
 case round =>
  clear HZ
  obtain ⟨m, rfl, HM, HA, HZ, HK⟩ := hrel
  cases gk with
  | zero => exact absurd HM.out (by omega)
  | succ k1 =>
   by_cases hm : m < L.length
   ·have c1 : decide ((m : Int) < (L.length : Int)) = true := decide_eq_true (by omega)
    have hfl := HF.out _ (List.getElem_mem hm)
    have htk := take_all (p := fun l => decide (valV D im a n l i = 0)) hm
    rw [HA.out, Bool.true_and] at htk
    have HT := Aside0.mk htk
    obtain ⟨ad, cs, e1, hl1, hK, hcell⟩ := ReadsRow.get_ (Kd.C_below HL.out HZ.out.B) [] (m : Int) (by omega) (by omega)
    subst e1
    have hget : L.getD ((m : Int)).toNat [] = L[m]'hm := by simp [List.getD_eq_getElem?_getD, List.getElem?_eq_getElem hm]
    rw [hget] at hK
    obtain ⟨A', c', rfl, hc', hC'⟩ := hK
    have hx1 := hcell 0 _ rfl
    rw [show (Kd.slice 3 (Kd.int .i64)).sz = 1 from rfl, Int.toNat_natCast, Nat.mul_one, Nat.add_zero] at hx1
    have hCw := ReadsRow.get_ HL.out [] (m : Int) (by omega) (by omega)
    obtain ⟨ad', cs', e1', hl1', hK', hcell'⟩ := hCw
    rw [hget] at hK'
    obtain ⟨A2, c2, rfl, hc2, hC2⟩ := hK'
    have hx2 := hcell' 0 _ rfl
    rw [show (Kd.slice 3 (Kd.int .i64)).sz = 1 from rfl, Int.toNat_natCast, Nat.mul_one, Nat.add_zero] at hx2
    cases e1'
    have hx3 := (HZ.out.B.cell (World.block_lt_of_cell? w _ hx2)).trans hx2
    rw [hx1] at hx3
    cases hx3
    have HC := Aside0.mk (pred_in (cl := c') (a := a) HZ.out hC2 (by rw [hfl.1]; exact HN.out.1) (by rw [hfl.1]; exact HN.out.2.1) (by rw [hfl.1]; exact hfl.2))
    rw [hfl.1] at HC
    have hln := hfl.1
    clear hcell hcell' hl1 hl1' hx2 hC' hC2 hc2 hfl htk hget
    generalize L[m]'hm = l at *
    subst hln
    have p6 : (0 ≤ (m : Int)) = True := eq_true (by omega)
    have p7 : ((m : Int) < (L.length : Int)) = True := eq_true (by omega)
    have hwn : wrap64 ((m : Int) + 1) = ((m + 1 : Nat) : Int) := by have := HN.out; rw [My.w64] <;> omega
    by_cases hb : valV D im a l.length l i = 0
    ·have hb2 : (!decide (valV D im a l.length l i = 0)) = false := by simp [hb]
     rw [hb2] at HC
     go_wp2_with (go_at_call 55; refine HC.out.mono ?_; rintro e w1 ⟨rfl, hz, hk⟩; have HZ1 := Aside0.mk hz; have HK1 := Aside0.mk hk; clear hz hk)
     go_roundg k1
     case measure => omega
     case rel => exact ⟨m + 1, rY, ⟨by have := HM.out; omega⟩, ⟨by rw [HT.out]; exact decide_eq_true hb⟩, HZ1, ⟨HK.out.then_ HK1.out (fun k e => .inl e)⟩⟩
    ·have hb2 : (!decide (valV D im a l.length l i = 0)) = true := by simp [hb]
     rw [hb2] at HC
     go_wp2_with (go_at_call 55; refine HC.out.mono ?_; rintro e w1 ⟨rfl, hz, hk⟩; have HZ1 := Aside0.mk hz; have HK1 := Aside0.mk hk; clear hz hk)
     go_ret
     refine ⟨_, rfl, ?_, HZ1.out, HK.out.then_ HK1.out (fun k e => .inl e)⟩
     have hall : allZ D im a l.length L i = false := by
      have h2 : (L.take (m + 1)).all (fun l' => decide (valV D im a l.length l' i = 0)) = false := by rw [HT.out]; exact decide_eq_false hb
      rw [Bool.eq_false_iff]
      intro h3
      have h4 : ∀ l' ∈ L, decide (valV D im a l.length l' i = 0) = true := List.all_eq_true.1 h3
      exact absurd (List.all_eq_true.2 fun l' hl' => h4 l' (List.mem_of_mem_take hl')) (by rw [h2]; simp)
     rw [hall]
     exact decide_eq_true (by omega)
   ·have c1 : decide ((m : Int) < (L.length : Int)) = false := decide_eq_false (by omega)
    have hall : allZ D im a n L i = true := by
     have := HA.out
     rw [List.take_of_length_le (by omega)] at this
     exact this
    go_wp2
    go_ret
    exact ⟨_, rfl, by rw [hall]; rfl, HZ.out, HK.out⟩
theorem zcontains_in {a : GF D} {i n : Nat} (hZ : ZSt D P M Mod w0 w g γ b7 b8 b13 Ai ci im (Alg.pow a i).1 W) {A : Option Addr} {c : Nat} {L : List (List Int)} (hl : Kd.C (Kd.slice 3 (Kd.int .i64)) w A L.length L) (hL : L.length ≤ 1000000) (h1 : 1 ≤ n) (hn : n ≤ 1000000) (hf : Fits n im L) :
  Calls Try.prog 54 #[.slice A L.length c, .func (.func 55) #[] #[.pointer (some ⟨b7, 0, none⟩), .pointer (some ⟨b8, 0, none⟩), .pointer (some ⟨b13, 0, none⟩)]] W fun e w' => e = .returned (.bool (!allZ D im a n L i)) ∧ ZSt D P M Mod w0 w g γ b7 b8 b13 Ai ci im (Alg.pow a i).1 w' ∧ Kept W w' (fun b => b = g) := by
 have HI := Aside0.mk (zindex_in (c := c) hZ hl hL h1 hn hf)
 clear hZ hl hL h1 hn hf
 go_enter Try.func54, Try.ntmps54
 go_wp2_with (go_at_call 81; refine HI.out.mono ?_; rintro e w1 ⟨r, rfl, hd, hz, hk⟩; have HD := Aside0.mk hd; have HZ := Aside0.mk hz; have HK := Aside0.mk hk; clear hd hz hk)
 go_ret
 exact ⟨by rw [← HD.out]; rfl, HZ.out, HK.out⟩
end
section
variable {S D : FD} {Ps Ms P M : Int} {Mods Mod : List Int} {w0 w w1 : World} {g gS : Nat} {γ : GF D} {σ : GF S} {AS : Option Addr} {cS : Nat}
def pf (f : Nat → Int) (n j : Nat) : List Int := (List.range n).map fun t : Nat => if t < j then f t else 0
theorem pf_len (f : Nat → Int) (n j : Nat) : (pf f n j).length = n := by simp [pf]
theorem pf_rd (f : Nat → Int) (n j : Nat) {t : Int} (h0 : 0 ≤ t) (h1 : t < n) : rd (pf f n j) t = if t.toNat < j then f t.toNat else 0 :=
 rd_map_range (n := n) (f := fun t : Nat => if t < j then f t else 0) (i := t) h0 h1
theorem pf_zero (f : Nat → Int) (n : Nat) : pf f n 0 = List.replicate n 0 := by
 refine list_ext_rd (by simp [pf]) fun t h0 h1 => ?_
 rw [pf_len] at h1
 rw [pf_rd f n 0 h0 h1, rd_replicate, if_neg (by omega)]
theorem pf_succ (f : Nat → Int) (n j : Nat) (hj : j < n) : (pf f n j).set ((j : Int)).toNat (f j) = pf f n (j + 1) := by
 refine list_ext_rd (by simp [pf]) fun t h0 h1 => ?_
 rw [List.length_set, pf_len] at h1
 by_cases e : (j : Int) = t
 ·subst e
  rw [rd_set_self (by omega) (by rw [pf_len]; omega), pf_rd f n (j + 1) h0 h1, if_pos (by omega), Int.toNat_natCast]
 ·rw [rd_set_ne (by omega) h0 e, pf_rd f n j h0 h1, pf_rd f n (j + 1) h0 h1]
  by_cases e2 : t.toNat < j
  ·rw [if_pos e2, if_pos (by omega)]
  ·rw [if_neg e2, if_neg (by omega)]
theorem pf_full (f : Nat → Int) (n : Nat) : pf f n n = (List.range n).map f := List.map_congr_left fun t ht => if_pos (List.mem_range.1 ht)
theorem mod1_facts {Ms : Int} {Mods : List Int} {Pd : Int} {Md : Int} {Modd : List Int} (hS : Desc S Pd Ms Mods) (hD : Desc D Pd Md Modd) (h1 : 1 < Ms) : rd (Mods ++ [1]) (((Mods ++ [(1 : Int)]).length : Int) - 1) ≠ 0 ∧ ∀ t : Int, 0 ≤ t → t < (Mods ++ [(1 : Int)]).length → 0 ≤ rd (Mods ++ [1]) t ∧ rd (Mods ++ [1]) t < D.q := by
 have hpq := hD.pq
 have hp2 := hD.p2
 have hl := hS.len h1
 have hm := hS.hm
 have hlast : rd (Mods ++ [1]) (Mods.length : Int) = 1 := by simp [rd, List.getD_eq_getElem?_getD]
 refine ⟨?_, fun t h0 ht => ?_⟩
 ·rw [List.length_append, show (((Mods.length + [(1 : Int)].length : Nat) : Int) - 1) = (Mods.length : Int) by simp, hlast]
  omega
 ·rw [List.length_append] at ht
  by_cases e : t < Mods.length
  ·have h2 : rd (Mods ++ [1]) t = rd Mods t := by simp [rd, List.getD_eq_getElem?_getD, List.getElem?_append_left (show t.toNat < Mods.length by omega)]
   have h3 := hS.low h1 t.toNat (by omega)
   rw [show ((t.toNat : Nat) : Int) = t by omega] at h3
   have h4 := (S.F t.toNat).2
   have h5 := hS.hp
   rw [h2, h3]
   omega
  ·have e2 : t = (Mods.length : Int) := by simp at ht; omega
   rw [e2, hlast]
   omega
theorem Kd.C_step {A : Option Addr} {n : Nat} {xs : List Int} {w W : World} {g : Nat} (h : Kd.C (Kd.int .i64) w A n xs) (hk : Kept w W (fun b => b = g)) (hg : g < w.heap.size) (hn : ∀ ad, A = some ad → 0 < n → ad.block ≠ g) : Kd.C (Kd.int .i64) W A n xs := by
 have hr := Kd.reads_of_C (enc := Value.int .i64) (d := (0 : Int)) (h1 := fun _ => rfl) h
 refine Kd.C_of_reads (enc := Value.int .i64) (d := (0 : Int)) (h1 := fun _ => rfl) ?_
 refine ⟨hr.1, hr.2.1, fun hn0 => ?_⟩
 obtain ⟨ad, e, hc⟩ := hr.2.2 hn0
 refine ⟨ad, e, fun j hj => ?_⟩
 have h1 := hc j hj
 rw [← h1]
 have hblk : (ad.add j).block = ad.block := by unfold Addr.add; split <;> rfl
 exact World.cell?_of_block (hk.2 _ (World.block_lt_of_cell? w _ h1) (by rw [hblk]; exact hn ad e hn0))
theorem desc_ml (h : Desc D P M Mod) : Mod.length ≤ 8 := by
 have h1 := h.m1
 have h2 := h.hm8
 by_cases e : M = 1
 ·rw [h.one e]; simp
 ·have := h.len (by omega); omega
structure EmS (S D : FD) (P M : Int) (Mod : List Int) (Ps Ms : Int) (Mods : List Int) (AS : Option Addr) (cS : Nat) (w0 w : World) (g gS b2 : Nat) (γ : GF D) (W : World) : Prop where
 F : Fs D P M Mod w0 W g γ
 H : Rec4 W gS Ps Ms S.q
 K : Kept w W (fun b => b = g)
 B : W.heap[b2]? = some (.cells #[.int .i64 Ps, .int .i64 Ms, .slice AS Mods.length cS] 36 (0, 0))
 l1 : w.heap.size ≤ b2
 l2 : w.heap.size ≤ gS
 lg : g < w.heap.size
 lw : w0.heap.size ≤ w.heap.size
variable {b2 : Nat} {W W1 : World}
theorem EmS.below (h : EmS S D P M Mod Ps Ms Mods AS cS w0 w g gS b2 γ W) (hb : Below W.heap.size W W1) : EmS S D P M Mod Ps Ms Mods AS cS w0 w g gS b2 γ W1 :=
 ⟨h.F.below hb, h.H.below hb, h.K.then_ (Kept.of_below hb (fun b => b = g)) (fun k e => .inl e), blk_below h.B hb, h.l1, h.l2, h.lg, h.lw⟩
theorem EmS.drew (h : EmS S D P M Mod Ps Ms Mods AS cS w0 w g gS b2 γ W) : EmS S D P M Mod Ps Ms Mods AS cS w0 w g gS b2 γ W.drew := h.below (below_drew1 (Below.refl _ _))
theorem EmS.fs (h : EmS S D P M Mod Ps Ms Mods AS cS w0 w g gS b2 γ W) (hF : Fs D P M Mod w0 W1 g γ) (hk : Kept W W1 (fun b => b = g)) : EmS S D P M Mod Ps Ms Mods AS cS w0 w g gS b2 γ W1 :=
 ⟨hF, h.H.kept hk (fun e => by have e2 : gS = g := e; have := h.l2; have := h.lg; omega), h.K.then_ hk (fun k e => .inl e), blk_kept h.B hk (fun e => by have e2 : b2 = g := e; have := h.l1; have := h.lg; omega), h.l1, h.l2, h.lg, h.lw⟩
theorem EmS.own (h : EmS S D P M Mod Ps Ms Mods AS cS w0 w g gS b2 γ W) {T : Nat → Prop} (hk : Kept W W1 T) (hB : Below w0.heap.size w0 W1) (ht : ∀ b, T b → w.heap.size ≤ b ∧ ∃ cs, W.heap[b]? = some (.cells cs 3 (0, 0))) : EmS S D P M Mod Ps Ms Mods AS cS w0 w g gS b2 γ W1 := by
 have hne : ∀ {b cs t}, W.heap[b]? = some (.cells cs t (0, 0)) → t ≠ 3 → ¬ T b := fun hb ht3 e => by
  obtain ⟨_, cs, hc⟩ := ht _ e
  exact blk_ne hc hb (Ne.symm ht3) rfl
 obtain ⟨cs, hgb⟩ := h.F.blk
 obtain ⟨x2, x4, x5, hS⟩ := id h.H
 exact ⟨h.F.kept hk (hne hgb (by decide)) hB, h.H.kept hk (hne hS (by decide)), h.K.then_ hk (fun k e => .inr (ht k e).1), blk_kept h.B hk (hne h.B (by decide)), h.l1, h.l2, h.lg, h.lw⟩
theorem R_blk {base : Nat} {ok : Nat → Prop} {b n c : Nat} {xs : List Int} (h : Kd.R (Kd.int .i64) 3 W base ok (.slice (some ⟨b, 0, none⟩) n c) xs) : ∃ cs, W.heap[b]? = some (.cells cs 3 (0, 0)) := by
 obtain ⟨_, _, _, q, h4, cs, h5⟩ := (Kd.R_bound h).1 b rfl
 have hq : q = 3 := by
  rcases List.mem_cons.1 h4 with e | e
  ·exact e
  ·exact absurd e List.not_mem_nil
 subst hq
 exact ⟨cs, h5⟩
theorem EmS.put (h : EmS S D P M Mod Ps Ms Mods AS cS w0 w g gS b2 γ W) {b j : Nat} {v : Value} (hb : ∃ cs, W.heap[b]? = some (.cells cs 3 (0, 0))) (hlo : w.heap.size ≤ b) : EmS S D P M Mod Ps Ms Mods AS cS w0 w g gS b2 γ (W.setCell ⟨b, j, none⟩ v) :=
 h.own (T := fun k => k = b) ((Kept.refl W (fun k => k = b)).setCell (p := ⟨b, j, none⟩) (.inl rfl) v) (below_set h.F.B (Nat.le_trans h.lw hlo)) (fun k e => by have e2 : k = b := e; subst e2; exact ⟨hlo, hb⟩)
theorem EmS.cells (h : EmS S D P M Mod Ps Ms Mods AS cS w0 w g gS b2 γ W) : W.cell? ⟨b2, 0, none⟩ = some (.int .i64 Ps) ∧ W.cell? ⟨b2, 1, none⟩ = some (.int .i64 Ms) ∧ W.cell? ⟨b2, 2, none⟩ = some (.slice AS Mods.length cS) :=
 ⟨bc0 h.B, bc1 h.B, bc2 h.B⟩
theorem embed_in1 (hS : FOk S P Ms Mods σ AS cS) (hSr : Kd.C (Kd.int .i64) w AS Mods.length Mods) (hng : ∀ ad, AS = some ad → 0 < Mods.length → ad.block ≠ g) (hF : Fs D P M Mod w0 w g γ) (hw0 : w0.heap.size ≤ w.heap.size) (hdv : Ms ∣ M) {β : GF D} (h1 : Ms = 1) :
  Calls Try.prog 80 #[.agg #[.int .i64 P, .int .i64 Ms, .slice AS Mods.length cS], .pointer (some ⟨g, 0, none⟩)] w fun e w' => ∃ v, e = .returned (.tuple #[v, .int .i64 0]) ∧ Kd.R (Kd.int .i64) 3 w' w.heap.size (fun _ => True) v (embL S D β) ∧ Fs D P M Mod w0 w' g γ ∧ Kept w w' (fun b => b = g) := by
 have HS := Aside0.mk hS
 have HSR := Aside0.mk hSr
 have HF := Aside0.mk hF
 have HGL := Aside0.mk hF.I.lt
 have HDV := Aside0.mk (decide_eq_true hdv)
 have HM := Aside0.mk (And.intro hS.h.m1 (And.intro hS.h.hm8 (And.intro hF.h.m1 hF.h.hm8)))
 have HW0 := Aside0.mk hw0
 have HNG := Aside0.mk hng
 have HSM := Aside0.mk hS.h.hm
 have HQ := Aside0.mk hS.h.hq
 have HQ2 := Aside0.mk S.two_q
 have hu36 := Try.underlying36
 have z1 : (P != P) = false := by simp
 clear hS hSr hdv hw0 hng
 have z2 : decide (Ms > 1) = false := decide_eq_false (by omega)
 have z3 : decide (1 < Ms) = false := decide_eq_false (by omega)
 have HP1 : Aside0 ([(1 : Int)] = pows β S.m) := ⟨by have := HSM.out; rw [show S.m = 1 by omega]; rfl⟩
 clear h1 hF
 go_enter Try.func80, Try.ntmps80
 go_wp2_with (first
  | (refine bx 2 #[.int .i64 P, .int .i64 Ms, .slice AS Mods.length cS] 36 ?_; intro b2 hb2 w2 hbox hb; have B2 := Aside0.mk hbox; have H2 := Aside0.mk hb; have HL2 := Aside0.mk (show w.heap.size ≤ b2 by rw [hb2]; exact Nat.le_refl _); have hc0 := bc0 B2.out; have hc1 := bc1 B2.out; have hc2 := bc2 B2.out; clear hbox hb hb2)
  | (go_at_call 37; refine (HS.out.new (Kd.C_below HSR.out H2.out)).mono ?_; rintro e w3 ⟨gS, w0S, rfl, hf, hw, hg, hb⟩; have HE := Aside0.mk (show EmS S D P M Mod P Ms Mods AS cS w0 w g gS b2 γ w3 from ⟨(HF.out.below H2.out).below hb, hf.rec4, (Kept.of_below H2.out (fun b => b = g)).below hb, blk_below B2.out hb, HL2.out, Nat.le_trans (below_size H2.out) (Nat.le_trans hw hg), HGL.out, HW0.out⟩); clear hf hw hg hb hc0 hc1 hc2 B2 H2 HL2 HF; obtain ⟨hc0, hc1, hc2⟩ := HE.out.cells)
  | (go_at_call 113; refine (prime_in HE.out.F (desc_ml HE.out.F.h)).mono ?_; rintro e w4 ⟨rfl, hb⟩; have HE4 := Aside0.mk (HE.out.below hb); clear hb hc0 hc1 hc2 HE; obtain ⟨hc0, hc1, hc2⟩ := HE4.out.cells)
  | (go_at_call 114; refine (isDegree_in HE4.out.F (desc_ml HE4.out.F.h) Ms HM.out.1 HM.out.2.1 HM.out.2.2.1 HM.out.2.2.2).mono ?_; rintro e w5 ⟨rfl, hb⟩; rw [HDV.out]; have HE := Aside0.mk (HE4.out.below hb); clear hb hc0 hc1 hc2 HE4; obtain ⟨hc0, hc1, hc2⟩ := HE.out.cells)
  | ((with_reducible refine gate_dst (N := 40) rfl ?_); refine Kd.R_lit (Kd.int .i64) _ 3 ?hg (N := 40) ?hd (xs := ([1] : List Int)) (inner := [.int .i64 1]) (ok := fun _ => True) (okp := fun _ => True) ?hr ?hp (fun _ hk => hk) trivial (Below.refl _ _) (Nat.le_refl _) (by simp) ?_; (case hd => rfl); (case hg => rfl); (case hr => first | (go_simp; done) | (go_simp; rfl)); (case hp => exact (Reps.one (show Kd.M (Kd.int .i64) _ _ _ 1 [.int .i64 1] from rfl) (Reps.none _ _))); intro v40 w40 ho hb hg_ hnew_; rw [HP1.out] at ho; have HP := Aside0.mk (Kd.R_lower ho HE.out.K.1); have HE4 := Aside0.mk (HE.out.below hb); clear ho hb hg_ hnew_ hc0 hc1 hc2 HE; obtain ⟨hc0, hc1, hc2⟩ := HE4.out.cells; obtain ⟨AP, cP, rfl⟩ := Kd.R_slice HP.out)
  | (go_at_call 117; refine (HE4.out.H.order).mono ?_; rintro e w50 ⟨rfl, hb⟩; have HE5 := Aside0.mk (HE4.out.below hb); have HP5 := Aside0.mk (Kd.R_below HP.out hb); clear hb hc0 hc1 hc2 HE4 HP)
  | ((with_reducible refine gate_dst (N := 79) rfl ?_); refine Kd.R_make (Kd.int .i64) _ 3 rfl (N := 79) rfl 22 _ _ rfl S.q rfl rfl Try.underlying22 (.int .i64 0) 8 info3 rfl (by decide) (by omega) 0 (ok := fun _ => True) (okp := fun _ => True) rfl (fun _ hk => hk) trivial (by have := HQ2.out; omega) (by have := HQ.out; omega) (Below.refl _ _) (Nat.le_refl _) ?_; intro v79 w79 ho hb _ _; rw [← pf_zero (fun t => (embV S D β (t : Int)).1)] at ho; have HE6 := Aside0.mk (HE5.out.below hb); have HLE := Aside0.mk (HE5.out.K.1); have HLW := Aside0.mk (HE5.out.K.1); obtain ⟨go, co, rfl, _, _, _⟩ := Kd.R_form ho (by rw [pf_len]; have := HQ2.out; omega); rw [pf_len] at ho ⊢; have HGO := Aside0.mk (R_base ho); have HO := Aside0.mk (Kd.R_lower ho HLE.out); have HP6 := Aside0.mk (Kd.F_mono (Kd.F_below (F_of_R (Kd.R_bound HP5.out)) hb) (fun k hk => (And.intro hk.2.1 hk.2.2.1 : w.heap.size ≤ k ∧ k < w50.heap.size))); have HCP := Aside0.mk (Kd.R_reads' HP5.out).2.1; clear ho hb HE5 HP5))
 go_loopg [82] (S.q.toNat + 1) (fun kq v82 w' => ∃ j : Nat, v82 = .int .i64 (j : Int) ∧ Aside0 (j ≤ S.q.toNat ∧ j + kq = S.q.toNat + 1) ∧ Aside0 (EmS S D P M Mod P Ms Mods AS cS w0 w g gS b2 γ w') ∧ Aside0 (Kd.R (Kd.int .i64) 3 w' w.heap.size (fun k => w50.heap.size ≤ k) (.slice (some ⟨go, 0, none⟩) S.q.toNat co) (pf (fun t => (embV S D β (t : Int)).1) S.q.toNat j)) ∧ Aside0 (Kd.F (Kd.int .i64) w' (fun k => w.heap.size ≤ k ∧ k < w50.heap.size) AP (pows β S.m).length (pows β S.m)))
 case atStart => exact ⟨0, rfl, ⟨by omega, by omega⟩, HE6, ⟨Ri_ok HO.out (fun k hk => by cases hk; exact HGO.out)⟩, HP6⟩
 case round =>
  clear HE6 HO HP6
  obtain ⟨j, rfl, HJ, HE, HO, HP⟩ := hrel
  cases gk with
  | zero => exact absurd HJ.out (by omega)
  | succ k1 =>
   by_cases hj : j < S.q.toNat
   ·have c1 : decide ((j : Int) < (S.q.toNat : Int)) = true := decide_eq_true (by omega)
    have p1 : (0 ≤ (j : Int)) = True := eq_true (by omega)
    have p2 : ((j : Int) < (S.q.toNat : Int)) = True := eq_true (by omega)
    have hwn : wrap64 ((j : Int) + 1) = ((j + 1 : Nat) : Int) := by have := HQ.out; rw [w64] <;> omega
    go_wp2_with (first
     | (go_at_call 119; refine (HE.out.H.digits HS.out.h (j : Int)).mono ?_; rintro e w90 ⟨v90, rfl, hr, hb⟩; have HE9 := Aside0.mk (HE.out.below hb); have HO9 := Aside0.mk (Kd.R_below HO.out hb); have HP9 := Aside0.mk (Kd.F_below HP.out hb); obtain ⟨A90, c90, rfl⟩ := Kd.R_slice hr; have HD9 := Aside0.mk (Kd.R_lower hr HE.out.K.1); clear hr hb)
     | (go_at_call 118; refine (HE9.out.F.dot (n := S.m) (digL_length _) (pows_len β S.m) (by have := HSM.out; have := HM.out.2.1; omega) (Kd.R_reads' HD9.out).2.2 (Kd.R_reads' HD9.out).2.1 (fun ad e _ => by cases e; have h5 := ((Kd.R_bound HD9.out).1 ad.block rfl).2.1; have := HGL.out; omega) (Kd.F_now HP9.out) HCP.out (fun ad e h0 => by have h5 := (Kd.F_in HP9.out e h0 (by decide)).1; have := HGL.out; omega)).mono ?_; rintro e w92 ⟨rfl, hf, hk⟩; rw [embV_dot]; have HE2 := Aside0.mk (HE9.out.fs hf (kept_but hk)); have HO2 := Aside0.mk (Kd.R_kept HO9.out (kept_but hk) (fun k hk2 e => by have e2 : k = g := e; have := HGL.out; have := HLW.out; omega)); have HP2 := Aside0.mk (Kd.F_kept HP9.out (kept_but hk) (fun k hk2 e => by have e2 : k = g := e; have := HGL.out; omega)); obtain ⟨hx3, hf3⟩ := Kd.R_celln 0 HO2.out (j : Int) (by omega) (by omega); have HPU := Aside0.mk (Kd.R_putn HO2.out (j : Int) (embV S D β (j : Int)).1); rw [pf_succ (fun t => (embV S D β (t : Int)).1) S.q.toNat j hj] at HPU; (try simp only [Int.toNat_natCast] at hx3 hf3 HPU); clear hf hk))
    go_roundg k1
    case measure => omega
    case rel => exact ⟨j + 1, rY, ⟨by have := HJ.out; omega⟩, ⟨HE2.out.put (R_blk HO2.out) (Nat.le_trans HLW.out HGO.out)⟩, HPU, ⟨Kd.F_far (p := ⟨go, j, none⟩) HP2.out (fun k hk e => by have e2 : k = go := e; have := HGO.out; omega) _⟩⟩
   ·have c1 : decide ((j : Int) < (S.q.toNat : Int)) = false := decide_eq_false (by omega)
    obtain rfl : j = S.q.toNat := by have := HJ.out; omega
    rw [pf_full] at HO
    go_wp2
    go_ret2
    exact ⟨_, rfl, Kd.R_mono HO.out (fun _ _ => trivial), HE.out.F, HE.out.K⟩
end
section
variable {S D : FD} {Ps Ms P M : Int} {Mods Mod : List Int} {w0 w w1 : World} {g gS : Nat} {γ : GF D} {σ : GF S} {AS : Option Addr} {cS : Nat}
variable {b2 : Nat} {W W1 : World}
def Emb15.T : Bool × List (List Nat × List Nat) := (true, [([], []), ([], []), ([], []), ([], []), ([3], [3]), ([2, 4], [2, 4]), ([5], [5]), ([], []), ([7], [7]), ([8], [8]), ([1, 6, 9], [1, 6, 9]), ([10], [10]), ([0, 11, 10], [0, 11]), ([12, 12, 0, 1, 2, 3, 4, 5, 6, 7, 8, 9, 10, 11, 12], [0, 2, 12])])
def Emb15.B : List Nat := [0, 0, 0, 0, 8, 28, 60, 0, 128, 384, 1022, 2046, 4095, 8191]
theorem Emb15.tab : rtab .any (opsOf Try.f80 15) = Emb15.T := by kernel_rfl
theorem Emb15.bits : waitsOk Emb15.T.2 Emb15.B = true := by kernel_rfl
theorem embed_in2 (hS : FOk S P Ms Mods σ AS cS) (hSr : Kd.C (Kd.int .i64) w AS Mods.length Mods) (hng : ∀ ad, AS = some ad → 0 < Mods.length → ad.block ≠ g) (hF : Fs D P M Mod w0 w g γ) (hw0 : w0.heap.size ≤ w.heap.size) (hdv : Ms ∣ M) {β : GF D} (h1 : 1 < Ms) (h2 : evL D (Mods ++ [1]) β = 0) (h3 : ∀ y : GF D, y.1 < β.1 → evL D (Mods ++ [1]) y ≠ 0) :
  Calls Try.prog 80 #[.agg #[.int .i64 P, .int .i64 Ms, .slice AS Mods.length cS], .pointer (some ⟨g, 0, none⟩)] w fun e w' => ∃ v, e = .returned (.tuple #[v, .int .i64 0]) ∧ Kd.R (Kd.int .i64) 3 w' w.heap.size (fun _ => True) v (embL S D β) ∧ Fs D P M Mod w0 w' g γ ∧ Kept w w' (fun b => b = g) := by
 have HS := Aside0.mk hS
 have HSR := Aside0.mk hSr
 have HF := Aside0.mk hF
 have HGL := Aside0.mk hF.I.lt
 have HDV := Aside0.mk (decide_eq_true hdv)
 have HM := Aside0.mk (And.intro hS.h.m1 (And.intro hS.h.hm8 (And.intro hF.h.m1 hF.h.hm8)))
 have HW0 := Aside0.mk hw0
 have HNG := Aside0.mk hng
 have HSM := Aside0.mk hS.h.hm
 have HQ := Aside0.mk hS.h.hq
 have HQ2 := Aside0.mk S.two_q
 have hu36 := Try.underlying36
 have z1 : (P != P) = false := by simp
 clear hS hSr hdv hw0 hng
 have z2 : decide (Ms > 1) = true := decide_eq_true h1
 have z3 : decide (1 < Ms) = true := decide_eq_true h1
 have HP1 : Aside0 ([(1 : Int)] = pows β 1) := ⟨rfl⟩
 obtain ⟨Rt0, hR0⟩ := rootsOf_head h2 h3
 have HR0 := Aside0.mk hR0
 have HML := Aside0.mk (desc_ml HS.out.h)
 have HM1 := Aside0.mk h1
 have HLC : Aside0 (rd (Mods ++ [1]) (((Mods ++ [(1 : Int)]).length : Int) - 1) ≠ 0 ∧ ∀ t : Int, 0 ≤ t → t < (Mods ++ [(1 : Int)]).length → 0 ≤ rd (Mods ++ [1]) t ∧ rd (Mods ++ [1]) t < D.q) := ⟨mod1_facts HS.out.h hF.h h1⟩
 obtain ⟨Lm, hLm⟩ : ∃ x, Mods ++ [(1 : Int)] = x := ⟨_, rfl⟩
 have HLL : Aside0 (Lm.length = Mods.length + 1) := ⟨by rw [← hLm]; simp⟩
 rw [hLm] at HLC HR0
 have HLM := Aside0.mk hLm
 clear h1 h2 h3 hR0 hF hLm
 go_enter Try.func80, Try.ntmps80
 go_wp2_with (first
  | (refine bx 2 #[.int .i64 P, .int .i64 Ms, .slice AS Mods.length cS] 36 ?_; intro b2 hb2 w2 hbox hb; have B2 := Aside0.mk hbox; have H2 := Aside0.mk hb; have HL2 := Aside0.mk (show w.heap.size ≤ b2 by rw [hb2]; exact Nat.le_refl _); have hc0 := bc0 B2.out; have hc1 := bc1 B2.out; have hc2 := bc2 B2.out; clear hbox hb hb2)
  | (go_at_call 37; refine (HS.out.new (Kd.C_below HSR.out H2.out)).mono ?_; rintro e w3 ⟨gS, w0S, rfl, hf, hw, hg, hb⟩; have HE := Aside0.mk (show EmS S D P M Mod P Ms Mods AS cS w0 w g gS b2 γ w3 from ⟨(HF.out.below H2.out).below hb, hf.rec4, (Kept.of_below H2.out (fun b => b = g)).below hb, blk_below B2.out hb, HL2.out, Nat.le_trans (below_size H2.out) (Nat.le_trans hw hg), HGL.out, HW0.out⟩); clear hf hw hg hb hc0 hc1 hc2 B2 H2 HL2 HF; obtain ⟨hc0, hc1, hc2⟩ := HE.out.cells)
  | (go_at_call 113; refine (prime_in HE.out.F (desc_ml HE.out.F.h)).mono ?_; rintro e w4 ⟨rfl, hb⟩; have HE4 := Aside0.mk (HE.out.below hb); clear hb hc0 hc1 hc2 HE; obtain ⟨hc0, hc1, hc2⟩ := HE4.out.cells)
  | (go_at_call 114; refine (isDegree_in HE4.out.F (desc_ml HE4.out.F.h) Ms HM.out.1 HM.out.2.1 HM.out.2.2.1 HM.out.2.2.2).mono ?_; rintro e w5 ⟨rfl, hb⟩; rw [HDV.out]; have HE := Aside0.mk (HE4.out.below hb); clear hb hc0 hc1 hc2 HE4; obtain ⟨hc0, hc1, hc2⟩ := HE.out.cells)
  | ((with_reducible refine gate_dst (N := 40) rfl ?_); refine Kd.R_lit (Kd.int .i64) _ 3 ?hg (N := 40) ?hd (xs := ([1] : List Int)) (inner := [.int .i64 1]) (ok := fun _ => True) (okp := fun _ => True) ?hr ?hp (fun _ hk => hk) trivial (Below.refl _ _) (Nat.le_refl _) (by simp) ?_; (case hd => rfl); (case hg => rfl); (case hr => first | (go_simp; done) | (go_simp; rfl)); (case hp => exact (Reps.one (show Kd.M (Kd.int .i64) _ _ _ 1 [.int .i64 1] from rfl) (Reps.none _ _))); intro v40 w40 ho hb hg_ hnew_; rw [HP1.out] at ho; have HP := Aside0.mk (Kd.R_lower ho HE.out.K.1); have HE4 := Aside0.mk (HE.out.below hb); clear ho hb hg_ hnew_ hc0 hc1 hc2 HE; obtain ⟨hc0, hc1, hc2⟩ := HE4.out.cells)
  | ((with_reducible refine gate_dst (N := 46) rfl ?_); refine Kd.R_lit (Kd.int .i64) _ 3 ?hg (N := 46) ?hd (xs := ([] : List Int)) (inner := []) (ok := fun _ => True) (okp := fun _ => True) ?hr ?hp (fun _ hk => hk) trivial (Below.refl _ _) (Nat.le_refl _) (by simp) ?_; (case hd => rfl); (case hg => rfl); (case hr => first | (go_simp; done) | (go_simp; rfl)); (case hp => exact (Reps.none _ _)); intro v46 w46 ho hb hg_ hnew_; have HO46 := Aside0.mk ho; have HB46 := Aside0.mk hb; clear ho hb hg_ hnew_ hc0 hc1 hc2; obtain ⟨hc0, hc1, hc2⟩ := (HE4.out.below HB46.out).cells)
  | ((with_reducible refine gate_builtin (b := .append) (xs := #[.tmp 46, .tmp 48]) rfl ?_); at_builtin; go_loud (refine Kd.R_append_rows (Kd.int .i64) (w0 := w40) w40.heap.size rfl (.tmp 46) (.tmp 48) 22 3 (.int .i64 0) 8 rfl Try.underlying22 info3 rfl (by decide) (by omega) v46 ([] : List Int) Mods _ _ _ (fun _ => True) (fun _ => False) rfl rfl HO46.out (Kd.C_step HSR.out (HE4.out.below HB46.out).K HGL.out HNG.out) (fun _ _ h => h) (fun _ h => h.elim) (fun _ _ => trivial) HB46.out (below_size HB46.out) (by have := HML.out; simp; omega) ?_); intro v49 w49 ho hb hg hat; rw [List.nil_append] at ho; have HO49 := Aside0.mk ho; have HB49 := Aside0.mk hb; clear ho hb hg hat HO46 HB46 hc0 hc1 hc2)
  | ((with_reducible refine gate_builtin (b := .append) (xs := #[.tmp 49, .tmp 50]) rfl ?_); at_builtin; go_loud (refine Kd.R_append (Kd.int .i64) (w0 := w40) w40.heap.size rfl (.tmp 49) (.tmp 50) 22 3 (.int .i64 0) 8 rfl Try.underlying22 info3 rfl (by decide) (by omega) v49 Mods 1 [.int .i64 1] (fun _ => True) (fun _ => False) rfl rfl rfl (fun _ hk => hk.elim) (fun _ _ => trivial) HO49.out HB49.out (below_size HB49.out) (by have := HML.out; omega) ?_); intro v51 w51 ho hb hg hat; rw [HLM.out] at ho; have HO51 := Aside0.mk ho; have HB51 := Aside0.mk hb; obtain ⟨A51, c51, rfl⟩ := Kd.R_slice ho; clear ho hb hg hat HO49 HB49)
  | (go_at_call 115; refine (roots_in (c := c51) (HE4.out.below HB51.out).F (Kd.R_reads' HO51.out).2.2 (Kd.R_reads' HO51.out).2.1 (by have := HML.out; have := HLL.out; omega) (fun ad e _ => by cases e; have h5 := ((Kd.R_bound HO51.out).1 ad.block rfl).2.1; have := HE4.out.K.1; have := HGL.out; omega) (by have := HLL.out; omega) HLC.out.1 HLC.out.2).mono ?_; rintro e w52 ⟨v52, rfl, hr, hf, hk⟩; rw [HR0.out] at hr; obtain ⟨Rl, hRl⟩ : ∃ x, β.1 :: Rt0 = x := ⟨_, rfl⟩; have HRL : Aside0 (rd Rl 0 = β.1 ∧ 0 < Rl.length) := ⟨by rw [← hRl]; exact ⟨rfl, by simp⟩⟩; rw [hRl] at hr; obtain ⟨gr, cr, rfl, _, _, _⟩ := Kd.R_form hr HRL.out.2; have HE5 := Aside0.mk ((HE4.out.below HB51.out).fs hf hk); have HL51 := Aside0.mk (Nat.le_trans HE4.out.K.1 (below_size HB51.out)); have HRT := Aside0.mk (Kd.F_mono (F_of_R (Kd.R_bound hr)) (fun k hk2 => (And.intro hk2.2.1 hk2.2.2.1 : w51.heap.size ≤ k ∧ k < w52.heap.size))); have HGR := Aside0.mk (R_base hr); have HP0 := Kd.R_bound HP.out; have HP5 := Aside0.mk (Kd.R_kept (Kd.R_below (Ri_ok (ok' := fun k => w.heap.size ≤ k ∧ (k < w51.heap.size ∨ w52.heap.size ≤ k)) HP.out (fun k hk2 => ⟨(HP0.1 k hk2).2.1, .inl (Nat.lt_of_lt_of_le (HP0.1 k hk2).2.2.1 (below_size HB51.out))⟩)) HB51.out) hk (fun k hk2 e => by have e2 : k = g := e; have := HGL.out; have := hk2.1; omega)); clear hr hf hk HP0 HP HO51 HE4; have hzl : ((Rl.length : Int) == 0) = false := beq_eq_false_iff_ne.2 (by have := HRL.out.2; omega); clear hRl))
 go_loopg [10, 13] S.m (fun kq v10 v13 w' => ∃ i : Nat, v13 = .int .i64 (i : Int) ∧ Aside0 (1 ≤ i ∧ i ≤ S.m ∧ i + kq = S.m + 1) ∧ Aside0 (EmS S D P M Mod P Ms Mods AS cS w0 w g gS b2 γ w') ∧ Aside0 (Kd.R (Kd.int .i64) 3 w' w.heap.size (fun k => w.heap.size ≤ k ∧ (k < w51.heap.size ∨ w52.heap.size ≤ k)) v10 (pows β i)) ∧ Aside0 (Kd.F (Kd.int .i64) w' (fun k => w51.heap.size ≤ k ∧ k < w52.heap.size) (some ⟨gr, 0, none⟩) Rl.length Rl) ∧ Aside0 (w52.heap.size ≤ w'.heap.size))
 case atStart => exact ⟨1, rfl, ⟨by have := HSM.out; have := HM1.out; omega⟩, HE5, HP5, HRT, ⟨Nat.le_refl _⟩⟩
 case round =>
  clear HE5 HP5 HRT
  obtain ⟨i, rfl, HJ, HE, HP, HRT, HSZ⟩ := hrel
  cases gk with
  | zero => exact absurd HJ.out (by omega)
  | succ k1 =>
   obtain ⟨hc0, hc1, hc2⟩ := HE.out.cells
   by_cases hi : i < S.m
   ·have c1 : decide ((i : Int) < Ms) = true := decide_eq_true (by have := HSM.out; omega)
    have hwn : wrap64 ((i : Int) + 1) = ((i + 1 : Nat) : Int) := by have := HM.out.2.1; have := HSM.out; rw [w64] <;> omega
    obtain ⟨i0, hi0⟩ : ∃ i0 : Nat, i = i0 + 1 := ⟨i - 1, by have := HJ.out; omega⟩
    have hwm : wrap64 ((i : Int) - 1) = (i0 : Int) := by have := HM.out.2.1; have := HSM.out; rw [w64] <;> omega
    obtain ⟨gp, cp, rfl, _, _, _⟩ := Kd.R_form HP.out (by rw [pows_len]; have := HJ.out; omega)
    rw [pows_len] at HP ⊢
    have hx1 := (Kd.R_celln 0 HP.out (i0 : Int) (by omega) (by omega)).1
    have e1 : rdOf 0 (pows β i) (i0 : Int) = (Alg.pow β i0).1 := pows_rd β (by omega)
    rw [e1, Int.toNat_natCast] at hx1
    have hx2 := (Kd.at_int (Kd.F_now HRT.out) 0 (by omega) (by have := HRL.out.2; omega))
    obtain ⟨ad2, e2, hx2⟩ := hx2
    cases e2
    rw [HRL.out.1] at hx2
    have p1 : (0 ≤ (i0 : Int)) = True := eq_true (by omega)
    have p2 : ((i0 : Int) < (i : Int)) = True := eq_true (by omega)
    have p3 : (0 < (Rl.length : Int)) = True := eq_true (by have := HRL.out.2; omega)
    have p4 : (0 < Rl.length) = True := eq_true HRL.out.2
    (try simp only [Int.toNat_zero, Addr.add, Nat.zero_add, Nat.add_zero] at hx2)
    have HI0 := Aside0.mk hi0
    clear e1 hi0
    go_wp2
    have HE := Aside0.mk HE.out.drew
    have HP := Aside0.mk (Kd.R_drew HP.out)
    have HRT := Aside0.mk (Kd.F_drew HRT.out)
    replace HSZ : Aside0 (w52.heap.size ≤ wr.drew.heap.size) := HSZ
    clear hc0 hc1 hc2
    refine start_ (n := 14) (S := fun w' => w'.cell? ⟨gp, i0, none⟩ = some (.int .i64 (Alg.pow β i0).1) ∧ w'.cell? ⟨gr, 0, none⟩ = some (.int .i64 β.1)) (ds := [12]) (bb 14 0) (by kernel_rfl) rfl rfl ⟨hx1, hx2⟩ (fun hHeld => ?_); refine with_tabW Emb15.tab Emb15.bits (fun HT_ HW_ => ?_)
    generalize wr.drew = w11 at HE HP HRT HSZ hHeld ⊢
    clear hx1 hx2
    refine pq HT_ 0 64 (bb 14 1) ?_
    refine pq HT_ 1 65 (bb 14 3) ?_
    refine pq HT_ 2 66 (bb 14 7) ?_
    refine pq HT_ 3 67 (bb 14 15) ?_
    refine pq HT_ 4 68 (bb 14 31) ?_
    refine pq HT_ 5 69 (bb 14 63) ?_
    refine tq HT_ HW_ hHeld 6 70 (bb 14 127) ?_
    refine pq HT_ 7 71 (bb 14 255) ?_
    refine pq HT_ 8 72 (bb 14 511) ?_
    refine tq HT_ HW_ hHeld 9 73 (bb 14 1023) ?_
    refine oq HT_ 10 (some 74) (bb 14 2047) (fun K hK => ?_)
    refine gq Try.func116 #[.pointer (some ⟨g, 0, none⟩), .int .i64 (Alg.pow β i0).1, .int .i64 β.1] ?_
    refine (HE.out.F.mul (Alg.pow β i0).1 β.1).mono ?_
    rintro e w12 ⟨rfl, hf, hk⟩
    refine ⟨_, rfl, ?_⟩
    rw [inn_self, inn_self, Alg.mul_comm, ← Alg.pow_succ, ← HI0.out]
    have hk2 := kept_but hk
    have hh : w12.cell? ⟨gp, i0, none⟩ = some (.int .i64 (Alg.pow β i0).1) ∧ w12.cell? ⟨gr, 0, none⟩ = some (.int .i64 β.1) := ⟨cellR hHeld.1 hk2 (fun e => by have e2 : gp = g := e; have := R_base HP.out; have := HGL.out; omega), cellR hHeld.2 hk2 (fun e => by have e2 : gr = g := e; have := HGR.out; have := HL51.out; have := HGL.out; omega)⟩
    have HP := Aside0.mk (Kd.R_kept HP.out hk2 (fun k hk3 e => by have e2 : k = g := e; have := HGL.out; have := hk3.1; omega))
    have HRT := Aside0.mk (Kd.F_kept HRT.out hk2 (fun k hk3 e => by have e2 : k = g := e; have := HGL.out; have := HL51.out; have := hk3.1; omega))
    have HSZ := Aside0.mk (Nat.le_trans HSZ.out hk2.1)
    have HE := Aside0.mk (HE.out.fs hf hk2)
    clear hf hk hk2 hHeld
    refine hK.out _ _ hh (fun hHeld => ?_)
    clear hK K hh
    refine nq 74 ?_
    refine oq HT_ 11 (some 75) (bb 14 4095) (fun K hK => ?_)
    refine event_step (v := .slice (some ⟨w12.heap.size, 0, none⟩) 1 1) (w1 := w12.alloc (.cells #[.int .i64 (Alg.pow β i).1] 3 (0, 0))) (by rfl) ?_ ?_
    ·go_simp
     try rfl
    have hbl := below_alloc (Below.refl w12.heap.size w12) (.cells #[.int .i64 (Alg.pow β i).1] 3 (0, 0))
    have hh : (w12.alloc (.cells #[.int .i64 (Alg.pow β i).1] 3 (0, 0))).cell? ⟨gp, i0, none⟩ = some (.int .i64 (Alg.pow β i0).1) ∧ (w12.alloc (.cells #[.int .i64 (Alg.pow β i).1] 3 (0, 0))).cell? ⟨gr, 0, none⟩ = some (.int .i64 β.1) := ⟨(hbl.cell (World.block_lt_of_cell? w12 _ hHeld.1)).trans hHeld.1, (hbl.cell (World.block_lt_of_cell? w12 _ hHeld.2)).trans hHeld.2⟩
    clear hbl hHeld
    refine hK.out _ _ hh (fun hHeld => ?_)
    clear hK K hh
    refine nq 75 ?_
    refine lq HT_ 12 (some 76) (bb 14 8191) (fun K hK => ?_)
    refine Kd.R_append_step (Kd.int .i64) (w0 := w12) w.heap.size (by rfl) (.tmp 64) (.tmp 75) 22 3 (.int .i64 0) 8 rfl Try.underlying22 info3 rfl (by decide) (by omega) (.slice (some ⟨gp, 0, none⟩) i cp) (pows β i) (Alg.pow β i).1 [.int .i64 (Alg.pow β i).1] (fun k => w.heap.size ≤ k ∧ (k < w51.heap.size ∨ w52.heap.size ≤ k)) (fun _ => False) rfl rfl rfl (fun _ hk => hk.elim) (fun k hk => ⟨Nat.le_trans HE.out.K.1 hk, .inr (Nat.le_trans HSZ.out hk)⟩) HP.out ((Below.refl w12.heap.size w12).mono HE.out.K.1) HE.out.K.1 (by rw [pows_len]; have := HM.out.2.1; have := HSM.out; omega) ?_
    intro v13 w13 ho hb hg _
    rw [← pows_succ] at ho
    have HE := Aside0.mk (HE.out.own (T := fun k => k = gp) (Kept.of_grown hg (Kept.refl w12 (fun k => k = gp)) (fun k e => by cases e; exact .inl rfl)) (HE.out.F.B.grown hg HE.out.F.B.size (fun k e => by cases e; exact Nat.le_trans HW0.out (R_base HP.out))) (fun k e => by have e2 : k = gp := e; subst e2; exact ⟨R_base HP.out, R_blk HP.out⟩))
    have HRT := Aside0.mk (Kd.F_grown HRT.out hg (fun k hk e => by have e2 : k = gp := Option.some.inj e; subst e2; have h5 := (HP.out.1 k rfl).2; omega))
    have HSZ := Aside0.mk (Nat.le_trans HSZ.out hg.size)
    have HP := Aside0.mk ho
    clear ho hb hg hHeld
    refine hK.out _ _ ?_
    clear hK K
    refine nq 76 ?_
    refine pq HT_ 13 10 (bb 14 16383) ?_
    refine dq HT_ ?_
    clear HT_ HW_
    go_wp2
    go_roundg k1
    case measure => omega
    case rel => exact ⟨i + 1, rY, ⟨by have := HJ.out; omega⟩, HE, HP, HRT, HSZ⟩
   ·have c1 : decide ((i : Int) < Ms) = false := decide_eq_false (by have := HSM.out; omega)
    obtain rfl : i = S.m := by have := HJ.out; omega
    obtain ⟨AP, cP, rfl⟩ := Kd.R_slice HP.out
    go_wp2_with (first
     | (go_at_call 117; refine (HE.out.H.order).mono ?_; rintro e w50 ⟨rfl, hb⟩; have HE5 := Aside0.mk (HE.out.below hb); have HP5 := Aside0.mk (Kd.R_below HP.out hb); clear hb hc0 hc1 hc2 HE HP)
     | ((with_reducible refine gate_dst (N := 79) rfl ?_); refine Kd.R_make (Kd.int .i64) _ 3 rfl (N := 79) rfl 22 _ _ rfl S.q rfl rfl Try.underlying22 (.int .i64 0) 8 info3 rfl (by decide) (by omega) 0 (ok := fun _ => True) (okp := fun _ => True) rfl (fun _ hk => hk) trivial (by have := HQ2.out; omega) (by have := HQ.out; omega) (Below.refl _ _) (Nat.le_refl _) ?_; intro v79 w79 ho hb _ _; rw [← pf_zero (fun t => (embV S D β (t : Int)).1)] at ho; have HE6 := Aside0.mk (HE5.out.below hb); have HLE := Aside0.mk (HE5.out.K.1); have HLW := Aside0.mk (HE5.out.K.1); obtain ⟨go, co, rfl, _, _, _⟩ := Kd.R_form ho (by rw [pf_len]; have := HQ2.out; omega); rw [pf_len] at ho ⊢; have HGO := Aside0.mk (R_base ho); have HO := Aside0.mk (Kd.R_lower ho HLE.out); have HP6 := Aside0.mk (Kd.F_mono (Kd.F_below (F_of_R (Kd.R_bound HP5.out)) hb) (fun k hk => (And.intro hk.2.1 hk.2.2.1 : w.heap.size ≤ k ∧ k < w50.heap.size))); have HCP := Aside0.mk (Kd.R_reads' HP5.out).2.1; clear ho hb HE5 HP5))
    rename_i K3 l3 l2 r1 J1 K2 a5 a4 K1 a3 a2 a1 l1 l0 r0 K0 a0
    clear a5 a4 a3 hi HJ HRT HSZ c1 HR0 HLC HLM HLL HRL HB51 hzl z1 z2 z3
    go_loopg [82] (S.q.toNat + 1) (fun kq v82 w' => ∃ j : Nat, v82 = .int .i64 (j : Int) ∧ Aside0 (j ≤ S.q.toNat ∧ j + kq = S.q.toNat + 1) ∧ Aside0 (EmS S D P M Mod P Ms Mods AS cS w0 w g gS b2 γ w') ∧ Aside0 (Kd.R (Kd.int .i64) 3 w' w.heap.size (fun k => w50.heap.size ≤ k) (.slice (some ⟨go, 0, none⟩) S.q.toNat co) (pf (fun t => (embV S D β (t : Int)).1) S.q.toNat j)) ∧ Aside0 (Kd.F (Kd.int .i64) w' (fun k => w.heap.size ≤ k ∧ k < w50.heap.size) AP (pows β S.m).length (pows β S.m)))
    case atStart => exact ⟨0, rfl, ⟨by omega, by omega⟩, HE6, ⟨Ri_ok HO.out (fun k hk => by cases hk; exact HGO.out)⟩, HP6⟩
    case round =>
     clear HE6 HO HP6
     obtain ⟨j, rfl, HJ, HE, HO, HP⟩ := hrel
     cases gk with
     | zero => exact absurd HJ.out (by omega)
     | succ k1 =>
      by_cases hj : j < S.q.toNat
      ·have c1 : decide ((j : Int) < (S.q.toNat : Int)) = true := decide_eq_true (by omega)
       have p1 : (0 ≤ (j : Int)) = True := eq_true (by omega)
       have p2 : ((j : Int) < (S.q.toNat : Int)) = True := eq_true (by omega)
       have hwn : wrap64 ((j : Int) + 1) = ((j + 1 : Nat) : Int) := by have := HQ.out; rw [w64] <;> omega
       go_wp2_with (first
        | (go_at_call 119; refine (HE.out.H.digits HS.out.h (j : Int)).mono ?_; rintro e w90 ⟨v90, rfl, hr, hb⟩; have HE9 := Aside0.mk (HE.out.below hb); have HO9 := Aside0.mk (Kd.R_below HO.out hb); have HP9 := Aside0.mk (Kd.F_below HP.out hb); obtain ⟨A90, c90, rfl⟩ := Kd.R_slice hr; have HD9 := Aside0.mk (Kd.R_lower hr HE.out.K.1); clear hr hb)
        | (go_at_call 118; refine (HE9.out.F.dot (n := S.m) (digL_length _) (pows_len β S.m) (by have := HSM.out; have := HM.out.2.1; omega) (Kd.R_reads' HD9.out).2.2 (Kd.R_reads' HD9.out).2.1 (fun ad e _ => by cases e; have h5 := ((Kd.R_bound HD9.out).1 ad.block rfl).2.1; have := HGL.out; omega) (Kd.F_now HP9.out) HCP.out (fun ad e h0 => by have h5 := (Kd.F_in HP9.out e h0 (by decide)).1; have := HGL.out; omega)).mono ?_; rintro e w92 ⟨rfl, hf, hk⟩; rw [embV_dot]; have HE2 := Aside0.mk (HE9.out.fs hf (kept_but hk)); have HO2 := Aside0.mk (Kd.R_kept HO9.out (kept_but hk) (fun k hk2 e => by have e2 : k = g := e; have := HGL.out; have := HLW.out; omega)); have HP2 := Aside0.mk (Kd.F_kept HP9.out (kept_but hk) (fun k hk2 e => by have e2 : k = g := e; have := HGL.out; omega)); obtain ⟨hx3, hf3⟩ := Kd.R_celln 0 HO2.out (j : Int) (by omega) (by omega); have HPU := Aside0.mk (Kd.R_putn HO2.out (j : Int) (embV S D β (j : Int)).1); rw [pf_succ (fun t => (embV S D β (t : Int)).1) S.q.toNat j hj] at HPU; (try simp only [Int.toNat_natCast] at hx3 hf3 HPU); clear hf hk))
       go_roundg k1
       case measure => omega
       case rel => exact ⟨j + 1, rY, ⟨by have := HJ.out; omega⟩, ⟨HE2.out.put (R_blk HO2.out) (Nat.le_trans HLW.out HGO.out)⟩, HPU, ⟨Kd.F_far (p := ⟨go, j, none⟩) HP2.out (fun k hk e => by have e2 : k = go := e; have := HGO.out; omega) _⟩⟩
      ·have c1 : decide ((j : Int) < (S.q.toNat : Int)) = false := decide_eq_false (by omega)
       obtain rfl : j = S.q.toNat := by have := HJ.out; omega
       rw [pf_full] at HO
       go_wp2
       go_ret2
       exact ⟨_, rfl, Kd.R_mono HO.out (fun _ _ => trivial), HE.out.F, HE.out.K⟩
end
section
variable {S D : FD} {Ps Ms P M : Int} {Mods Mod : List Int} {w0 w w1 : World} {g gS : Nat} {γ : GF D} {σ : GF S} {AS AM : Option Addr} {cS cM : Nat}
theorem Kd.C_lt {w : World} {A : Option Addr} {n : Nat} {xs : List Int} (h : Kd.C (Kd.int .i64) w A n xs) : ∀ ad, A = some ad → 0 < n → ad.block < w.heap.size := fun ad e h0 => by
 obtain ⟨ad2, e2, hc⟩ := (Kd.reads_of_C (enc := Value.int .i64) (d := (0 : Int)) (h1 := fun _ => rfl) h).2.2 h0
 have h1 := World.block_lt_of_cell? w _ (hc 0 h0)
 subst e
 cases e2
 have hblk : (ad.add 0).block = ad.block := by unfold Addr.add; split <;> rfl
 rwa [hblk] at h1
theorem results_tmp4 {fn : Func} {t u v x : Tmp} (h : fn.results = #[.tmp t, .tmp u, .tmp v, .tmp x]) (tmps : Array Value) (P : Program) (w : World) : (results fn tmps).run P w = .ok (.tuple #[tmps.getD t undef, tmps.getD u undef, tmps.getD v undef, tmps.getD x undef]) w := by
 simp [results, h, go_sem]
theorem embed_in (hS : FOk S P Ms Mods σ AS cS) (hSr : Kd.C (Kd.int .i64) w AS Mods.length Mods) (hng : ∀ ad, AS = some ad → 0 < Mods.length → ad.block ≠ g) (hF : Fs D P M Mod w0 w g γ) (hw0 : w0.heap.size ≤ w.heap.size) (hdv : Ms ∣ M) {β : GF D} (hβ : Beta D Ms Mods β) :
  Calls Try.prog 80 #[.agg #[.int .i64 P, .int .i64 Ms, .slice AS Mods.length cS], .pointer (some ⟨g, 0, none⟩)] w fun e w' => ∃ v, e = .returned (.tuple #[v, .int .i64 0]) ∧ Kd.R (Kd.int .i64) 3 w' w.heap.size (fun _ => True) v (embL S D β) ∧ Fs D P M Mod w0 w' g γ ∧ Kept w w' (fun b => b = g) := by
 rcases hβ with ⟨h1, h2⟩ | ⟨h1, h2, h3⟩
 ·exact embed_in1 hS hSr hng hF hw0 hdv h1
 ·exact embed_in2 hS hSr hng hF hw0 hdv h1 h2 h3
theorem embed_no (hS : FOk S Ps Ms Mods σ AS cS) (hSr : Kd.C (Kd.int .i64) w AS Mods.length Mods) (hF : Fs D P M Mod w0 w g γ) (hno : ¬ (Ps = P ∧ Ms ∣ M)) :
  Calls Try.prog 80 #[.agg #[.int .i64 Ps, .int .i64 Ms, .slice AS Mods.length cS], .pointer (some ⟨g, 0, none⟩)] w fun e w' => e = .returned (.tuple #[.slice none 0 0, .int .i64 10]) ∧ Below w.heap.size w w' := by
 have HS := Aside0.mk hS
 have HSR := Aside0.mk hSr
 have HF := Aside0.mk hF
 have HM := Aside0.mk (And.intro hS.h.m1 (And.intro hS.h.hm8 (And.intro hF.h.m1 hF.h.hm8)))
 have hu36 := Try.underlying36
 have hcs : Ps ≠ P ∨ (Ps = P ∧ ¬ Ms ∣ M) := by
  by_cases e : Ps = P
  ·exact .inr ⟨e, fun h => hno ⟨e, h⟩⟩
  ·exact .inl e
 clear hS hSr hF hno
 rcases hcs with h1 | ⟨h1, h2⟩
 ·have z1 : (Ps != P) = true := bne_iff_ne.2 h1
  clear h1
  go_enter Try.func80, Try.ntmps80
  go_wp2_with (first
   | (refine bx 2 #[.int .i64 Ps, .int .i64 Ms, .slice AS Mods.length cS] 36 ?_; intro b2 hb2 w2 hbox hb; have B2 := Aside0.mk hbox; have H2 := Aside0.mk hb; have hc0 := bc0 B2.out; have hc1 := bc1 B2.out; have hc2 := bc2 B2.out; clear hbox hb hb2)
   | (go_at_call 37; refine (HS.out.new (Kd.C_below HSR.out H2.out)).mono ?_; rintro e w3 ⟨gS, w0S, rfl, hf, hw, hg, hb⟩; have H3 := Aside0.mk (below_step H2.out hb); have B3 := Aside0.mk (blk_below B2.out hb); have HF3 := Aside0.mk ((HF.out.below H2.out).below hb); clear hf hw hg hb hc0 hc1 hc2; have hc0 := bc0 B3.out)
   | (go_at_call 113; refine (prime_in HF3.out (desc_ml HF3.out.h)).mono ?_; rintro e w4 ⟨rfl, hb⟩; have H4 := Aside0.mk (below_step H3.out hb); have B4 := Aside0.mk (blk_below B3.out hb); clear hb hc0; have hc0 := bc0 B4.out))
  go_ret2
  exact ⟨rfl, H4.out⟩
 ·subst h1
  have z1 : (Ps != Ps) = false := by simp
  have HD := Aside0.mk (decide_eq_false h2)
  clear h2
  go_enter Try.func80, Try.ntmps80
  go_wp2_with (first
   | (refine bx 2 #[.int .i64 Ps, .int .i64 Ms, .slice AS Mods.length cS] 36 ?_; intro b2 hb2 w2 hbox hb; have B2 := Aside0.mk hbox; have H2 := Aside0.mk hb; have hc0 := bc0 B2.out; have hc1 := bc1 B2.out; have hc2 := bc2 B2.out; clear hbox hb hb2)
   | (go_at_call 37; refine (HS.out.new (Kd.C_below HSR.out H2.out)).mono ?_; rintro e w3 ⟨gS, w0S, rfl, hf, hw, hg, hb⟩; have H3 := Aside0.mk (below_step H2.out hb); have B3 := Aside0.mk (blk_below B2.out hb); have HF3 := Aside0.mk ((HF.out.below H2.out).below hb); clear hf hw hg hb hc0 hc1 hc2; have hc0 := bc0 B3.out; have hc1 := bc1 B3.out)
   | (go_at_call 113; refine (prime_in HF3.out (desc_ml HF3.out.h)).mono ?_; rintro e w4 ⟨rfl, hb⟩; have H4 := Aside0.mk (below_step H3.out hb); have B4 := Aside0.mk (blk_below B3.out hb); have HF4 := Aside0.mk (HF3.out.below hb); clear hb hc0 hc1; have hc0 := bc0 B4.out; have hc1 := bc1 B4.out)
   | (go_at_call 114; refine (isDegree_in HF4.out (desc_ml HF4.out.h) Ms HM.out.1 HM.out.2.1 HM.out.2.2.1 HM.out.2.2.2).mono ?_; rintro e w5 ⟨rfl, hb⟩; rw [HD.out]; have H5 := Aside0.mk (below_step H4.out hb); clear hb hc0 hc1))
  go_ret2
  exact ⟨rfl, H5.out⟩
structure Bx2 (w W : World) (b3 b4 : Nat) (Ps Ms : Int) (AS : Option Addr) (nS cS : Nat) (P M : Int) (AM : Option Addr) (nM cM : Nat) : Prop where
 h3 : W.heap[b3]? = some (.cells #[.int .i64 Ps, .int .i64 Ms, .slice AS nS cS] 36 (0, 0))
 h4 : W.heap[b4]? = some (.cells #[.int .i64 P, .int .i64 M, .slice AM nM cM] 36 (0, 0))
 B : Below w.heap.size w W
 lo : w.heap.size ≤ b3 ∧ w.heap.size ≤ b4
variable {W W1 : World} {b3 b4 nS nM : Nat}
theorem Bx2.below (h : Bx2 w W b3 b4 Ps Ms AS nS cS P M AM nM cM) (hb : Below W.heap.size W W1) : Bx2 w W1 b3 b4 Ps Ms AS nS cS P M AM nM cM := ⟨blk_below h.h3 hb, blk_below h.h4 hb, below_step h.B hb, h.lo⟩
theorem Bx2.c3 (h : Bx2 w W b3 b4 Ps Ms AS nS cS P M AM nM cM) : W.cell? ⟨b3, 0, none⟩ = some (.int .i64 Ps) ∧ W.cell? ⟨b3, 1, none⟩ = some (.int .i64 Ms) ∧ W.cell? ⟨b3, 2, none⟩ = some (.slice AS nS cS) :=
 ⟨bc0 h.h3, bc1 h.h3, bc2 h.h3⟩
theorem Bx2.c4 (h : Bx2 w W b3 b4 Ps Ms AS nS cS P M AM nM cM) : W.cell? ⟨b4, 0, none⟩ = some (.int .i64 P) ∧ W.cell? ⟨b4, 1, none⟩ = some (.int .i64 M) ∧ W.cell? ⟨b4, 2, none⟩ = some (.slice AM nM cM) :=
 ⟨bc0 h.h4, bc1 h.h4, bc2 h.h4⟩
theorem Bx2.fs (h : Bx2 w W b3 b4 Ps Ms AS nS cS P M AM nM cM) {P1 M1 : Int} {Mod1 : List Int} (h0 : Fs D P1 M1 Mod1 w0 W g γ) (h1 : Fs D P1 M1 Mod1 w0 W1 g γ) (hk : Kept W W1 (fun b => b = g)) (hg : w.heap.size ≤ g) : Bx2 w W1 b3 b4 Ps Ms AS nS cS P M AM nM cM := by
 obtain ⟨cs, hb⟩ := h0.blk
 exact ⟨blk_kept h.h3 hk (blk_ne h.h3 hb (by decide)), blk_kept h.h4 hk (blk_ne h.h4 hb (by decide)), below_fs h0 h1 hk h.B hg, h.lo⟩
theorem ext_1 (Ps Ms n : Int) (nS : Nat) (hN : NewSays1 P M AM cM Mod) (hMr : Kd.C (Kd.int .i64) w AM Mod.length Mod) :
  Calls Try.prog 52 #[.agg #[.int .i64 Ps, .int .i64 Ms, .slice AS nS cS], .agg #[.int .i64 P, .int .i64 M, .slice AM Mod.length cM], .int .i64 n] w fun e w' => e = .returned (.tuple #[.pointer none, .slice none 0 0, .int .i64 0, .int .i64 1]) ∧ Below w.heap.size w w' := by
 have HN := Aside0.mk hN
 have HMR := Aside0.mk hMr
 have hu36 := Try.underlying36
 clear hN hMr
 go_enter Try.func52, Try.ntmps52
 go_wp2_with (first
  | (refine bx 3 #[.int .i64 Ps, .int .i64 Ms, .slice AS nS cS] 36 ?_; intro b3 hb3 w3 hbox hb; have H3 := Aside0.mk hb; clear hbox hb hb3)
  | (refine bx 4 #[.int .i64 P, .int .i64 M, .slice AM Mod.length cM] 36 ?_; intro b4 hb4 w4 hbox hb; have H4 := Aside0.mk (below_step H3.out hb); have hc0 := bc0 hbox; have hc1 := bc1 hbox; have hc2 := bc2 hbox; clear hbox hb hb4)
  | (go_at_call 37; refine (HN.out _ (Kd.C_below HMR.out H4.out)).mono ?_; rintro e w5 ⟨rfl, hb⟩; have H5 := Aside0.mk (below_step H4.out hb); clear hb hc0 hc1 hc2))
 refine bodyPost_ret (results_tmp4 rfl _ _ _) rfl ?_
 exact ⟨rfl, H5.out⟩
theorem ext_10 {n : Int} (hS : FOk S Ps Ms Mods σ AS cS) (hSr : Kd.C (Kd.int .i64) w AS Mods.length Mods) (hF : FOk D P M Mod γ AM cM) (hMr : Kd.C (Kd.int .i64) w AM Mod.length Mod) (hn1 : 1 ≤ n) (hn2 : n ≤ 64) (hno : ¬ (Ps = P ∧ Ms ∣ M)) :
  Calls Try.prog 52 #[.agg #[.int .i64 Ps, .int .i64 Ms, .slice AS Mods.length cS], .agg #[.int .i64 P, .int .i64 M, .slice AM Mod.length cM], .int .i64 n] w fun e w' => e = .returned (.tuple #[.pointer none, .slice none 0 0, .int .i64 0, .int .i64 10]) ∧ Below w.heap.size w w' := by
 have HS := Aside0.mk hS
 have HSR := Aside0.mk hSr
 have HF := Aside0.mk hF
 have HMR := Aside0.mk hMr
 have HNO := Aside0.mk hno
 have hu36 := Try.underlying36
 have d1 : decide (n < 1) = false := decide_eq_false (by omega)
 have d2 : decide (n > 64) = false := decide_eq_false (by omega)
 have d3 : decide (64 < n) = false := decide_eq_false (by omega)
 clear hS hSr hF hMr hno
 go_enter Try.func52, Try.ntmps52
 go_wp2_with (first
  | (refine bx 3 #[.int .i64 Ps, .int .i64 Ms, .slice AS Mods.length cS] 36 ?_; intro b3 hb3 w3 hbox hb; have H3 := Aside0.mk hb; have B3 := Aside0.mk hbox; have HL3 := Aside0.mk (show w.heap.size ≤ b3 by rw [hb3]; exact Nat.le_refl _); clear hbox hb hb3)
  | (refine bx 4 #[.int .i64 P, .int .i64 M, .slice AM Mod.length cM] 36 ?_; intro b4 hb4 w4 hbox hb; have HB := Aside0.mk (show Bx2 w w4 b3 b4 Ps Ms AS Mods.length cS P M AM Mod.length cM from ⟨blk_below B3.out hb, hbox, below_step H3.out hb, HL3.out, by rw [hb4]; exact below_size H3.out⟩); clear hbox hb hb4 H3 B3 HL3; obtain ⟨hc0, hc1, hc2⟩ := HB.out.c4)
  | (go_at_call 37; refine (HF.out.new (Kd.C_below HMR.out HB.out.B)).mono ?_; rintro e w5 ⟨g, w0, rfl, hf, hw, hg, hb⟩; have HB5 := Aside0.mk (HB.out.below hb); have HF5 := Aside0.mk hf; have HW := Aside0.mk (And.intro (Nat.le_trans HB.out.B.size hw) (And.intro hg hf.B.size)); clear hf hw hg hb hc0 hc1 hc2 HB; obtain ⟨hc0, hc1, hc2⟩ := HB5.out.c3)
  | (go_at_call 80; refine (embed_no HS.out (Kd.C_below HSR.out HB5.out.B) HF5.out HNO.out).mono ?_; rintro e w6 ⟨rfl, hb⟩; have H6 := Aside0.mk (below_step HB5.out.B hb); clear hb hc0 hc1 hc2))
 refine bodyPost_ret (results_tmp4 rfl _ _ _) rfl ?_
 exact ⟨rfl, H6.out⟩
theorem ext_ok {n : Int} (hS : FOk S P Ms Mods σ AS cS) (hSr : Kd.C (Kd.int .i64) w AS Mods.length Mods) (hF : FOk D P M Mod γ AM cM) (hMr : Kd.C (Kd.int .i64) w AM Mod.length Mod) (hn1 : 1 ≤ n) (hn2 : n ≤ 64) (hdv : Ms ∣ M) {β : GF D} (hβ : Beta D Ms Mods β) {r s : Int} (hR : RootSays P M n AM cM Mod r s) :
  Calls Try.prog 52 #[.agg #[.int .i64 P, .int .i64 Ms, .slice AS Mods.length cS], .agg #[.int .i64 P, .int .i64 M, .slice AM Mod.length cM], .int .i64 n] w fun e w' => ∃ (g : Nat) (w0 : World) (v : Value), e = .returned (.tuple #[.pointer (some ⟨g, 0, none⟩), v, .int .i64 r, .int .i64 s]) ∧ Fs D P M Mod w0 w' g γ ∧ w.heap.size ≤ w0.heap.size ∧ w0.heap.size ≤ g ∧ Kd.R (Kd.int .i64) 3 w' w.heap.size (fun _ => True) v (embL S D β) ∧ Below w.heap.size w w' := by
 have HS := Aside0.mk hS
 have HSR := Aside0.mk hSr
 have HF := Aside0.mk hF
 have HMR := Aside0.mk hMr
 have HDV := Aside0.mk hdv
 have HBT := Aside0.mk hβ
 have HR := Aside0.mk hR
 have HLS := Aside0.mk (Kd.C_lt hSr)
 have hu36 := Try.underlying36
 have d1 : decide (n < 1) = false := decide_eq_false (by omega)
 have d2 : decide (n > 64) = false := decide_eq_false (by omega)
 have d3 : decide (64 < n) = false := decide_eq_false (by omega)
 clear hS hSr hF hMr hdv hβ hR
 go_enter Try.func52, Try.ntmps52
 go_wp2_with (first
  | (refine bx 3 #[.int .i64 P, .int .i64 Ms, .slice AS Mods.length cS] 36 ?_; intro b3 hb3 w3 hbox hb; have H3 := Aside0.mk hb; have B3 := Aside0.mk hbox; have HL3 := Aside0.mk (show w.heap.size ≤ b3 by rw [hb3]; exact Nat.le_refl _); clear hbox hb hb3)
  | (refine bx 4 #[.int .i64 P, .int .i64 M, .slice AM Mod.length cM] 36 ?_; intro b4 hb4 w4 hbox hb; have HB := Aside0.mk (show Bx2 w w4 b3 b4 P Ms AS Mods.length cS P M AM Mod.length cM from ⟨blk_below B3.out hb, hbox, below_step H3.out hb, HL3.out, by rw [hb4]; exact below_size H3.out⟩); clear hbox hb hb4 H3 B3 HL3; obtain ⟨hc0, hc1, hc2⟩ := HB.out.c4)
  | (go_at_call 37; refine (HF.out.new (Kd.C_below HMR.out HB.out.B)).mono ?_; rintro e w5 ⟨g, w0, rfl, hf, hw, hg, hb⟩; have HB5 := Aside0.mk (HB.out.below hb); have HF5 := Aside0.mk hf; have HW := Aside0.mk (And.intro (Nat.le_trans HB.out.B.size hw) (And.intro hg hf.B.size)); clear hf hw hg hb hc0 hc1 hc2 HB; obtain ⟨hc0, hc1, hc2⟩ := HB5.out.c3)
  | (go_at_call 80; refine (embed_in HS.out (Kd.C_below HSR.out HB5.out.B) (fun ad e h0 => by have := HLS.out ad e h0; have := HW.out; omega) HF5.out HW.out.2.2 HDV.out HBT.out).mono ?_; rintro e w6 ⟨v, rfl, hr, hf, hk⟩; have HB6 := Aside0.mk (HB5.out.fs HF5.out hf hk (Nat.le_trans HW.out.1 HW.out.2.1)); have HV := Aside0.mk (Kd.R_lower hr HB5.out.B.size); have HF6 := Aside0.mk hf; clear hr hf hk hc0 hc1 hc2 HB5 HF5; obtain ⟨hc0, hc1, hc2⟩ := HB6.out.c4)
  | (go_at_call 16; refine (HR.out _ (Kd.C_below HMR.out HB6.out.B)).mono ?_; rintro e w7 ⟨rfl, hb⟩; have HB7 := Aside0.mk (HB6.out.below hb); have HV7 := Aside0.mk (Kd.R_below HV.out hb); have HF7 := Aside0.mk (HF6.out.below hb); clear hb hc0 hc1 hc2))
 refine bodyPost_ret (results_tmp4 rfl _ _ _) rfl ?_
 exact ⟨_, _, _, rfl, HF7.out, HW.out.1, HW.out.2.1, HV7.out, HB7.out.B⟩
end
section
variable {S D : FD} {Ps Ms P M : Int} {Mods Mod : List Int} {w0 w w1 : World} {g gS : Nat} {γ : GF D} {σ : GF S} {AS AM A : Option Addr} {cS cM c : Nat} {n : Int} {L : List (List Int)}
structure BxC (w W : World) (b2 b3 : Nat) (Ps Ms : Int) (AS : Option Addr) (nS cS : Nat) (n : Int) (A : Option Addr) (m c : Nat) (P M : Int) (AM : Option Addr) (nM cM : Nat) : Prop where
 h2 : W.heap[b2]? = some (.cells #[.int .i64 Ps, .int .i64 Ms, .slice AS nS cS, .int .i64 n, .slice A m c] 49 (0, 0))
 h3 : W.heap[b3]? = some (.cells #[.int .i64 P, .int .i64 M, .slice AM nM cM] 36 (0, 0))
 B : Below w.heap.size w W
variable {W W1 : World} {b2 b3 nS nM m : Nat}
theorem BxC.below (h : BxC w W b2 b3 Ps Ms AS nS cS n A m c P M AM nM cM) (hb : Below W.heap.size W W1) : BxC w W1 b2 b3 Ps Ms AS nS cS n A m c P M AM nM cM := ⟨blk_below h.h2 hb, blk_below h.h3 hb, below_step h.B hb⟩
theorem BxC.c2 (h : BxC w W b2 b3 Ps Ms AS nS cS n A m c P M AM nM cM) : W.cell? ⟨b2, 0, none⟩ = some (.int .i64 Ps) ∧ W.cell? ⟨b2, 1, none⟩ = some (.int .i64 Ms) ∧ W.cell? ⟨b2, 2, none⟩ = some (.slice AS nS cS) ∧ W.cell? ⟨b2, 3, none⟩ = some (.int .i64 n) ∧ W.cell? ⟨b2, 4, none⟩ = some (.slice A m c) :=
 ⟨bc0 h.h2, bc1 h.h2, bc2 h.h2, bc3 h.h2, bc4 h.h2⟩
theorem BxC.c3 (h : BxC w W b2 b3 Ps Ms AS nS cS n A m c P M AM nM cM) : W.cell? ⟨b3, 0, none⟩ = some (.int .i64 P) ∧ W.cell? ⟨b3, 1, none⟩ = some (.int .i64 M) ∧ W.cell? ⟨b3, 2, none⟩ = some (.slice AM nM cM) :=
 ⟨bc0 h.h3, bc1 h.h3, bc2 h.h3⟩
theorem zeros_chk {r : Int} (hSr : Kd.C (Kd.int .i64) w AS Mods.length Mods) (hcS : Mods.length ≤ cS) (hr : Kd.C (Kd.slice 3 (Kd.int .i64)) w A L.length L) (hrr : CodeAns Ps Ms Mods n L r) (h0 : r ≠ 0) :
  Calls Try.prog 25 #[.agg #[.int .i64 Ps, .int .i64 Ms, .slice AS Mods.length cS, .int .i64 n, .slice A L.length c], .agg #[.int .i64 P, .int .i64 M, .slice AM nM cM]] w fun e w' => e = .returned (.tuple #[.slice none 0 0, .int .i64 r]) ∧ Below w.heap.size w w' := by
 have HSR := Aside0.mk hSr
 have HCS := Aside0.mk hcS
 have HR := Aside0.mk hr
 have HRR := Aside0.mk hrr
 have hu36 := Try.underlying36
 have hu49 := Try.underlying49
 have d1 : (r != 0) = true := bne_iff_ne.2 h0
 clear hSr hcS hr hrr h0
 go_enter Try.func25, Try.ntmps25
 go_wp2_with (first
  | (refine bx 2 #[.int .i64 Ps, .int .i64 Ms, .slice AS Mods.length cS, .int .i64 n, .slice A L.length c] 49 ?_; intro b2 hb2 w2 hbox hb; have H2 := Aside0.mk hb; have B2 := Aside0.mk hbox; clear hbox hb hb2)
  | (refine bx 3 #[.int .i64 P, .int .i64 M, .slice AM nM cM] 36 ?_; intro b3 hb3 w3 hbox hb; have HB := Aside0.mk (show BxC w w3 b2 b3 Ps Ms AS Mods.length cS n A L.length c P M AM nM cM from ⟨blk_below B2.out hb, hbox, below_step H2.out hb⟩); clear hbox hb hb3 H2 B2; obtain ⟨hc0, hc1, hc2, hc3, hc4⟩ := HB.out.c2)
  | (go_at_call 51; refine (codeCheck_in (Kd.C_below HSR.out HB.out.B) HCS.out A c n L (Kd.C_below HR.out HB.out.B) HRR.out).mono ?_; rintro e w4 ⟨rfl, hb⟩; have HB4 := Aside0.mk (HB.out.below hb); clear hb hc0 hc1 hc2 hc3 hc4))
 go_ret2
 exact ⟨rfl, HB4.out.B⟩
theorem zeros_ext {r : Int} (hSr : Kd.C (Kd.int .i64) w AS Mods.length Mods) (hcS : Mods.length ≤ cS) (hr : Kd.C (Kd.slice 3 (Kd.int .i64)) w A L.length L) (hrr : CodeAns Ps Ms Mods n L 0) (h0 : r ≠ 0)
  (hE : ∀ W, Below w.heap.size w W → Calls Try.prog 52 #[.agg #[.int .i64 Ps, .int .i64 Ms, .slice AS Mods.length cS], .agg #[.int .i64 P, .int .i64 M, .slice AM nM cM], .int .i64 n] W fun e w' => ∃ p v x, e = .returned (.tuple #[.pointer p, v, .int .i64 x, .int .i64 r]) ∧ Below W.heap.size W w' ∧ ∃ A' n' c', v = .slice A' n' c') :
  Calls Try.prog 25 #[.agg #[.int .i64 Ps, .int .i64 Ms, .slice AS Mods.length cS, .int .i64 n, .slice A L.length c], .agg #[.int .i64 P, .int .i64 M, .slice AM nM cM]] w fun e w' => e = .returned (.tuple #[.slice none 0 0, .int .i64 r]) ∧ Below w.heap.size w w' := by
 have HSR := Aside0.mk hSr
 have HCS := Aside0.mk hcS
 have HR := Aside0.mk hr
 have HRR := Aside0.mk hrr
 have HE := Aside0.mk hE
 have hu36 := Try.underlying36
 have hu49 := Try.underlying49
 have d1 : (r != 0) = true := bne_iff_ne.2 h0
 clear hSr hcS hr hrr h0 hE
 go_enter Try.func25, Try.ntmps25
 go_wp2_with (first
  | (refine bx 2 #[.int .i64 Ps, .int .i64 Ms, .slice AS Mods.length cS, .int .i64 n, .slice A L.length c] 49 ?_; intro b2 hb2 w2 hbox hb; have H2 := Aside0.mk hb; have B2 := Aside0.mk hbox; clear hbox hb hb2)
  | (refine bx 3 #[.int .i64 P, .int .i64 M, .slice AM nM cM] 36 ?_; intro b3 hb3 w3 hbox hb; have HB := Aside0.mk (show BxC w w3 b2 b3 Ps Ms AS Mods.length cS n A L.length c P M AM nM cM from ⟨blk_below B2.out hb, hbox, below_step H2.out hb⟩); clear hbox hb hb3 H2 B2; obtain ⟨hc0, hc1, hc2, hc3, hc4⟩ := HB.out.c2)
  | (go_at_call 51; refine (codeCheck_in (Kd.C_below HSR.out HB.out.B) HCS.out A c n L (Kd.C_below HR.out HB.out.B) HRR.out).mono ?_; rintro e w4 ⟨rfl, hb⟩; have HB4 := Aside0.mk (HB.out.below hb); clear hb hc0 hc1 hc2 hc3 hc4; obtain ⟨hc0, hc1, hc2, hc3, hc4⟩ := HB4.out.c2; obtain ⟨he0, he1, he2⟩ := HB4.out.c3)
  | (go_at_call 52; refine (HE.out _ HB4.out.B).mono ?_; rintro e w5 ⟨p, v, x, rfl, hb, A', n', c', rfl⟩; have HB5 := Aside0.mk (HB4.out.below hb); clear hb hc0 hc1 hc2 hc3 hc4 he0 he1 he2)
  | (refine bx 7 #[.pointer none] 63 ?_; intro b7 hb7 w7 hbox hb; have B7 := Aside0.mk hbox; have H7 := Aside0.mk (below_step HB5.out.B hb); obtain ⟨hx7, hf7⟩ := bq1 B7.out; have HL7 := Aside0.mk (show w.heap.size ≤ b7 by rw [hb7]; exact HB5.out.B.size); clear hbox hb hb7)
  | (refine bx 8 #[.slice none 0 0] 22 ?_; intro b8 hb8 w8 hbox hb; have B8 := Aside0.mk hbox; have H8 := Aside0.mk (below_step H7.out hb); obtain ⟨hx8, hf8⟩ := bq1 B8.out; have HL8 := Aside0.mk (show w.heap.size ≤ b8 by rw [hb8]; exact H7.out.size); have hx7' : w8.cell? ⟨b7, 0, none⟩ = some (.pointer none) := (blk_cell (blk_below B7.out hb) 0).trans rfl; have hf7' := blk_frozen (blk_below B7.out hb) 0; have HN := Aside0.mk (show b7 ≠ b8 from Nat.ne_of_lt (by rw [hb8]; exact blk_lt B7.out)); clear hbox hb hb8 hx7 hf7; have B8s := Aside0.mk (show (w8.setCell ⟨b7, 0, none⟩ (.pointer p)).heap[b8]? = some (.cells #[.slice none 0 0] 22 (0, 0)) from blk_far B8.out (Ne.symm HN.out) _); have hx8s : (w8.setCell ⟨b7, 0, none⟩ (.pointer p)).cell? ⟨b8, 0, none⟩ = some (.slice none 0 0) := bc0 B8s.out; have hf8s := blk_frozen B8s.out 0))
 go_ret2
 exact ⟨rfl, below_set (below_set H8.out HL7.out) HL8.out⟩
structure ZM (D : FD) (P M : Int) (Mod : List Int) (w0 w : World) (g : Nat) (γ : GF D) (b2 b7 b8 N0 : Nat) (Ai : Option Addr) (ci : Nat) (im : List Int) (cs2 : Array Value) (W : World) : Prop where
 F : Fs D P M Mod w0 W g γ
 h7 : W.heap[b7]? = some (.cells #[.pointer (some ⟨g, 0, none⟩)] 63 (0, 0))
 h8 : W.heap[b8]? = some (.cells #[.slice Ai im.length ci] 22 (0, 0))
 h2 : W.heap[b2]? = some (.cells cs2 49 (0, 0))
 I : Kd.F (Kd.int .i64) W (fun k => k ≠ g ∧ k < N0) Ai im.length im
 B : Below w.heap.size w W
 lg : w.heap.size ≤ g
 lw : w0.heap.size ≤ N0
 lN : g < N0 ∧ N0 ≤ W.heap.size
variable {b7 b8 b13 N0 ci : Nat} {Ai : Option Addr} {im : List Int} {cs2 : Array Value} {x : Int}
theorem ZM.below (h : ZM D P M Mod w0 w g γ b2 b7 b8 N0 Ai ci im cs2 W) (hb : Below W.heap.size W W1) : ZM D P M Mod w0 w g γ b2 b7 b8 N0 Ai ci im cs2 W1 :=
 ⟨h.F.below hb, blk_below h.h7 hb, blk_below h.h8 hb, blk_below h.h2 hb, Kd.F_below h.I hb, below_step h.B hb, h.lg, h.lw, h.lN.1, Nat.le_trans h.lN.2 hb.size⟩
theorem ZM.step (h : ZM D P M Mod w0 w g γ b2 b7 b8 N0 Ai ci im cs2 W) (hF : Fs D P M Mod w0 W1 g γ) (hk : Kept W W1 (fun b => b = g)) : ZM D P M Mod w0 w g γ b2 b7 b8 N0 Ai ci im cs2 W1 := by
 obtain ⟨cs, hb⟩ := h.F.blk
 exact ⟨hF, blk_kept h.h7 hk (blk_ne h.h7 hb (by decide)), blk_kept h.h8 hk (blk_ne h.h8 hb (by decide)), blk_kept h.h2 hk (blk_ne h.h2 hb (by decide)), Kd.F_kept h.I hk (fun k hk2 e => hk2.1 e), below_fs h.F hF hk h.B h.lg, h.lg, h.lw, h.lN.1, Nat.le_trans h.lN.2 hk.1⟩
theorem ZM.own (h : ZM D P M Mod w0 w g γ b2 b7 b8 N0 Ai ci im cs2 W) {T : Nat → Prop} (hk : Kept W W1 T) (hB : Below w.heap.size w W1) (hB0 : Below w0.heap.size w0 W1) (ht : ∀ b, T b → N0 ≤ b ∧ ∃ cs, W.heap[b]? = some (.cells cs 3 (0, 0))) : ZM D P M Mod w0 w g γ b2 b7 b8 N0 Ai ci im cs2 W1 := by
 have hne : ∀ {b cs t}, W.heap[b]? = some (.cells cs t (0, 0)) → t ≠ 3 → ¬ T b := fun hb ht3 e => by
  obtain ⟨_, cs, hc⟩ := ht _ e
  exact blk_ne hc hb (Ne.symm ht3) rfl
 obtain ⟨cs, hgb⟩ := h.F.blk
 exact ⟨h.F.kept hk (hne hgb (by decide)) hB0, blk_kept h.h7 hk (hne h.h7 (by decide)), blk_kept h.h8 hk (hne h.h8 (by decide)), blk_kept h.h2 hk (hne h.h2 (by decide)), Kd.F_kept h.I hk (fun k hk2 e => by have := (ht k e).1; have := hk2.2; omega), hB, h.lg, h.lw, h.lN.1, Nat.le_trans h.lN.2 hk.1⟩
theorem ZM.put (h : ZM D P M Mod w0 w g γ b2 b7 b8 N0 Ai ci im cs2 W) {b : Nat} {v : Value} {cs : Array Value} (hb : W.heap[b]? = some (.cells cs 3 (0, 0))) (hlo : N0 ≤ b) : ZM D P M Mod w0 w g γ b2 b7 b8 N0 Ai ci im cs2 (W.setCell ⟨b, 0, none⟩ v) :=
 h.own (T := fun k => k = b) ((Kept.refl W (fun k => k = b)).setCell (p := ⟨b, 0, none⟩) (.inl rfl) v) (below_set h.B (Nat.le_trans h.lg (Nat.le_trans (Nat.le_of_lt h.lN.1) hlo))) (below_set h.F.B (Nat.le_trans h.lw hlo)) (fun k e => by have e2 : k = b := e; subst e2; exact ⟨hlo, cs, hb⟩)
theorem ZM.start {w5 w8 : World} (hF : Fs D P M Mod w0 w5 g γ) (h2 : w5.heap[b2]? = some (.cells cs2 49 (0, 0))) (hI : Kd.F (Kd.int .i64) w5 (fun k => k ≠ g ∧ k < w5.heap.size) Ai im.length im) (hB : Below w.heap.size w w5) (hlg : w.heap.size ≤ g) (h58 : Below w5.heap.size w5 w8) (h7 : w8.heap[b7]? = some (.cells #[.pointer none] 63 (0, 0))) (h8 : w8.heap[b8]? = some (.cells #[.slice none 0 0] 22 (0, 0))) (l7 : w5.heap.size ≤ b7) (l8 : w5.heap.size ≤ b8) :
  ZM D P M Mod w0 w g γ b2 b7 b8 w8.heap.size Ai ci im cs2 ((w8.setCell ⟨b7, 0, none⟩ (.pointer (some ⟨g, 0, none⟩))).setCell ⟨b8, 0, none⟩ (.slice Ai im.length ci)) := by
 have hF8 := hF.below h58
 obtain ⟨cs, hg⟩ := hF8.blk
 have h28 := blk_below h2 h58
 have n78 := blk_ne h7 h8 (by decide)
 have n27 := blk_ne h28 h7 (by decide)
 have n28 := blk_ne h28 h8 (by decide)
 have n7g := blk_ne h7 hg (by decide)
 have n8g := blk_ne h8 hg (by decide)
 have hw := hF.B.size
 have hgl := hF8.I.lt
 have hsz := h58.size
 have a7 : (w8.setCell ⟨b7, 0, none⟩ (.pointer (some ⟨g, 0, none⟩))).heap[b7]? = some (.cells #[.pointer (some ⟨g, 0, none⟩)] 63 (0, 0)) := by simpa using blk_set h7 0 (.pointer (some ⟨g, 0, none⟩))
 have a8 : (w8.setCell ⟨b7, 0, none⟩ (.pointer (some ⟨g, 0, none⟩))).heap[b8]? = some (.cells #[.slice none 0 0] 22 (0, 0)) := blk_far h8 (Ne.symm n78) _
 have a2 : (w8.setCell ⟨b7, 0, none⟩ (.pointer (some ⟨g, 0, none⟩))).heap[b2]? = some (.cells cs2 49 (0, 0)) := blk_far h28 n27 _
 refine ⟨(hF8.store n7g (by omega) _).store n8g (by omega) _, blk_far a7 n78 _, by simpa using blk_set a8 0 (.slice Ai im.length ci), blk_far a2 n28 _, ?_, below_set (below_set (below_step hB h58) (Nat.le_trans hB.size l7)) (Nat.le_trans hB.size l8), hlg, by omega, hgl, by simp [World.setCell]⟩
 exact Kd.F_mono (Kd.F_far (p := ⟨b8, 0, none⟩) (Kd.F_far (p := ⟨b7, 0, none⟩) (Kd.F_below hI h58) (fun k hk e => by have e2 : k = b7 := e; omega) _) (fun k hk e => by have e2 : k = b8 := e; omega) _) (fun k hk => ⟨hk.1, by omega⟩)
theorem ZM.zst (h : ZM D P M Mod w0 w g γ b2 b7 b8 N0 Ai ci im cs2 W) (h13 : W.heap[b13]? = some (.cells #[.int .i64 x] 3 (0, 0))) : ZSt D P M Mod w0 w g γ b7 b8 b13 Ai ci im x W :=
 ⟨h.F, h.h7, h.h8, h13, Kd.F_mono h.I (fun k hk => hk.1), h.B, h.lg, Nat.le_trans h.lw h.lN.2⟩
theorem zeros_ok {N : Nat} (hSr : Kd.C (Kd.int .i64) w AS Mods.length Mods) (hcS : Mods.length ≤ cS) (hr : Kd.C (Kd.slice 3 (Kd.int .i64)) w A L.length L) (hL : L.length ≤ 1000000) (hrr : CodeAns P Ms Mods N L 0) (hS : FOk S P Ms Mods σ AS cS) (hF : FOk D P M Mod γ AM cM) (hMr : Kd.C (Kd.int .i64) w AM Mod.length Mod) (hn1 : 1 ≤ N) (hn2 : N ≤ 64) (hdv : Ms ∣ M) {β a : GF D} (hβ : Beta D Ms Mods β) (hR : RootSays P M N AM cM Mod a.1 0) (hf : Fits N (embL S D β) L) :
  Calls Try.prog 25 #[.agg #[.int .i64 P, .int .i64 Ms, .slice AS Mods.length cS, .int .i64 N, .slice A L.length c], .agg #[.int .i64 P, .int .i64 M, .slice AM Mod.length cM]] w fun e w' => ∃ v, e = .returned (.tuple #[v, .int .i64 0]) ∧ Kd.R (Kd.int .i64) 3 w' w.heap.size (fun _ => True) v (zerosL D (embL S D β) a N L N) ∧ Below w.heap.size w w' := by
 have HSR := Aside0.mk hSr
 have HCS := Aside0.mk hcS
 have HR := Aside0.mk hr
 have HLL := Aside0.mk hL
 have HRR := Aside0.mk hrr
 have HS := Aside0.mk hS
 have HF := Aside0.mk hF
 have HMR := Aside0.mk hMr
 have HN := Aside0.mk (And.intro hn1 hn2)
 have HDV := Aside0.mk hdv
 have HBT := Aside0.mk hβ
 have HRO := Aside0.mk hR
 have HFT := Aside0.mk hf
 have hu36 := Try.underlying36
 have hu49 := Try.underlying49
 clear hSr hcS hr hL hrr hS hF hMr hn1 hn2 hdv hβ hR hf
 generalize hzz : zerosL D (embL S D β) a N L N = ZZ
 have HZZ := Aside0.mk hzz
 have HIL := Aside0.mk (embL_len (S := S) (D := D) β)
 clear hzz
 generalize hig : embL S D β = im at HFT HZZ HIL
 have HIG := Aside0.mk hig
 clear hig
 go_enter Try.func25, Try.ntmps25
 go_wp2_with (first
  | (refine bx 2 #[.int .i64 P, .int .i64 Ms, .slice AS Mods.length cS, .int .i64 (N : Int), .slice A L.length c] 49 ?_; intro b2 hb2 w2 hbox hb; have H2 := Aside0.mk hb; have B2 := Aside0.mk hbox; clear hbox hb hb2)
  | (refine bx 3 #[.int .i64 P, .int .i64 M, .slice AM Mod.length cM] 36 ?_; intro b3 hb3 w3 hbox hb; have HB := Aside0.mk (show BxC w w3 b2 b3 P Ms AS Mods.length cS N A L.length c P M AM Mod.length cM from ⟨blk_below B2.out hb, hbox, below_step H2.out hb⟩); clear hbox hb hb3 H2 B2; obtain ⟨hc0, hc1, hc2, hc3, hc4⟩ := HB.out.c2)
  | (go_at_call 51; refine (codeCheck_in (Kd.C_below HSR.out HB.out.B) HCS.out A c N L (Kd.C_below HR.out HB.out.B) HRR.out).mono ?_; rintro e w4 ⟨rfl, hb⟩; have HB4 := Aside0.mk (HB.out.below hb); clear hb hc0 hc1 hc2 hc3 hc4; obtain ⟨hc0, hc1, hc2, hc3, hc4⟩ := HB4.out.c2; obtain ⟨he0, he1, he2⟩ := HB4.out.c3)
  | (go_at_call 52; refine (ext_ok HS.out (Kd.C_below HSR.out HB4.out.B) HF.out (Kd.C_below HMR.out HB4.out.B) (by have := HN.out.1; omega) (by have := HN.out.2; omega) HDV.out HBT.out HRO.out).mono ?_; rintro e w5 ⟨g, w0, v, rfl, hf, hw, hg, hv, hb⟩; rw [HIG.out] at hv; obtain ⟨Ai, ci, rfl⟩ := Kd.R_slice hv; have HB5 := Aside0.mk (HB4.out.below hb); have HF5 := Aside0.mk hf; have HV5 := Aside0.mk (hf.neOwn hv); have HW5 := Aside0.mk (And.intro (Nat.le_trans (Nat.le_trans HB4.out.B.size hw) hg) (And.intro hf.B.size hf.I.lt)); clear hf hw hg hv hb hc0 hc1 hc2 hc3 hc4 he0 he1 he2)
  | (refine bx 7 #[.pointer none] 63 ?_; intro b7 hb7 w7 hbox hb; have B7 := Aside0.mk hbox; have H7 := Aside0.mk hb; obtain ⟨hx7, hf7⟩ := bq1 B7.out; have HL7 := Aside0.mk (show w5.heap.size ≤ b7 by rw [hb7]; exact Nat.le_refl _); clear hbox hb hb7)
  | (refine bx 8 #[.slice none 0 0] 22 ?_; intro b8 hb8 w8 hbox hb; have B8 := Aside0.mk hbox; have H8 := Aside0.mk (below_step H7.out hb); obtain ⟨hx8, hf8⟩ := bq1 B8.out; have HL8 := Aside0.mk (show w5.heap.size ≤ b8 by rw [hb8]; exact below_size H7.out); have B78 := Aside0.mk (blk_below B7.out hb); have hx7' : w8.cell? ⟨b7, 0, none⟩ = some (.pointer none) := bc0 B78.out; have hf7' := blk_frozen B78.out 0; have HNE := Aside0.mk (show b7 ≠ b8 from Nat.ne_of_lt (by rw [hb8]; exact blk_lt B7.out)); clear hbox hb hb8 hx7 hf7; have B8s := Aside0.mk (show (w8.setCell ⟨b7, 0, none⟩ (.pointer (some ⟨g, 0, none⟩))).heap[b8]? = some (.cells #[.slice none 0 0] 22 (0, 0)) from blk_far B8.out (Ne.symm HNE.out) _); have hx8s : (w8.setCell ⟨b7, 0, none⟩ (.pointer (some ⟨g, 0, none⟩))).cell? ⟨b8, 0, none⟩ = some (.slice none 0 0) := bc0 B8s.out; have hf8s := blk_frozen B8s.out 0; have HZ0 := Aside0.mk (ZM.start (ci := ci) HF5.out HB5.out.h2 (Kd.F_mono (F_of_R (Kd.R_bound HV5.out)) (fun k hk => (And.intro hk.1.2 hk.2.2.1 : k ≠ g ∧ k < w5.heap.size))) HB5.out.B HW5.out.1 H8.out B78.out B8.out HL7.out HL8.out); have hcn : ((w8.setCell ⟨b7, 0, none⟩ (.pointer (some ⟨g, 0, none⟩))).setCell ⟨b8, 0, none⟩ (.slice Ai im.length ci)).cell? ⟨b2, 3, none⟩ = some (.int .i64 (N : Int)) := bc3 HZ0.out.h2))
 clear hcn hx8 hf8 hx7' hf7' hx8s hf8s
 go_loopg [11, 36] (N + 1) (fun kq v11 v36 w' => ∃ i : Nat, v36 = .int .i64 (i : Int) ∧ Aside0 (i ≤ N ∧ i + kq = N + 1) ∧ Aside0 (ZM D P M Mod w0 w g γ b2 b7 b8 w8.heap.size Ai ci im #[.int .i64 P, .int .i64 Ms, .slice AS Mods.length cS, .int .i64 (N : Int), .slice A L.length c] w') ∧ Aside0 (Kd.R (Kd.int .i64) 3 w' w.heap.size (fun k => w8.heap.size ≤ k) v11 (zerosL D im a N L i)))
 case atStart => exact ⟨0, rfl, ⟨by omega, by omega⟩, HZ0, ⟨Kd.R_nil _ _ _ _ _⟩⟩
 case round =>
  clear HZ0
  obtain ⟨i, rfl, HJ, HZ, HO⟩ := hrel
  cases gk with
  | zero => exact absurd HJ.out (by omega)
  | succ k1 =>
   by_cases hi : i < N
   ·have c1 : decide ((i : Int) < (N : Int)) = true := decide_eq_true (by omega)
    have hwn : wrap64 ((i : Int) + 1) = ((i + 1 : Nat) : Int) := by have := HN.out; rw [w64] <;> omega
    have hx7 := bc0 HZ.out.h7
    have HI := Aside0.mk hi
    have HWN := Aside0.mk hwn
    clear hwn
    rcases Bool.eq_false_or_eq_true (allZ D im a N L i) with hz | hz
    all_goals
     have HZZ2 := Aside0.mk hz
     have hsu := zerosL_succ (D := D) im a N L i
     rw [hz] at hsu
     have HSU := Aside0.mk hsu
     clear hz hsu
    ·go_wp2_with (first
      | (go_at_call 53; refine (HZ.out.F.pow a.1 i (by have := HN.out; have := HJ.out; omega)).mono ?_; rintro e w6 ⟨rfl, hf, hk⟩; rw [inn_self]; have HZ6 := Aside0.mk (HZ.out.step hf (kept_but hk)); have HO6 := Aside0.mk (Kd.R_bound (Kd.R_kept HO.out (kept_but hk) (fun k hk2 e => by have e2 : k = g := e; have := HZ.out.lN.1; omega))); clear hf hk hx7)
      | (refine bx 13 #[.int .i64 0] 3 ?_; intro b13 hb13 w13 hbox hb; have HL13 := Aside0.mk (show w8.heap.size ≤ b13 by rw [hb13]; exact HZ6.out.lN.2); have HE13 := Aside0.mk hb13; have HZ7 := Aside0.mk ((HZ6.out.below hb).put (v := .int .i64 (Alg.pow a i).1) hbox HL13.out); have H13 := Aside0.mk (show (w13.setCell ⟨b13, 0, none⟩ (.int .i64 (Alg.pow a i).1)).heap[b13]? = some (.cells #[.int .i64 (Alg.pow a i).1] 3 (0, 0)) by simpa using blk_set hbox 0 (.int .i64 (Alg.pow a i).1)); have HO7 := Aside0.mk (Kd.R_mono (ok' := fun k => w8.heap.size ≤ k) (Kd.R_far (p := ⟨b13, 0, none⟩) (Kd.R_below HO6.out hb) (fun k hk e => by have e2 : k = b13 := e; have := hk.2.2.1; omega) (.int .i64 (Alg.pow a i).1)) (fun k hk => hk.1)); obtain ⟨hx13, hf13⟩ := bq1 hbox; have hc4 : (w13.setCell ⟨b13, 0, none⟩ (.int .i64 (Alg.pow a i).1)).cell? ⟨b2, 4, none⟩ = some (.slice A L.length c) := bc4 HZ7.out.h2; clear hbox hb hb13 HO6)
      | (go_at_call 54; refine (zcontains_in (c := c) (a := a) (HZ7.out.zst H13.out) HR.out HLL.out HN.out.1 (by have := HN.out.2; omega) HFT.out).mono ?_; rintro e w14 ⟨rfl, hz, hk⟩; rw [HZZ2.out]; have HZ8 := Aside0.mk (HZ7.out.step hz.F hk); have HO8 := Aside0.mk (Kd.R_kept HO7.out hk (fun k hk2 e => by have e2 : k = g := e; have := HZ7.out.lN.1; omega)); clear hz hk hx13 hf13 hc4)
      | ((with_reducible refine gate_builtin (b := .append) (xs := #[.tmp 51, .tmp 53]) rfl ?_); at_builtin; go_loud (refine Kd.R_append (Kd.int .i64) (w0 := w14) w.heap.size rfl (.tmp 51) (.tmp 53) 22 3 (.int .i64 0) 8 rfl Try.underlying22 info3 rfl (by decide) (by omega) u11 (zerosL D im a N L i) (i : Int) [.int .i64 (i : Int)] (fun k => w8.heap.size ≤ k) (fun _ => False) rfl rfl rfl (fun _ hk => hk.elim) (fun k hk => Nat.le_trans HZ8.out.lN.2 hk) HO8.out ((Below.refl w14.heap.size w14).mono HZ8.out.B.size) HZ8.out.B.size (by have := zerosL_len (D := D) im a N L i; have := HN.out; have := HI.out; omega) ?_); intro v9 w9 ho hb hg _; have HO9 := Aside0.mk ho; have HZ9 := Aside0.mk (HZ8.out.own (T := fun k => u11.ownBlock = some k) (Kept.of_grown hg (Kept.refl w14 _) (fun k e => .inl e)) (HZ8.out.B.grown hg HZ8.out.B.size (fun k e => Nat.le_trans (Nat.le_trans HZ8.out.lg (Nat.le_of_lt HZ8.out.lN.1)) (HO8.out.1 k e))) (HZ8.out.F.B.grown hg HZ8.out.F.B.size (fun k e => Nat.le_trans HZ8.out.lw (HO8.out.1 k e))) (fun k e => ⟨HO8.out.1 k e, (own3 HO8.out k e).2.2⟩)); clear ho hb hg))
     have hwn := HWN.out
     go_roundg k1
     case measure => omega
     case rel => exact ⟨i + 1, rY, ⟨by have := HJ.out; have := HI.out; omega⟩, HZ9, ⟨by rw [HSU.out]; exact HO9.out⟩⟩
    ·go_wp2_with (first
      | (go_at_call 53; refine (HZ.out.F.pow a.1 i (by have := HN.out; have := HJ.out; omega)).mono ?_; rintro e w6 ⟨rfl, hf, hk⟩; rw [inn_self]; have HZ6 := Aside0.mk (HZ.out.step hf (kept_but hk)); have HO6 := Aside0.mk (Kd.R_bound (Kd.R_kept HO.out (kept_but hk) (fun k hk2 e => by have e2 : k = g := e; have := HZ.out.lN.1; omega))); clear hf hk hx7)
      | (refine bx 13 #[.int .i64 0] 3 ?_; intro b13 hb13 w13 hbox hb; have HL13 := Aside0.mk (show w8.heap.size ≤ b13 by rw [hb13]; exact HZ6.out.lN.2); have HE13 := Aside0.mk hb13; have HZ7 := Aside0.mk ((HZ6.out.below hb).put (v := .int .i64 (Alg.pow a i).1) hbox HL13.out); have H13 := Aside0.mk (show (w13.setCell ⟨b13, 0, none⟩ (.int .i64 (Alg.pow a i).1)).heap[b13]? = some (.cells #[.int .i64 (Alg.pow a i).1] 3 (0, 0)) by simpa using blk_set hbox 0 (.int .i64 (Alg.pow a i).1)); have HO7 := Aside0.mk (Kd.R_mono (ok' := fun k => w8.heap.size ≤ k) (Kd.R_far (p := ⟨b13, 0, none⟩) (Kd.R_below HO6.out hb) (fun k hk e => by have e2 : k = b13 := e; have := hk.2.2.1; omega) (.int .i64 (Alg.pow a i).1)) (fun k hk => hk.1)); obtain ⟨hx13, hf13⟩ := bq1 hbox; have hc4 : (w13.setCell ⟨b13, 0, none⟩ (.int .i64 (Alg.pow a i).1)).cell? ⟨b2, 4, none⟩ = some (.slice A L.length c) := bc4 HZ7.out.h2; clear hbox hb hb13 HO6)
      | (go_at_call 54; refine (zcontains_in (c := c) (a := a) (HZ7.out.zst H13.out) HR.out HLL.out HN.out.1 (by have := HN.out.2; omega) HFT.out).mono ?_; rintro e w14 ⟨rfl, hz, hk⟩; rw [HZZ2.out]; have HZ8 := Aside0.mk (HZ7.out.step hz.F hk); have HO8 := Aside0.mk (Kd.R_kept HO7.out hk (fun k hk2 e => by have e2 : k = g := e; have := HZ7.out.lN.1; omega)); clear hz hk hx13 hf13 hc4))
     have hwn := HWN.out
     go_roundg k1
     case measure => omega
     case rel => exact ⟨i + 1, rY, ⟨by have := HJ.out; have := HI.out; omega⟩, HZ8, ⟨by rw [HSU.out]; exact HO8.out⟩⟩
   ·have c1 : decide ((i : Int) < (N : Int)) = false := decide_eq_false (by omega)
    obtain rfl : i = N := by have := HJ.out; omega
    rw [HZZ.out] at HO
    go_wp2
    go_ret2
    exact ⟨_, rfl, Kd.R_mono HO.out (fun _ _ => trivial), HZ.out.B⟩
end
section
variable {S D : FD} {Ps Ms P M : Int} {Mods Mod : List Int} {w w1 : World} {AS AM A : Option Addr} {cS cM c : Nat} {n : Int} {L : List (List Int)}
def zans (r1 r4 : Int) (b : Bool) (ρ : Int) : Int := if r1 ≠ 0 then r1 else if r4 ≠ 0 then 1 else if b = false then 10 else if ρ = 0 then 11 else 0
theorem zargs_in (hSr : Kd.C (Kd.int .i64) w AS Mods.length Mods) (hcS : Mods.length ≤ cS) (hr : Kd.C (Kd.slice 3 (Kd.int .i64)) w A L.length L) (hc : L.length ≤ c) (hMr : Kd.C (Kd.int .i64) w AM Mod.length Mod) (hcM : Mod.length ≤ cM) {r1 r4 : Int} {b : Bool} {ρ : Int} {k : Nat} (h1 : CodeAns Ps Ms Mods n L r1)
  (h4 : r1 = 0 → r4_Check.f k P M Mod = some r4) (hb : r1 = 0 → r4 = 0 → r17_Over.f Ps Ms Mods P M Mod = some b) (hρ : r1 = 0 → r4 = 0 → b = true → r17_Root.f k P M Mod n = some ρ) :
  Calls Try.prog 24 #[.agg #[.int .i64 Ps, .int .i64 Ms, .slice AS Mods.length cS, .int .i64 n, .slice A L.length c], .agg #[.int .i64 P, .int .i64 M, .slice AM Mod.length cM]] w fun e w' => e = .returned (.int .i64 (zans r1 r4 b ρ)) ∧ Below w.heap.size w w' := by
 have HSR := Aside0.mk hSr
 have HCS := Aside0.mk hcS
 have HR := Aside0.mk hr
 have HCC := Aside0.mk hc
 have HMR := Aside0.mk hMr
 have HCM := Aside0.mk hcM
 have HA := Aside0.mk h1
 have H4 := Aside0.mk h4
 have HO := Aside0.mk hb
 have HP := Aside0.mk hρ
 have hu36 := Try.underlying36
 have hu49 := Try.underlying49
 have hcs : ∃ d1 d4 d5 : Bool, Aside0 ((r1 != 0) = d1) ∧ Aside0 ((r4 != 0) = d4) ∧ Aside0 ((ρ == 0) = d5) ∧ Aside0 (zans r1 r4 b ρ = if d1 then r1 else if d4 then 1 else if b = false then 10 else if d5 then 11 else 0) := by
  refine ⟨_, _, _, ⟨rfl⟩, ⟨rfl⟩, ⟨rfl⟩, ⟨?_⟩⟩
  unfold zans
  simp only [bne_iff_ne, beq_iff_eq]
 clear hSr hcS hr hc hMr hcM h1 h4 hb hρ
 obtain ⟨d1, d4, d5, E1, E4, E5, EZ⟩ := hcs
 rw [EZ.out]
 cases d1
 case true =>
  have e1 := E1.out
  rw [if_pos rfl]
  go_enter Try.func24, Try.ntmps24
  go_wp2_with (first
   | (refine bx 2 #[.int .i64 Ps, .int .i64 Ms, .slice AS Mods.length cS, .int .i64 n, .slice A L.length c] 49 ?_; intro b2 hb2 w2 hbox hb; have H2 := Aside0.mk hb; have B2 := Aside0.mk hbox; clear hbox hb hb2)
   | (refine bx 3 #[.int .i64 P, .int .i64 M, .slice AM Mod.length cM] 36 ?_; intro b3 hb3 w3 hbox hb; have HB := Aside0.mk (show BxC w w3 b2 b3 Ps Ms AS Mods.length cS n A L.length c P M AM Mod.length cM from ⟨blk_below B2.out hb, hbox, below_step H2.out hb⟩); clear hbox hb hb3 H2 B2; obtain ⟨hc0, hc1, hc2, hc3, hc4⟩ := HB.out.c2)
   | (go_at_call 49; refine (rcode_in (Kd.C_below HSR.out HB.out.B) HCS.out A c n L (Kd.C_below HR.out HB.out.B) HCC.out HA.out).mono ?_; rintro e w4 ⟨rfl, hb⟩; have HB4 := Aside0.mk (HB.out.below hb); clear hb hc0 hc1 hc2 hc3 hc4; obtain ⟨hc0, hc1, hc2, hc3, hc4⟩ := HB4.out.c2; obtain ⟨he0, he1, he2⟩ := HB4.out.c3))
  go_ret
  exact ⟨rfl, HB4.out.B⟩
 have hr1 : r1 = 0 := by simpa using E1.out
 subst hr1
 replace H4 := Aside0.mk (H4.out rfl)
 replace HO := Aside0.mk (HO.out rfl)
 replace HP := Aside0.mk (HP.out rfl)
 rw [if_neg (by simp)]
 cases d4
 case true =>
  have e4 := E4.out
  rw [if_pos rfl]
  go_enter Try.func24, Try.ntmps24
  go_wp2_with (first
   | (refine bx 2 #[.int .i64 Ps, .int .i64 Ms, .slice AS Mods.length cS, .int .i64 n, .slice A L.length c] 49 ?_; intro b2 hb2 w2 hbox hb; have H2 := Aside0.mk hb; have B2 := Aside0.mk hbox; clear hbox hb hb2)
   | (refine bx 3 #[.int .i64 P, .int .i64 M, .slice AM Mod.length cM] 36 ?_; intro b3 hb3 w3 hbox hb; have HB := Aside0.mk (show BxC w w3 b2 b3 Ps Ms AS Mods.length cS n A L.length c P M AM Mod.length cM from ⟨blk_below B2.out hb, hbox, below_step H2.out hb⟩); clear hbox hb hb3 H2 B2; obtain ⟨hc0, hc1, hc2, hc3, hc4⟩ := HB.out.c2)
   | (go_at_call 49; refine (rcode_in (Kd.C_below HSR.out HB.out.B) HCS.out A c n L (Kd.C_below HR.out HB.out.B) HCC.out HA.out).mono ?_; rintro e w4 ⟨rfl, hb⟩; have HB4 := Aside0.mk (HB.out.below hb); clear hb hc0 hc1 hc2 hc3 hc4; obtain ⟨hc0, hc1, hc2, hc3, hc4⟩ := HB4.out.c2; obtain ⟨he0, he1, he2⟩ := HB4.out.c3)
   | (go_at_call 40; refine (r4_Check.calls k P M AM cM Mod _ _ (Kd.C_below HMR.out HB4.out.B) HCM.out H4.out).mono ?_; rintro e w5 ⟨rfl, hb⟩; have HB5 := Aside0.mk (HB4.out.below hb); clear hb hc0 hc1 hc2 hc3 hc4 he0 he1 he2; obtain ⟨hc0, hc1, hc2, hc3, hc4⟩ := HB5.out.c2; obtain ⟨he0, he1, he2⟩ := HB5.out.c3))
  go_ret
  exact ⟨rfl, HB5.out.B⟩
 have hr4 : r4 = 0 := by simpa using E4.out
 subst hr4
 replace HO := Aside0.mk (HO.out rfl)
 replace HP := Aside0.mk (HP.out rfl)
 rw [if_neg (by simp)]
 cases b
 case false =>
  rw [if_pos rfl]
  go_enter Try.func24, Try.ntmps24
  go_wp2_with (first
   | (refine bx 2 #[.int .i64 Ps, .int .i64 Ms, .slice AS Mods.length cS, .int .i64 n, .slice A L.length c] 49 ?_; intro b2 hb2 w2 hbox hb; have H2 := Aside0.mk hb; have B2 := Aside0.mk hbox; clear hbox hb hb2)
   | (refine bx 3 #[.int .i64 P, .int .i64 M, .slice AM Mod.length cM] 36 ?_; intro b3 hb3 w3 hbox hb; have HB := Aside0.mk (show BxC w w3 b2 b3 Ps Ms AS Mods.length cS n A L.length c P M AM Mod.length cM from ⟨blk_below B2.out hb, hbox, below_step H2.out hb⟩); clear hbox hb hb3 H2 B2; obtain ⟨hc0, hc1, hc2, hc3, hc4⟩ := HB.out.c2)
   | (go_at_call 49; refine (rcode_in (Kd.C_below HSR.out HB.out.B) HCS.out A c n L (Kd.C_below HR.out HB.out.B) HCC.out HA.out).mono ?_; rintro e w4 ⟨rfl, hb⟩; have HB4 := Aside0.mk (HB.out.below hb); clear hb hc0 hc1 hc2 hc3 hc4; obtain ⟨hc0, hc1, hc2, hc3, hc4⟩ := HB4.out.c2; obtain ⟨he0, he1, he2⟩ := HB4.out.c3)
   | (go_at_call 40; refine (r4_Check.calls k P M AM cM Mod _ _ (Kd.C_below HMR.out HB4.out.B) HCM.out H4.out).mono ?_; rintro e w5 ⟨rfl, hb⟩; have HB5 := Aside0.mk (HB4.out.below hb); clear hb hc0 hc1 hc2 hc3 hc4 he0 he1 he2; obtain ⟨hc0, hc1, hc2, hc3, hc4⟩ := HB5.out.c2; obtain ⟨he0, he1, he2⟩ := HB5.out.c3)
   | (go_at_call 50; refine (r17_Over.calls Ps Ms AS cS Mods P M AM cM Mod _ _ (Kd.C_below HSR.out HB5.out.B) HCS.out (Kd.C_below HMR.out HB5.out.B) HCM.out HO.out).mono ?_; rintro e w6 ⟨rfl, hb⟩; have HB6 := Aside0.mk (HB5.out.below hb); clear hb hc0 hc1 hc2 hc3 hc4 he0 he1 he2; obtain ⟨hc0, hc1, hc2, hc3, hc4⟩ := HB6.out.c2; obtain ⟨he0, he1, he2⟩ := HB6.out.c3))
  go_ret
  exact ⟨rfl, HB6.out.B⟩
 rw [if_neg (by simp)]
 replace HP := Aside0.mk (HP.out rfl)
 cases d5
 case true =>
  have e5 := E5.out
  rw [if_pos rfl]
  go_enter Try.func24, Try.ntmps24
  go_wp2_with (first
   | (refine bx 2 #[.int .i64 Ps, .int .i64 Ms, .slice AS Mods.length cS, .int .i64 n, .slice A L.length c] 49 ?_; intro b2 hb2 w2 hbox hb; have H2 := Aside0.mk hb; have B2 := Aside0.mk hbox; clear hbox hb hb2)
   | (refine bx 3 #[.int .i64 P, .int .i64 M, .slice AM Mod.length cM] 36 ?_; intro b3 hb3 w3 hbox hb; have HB := Aside0.mk (show BxC w w3 b2 b3 Ps Ms AS Mods.length cS n A L.length c P M AM Mod.length cM from ⟨blk_below B2.out hb, hbox, below_step H2.out hb⟩); clear hbox hb hb3 H2 B2; obtain ⟨hc0, hc1, hc2, hc3, hc4⟩ := HB.out.c2)
   | (go_at_call 49; refine (rcode_in (Kd.C_below HSR.out HB.out.B) HCS.out A c n L (Kd.C_below HR.out HB.out.B) HCC.out HA.out).mono ?_; rintro e w4 ⟨rfl, hb⟩; have HB4 := Aside0.mk (HB.out.below hb); clear hb hc0 hc1 hc2 hc3 hc4; obtain ⟨hc0, hc1, hc2, hc3, hc4⟩ := HB4.out.c2; obtain ⟨he0, he1, he2⟩ := HB4.out.c3)
   | (go_at_call 40; refine (r4_Check.calls k P M AM cM Mod _ _ (Kd.C_below HMR.out HB4.out.B) HCM.out H4.out).mono ?_; rintro e w5 ⟨rfl, hb⟩; have HB5 := Aside0.mk (HB4.out.below hb); clear hb hc0 hc1 hc2 hc3 hc4 he0 he1 he2; obtain ⟨hc0, hc1, hc2, hc3, hc4⟩ := HB5.out.c2; obtain ⟨he0, he1, he2⟩ := HB5.out.c3)
   | (go_at_call 50; refine (r17_Over.calls Ps Ms AS cS Mods P M AM cM Mod _ _ (Kd.C_below HSR.out HB5.out.B) HCS.out (Kd.C_below HMR.out HB5.out.B) HCM.out HO.out).mono ?_; rintro e w6 ⟨rfl, hb⟩; have HB6 := Aside0.mk (HB5.out.below hb); clear hb hc0 hc1 hc2 hc3 hc4 he0 he1 he2; obtain ⟨hc0, hc1, hc2, hc3, hc4⟩ := HB6.out.c2; obtain ⟨he0, he1, he2⟩ := HB6.out.c3)
   | (go_at_call 18; refine (r17_Root.calls k P M AM cM Mod n ρ _ (Kd.C_below HMR.out HB6.out.B) HCM.out HP.out).mono ?_; rintro e w7 ⟨rfl, hb⟩; have HB7 := Aside0.mk (HB6.out.below hb); clear hb hc0 hc1 hc2 hc3 hc4 he0 he1 he2))
  go_ret
  exact ⟨rfl, HB7.out.B⟩
 case false =>
  have e5 := E5.out
  rw [if_neg (by simp)]
  go_enter Try.func24, Try.ntmps24
  go_wp2_with (first
   | (refine bx 2 #[.int .i64 Ps, .int .i64 Ms, .slice AS Mods.length cS, .int .i64 n, .slice A L.length c] 49 ?_; intro b2 hb2 w2 hbox hb; have H2 := Aside0.mk hb; have B2 := Aside0.mk hbox; clear hbox hb hb2)
   | (refine bx 3 #[.int .i64 P, .int .i64 M, .slice AM Mod.length cM] 36 ?_; intro b3 hb3 w3 hbox hb; have HB := Aside0.mk (show BxC w w3 b2 b3 Ps Ms AS Mods.length cS n A L.length c P M AM Mod.length cM from ⟨blk_below B2.out hb, hbox, below_step H2.out hb⟩); clear hbox hb hb3 H2 B2; obtain ⟨hc0, hc1, hc2, hc3, hc4⟩ := HB.out.c2)
   | (go_at_call 49; refine (rcode_in (Kd.C_below HSR.out HB.out.B) HCS.out A c n L (Kd.C_below HR.out HB.out.B) HCC.out HA.out).mono ?_; rintro e w4 ⟨rfl, hb⟩; have HB4 := Aside0.mk (HB.out.below hb); clear hb hc0 hc1 hc2 hc3 hc4; obtain ⟨hc0, hc1, hc2, hc3, hc4⟩ := HB4.out.c2; obtain ⟨he0, he1, he2⟩ := HB4.out.c3)
   | (go_at_call 40; refine (r4_Check.calls k P M AM cM Mod _ _ (Kd.C_below HMR.out HB4.out.B) HCM.out H4.out).mono ?_; rintro e w5 ⟨rfl, hb⟩; have HB5 := Aside0.mk (HB4.out.below hb); clear hb hc0 hc1 hc2 hc3 hc4 he0 he1 he2; obtain ⟨hc0, hc1, hc2, hc3, hc4⟩ := HB5.out.c2; obtain ⟨he0, he1, he2⟩ := HB5.out.c3)
   | (go_at_call 50; refine (r17_Over.calls Ps Ms AS cS Mods P M AM cM Mod _ _ (Kd.C_below HSR.out HB5.out.B) HCS.out (Kd.C_below HMR.out HB5.out.B) HCM.out HO.out).mono ?_; rintro e w6 ⟨rfl, hb⟩; have HB6 := Aside0.mk (HB5.out.below hb); clear hb hc0 hc1 hc2 hc3 hc4 he0 he1 he2; obtain ⟨hc0, hc1, hc2, hc3, hc4⟩ := HB6.out.c2; obtain ⟨he0, he1, he2⟩ := HB6.out.c3)
   | (go_at_call 18; refine (r17_Root.calls k P M AM cM Mod n ρ _ (Kd.C_below HMR.out HB6.out.B) HCM.out HP.out).mono ?_; rintro e w7 ⟨rfl, hb⟩; have HB7 := Aside0.mk (HB6.out.below hb); clear hb hc0 hc1 hc2 hc3 hc4 he0 he1 he2))
  go_ret
  exact ⟨rfl, HB7.out.B⟩
end
section
variable {S D : FD} {Ps Ms P M : Int} {Mods Mod : List Int} {w w1 : World} {AS AM A : Option Addr} {cS cM c : Nat} {n : Int} {L : List (List Int)}
theorem lz_few (hSr : Kd.C (Kd.int .i64) w AS Mods.length Mods) (hcS : Mods.length ≤ cS) (hr : Kd.C (Kd.slice 3 (Kd.int .i64)) w A L.length L) (hc : L.length ≤ c) (hMr : Kd.C (Kd.int .i64) w AM Mod.length Mod) (hcM : Mod.length ≤ cM) {k : Nat} (hfew : l17_few.f k Ps Ms Mods n L = some false) :
  Calls Try.prog 8 #[.agg #[.int .i64 Ps, .int .i64 Ms, .slice AS Mods.length cS, .int .i64 n, .slice A L.length c], .agg #[.int .i64 P, .int .i64 M, .slice AM Mod.length cM]] w fun e w' => e = .returned (.bool true) ∧ Below w.heap.size w w' := by
 have HSR := Aside0.mk hSr
 have HCS := Aside0.mk hcS
 have HR := Aside0.mk hr
 have HCC := Aside0.mk hc
 have HMR := Aside0.mk hMr
 have HCM := Aside0.mk hcM
 have HFW := Aside0.mk hfew
 have hu36 := Try.underlying36
 have hu49 := Try.underlying49
 have hcn : (decide (n > 31) = true ∧ decide (31 < n) = true) ∨ (decide (n > 31) = false ∧ decide (31 < n) = false) := by
  by_cases h : n > 31
  ·exact .inl ⟨decide_eq_true h, decide_eq_true h⟩
  ·exact .inr ⟨decide_eq_false h, decide_eq_false h⟩
 clear hSr hcS hr hc hMr hcM hfew
 rcases hcn with ⟨n1, n2⟩ | ⟨n1, n2⟩
 all_goals
  go_enter Try.func8, Try.ntmps8
  go_wp2_with (first
   | (refine bx 2 #[.int .i64 Ps, .int .i64 Ms, .slice AS Mods.length cS, .int .i64 n, .slice A L.length c] 49 ?_; intro b2 hb2 w2 hbox hb; have H2 := Aside0.mk hb; have B2 := Aside0.mk hbox; clear hbox hb hb2)
   | (refine bx 3 #[.int .i64 P, .int .i64 M, .slice AM Mod.length cM] 36 ?_; intro b3 hb3 w3 hbox hb; have HB := Aside0.mk (show BxC w w3 b2 b3 Ps Ms AS Mods.length cS n A L.length c P M AM Mod.length cM from ⟨blk_below B2.out hb, hbox, below_step H2.out hb⟩); clear hbox hb hb3 H2 B2; obtain ⟨hc0, hc1, hc2, hc3, hc4⟩ := HB.out.c2; obtain ⟨he0, he1, he2⟩ := HB.out.c3)
   | (go_at_call 23; refine (l17_few.calls k Ps Ms AS cS Mods n A c L _ _ (Kd.C_below HSR.out HB.out.B) HCS.out (Kd.C_below HR.out HB.out.B) HCC.out HFW.out).mono ?_; rintro e wf ⟨rfl, hb⟩; replace HB := Aside0.mk (HB.out.below hb); clear hb hc0 hc1 hc2 hc3 hc4 he0 he1 he2; obtain ⟨hc0, hc1, hc2, hc3, hc4⟩ := HB.out.c2; obtain ⟨he0, he1, he2⟩ := HB.out.c3))
  go_ret
  exact ⟨rfl, HB.out.B⟩
theorem lz_err (hSr : Kd.C (Kd.int .i64) w AS Mods.length Mods) (hcS : Mods.length ≤ cS) (hr : Kd.C (Kd.slice 3 (Kd.int .i64)) w A L.length L) (hc : L.length ≤ c) (hMr : Kd.C (Kd.int .i64) w AM Mod.length Mod) (hcM : Mod.length ≤ cM) {k : Nat} {r : Int} (hfew : l17_few.f k Ps Ms Mods n L = some true) (hA : ∀ W, Below w.heap.size w W → Calls Try.prog 24 #[.agg #[.int .i64 Ps, .int .i64 Ms, .slice AS Mods.length cS, .int .i64 n, .slice A L.length c], .agg #[.int .i64 P, .int .i64 M, .slice AM Mod.length cM]] W fun e w' => e = .returned (.int .i64 r) ∧ Below W.heap.size W w') (h0 : r ≠ 0)
  (hZ : ∀ W, Below w.heap.size w W → Calls Try.prog 25 #[.agg #[.int .i64 Ps, .int .i64 Ms, .slice AS Mods.length cS, .int .i64 n, .slice A L.length c], .agg #[.int .i64 P, .int .i64 M, .slice AM Mod.length cM]] W fun e w' => e = .returned (.tuple #[.slice none 0 0, .int .i64 r]) ∧ Below W.heap.size W w') :
  Calls Try.prog 8 #[.agg #[.int .i64 Ps, .int .i64 Ms, .slice AS Mods.length cS, .int .i64 n, .slice A L.length c], .agg #[.int .i64 P, .int .i64 M, .slice AM Mod.length cM]] w fun e w' => e = .returned (.bool true) ∧ Below w.heap.size w w' := by
 have HSR := Aside0.mk hSr
 have HCS := Aside0.mk hcS
 have HR := Aside0.mk hr
 have HCC := Aside0.mk hc
 have HMR := Aside0.mk hMr
 have HCM := Aside0.mk hcM
 have HFW := Aside0.mk hfew
 have hu36 := Try.underlying36
 have hu49 := Try.underlying49
 have HA := Aside0.mk hA
 have HZ := Aside0.mk hZ
 have r1 : (r == 0) = false := beq_eq_false_iff_ne.2 h0
 have r2 : (r != 0) = true := bne_iff_ne.2 h0
 have hcn : (decide (n > 31) = true ∧ decide (31 < n) = true) ∨ (decide (n > 31) = false ∧ decide (31 < n) = false) := by
  by_cases h : n > 31
  ·exact .inl ⟨decide_eq_true h, decide_eq_true h⟩
  ·exact .inr ⟨decide_eq_false h, decide_eq_false h⟩
 clear hSr hcS hr hc hMr hcM hfew hA hZ h0
 rcases hcn with ⟨n1, n2⟩ | ⟨n1, n2⟩
 all_goals
  go_enter Try.func8, Try.ntmps8
  go_wp2_with (first
   | (refine bx 2 #[.int .i64 Ps, .int .i64 Ms, .slice AS Mods.length cS, .int .i64 n, .slice A L.length c] 49 ?_; intro b2 hb2 w2 hbox hb; have H2 := Aside0.mk hb; have B2 := Aside0.mk hbox; clear hbox hb hb2)
   | (refine bx 3 #[.int .i64 P, .int .i64 M, .slice AM Mod.length cM] 36 ?_; intro b3 hb3 w3 hbox hb; have HB := Aside0.mk (show BxC w w3 b2 b3 Ps Ms AS Mods.length cS n A L.length c P M AM Mod.length cM from ⟨blk_below B2.out hb, hbox, below_step H2.out hb⟩); clear hbox hb hb3 H2 B2; obtain ⟨hc0, hc1, hc2, hc3, hc4⟩ := HB.out.c2; obtain ⟨he0, he1, he2⟩ := HB.out.c3)
   | (go_at_call 23; refine (l17_few.calls k Ps Ms AS cS Mods n A c L _ _ (Kd.C_below HSR.out HB.out.B) HCS.out (Kd.C_below HR.out HB.out.B) HCC.out HFW.out).mono ?_; rintro e wf ⟨rfl, hb⟩; replace HB := Aside0.mk (HB.out.below hb); clear hb hc0 hc1 hc2 hc3 hc4 he0 he1 he2; obtain ⟨hc0, hc1, hc2, hc3, hc4⟩ := HB.out.c2; obtain ⟨he0, he1, he2⟩ := HB.out.c3)
   | (go_at_call 24; refine (HA.out _ HB.out.B).mono ?_; rintro e wa ⟨rfl, hb⟩; replace HB := Aside0.mk (HB.out.below hb); clear hb hc0 hc1 hc2 hc3 hc4 he0 he1 he2; obtain ⟨hc0, hc1, hc2, hc3, hc4⟩ := HB.out.c2; obtain ⟨he0, he1, he2⟩ := HB.out.c3)
   | (go_at_call 25; refine (HZ.out _ HB.out.B).mono ?_; rintro e wz ⟨rfl, hb⟩; replace HB := Aside0.mk (HB.out.below hb); clear hb hc0 hc1 hc2 hc3 hc4 he0 he1 he2; obtain ⟨hc0, hc1, hc2, hc3, hc4⟩ := HB.out.c2; obtain ⟨he0, he1, he2⟩ := HB.out.c3))
  go_ret
  exact ⟨by simp, HB.out.B⟩
theorem lz_big (hSr : Kd.C (Kd.int .i64) w AS Mods.length Mods) (hcS : Mods.length ≤ cS) (hr : Kd.C (Kd.slice 3 (Kd.int .i64)) w A L.length L) (hc : L.length ≤ c) (hMr : Kd.C (Kd.int .i64) w AM Mod.length Mod) (hcM : Mod.length ≤ cM) {k : Nat} {r : Int} (hfew : l17_few.f k Ps Ms Mods n L = some true) (hA : ∀ W, Below w.heap.size w W → Calls Try.prog 24 #[.agg #[.int .i64 Ps, .int .i64 Ms, .slice AS Mods.length cS, .int .i64 n, .slice A L.length c], .agg #[.int .i64 P, .int .i64 M, .slice AM Mod.length cM]] W fun e w' => e = .returned (.int .i64 r) ∧ Below W.heap.size W w') (h0 : r = 0) (hn : 31 < n) :
  Calls Try.prog 8 #[.agg #[.int .i64 Ps, .int .i64 Ms, .slice AS Mods.length cS, .int .i64 n, .slice A L.length c], .agg #[.int .i64 P, .int .i64 M, .slice AM Mod.length cM]] w fun e w' => e = .returned (.bool true) ∧ Below w.heap.size w w' := by
 have HSR := Aside0.mk hSr
 have HCS := Aside0.mk hcS
 have HR := Aside0.mk hr
 have HCC := Aside0.mk hc
 have HMR := Aside0.mk hMr
 have HCM := Aside0.mk hcM
 have HFW := Aside0.mk hfew
 have hu36 := Try.underlying36
 have hu49 := Try.underlying49
 subst h0
 have HA := Aside0.mk hA
 have n1 : decide (n > 31) = true := decide_eq_true hn
 have n2 : decide (31 < n) = true := decide_eq_true hn
 clear hSr hcS hr hc hMr hcM hfew hA hn
 go_enter Try.func8, Try.ntmps8
 go_wp2_with (first
   | (refine bx 2 #[.int .i64 Ps, .int .i64 Ms, .slice AS Mods.length cS, .int .i64 n, .slice A L.length c] 49 ?_; intro b2 hb2 w2 hbox hb; have H2 := Aside0.mk hb; have B2 := Aside0.mk hbox; clear hbox hb hb2)
   | (refine bx 3 #[.int .i64 P, .int .i64 M, .slice AM Mod.length cM] 36 ?_; intro b3 hb3 w3 hbox hb; have HB := Aside0.mk (show BxC w w3 b2 b3 Ps Ms AS Mods.length cS n A L.length c P M AM Mod.length cM from ⟨blk_below B2.out hb, hbox, below_step H2.out hb⟩); clear hbox hb hb3 H2 B2; obtain ⟨hc0, hc1, hc2, hc3, hc4⟩ := HB.out.c2; obtain ⟨he0, he1, he2⟩ := HB.out.c3)
   | (go_at_call 23; refine (l17_few.calls k Ps Ms AS cS Mods n A c L _ _ (Kd.C_below HSR.out HB.out.B) HCS.out (Kd.C_below HR.out HB.out.B) HCC.out HFW.out).mono ?_; rintro e wf ⟨rfl, hb⟩; replace HB := Aside0.mk (HB.out.below hb); clear hb hc0 hc1 hc2 hc3 hc4 he0 he1 he2; obtain ⟨hc0, hc1, hc2, hc3, hc4⟩ := HB.out.c2; obtain ⟨he0, he1, he2⟩ := HB.out.c3)
   | (go_at_call 24; refine (HA.out _ HB.out.B).mono ?_; rintro e wa ⟨rfl, hb⟩; replace HB := Aside0.mk (HB.out.below hb); clear hb hc0 hc1 hc2 hc3 hc4 he0 he1 he2; obtain ⟨hc0, hc1, hc2, hc3, hc4⟩ := HB.out.c2; obtain ⟨he0, he1, he2⟩ := HB.out.c3))
 go_ret
 exact ⟨rfl, HB.out.B⟩
theorem lz_ok (hSr : Kd.C (Kd.int .i64) w AS Mods.length Mods) (hcS : Mods.length ≤ cS) (hr : Kd.C (Kd.slice 3 (Kd.int .i64)) w A L.length L) (hc : L.length ≤ c) (hMr : Kd.C (Kd.int .i64) w AM Mod.length Mod) (hcM : Mod.length ≤ cM) {k : Nat} {r : Int} {l : List Int} (hfew : l17_few.f k Ps Ms Mods n L = some true) (hA : ∀ W, Below w.heap.size w W → Calls Try.prog 24 #[.agg #[.int .i64 Ps, .int .i64 Ms, .slice AS Mods.length cS, .int .i64 n, .slice A L.length c], .agg #[.int .i64 P, .int .i64 M, .slice AM Mod.length cM]] W fun e w' => e = .returned (.int .i64 r) ∧ Below W.heap.size W w') (h0 : r = 0) (hn : n ≤ 31)
  (hZ : ∀ W, Below w.heap.size w W → Calls Try.prog 25 #[.agg #[.int .i64 Ps, .int .i64 Ms, .slice AS Mods.length cS, .int .i64 n, .slice A L.length c], .agg #[.int .i64 P, .int .i64 M, .slice AM Mod.length cM]] W fun e w' => ∃ v, e = .returned (.tuple #[v, .int .i64 0]) ∧ Kd.R (Kd.int .i64) 3 w' W.heap.size (fun _ => True) v l ∧ Below W.heap.size W w') (hf : r17_Zeros.f k Ps Ms Mods n L P M Mod = some l) (hs : r9_SameInts.f k l l = some true) :
  Calls Try.prog 8 #[.agg #[.int .i64 Ps, .int .i64 Ms, .slice AS Mods.length cS, .int .i64 n, .slice A L.length c], .agg #[.int .i64 P, .int .i64 M, .slice AM Mod.length cM]] w fun e w' => e = .returned (.bool true) ∧ Below w.heap.size w w' := by
 have HSR := Aside0.mk hSr
 have HCS := Aside0.mk hcS
 have HR := Aside0.mk hr
 have HCC := Aside0.mk hc
 have HMR := Aside0.mk hMr
 have HCM := Aside0.mk hcM
 have HFW := Aside0.mk hfew
 have hu36 := Try.underlying36
 have hu49 := Try.underlying49
 subst h0
 have HA := Aside0.mk hA
 have HZ := Aside0.mk hZ
 have HF := Aside0.mk hf
 have HS := Aside0.mk hs
 have n1 : decide (n > 31) = false := decide_eq_false (by omega)
 have n2 : decide (31 < n) = false := decide_eq_false (by omega)
 clear hSr hcS hr hc hMr hcM hfew hA hZ hf hs
 go_enter Try.func8, Try.ntmps8
 go_wp2_with (first
   | (refine bx 2 #[.int .i64 Ps, .int .i64 Ms, .slice AS Mods.length cS, .int .i64 n, .slice A L.length c] 49 ?_; intro b2 hb2 w2 hbox hb; have H2 := Aside0.mk hb; have B2 := Aside0.mk hbox; clear hbox hb hb2)
   | (refine bx 3 #[.int .i64 P, .int .i64 M, .slice AM Mod.length cM] 36 ?_; intro b3 hb3 w3 hbox hb; have HB := Aside0.mk (show BxC w w3 b2 b3 Ps Ms AS Mods.length cS n A L.length c P M AM Mod.length cM from ⟨blk_below B2.out hb, hbox, below_step H2.out hb⟩); clear hbox hb hb3 H2 B2; obtain ⟨hc0, hc1, hc2, hc3, hc4⟩ := HB.out.c2; obtain ⟨he0, he1, he2⟩ := HB.out.c3)
   | (go_at_call 23; refine (l17_few.calls k Ps Ms AS cS Mods n A c L _ _ (Kd.C_below HSR.out HB.out.B) HCS.out (Kd.C_below HR.out HB.out.B) HCC.out HFW.out).mono ?_; rintro e wf ⟨rfl, hb⟩; replace HB := Aside0.mk (HB.out.below hb); clear hb hc0 hc1 hc2 hc3 hc4 he0 he1 he2; obtain ⟨hc0, hc1, hc2, hc3, hc4⟩ := HB.out.c2; obtain ⟨he0, he1, he2⟩ := HB.out.c3)
   | (go_at_call 25; refine (HZ.out _ HB.out.B).mono ?_; rintro e wz ⟨v, rfl, hv, hb⟩; obtain ⟨A1, c1, rfl⟩ := Kd.R_slice hv; have HV := Aside0.mk (Kd.R_reads' hv); replace HB := Aside0.mk (HB.out.below hb); clear hb hc0 hc1 hc2 hc3 hc4 he0 he1 he2; obtain ⟨hc0, hc1, hc2, hc3, hc4⟩ := HB.out.c2; obtain ⟨he0, he1, he2⟩ := HB.out.c3; clear hv)
   | (go_at_call 24; refine (HA.out _ HB.out.B).mono ?_; rintro e wa ⟨rfl, hb⟩; replace HV := Aside0.mk (And.intro HV.out.1 (And.intro HV.out.2.1 (Kd.C_below HV.out.2.2 hb))); replace HB := Aside0.mk (HB.out.below hb); clear hb hc0 hc1 hc2 hc3 hc4 he0 he1 he2; obtain ⟨hc0, hc1, hc2, hc3, hc4⟩ := HB.out.c2; obtain ⟨he0, he1, he2⟩ := HB.out.c3)
   | (go_at_call 26; refine (r17_Zeros.calls k Ps Ms AS cS Mods n A c L P M AM cM Mod l _ (Kd.C_below HSR.out HB.out.B) HCS.out (Kd.C_below HR.out HB.out.B) HCC.out (Kd.C_below HMR.out HB.out.B) HCM.out HF.out).mono ?_; rintro e wr ⟨v, rfl, hv, hb⟩; obtain ⟨A2, c2, rfl⟩ := Kd.R_slice hv; have HV2 := Aside0.mk (Kd.R_reads' hv); replace HV := Aside0.mk (And.intro HV.out.1 (And.intro HV.out.2.1 (Kd.C_below HV.out.2.2 hb))); replace HB := Aside0.mk (HB.out.below hb); clear hb hc0 hc1 hc2 hc3 hc4 he0 he1 he2; obtain ⟨hc0, hc1, hc2, hc3, hc4⟩ := HB.out.c2; obtain ⟨he0, he1, he2⟩ := HB.out.c3; clear hv)
   | (go_at_call 21; refine (r9_SameInts.calls k A1 c1 l A2 c2 l true _ HV.out.2.2 HV.out.2.1 HV2.out.2.2 HV2.out.2.1 HS.out).mono ?_; rintro e ws ⟨rfl, hdr⟩; have hb := hdr.below; replace HB := Aside0.mk (HB.out.below hb); clear hb hc0 hc1 hc2 hc3 hc4 he0 he1 he2; obtain ⟨hc0, hc1, hc2, hc3, hc4⟩ := HB.out.c2; obtain ⟨he0, he1, he2⟩ := HB.out.c3; clear hdr))
 go_ret
 exact ⟨by simp, HB.out.B⟩
end
section
variable {S D : FD} {Ps Ms P M : Int} {Mods Mod : List Int} {w w1 : World} {AS AM A : Option Addr} {cS cM c : Nat} {n : Int} {L : List (List Int)}
theorem code_zero (h : codeR S n L = 0) : (1 ≤ n ∧ n ≤ 64) ∧ chk S n L = 0 := by
 unfold codeR at h
 by_cases h1 : n < 1
 ·rw [if_pos h1] at h; omega
 ·by_cases h2 : n > 64
  ·rw [if_neg h1, if_pos h2] at h; omega
  ·rw [if_neg h1, if_neg h2] at h
   refine ⟨by omega, ?_⟩
   unfold spc at h
   by_cases h3 : chk S n L ≠ 0
   ·rw [if_pos h3] at h; exact absurd h h3
   ·exact Classical.byContradiction h3
theorem fits_of {N : Nat} (h : chk S N L = 0) {im : List Int} (him : im.length = S.q.toNat) : Fits N im L := by
 obtain ⟨h1, h2, h3⟩ := chk_zero h
 have hq := S.q_pos
 intro l hl
 obtain ⟨i, hi, rfl⟩ := List.mem_iff_getElem.1 hl
 have h4 := h2 i (by omega) (by omega)
 rw [rd_L1_get hi] at h4
 refine ⟨by omega, fun t h0 ht => ?_⟩
 have h5 : 0 ≤ rd (rd_L1 L (i : Int)) (t.toNat : Int) ∧ rd (rd_L1 L (i : Int)) (t.toNat : Int) < S.q := h3 i t.toNat hi (by omega)
 rw [rd_L1_get hi, show ((t.toNat : Nat) : Int) = t by omega] at h5
 omega
theorem over_eq (hS : Desc S Ps Ms Mods) : r17_Over.f Ps Ms Mods P M Mod = some (decide (Ps = P ∧ Ms ∣ M)) := by
 have hm := hS.m1
 unfold r17_Over.f
 by_cases e : Ps = P
 ·rw [if_pos e, if_neg (by omega)]
  congr 1
  by_cases hd : Ms ∣ M
  ·rw [Int.tmod_eq_zero_of_dvd hd]; simp [e, hd]
  ·have h2 : Int.tmod M Ms ≠ 0 := fun e => hd (Int.dvd_of_tmod_eq_zero e)
   simp [h2, hd]
 ·rw [if_neg e]; simp [e]
theorem dvd_m (hS : Desc S Ps Ms Mods) (hD : Desc D P M Mod) (h : Ms ∣ M) : S.m ∣ D.m := by
 rw [← hS.hm, ← hD.hm] at h
 exact Int.natCast_dvd_natCast.1 h
theorem law_zeros (hSr : Kd.C (Kd.int .i64) w AS Mods.length Mods) (hcS : Mods.length ≤ cS) (hr : Kd.C (Kd.slice 3 (Kd.int .i64)) w A L.length L) (hc : L.length ≤ c) (hMr : Kd.C (Kd.int .i64) w AM Mod.length Mod) (hcM : Mod.length ≤ cM) :
  Calls Try.prog 8 #[.agg #[.int .i64 Ps, .int .i64 Ms, .slice AS Mods.length cS, .int .i64 n, .slice A L.length c], .agg #[.int .i64 P, .int .i64 M, .slice AM Mod.length cM]] w fun e w' => e = .returned (.bool true) ∧ Below w.heap.size w w' := by
 obtain ⟨b, ⟨kf, hkf⟩, hb64⟩ := few_eq Ps Ms Mods n L
 cases b with
 | false => exact lz_few hSr hcS hr hc hMr hcM (hkf kf (Nat.le_refl _))
 | true =>
  have hL := hb64 rfl
  have stS := fun {W : World} (h : Below w.heap.size w W) => Kd.C_below hSr h
  have stR := fun {W : World} (h : Below w.heap.size w W) => Kd.C_below hr h
  have stM := fun {W : World} (h : Below w.heap.size w W) => Kd.C_below hMr h
  obtain ⟨r1, hr1⟩ := codeAns_ex Ps Ms Mods n L
  by_cases h1 : r1 = 0
  ·subst h1
   obtain ⟨S, hS, hco⟩ : ∃ S, Desc S Ps Ms Mods ∧ 0 = codeR S n L := by
    rcases hr1 with ⟨S, hS, hco⟩ | ⟨_, h⟩
    ·exact ⟨S, hS, hco⟩
    ·omega
   obtain ⟨⟨hn1, hn2⟩, hch⟩ := code_zero hco.symm
   obtain ⟨r4, ⟨k4, hk4⟩, hor⟩ := Check_eq P M Mod
   rcases hor with ⟨rfl, D, hD⟩ | ⟨rfl, hno⟩
   ·obtain ⟨σ, hFS⟩ := FOk.of (A := AS) hcS hS
    obtain ⟨γ, hFD⟩ := FOk.of (A := AM) hcM hD
    by_cases hov : Ps = P ∧ Ms ∣ M
    ·obtain ⟨rfl, hdv⟩ := hov
     have hpp : S.p = D.p := by rw [hS.hp, hD.hp]
     obtain ⟨β, hβ⟩ := beta_ex hS hpp (dvd_m hS hD hdv)
     obtain ⟨ρ, hρ, hro⟩ := RootRef_eq hD n
     have hRS := root_in (A := AM) hcM hD hn1 hn2 hρ
     obtain ⟨kρ, hkρ⟩ := hρ
     by_cases hρ0 : ρ = 0
     ·rw [if_pos hρ0] at hRS
      have hA : ∀ W, Below w.heap.size w W → Calls Try.prog 24 #[.agg #[.int .i64 Ps, .int .i64 Ms, .slice AS Mods.length cS, .int .i64 n, .slice A L.length c], .agg #[.int .i64 Ps, .int .i64 M, .slice AM Mod.length cM]] W fun e w' => e = .returned (.int .i64 11) ∧ Below W.heap.size W w' := fun W hW => by
       have := zargs_in (r4 := 0) (b := true) (ρ := ρ) (k := k4 + kρ) (stS hW) hcS (stR hW) hc (stM hW) hcM hr1 (fun _ => hk4 _ (by omega)) (fun _ _ => by rw [over_eq hS]; simp [hdv]) (fun _ _ _ => hkρ _ (by omega))
       rw [show zans 0 0 true ρ = 11 by simp [zans, hρ0]] at this
       exact this
      refine lz_err hSr hcS hr hc hMr hcM (hkf kf (Nat.le_refl _)) hA (by omega) (fun W hW => ?_)
      refine zeros_ext (stS hW) hcS (stR hW) hr1 (by omega) (fun W2 hW2 => ?_)
      refine (ext_ok hFS (Kd.C_below (stS hW) hW2) hFD (Kd.C_below (stM hW) hW2) hn1 hn2 hdv hβ hRS).mono ?_
      rintro e w' ⟨g, w0, v, rfl, _, _, _, hv, hb⟩
      exact ⟨_, _, _, rfl, hb, by obtain ⟨A', c', e⟩ := Kd.R_slice hv; exact ⟨_, _, _, e⟩⟩
     ·rw [if_neg hρ0] at hRS
      obtain ⟨a, ha⟩ : ∃ a : GF D, a.1 = ρ := by
       rcases hro with ⟨z, h1, h2, _, _, rfl⟩ | ⟨_, h⟩
       ·exact ⟨inn D z, inn_of (by omega) h2⟩
       ·exact absurd h hρ0
      subst ha
      have hA : ∀ W, Below w.heap.size w W → Calls Try.prog 24 #[.agg #[.int .i64 Ps, .int .i64 Ms, .slice AS Mods.length cS, .int .i64 n, .slice A L.length c], .agg #[.int .i64 Ps, .int .i64 M, .slice AM Mod.length cM]] W fun e w' => e = .returned (.int .i64 0) ∧ Below W.heap.size W w' := fun W hW => by
       have := zargs_in (r4 := 0) (b := true) (ρ := a.1) (k := k4 + kρ) (stS hW) hcS (stR hW) hc (stM hW) hcM hr1 (fun _ => hk4 _ (by omega)) (fun _ _ => by rw [over_eq hS]; simp [hdv]) (fun _ _ _ => hkρ _ (by omega))
       rw [show zans 0 0 true a.1 = 0 by simp [zans, hρ0]] at this
       exact this
      by_cases h31 : 31 < n
      ·exact lz_big hSr hcS hr hc hMr hcM (hkf kf (Nat.le_refl _)) hA rfl h31
      ·obtain ⟨N, rfl⟩ : ∃ N : Nat, n = (N : Int) := ⟨n.toNat, by omega⟩
       have hft := fits_of hch (embL_len (S := S) (D := D) β)
       obtain ⟨kz, hkz⟩ := rzer_eq hS hD hβ N L (by omega) (by omega) hft (by omega) ⟨kρ, hkρ⟩
       obtain ⟨ks, hks⟩ := SameInts_eq (zerosL D (embL S D β) a N L N) (zerosL D (embL S D β) a N L N) (by have := zerosL_len (D := D) (embL S D β) a N L N; omega)
       refine lz_ok (k := kf + kz + ks) hSr hcS hr hc hMr hcM (hkf _ (by omega)) hA rfl (by omega) (fun W hW => ?_) (hkz _ (by omega)) ((hks (kf + kz + ks) (by omega)).trans (by simp))
       exact zeros_ok (stS hW) hcS (stR hW) (by omega) hr1 hFS hFD (stM hW) (by omega) (by omega) hdv hβ hRS hft
    ·have hA : ∀ W, Below w.heap.size w W → Calls Try.prog 24 #[.agg #[.int .i64 Ps, .int .i64 Ms, .slice AS Mods.length cS, .int .i64 n, .slice A L.length c], .agg #[.int .i64 P, .int .i64 M, .slice AM Mod.length cM]] W fun e w' => e = .returned (.int .i64 10) ∧ Below W.heap.size W w' := fun W hW => by
      have := zargs_in (r4 := 0) (b := false) (ρ := 0) (k := k4) (stS hW) hcS (stR hW) hc (stM hW) hcM hr1 (fun _ => hk4 _ (Nat.le_refl _)) (fun _ _ => by rw [over_eq hS]; simp [hov]) (fun _ _ h => by cases h)
      rw [show zans 0 0 false 0 = 10 by simp [zans]] at this
      exact this
     refine lz_err hSr hcS hr hc hMr hcM (hkf kf (Nat.le_refl _)) hA (by omega) (fun W hW => ?_)
     refine zeros_ext (stS hW) hcS (stR hW) hr1 (by omega) (fun W2 hW2 => ?_)
     refine (ext_10 hFS (Kd.C_below (stS hW) hW2) hFD (Kd.C_below (stM hW) hW2) hn1 hn2 hov).mono ?_
     rintro e w' ⟨rfl, hb⟩
     exact ⟨_, _, _, rfl, hb, _, _, _, rfl⟩
   ·have hA : ∀ W, Below w.heap.size w W → Calls Try.prog 24 #[.agg #[.int .i64 Ps, .int .i64 Ms, .slice AS Mods.length cS, .int .i64 n, .slice A L.length c], .agg #[.int .i64 P, .int .i64 M, .slice AM Mod.length cM]] W fun e w' => e = .returned (.int .i64 1) ∧ Below W.heap.size W w' := fun W hW => by
     have := zargs_in (r4 := 1) (b := false) (ρ := 0) (k := k4) (stS hW) hcS (stR hW) hc (stM hW) hcM hr1 (fun _ => hk4 _ (Nat.le_refl _)) (fun _ h => by omega) (fun _ h => by omega)
     rw [show zans 0 1 false 0 = 1 by simp [zans]] at this
     exact this
    refine lz_err hSr hcS hr hc hMr hcM (hkf kf (Nat.le_refl _)) hA (by omega) (fun W hW => ?_)
    refine zeros_ext (stS hW) hcS (stR hW) hr1 (by omega) (fun W2 hW2 => ?_)
    refine (ext_1 Ps Ms n Mods.length (new_refuses hcM hno) (Kd.C_below (stM hW) hW2)).mono ?_
    rintro e w' ⟨rfl, hb⟩
    exact ⟨_, _, _, rfl, hb, _, _, _, rfl⟩
  ·have hA : ∀ W, Below w.heap.size w W → Calls Try.prog 24 #[.agg #[.int .i64 Ps, .int .i64 Ms, .slice AS Mods.length cS, .int .i64 n, .slice A L.length c], .agg #[.int .i64 P, .int .i64 M, .slice AM Mod.length cM]] W fun e w' => e = .returned (.int .i64 r1) ∧ Below W.heap.size W w' := fun W hW => by
    have := zargs_in (P := P) (M := M) (r4 := 0) (b := false) (ρ := 0) (k := 0) (stS hW) hcS (stR hW) hc (stM hW) hcM hr1 (fun h => absurd h h1) (fun h => absurd h h1) (fun h => absurd h h1)
    rw [show zans r1 0 false 0 = r1 by simp [zans, h1]] at this
    exact this
   exact lz_err hSr hcS hr hc hMr hcM (hkf kf (Nat.le_refl _)) hA h1 (fun W hW => zeros_chk (stS hW) hcS (stR hW) hr1 h1)
end
end Go.Proofs.Ytibbdjkboglepaa.MyQBchZeros
section
namespace Go.Proofs.Ytibbdjkboglepaa.bchZeros
open Go.ChangeShapes Go.WideShapes Go.ChangeAt Go.RowKit Go.Deep
open Go.Proofs.YtibbdjkboglepaaW.PrintWords
theorem own : ownKnob Try.prog.godebug = none := by kernel_rfl
theorem laidOut : laidOutB Try.prog = true := by kernel_rfl
def IsRow (w : World) (a : Option Addr) (len cap : Nat) (zs : List Int) : Prop :=
 (a = none ∧ len = 0 ∧ cap = 0 ∧ zs = []) ∨
 ∃ x, a = some x ∧ len ≤ cap ∧ cap ≤ maxLen ∧ zs.length = cap ∧ (∀ i, i < zs.length → w.cell? (x.add i) = some (.int .i64 (zs.getD i 0))) ∧ ∀ n ∈ zs, (Lit.int .i64 n).wf = true
theorem IsRow.C {w : World} {a : Option Addr} {len cap : Nat} {zs : List Int} (h : IsRow w a len cap zs) : ∃ l : List Int, len = l.length ∧ Kd.C (Kd.int .i64) w a l.length l ∧ l.length ≤ cap := by
 obtain ⟨l, e, hr1, hm1, hw1, hc1⟩ := ReadsInt.ofRowC h
 exact ⟨l, e, Kd.C_of_reads (d := (0 : Int)) (h1 := fun _ => rfl) hr1, hc1⟩
theorem three_of {cs : List Value} (hl : cs.length = 3) : ∃ u0 u1 u2, cs = [u0, u1, u2] := by
 match cs, hl with
 | [a, b, c], _ => exact ⟨a, b, c, rfl⟩
theorem five_of {cs : List Value} (hl : cs.length = 5) : ∃ u0 u1 u2 u3 u4, cs = [u0, u1, u2, u3, u4] := by
 match cs, hl with
 | [a, b, c, d, e], _ => exact ⟨a, b, c, d, e, rfl⟩
theorem agg_of {P : Program} {w : World} {t : TypeId} {fs : Array Field} {r : Reach} {b0 : Nat} {v : Value} (hs : P.underlying t = some (.struct fs)) (hv : Value.okWide P w r b0 t v) {l : List Value} (h : v.cells.toList = l) : v = .agg l.toArray := by
 obtain ⟨cs, e, _⟩ := okWide_struct hs hv
 subst e
 rw [← h]
 simp [Value.cells]
section
variable {H : Type} {enc : TypeId × Value → H} {w : World} {base : Nat} {held : Bool} {fuel : Nat} {cs : List Value} {x : DataW H × List MemPlace}
theorem one_int {t : TypeId} (ht : Try.prog.underlying t = some (.int .i64)) (h : DataW.trod enc Try.prog w base (fun _ => true) held fuel t cs = some x) : ∃ z : Int, cs = [.int .i64 z] := by
 obtain ⟨z, hz, _⟩ := DataW.trod_int ht h
 exact ⟨z, hz⟩
theorem one_row (h : DataW.trod enc Try.prog w base (fun _ => true) held fuel 22 cs = some x) : ∃ (a : Option Addr) (len cap : Nat) (zs : List Int), cs = [.slice a len cap] ∧ IsRow w a len cap zs := by
 rcases open_ints Try.underlying22 Try.underlying3 (by kernel_rfl) h with ⟨hcs, _⟩ | ⟨y, l, c, zs, hcs, _, hl, hm, hz, _, hcell, hwz⟩
 ·exact ⟨none, 0, 0, [], hcs, .inl ⟨rfl, rfl, rfl, rfl⟩⟩
 ·exact ⟨some y, l, c, zs, hcs, .inr ⟨_, rfl, hl, hm, by simpa using hz, hcell, hwz⟩⟩
theorem open36 (h : DataW.trod enc Try.prog w base (fun _ => true) held fuel 36 cs = some x) : ∃ (x0 x1 : Int) (a : Option Addr) (len cap : Nat) (zs : List Int), cs = [.int .i64 x0, .int .i64 x1, .slice a len cap] ∧ IsRow w a len cap zs := by
 obtain ⟨y0, y1, y2, n, _, hl, h0, h1, h2⟩ := trod_struct3 Try.underlying36 h
 have hc3 : Try.prog.cellsOf 36 = 3 := by kernel_rfl
 have hc1 : Try.prog.cellsOf 3 = 1 := by kernel_rfl
 have hc22 : Try.prog.cellsOf 22 = 1 := by kernel_rfl
 replace hl := hl.trans hc3
 obtain ⟨u0, u1, u2, rfl⟩ := three_of hl
 simp only [hc1, hc22, List.drop_zero, List.drop_succ_cons, List.take_succ_cons, List.take_zero] at h0 h1 h2
 obtain ⟨z0, e0⟩ := one_int Try.underlying3 h0
 obtain ⟨z1, e1⟩ := one_int Try.underlying3 h1
 obtain ⟨a, len, cap, zs, e2, hr⟩ := one_row h2
 cases e0
 cases e1
 cases e2
 exact ⟨z0, z1, a, len, cap, zs, rfl, hr⟩
theorem one_rows (h : DataW.trod enc Try.prog w base (fun _ => true) held fuel 47 cs = some x) : ∃ (a : Option Addr) (c : Nat) (L : List (List Int)), cs = [.slice a L.length c] ∧ L.length ≤ c ∧ Kd.C (Kd.slice 3 (Kd.int .i64)) w a L.length L := by
 rcases open_int_rows Try.underlying47 Try.underlying22 Try.underlying3 (by kernel_rfl) (by kernel_rfl) h with ⟨hcs, _⟩ | ⟨a, len, cap, A, Ln, C, Z, rfl, _, hlc, hm, _, hr⟩
 ·exact ⟨none, 0, [], hcs, Nat.le_refl _, Kd.C_nil _ _⟩
 ·have hL : ((List.range len).map fun r => (Z r).take (Ln r)).length = len := by simp
  refine ⟨some a, cap, (List.range len).map fun r => (Z r).take (Ln r), by rw [hL], by rw [hL]; exact hlc, rfl, by rw [hL]; simp only [maxLen] at hm; omega, fun h0 => ⟨a, rfl, fun j p hj => ?_⟩⟩
  obtain ⟨hjl, hp⟩ := List.getElem?_eq_some_iff.1 hj
  rw [hL] at hjl
  have hp' : (Z j).take (Ln j) = p := by simpa using hp
  subst hp'
  obtain ⟨r1, r2, r3, r4, r5, r6, r7⟩ := hr j (by omega)
  have hlen : ((Z j).take (Ln j)).length = Ln j := by rw [List.length_take]; omega
  have hrow : IsRow w (A j) (Ln j) (C j) (Z j) := by
   cases hA : A j with
   | none =>
    have h1 := r6 hA
    exact .inl ⟨rfl, by omega, h1, List.eq_nil_of_length_eq_zero (by omega)⟩
   | some a' => exact .inr ⟨a', rfl, r2, r3, r4, fun i hi => (r7 a' hA).2 i (by omega), r5⟩
  refine ⟨[.slice (A j) (Ln j) (C j)], rfl, ⟨A j, C j, by rw [hlen], by rw [hlen]; exact r2, ?_⟩, fun i u hu => ?_⟩
  ·rcases hrow with ⟨e1, e2, e3, e4⟩ | ⟨a', e1, e2, e3, e4, e5, e6⟩
   ·rw [e1, e4]; simp; exact Kd.C_nil _ _
   ·rw [e1]
    refine Kd.C_of_reads (enc := Value.int .i64) (d := (0 : Int)) (h1 := fun _ => rfl) ⟨rfl, by rw [hlen]; simp only [maxLen] at e3; omega, fun _ => ⟨a', rfl, fun i hi => ?_⟩⟩
    rw [hlen] at hi
    rw [e5 i (by omega)]
    simp [List.getD_eq_getElem?_getD, hi]
  ·cases i with
   | zero =>
    have hu' : Value.slice (A j) (Ln j) (C j) = u := by simpa using hu
    subst hu'
    rw [show j * (Kd.slice 3 (Kd.int .i64)).sz + 0 = j from Nat.mul_one j]
    exact r1
   | succ i => simp at hu
theorem open49 (h : DataW.trod enc Try.prog w base (fun _ => true) held fuel 49 cs = some x) : ∃ (x0 x1 : Int) (a : Option Addr) (len cap : Nat) (zs : List Int) (n : Int) (b : Option Addr) (c : Nat) (L : List (List Int)), cs = [.int .i64 x0, .int .i64 x1, .slice a len cap, .int .i64 n, .slice b L.length c] ∧ IsRow w a len cap zs ∧ L.length ≤ c ∧ Kd.C (Kd.slice 3 (Kd.int .i64)) w b L.length L := by
 obtain ⟨y0, y1, y2, n, _, hl, h0, h1, h2⟩ := trod_struct3 Try.underlying49 h
 have hc5 : Try.prog.cellsOf 49 = 5 := by kernel_rfl
 have hc3 : Try.prog.cellsOf 36 = 3 := by kernel_rfl
 have hc1 : Try.prog.cellsOf 3 = 1 := by kernel_rfl
 have hc47 : Try.prog.cellsOf 47 = 1 := by kernel_rfl
 replace hl := hl.trans hc5
 obtain ⟨u0, u1, u2, u3, u4, rfl⟩ := five_of hl
 simp only [hc1, hc3, hc47, List.drop_zero, List.drop_succ_cons, List.take_succ_cons, List.take_zero] at h0 h1 h2
 obtain ⟨x0, x1, a, len, cap, zs, e0, hrow⟩ := open36 h0
 obtain ⟨z1, e1⟩ := one_int Try.underlying3 h1
 obtain ⟨b, c, L, e2, hLc, hC⟩ := one_rows h2
 cases e0
 cases e1
 cases e2
 exact ⟨x0, x1, a, len, cap, zs, z1, b, c, L, rfl, hrow, hLc, hC⟩
end
theorem lifted (os : Os) (started : os.Started) (H : Type) (enc : TypeId × Value → H) :
  ReturnsInHanded {} Try.checked os 8 .any (Rows.bchZerosSpec.pre6 enc Try.prog Try.f8 Rows.bchZerosRow.domain false) (Rows.bchZerosSpec.post enc Try.prog Try.f8 false true false false) := by
 refine returnsInHanded_of_change_sized (C := Try.checked) own started (by kernel_rfl) Try.func8
  (ChangeSpec.witness6 (enc := enc) (C := Try.checked) false ⟨#[], #[.agg #[.int .i64 0, .int .i64 0, .slice none 0 0, .int .i64 0, .slice none 0 0], .agg #[.int .i64 0, .int .i64 0, .slice none 0 0]], []⟩ 8 (by kernel_rfl) (by kernel_rfl) (by kernel_rfl) (by kernel_rfl)) ?_
 intro W base args ds gs before hval0 hW hcnd hsz0 _
 have hval : ∀ (j : Nat) t v, Try.f8.params[j]? = some t → args[j]? = some v → Value.okWide Try.prog W .any base t v := hval0
 have hW' := hW
 obtain ⟨p, q, hA0, hV, rfl, hfz, hnd⟩ := hW
 have hA : DataW.TrodAll enc Try.prog W 0 (fun _ => true) true Try.f8.params.toList args.toList ds p := hA0
 rw [Try.params8] at hA hval
 obtain ⟨v0, vs0, d0, ds0, p0, q0, hargs, rfl, rfl, h0, r0⟩ := trodAll_cons hA
 obtain ⟨v1, vs1, d1, ds1, p1, q1, rfl, rfl, rfl, h1, r1⟩ := trodAll_cons r0
 obtain ⟨rfl, rfl, rfl⟩ := trodAll_nil r1
 obtain rfl : args = #[v0, v1] := by cases args; simp_all
 obtain ⟨rfl, rfl⟩ := trodVars_none hV
 have k0 := h0
 have lt0 : ∀ x ∈ p0, x.block < W.heap.size := by obtain ⟨m, hm⟩ := k0; exact DataW.trod_lt m _ _ _ hm
 have k1 := h1
 have lt1 : ∀ x ∈ p1, x.block < W.heap.size := by obtain ⟨m, hm⟩ := k1; exact DataW.trod_lt m _ _ _ hm
 obtain ⟨f0, hf0⟩ := h0
 obtain ⟨f1, hf1⟩ := h1
 obtain ⟨x0, x1, a, len, cap, zs, n, b, c, L, e0, hrow, hLc, hC⟩ := open49 hf0
 obtain ⟨y0, y1, a', len', cap', zs', e1, hrow'⟩ := open36 hf1
 obtain rfl := agg_of Try.underlying49 (hval 0 49 v0 rfl rfl) e0
 obtain rfl := agg_of Try.underlying36 (hval 1 36 v1 rfl rfl) e1
 obtain ⟨Mods, rfl, hm, hmc⟩ := hrow.C
 obtain ⟨Mod, rfl, hm', hmc'⟩ := hrow'.C
 clear hA0 hval0 hsz0
 refine (MyQBchZeros.law_zeros hm hmc hC hLc hm' hmc').mono fun e W' ⟨he, bel⟩ => ?_
 subst he
 exact ⟨_, rfl, _, _, _, [], _, [], hW', trodAll_mk1 (shut_bool Try.underlying4 _), (trodAll_cons_mk (Below.trod laidOut (by kernel_rfl) (of_decide_eq_true (by kernel_rfl)) k0 bel lt0) (trodAll_cons_mk (Below.trod laidOut (by kernel_rfl) (of_decide_eq_true (by kernel_rfl)) k1 bel lt1) trodAll_mk0)), rfl, bel.frame _, fun h => by cases h⟩
theorem over : Rows.bchZerosRow.holds Try.pinned (OpenSpec.ofChange Rows.bchZerosSpec) :=
 OpenClaim.holds_of_wide 8 Try.f8 rfl rfl rfl rfl rfl rfl rfl ⟨rfl, rfl, rfl, rfl, rfl⟩ rfl rfl rfl rfl rfl (by kernel_rfl) Try.func8 (by kernel_rfl)
  (of_decide_eq_true (by kernel_rfl)) (by unfold Func.isWrapper; first | (rw [if_pos (by decide +kernel)]; kernel_rfl) | (rw [if_neg (by decide +kernel)]; exact ⟨rfl, rfl⟩))
  (fun os started H enc _ => lifted os started H enc)
theorem proved : Rows.BchZerosSaid := over
end Go.Proofs.Ytibbdjkboglepaa.bchZeros
namespace Go.Proofs.Ytibbdjkboglepaa
theorem bchZeros_holds : Rows.BchZerosSaid := bchZeros.proved
end Go.Proofs.Ytibbdjkboglepaa
end

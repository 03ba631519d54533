/- The printed functions residues, has, column, Best and Check of the reference of layer 17. Lengths n from 1 to 64. -/
import Derived.Test.YtibbdjkboglepaaBestRefBchBounds
namespace Go.Proofs.Ytibbdjkboglepaa.MyBchBounds
open Go.RowKit Go.Proofs.YtibbdjkboglepaaW.PrintWords Go.Proofs.YtibbdjkboglepaaW.PrintMore Go.Proofs.Ytibbdjkboglepaa.My Go.Proofs.Ytibbdjkboglepaa.PBchBounds

theorem take_succ_rd {zs : List Int} {i : Int} (h0 : 0 ≤ i) (h : i < zs.length) : zs.take (i + 1).toNat = zs.take i.toNat ++ [rd zs i] := by
  have h1 : i.toNat < zs.length := by omega
  rw [show (i + 1).toNat = i.toNat + 1 by omega, List.take_succ_eq_append_getElem h1]
  unfold rd
  rw [List.getD_eq_getElem?_getD, List.getElem?_eq_getElem h1]
  rfl
theorem residues_l0 {n : Int} {zs : List Int} (h1 : 1 ≤ n) (h2 : n ≤ 64) (hz : zs.length ≤ 17592186044415) : ∀ (d : Nat) (i : Int), 0 ≤ i → i + d = zs.length →
    Ev (fun k => codewrightref17_residues.l0 k n zs ((zs.take i.toNat).map (· % n)) i) (zs.map (· % n)) := by
  intro d
  induction d with
  | zero =>
    intro i hi hd
    refine ev_succ (ev_now fun k => ?_)
    rw [codewrightref17_residues.l0, if_neg (by omega), List.take_of_length_le (by omega)]
  | succ d ih =>
    intro i hi hd
    refine Ev.step (fun k => ?_) (ih (i + 1) (by omega) (by omega))
    rw [codewrightref17_residues.l0, if_pos (by omega), if_pos hi, Mod_eq h1 h2, Option.bind_some, if_pos (by rw [List.length_map, List.length_take]; omega), w64 (by omega) (by omega), take_succ_rd hi (by omega), List.map_append]
    rfl
theorem residues_eq {n : Int} {zs : List Int} (h1 : 1 ≤ n) (h2 : n ≤ 64) (hz : zs.length ≤ 17592186044415) : Ev (fun k => codewrightref17_residues.f k n zs) (zs.map (· % n)) :=
  residues_l0 h1 h2 hz zs.length 0 (by omega) (by omega)
theorem has_l0 {l : List Int} {x : Int} (hz : l.length ≤ 4611686018427387904) : ∀ (d : Nat) (i : Int), 0 ≤ i → i + d = l.length → (∀ j, 0 ≤ j → j < i → rd l j ≠ x) →
    Ev (fun k => codewrightref17_has.l0 k l x i) (decide (x ∈ l)) := by
  intro d
  induction d with
  | zero =>
    intro i hi hd h
    refine ev_succ (ev_now fun k => ?_)
    rw [codewrightref17_has.l0, if_neg (by omega)]
    congr 1
    symm
    rw [decide_eq_false_iff_not]
    intro hm
    obtain ⟨j, h1, h2, h3⟩ := mem_rd hm
    exact h j h1 (by omega) h3
  | succ d ih =>
    intro i hi hd h
    by_cases e : rd l i = x
    · refine ev_succ (ev_now fun k => ?_)
      rw [codewrightref17_has.l0, if_pos (by omega), if_pos hi, if_pos e]
      congr 1
      symm
      rw [decide_eq_true_iff, ← e]
      exact rd_mem hi (by omega)
    · refine Ev.step (fun k => by rw [codewrightref17_has.l0, if_pos (by omega), if_pos hi, if_neg e, w64 (by omega) (by omega)]) (ih (i + 1) (by omega) (by omega) ?_)
      intro j hj hj'
      by_cases e' : j = i
      · subst e'; exact e
      · exact h j hj (by omega)
theorem has_eq {l : List Int} {x : Int} (hz : l.length ≤ 4611686018427387904) : Ev (fun k => codewrightref17_has.f k l x) (decide (x ∈ l)) :=
  has_l0 hz l.length 0 (by omega) (by omega) (fun j h h' => by omega)
theorem mem_res {n : Int} {zs : List Int} {x : Int} : x % n ∈ zs.map (· % n) ↔ InS n zs x := by
  unfold InS
  rw [List.mem_map]
theorem has_res {n : Int} {zs : List Int} {x : Int} (hz : zs.length ≤ 4611686018427387904) (h : InS n zs x) : Ev (fun k => codewrightref17_has.f k (zs.map (· % n)) (x % n)) true := by
  have := has_eq (l := zs.map (· % n)) (x := x % n) (by rw [List.length_map]; exact hz)
  rwa [decide_eq_true (mem_res.2 h)] at this
theorem has_res_not {n : Int} {zs : List Int} {x : Int} (hz : zs.length ≤ 4611686018427387904) (h : ¬ InS n zs x) : Ev (fun k => codewrightref17_has.f k (zs.map (· % n)) (x % n)) false := by
  have := has_eq (l := zs.map (· % n)) (x := x % n) (by rw [List.length_map]; exact hz)
  rwa [decide_eq_false (fun hm => h (mem_res.1 hm))] at this

/-- j is the greatest number up to most for which at, at + x, .., at + j x are in the list; -1 if there is none. -/
def ColOk (n : Int) (zs : List Int) (at' x most j : Int) : Prop := -1 ≤ j ∧ j ≤ most ∧ (∀ m, -1 ≤ m → m ≤ most → ((∀ i, 0 ≤ i → i ≤ m → InS n zs (at' + i * x)) ↔ m ≤ j))
theorem column_l0 {n at' x most : Int} {zs : List Int} (h1 : 1 ≤ n) (h2 : n ≤ 64) (hz : zs.length ≤ 4611686018427387904) (ha : 0 ≤ at') (ha' : at' ≤ 1000000) (hx : 0 ≤ x) (hx' : x ≤ 64) (hm : most ≤ 64) :
    ∀ (d : Nat) (j : Int), -1 ≤ j → j + d = most → (∀ i, 0 ≤ i → i ≤ j → InS n zs (at' + i * x)) → ∃ r, Ev (fun k => codewrightref17_column.l0 k n (zs.map (· % n)) at' x most j) r ∧ ColOk n zs at' x most r := by
  intro d
  induction d with
  | zero =>
    intro j hj hd h
    refine ⟨j, ev_succ (ev_now fun k => by rw [codewrightref17_column.l0, if_neg (by omega)]), hj, by omega, fun m hm hm' => ⟨fun _ => by omega, fun _ i hi hi' => h i hi (by omega)⟩⟩
  | succ d ih =>
    intro j hj hd h
    have hmb := mul_bd (a := j + 1) (b := x) (by omega) (by omega) hx hx'
    have hw : codewrightref17_Mod.f (wrap64 (at' + wrap64 (wrap64 (j + 1) * x))) n = some ((at' + (j + 1) * x) % n) := by
      rw [w64 (x := j + 1) (by omega) (by omega), w64 (x := (j + 1) * x) (by omega) (by omega), w64 (by omega) (by omega), Mod_eq h1 h2]
    by_cases e : InS n zs (at' + (j + 1) * x)
    · obtain ⟨r, hr, hq⟩ := ih (j + 1) (by omega) (by omega) (by
        intro i hi hi'
        by_cases e' : i = j + 1
        · subst e'; exact e
        · exact h i hi (by omega))
      exact ⟨r, Ev.step (fun k => by rw [codewrightref17_column.l0, if_pos (by omega), hw, Option.bind_some]) (Ev.bind (has_res hz e) (Ev.congr (fun k => by rw [if_pos rfl, w64 (by omega) (by omega)]) hr)), hq⟩
    · refine ⟨j, Ev.step (fun k => by rw [codewrightref17_column.l0, if_pos (by omega), hw, Option.bind_some]) (Ev.bind (has_res_not hz e) (ev_now fun k => by rw [if_neg (by simp)])), hj, by omega, fun m hm hm' => ⟨fun hh => ?_, fun _ i hi hi' => h i hi (by omega)⟩⟩
      apply Decidable.byContradiction
      intro hn
      exact e (hh (j + 1) (by omega) (by omega))
theorem column_eq {n at' x most : Int} {zs : List Int} (h1 : 1 ≤ n) (h2 : n ≤ 64) (hz : zs.length ≤ 4611686018427387904) (ha : 0 ≤ at') (ha' : at' ≤ 1000000) (hx : 0 ≤ x) (hx' : x ≤ 64) (hm : most ≤ 64) (hm' : -1 ≤ most) :
    ∃ r, Ev (fun k => codewrightref17_column.f k n (zs.map (· % n)) at' x most) r ∧ ColOk n zs at' x most r :=
  column_l0 h1 h2 hz ha ha' hx hx' hm (most + 1).toNat (-1) (by omega) (by omega) (fun i h h' => by omega)

def Att (n : Int) (zs : List Int) (most b : Int) : Prop := b = 1 ∨ ∃ s t c x m, Proves n zs s t c x m ∧ m ≤ most ∧ b = c + 1 + m
theorem Att.bd {n : Int} {zs : List Int} {most b : Int} (h1 : 1 ≤ n) (h : Att n zs most b) : 1 ≤ b ∧ b ≤ 2 * n + 1 := by
  rcases h with rfl | ⟨s, t, c, x, m, hp, hm, rfl⟩
  · omega
  · have := hp.1; have := hp.2.1; have := hp.2.2.1; have := hp.2.2.2.1; omega
theorem Att.max {n : Int} {zs : List Int} {most b b' : Int} (h : Att n zs most b) (h' : Att n zs most b') : Att n zs most (mx b b') := by
  unfold mx; split
  · exact h'
  · exact h
theorem mx_le {a b : Int} : a ≤ mx a b ∧ b ≤ mx a b := by unfold mx; split <;> omega
def E0 (n : Int) (zs : List Int) (most s0 b : Int) : Prop := ∀ s t c x m, Proves n zs s t c x m → m ≤ most → 0 ≤ s → s < s0 → 0 ≤ t → t < n → 0 ≤ x → x < n → (most = 0 → x = 0) → c + 1 + m ≤ b
def E1 (n : Int) (zs : List Int) (most s0 t0 b : Int) : Prop := ∀ t c x m, Proves n zs s0 t c x m → m ≤ most → 0 ≤ t → t < t0 → 0 ≤ x → x < n → (most = 0 → x = 0) → c + 1 + m ≤ b
def E2 (n : Int) (zs : List Int) (most s0 t0 x0 b : Int) : Prop := ∀ c x m, Proves n zs s0 t0 c x m → m ≤ most → 0 ≤ x → x < x0 → (most = 0 → x = 0) → c + 1 + m ≤ b
def E3 (n : Int) (zs : List Int) (most s0 t0 x0 c0 b : Int) : Prop := ∀ c m, Proves n zs s0 t0 c x0 m → m ≤ most → c < c0 → c + 1 + m ≤ b

theorem Best_l3 {n most s t x : Int} {zs : List Int} (h1 : 1 ≤ n) (h2 : n ≤ 64) (hz : zs.length ≤ 4611686018427387904) (hm0 : 0 ≤ most) (hmn : most ≤ n) (hg : gc (t % n) n = 1)
    (hs : 0 ≤ s) (hs' : s < n) (ht : 0 ≤ t) (ht' : t < n) (hx : 0 ≤ x) (hx' : x < n) (Q : Int → Prop) (b0 : Int)
    (hk : ∀ b, b0 ≤ b → Att n zs most b → E3 n zs most s t x (n + 1) b → ∃ r, Ev (fun k => codewrightref17_Best.l2 k n most (zs.map (· % n)) b s t (x + 1)) r ∧ Q r) :
    ∀ (d : Nat) (c b rows : Int), 1 ≤ c → c + d = n + 1 → 0 ≤ rows → rows ≤ most → (∀ m, -1 ≤ m → m ≤ most → (Rect n zs s t (c - 1) x m ↔ m ≤ rows)) → b0 ≤ b → Att n zs most b → E3 n zs most s t x c b →
      ∃ r, Ev (fun k => codewrightref17_Best.l3 k n most (zs.map (· % n)) b s t x rows c) r ∧ Q r := by
  intro d
  induction d with
  | zero =>
    intro c b rows hc hd hr0 hr1 hC hb hA hE
    obtain rfl : c = n + 1 := by omega
    obtain ⟨r, hr, hq⟩ := hk b hb hA hE
    exact ⟨r, Ev.step (fun k => by rw [codewrightref17_Best.l3, if_neg (by omega), w64 (by omega) (by omega)]) hr, hq⟩
  | succ d ih =>
    intro c b rows hc hd hr0 hr1 hC hb hA hE
    have hmb := mul_bd (a := c - 1) (b := t) (by omega) (by omega) ht (by omega)
    have hbb := hA.bd h1
    obtain ⟨col, hcol, hco⟩ := column_eq (at' := s + (c - 1) * t) (x := x) (most := rows) h1 h2 hz (by omega) (by omega) hx (by omega) (by omega) (by omega)
    have hw : wrap64 (s + wrap64 (wrap64 (c - 1) * t)) = s + (c - 1) * t := by
      rw [w64 (x := c - 1) (by omega) (by omega), w64 (x := (c - 1) * t) (by omega) (by omega), w64 (by omega) (by omega)]
    have hmn' : mn rows col = col := by unfold mn; split <;> have := hco.2.1 <;> omega
    have hC1 : ∀ m, -1 ≤ m → m ≤ most → (Rect n zs s t c x m ↔ m ≤ col) := by
      intro m hm hm'
      have e : Rect n zs s t c x m ↔ (Rect n zs s t (c - 1) x m ∧ ∀ i, 0 ≤ i → i ≤ m → InS n zs (s + (c - 1) * t + i * x)) := by
        constructor
        · intro h
          exact ⟨fun i j a b c' d' => h i j a (by omega) c' d', fun i hi hi' => h (c - 1) i (by omega) (by omega) hi hi'⟩
        · rintro ⟨h, h'⟩ i j a b c' d'
          by_cases ei : i = c - 1
          · subst ei; exact h' j c' d'
          · exact h i j a (by omega) c' d'
      rw [e, hC m hm hm']
      constructor
      · rintro ⟨h, h'⟩; exact (hco.2.2 m hm h).1 h'
      · intro h; have := hco.2.1; exact ⟨by omega, (hco.2.2 m hm (by omega)).2 h⟩
    by_cases e0 : col < 0
    · obtain ⟨r, hr, hq⟩ := hk b hb hA (by
        intro c2 m2 hp hm2 hc2
        by_cases hcc : c2 < c
        · exact hE c2 m2 hp hm2 hcc
        · exfalso
          have hr := hp.2.2.2.2.2.2
          have : Rect n zs s t c x 0 := fun i j a b c' d' => hr i j a (by omega) c' (by have := hp.2.2.1; omega)
          have := (hC1 0 (by omega) (by omega)).1 this
          omega)
      exact ⟨r, Ev.step (fun k => by rw [codewrightref17_Best.l3, if_pos (by omega), hw]) (Ev.bind hcol (Ev.congr (fun k => by rw [hmn', if_pos e0, w64 (by omega) (by omega)]) hr)), hq⟩
    · have hwc : wrap64 (c + 1) = c + 1 := w64 (by omega) (by omega)
      have hcm := hco.2.1
      have hwr : wrap64 (wrap64 (c + 1) + col) = c + 1 + col := by rw [hwc, w64 (by omega) (by omega)]
      have hA1 : Att n zs most (mx b (c + 1)) := hA.max (.inr ⟨s, t, c, x, 0, ⟨hc, by omega, by omega, by omega, hg, fun h => by omega, (hC1 0 (by omega) (by omega)).2 (by omega)⟩, hm0, by omega⟩)
      have hxm : x % n = x := Int.emod_eq_of_lt hx hx'
      have hgx := RGcd_eq (a := x) (n := n) hx (by omega)
      have l1 := @mx_le b (c + 1)
      by_cases e1 : gc x n ≤ c
      · have l2 := @mx_le (mx b (c + 1)) (c + 1 + col)
        obtain ⟨r, hr, hq⟩ := ih (c + 1) (mx (mx b (c + 1)) (c + 1 + col)) col (by omega) (by omega) (by omega) (by omega) (by simpa using hC1) (by omega)
          (hA1.max (.inr ⟨s, t, c, x, col, ⟨hc, by omega, by omega, by omega, hg, fun h => by rw [hxm]; exact e1, (hC1 col (by omega) (by omega)).2 (by omega)⟩, by omega, rfl⟩)) (by
          intro c2 m2 hp hm2 hc2
          by_cases hcc : c2 < c
          · have := hE c2 m2 hp hm2 hcc; omega
          · obtain rfl : c2 = c := by omega
            have := (hC1 m2 (by have := hp.2.2.1; omega) hm2).1 hp.2.2.2.2.2.2
            omega)
        exact ⟨r, Ev.step (fun k => by rw [codewrightref17_Best.l3, if_pos (by omega), hw]) (Ev.bind hcol (Ev.congr (fun k => by rw [hmn', if_neg e0]) (Ev.bind hgx (Ev.congr (fun k => by rw [if_pos e1, hwr, hwc]) hr)))), hq⟩
      · obtain ⟨r, hr, hq⟩ := ih (c + 1) (mx b (c + 1)) col (by omega) (by omega) (by omega) (by omega) (by simpa using hC1) (by omega) hA1 (by
          intro c2 m2 hp hm2 hc2
          by_cases hcc : c2 < c
          · have := hE c2 m2 hp hm2 hcc; omega
          · obtain rfl : c2 = c := by omega
            by_cases em : 0 < m2
            · have := hp.2.2.2.2.2.1 em; rw [hxm] at this; omega
            · have := hp.2.2.1; omega)
        exact ⟨r, Ev.step (fun k => by rw [codewrightref17_Best.l3, if_pos (by omega), hw]) (Ev.bind hcol (Ev.congr (fun k => by rw [hmn', if_neg e0]) (Ev.bind hgx (Ev.congr (fun k => by rw [if_neg e1, hwc]) hr)))), hq⟩
theorem Best_l2 {n most s t : Int} {zs : List Int} (h1 : 1 ≤ n) (h2 : n ≤ 64) (hz : zs.length ≤ 4611686018427387904) (hm0 : 0 ≤ most) (hmn : most ≤ n)
    (hs : 0 ≤ s) (hs' : s < n) (ht : 0 ≤ t) (ht' : t < n) (Q : Int → Prop) (b0 : Int)
    (hk : ∀ b, b0 ≤ b → Att n zs most b → E2 n zs most s t n b → ∃ r, Ev (fun k => codewrightref17_Best.l1 k n most (zs.map (· % n)) b s (t + 1)) r ∧ Q r) :
    ∀ (d : Nat) (x b : Int), 0 ≤ x → x + d = n → b0 ≤ b → Att n zs most b → E2 n zs most s t x b →
      ∃ r, Ev (fun k => codewrightref17_Best.l2 k n most (zs.map (· % n)) b s t x) r ∧ Q r := by
  intro d
  induction d with
  | zero =>
    intro x b hx hd hb hA hE
    obtain rfl : x = n := by omega
    obtain ⟨r, hr, hq⟩ := hk b hb hA hE
    exact ⟨r, Ev.step (fun k => by rw [codewrightref17_Best.l2, if_neg (by omega), w64 (by omega) (by omega)]) hr, hq⟩
  | succ d ih =>
    intro x b hx hd hb hA hE
    have hgt := RGcd_eq (a := t) (n := n) ht (by omega)
    have htm : t % n = t := Int.emod_eq_of_lt ht ht'
    have hsm : s % n = s := Int.emod_eq_of_lt hs hs'
    -- the way past
    have past : (∀ c m, Proves n zs s t c x m → m ≤ most → (most = 0 → x = 0) → c + 1 + m ≤ b) → ∃ r, Ev (fun k => codewrightref17_Best.j3 k n most (zs.map (· % n)) b s t x true) r ∧ Q r := by
      intro hno
      obtain ⟨r, hr, hq⟩ := ih (x + 1) b (by omega) (by omega) hb hA (by
        intro c2 x2 m2 hp hm2 hx2 hx2' hmx
        by_cases e : x2 = x
        · subst e; exact hno _ _ hp hm2 hmx
        · exact hE _ _ _ hp hm2 hx2 (by omega) hmx)
      exact ⟨r, Ev.step (fun k => by rw [codewrightref17_Best.j3, if_pos rfl, w64 (by omega) (by omega)]) hr, hq⟩
    by_cases e1 : gc t n = 1
    · have hhas := @has_res n zs s hz
      have hhas' := @has_res_not n zs s hz
      rw [hsm] at hhas hhas'
      by_cases e2 : InS n zs s
      · have inner : ∃ r, Ev (fun k => codewrightref17_Best.j3 k n most (zs.map (· % n)) b s t x false) r ∧ Q r := by
          obtain ⟨r, hr, hq⟩ := Best_l3 (zs := zs) h1 h2 hz hm0 hmn (by rw [htm]; exact e1) hs hs' ht ht' hx (by omega) Q b (by
            intro b' hb' hA' hE'
            refine ih (x + 1) b' (by omega) (by omega) (by omega) hA' ?_
            intro c2 x2 m2 hp hm2 hx2 hx2' hmx
            by_cases e : x2 = x
            · subst e; exact hE' _ _ hp hm2 (by have := hp.2.1; omega)
            · have := hE _ _ _ hp hm2 hx2 (by omega) hmx; omega) n.toNat 1 b most (by omega) (by omega) hm0 (by omega) (by
            intro m hm hm'
            exact ⟨fun _ => hm', fun _ i j a b c d => by omega⟩) (by omega) hA (by
            intro c2 m2 hp hm2 hc2; have := hp.1; omega)
          exact ⟨r, Ev.step (fun k => by rw [codewrightref17_Best.j3, if_neg (by simp)]) hr, hq⟩
        by_cases e3 : x > 0
        · by_cases e4 : most = 0
          · obtain ⟨r, hr, hq⟩ := past (fun c m hp hm hmx => by have := hmx e4; omega)
            exact ⟨r, Ev.step (fun k => by rw [codewrightref17_Best.l2, if_pos (by omega)]) (Ev.bind hgt (Ev.congr (fun k => by rw [if_pos e1]) (Ev.bind (hhas e2) (Ev.congr (fun k => by rw [if_pos rfl, if_pos e3, show (most == 0) = true by simpa using e4]) hr)))), hq⟩
          · obtain ⟨r, hr, hq⟩ := inner
            exact ⟨r, Ev.step (fun k => by rw [codewrightref17_Best.l2, if_pos (by omega)]) (Ev.bind hgt (Ev.congr (fun k => by rw [if_pos e1]) (Ev.bind (hhas e2) (Ev.congr (fun k => by rw [if_pos rfl, if_pos e3, show (most == 0) = false by simpa using e4]) hr)))), hq⟩
        · obtain ⟨r, hr, hq⟩ := inner
          exact ⟨r, Ev.step (fun k => by rw [codewrightref17_Best.l2, if_pos (by omega)]) (Ev.bind hgt (Ev.congr (fun k => by rw [if_pos e1]) (Ev.bind (hhas e2) (Ev.congr (fun k => by rw [if_pos rfl, if_neg e3]) hr)))), hq⟩
      · obtain ⟨r, hr, hq⟩ := past (fun c m hp hm hmx => absurd (by have := hp.2.2.2.2.2.2 0 0 (by omega) (by have := hp.1; omega) (by omega) hp.2.2.1; simpa using this) e2)
        exact ⟨r, Ev.step (fun k => by rw [codewrightref17_Best.l2, if_pos (by omega)]) (Ev.bind hgt (Ev.congr (fun k => by rw [if_pos e1]) (Ev.bind (hhas' e2) (Ev.congr (fun k => by rw [if_neg (by simp)]) hr)))), hq⟩
    · obtain ⟨r, hr, hq⟩ := past (fun c m hp hm hmx => absurd (htm ▸ hp.2.2.2.2.1) e1)
      exact ⟨r, Ev.step (fun k => by rw [codewrightref17_Best.l2, if_pos (by omega)]) (Ev.bind hgt (Ev.congr (fun k => by rw [if_neg e1]) hr)), hq⟩
theorem Best_l1 {n most s : Int} {zs : List Int} (h1 : 1 ≤ n) (h2 : n ≤ 64) (hz : zs.length ≤ 4611686018427387904) (hm0 : 0 ≤ most) (hmn : most ≤ n)
    (hs : 0 ≤ s) (hs' : s < n) (Q : Int → Prop) (b0 : Int)
    (hk : ∀ b, b0 ≤ b → Att n zs most b → E1 n zs most s n b → ∃ r, Ev (fun k => codewrightref17_Best.l0 k n most (zs.map (· % n)) b (s + 1)) r ∧ Q r) :
    ∀ (d : Nat) (t b : Int), 0 ≤ t → t + d = n → b0 ≤ b → Att n zs most b → E1 n zs most s t b →
      ∃ r, Ev (fun k => codewrightref17_Best.l1 k n most (zs.map (· % n)) b s t) r ∧ Q r := by
  intro d
  induction d with
  | zero =>
    intro t b ht hd hb hA hE
    obtain rfl : t = n := by omega
    obtain ⟨r, hr, hq⟩ := hk b hb hA hE
    exact ⟨r, Ev.step (fun k => by rw [codewrightref17_Best.l1, if_neg (by omega), w64 (by omega) (by omega)]) hr, hq⟩
  | succ d ih =>
    intro t b ht hd hb hA hE
    obtain ⟨r, hr, hq⟩ := Best_l2 (zs := zs) h1 h2 hz hm0 hmn hs hs' ht (by omega) Q b (by
      intro b' hb' hA' hE'
      refine ih (t + 1) b' (by omega) (by omega) (by omega) hA' ?_
      intro t2 c2 x2 m2 hp hm2 ht2 ht2' hx2 hx2' hmx
      by_cases e : t2 = t
      · subst e; exact hE' _ _ _ hp hm2 hx2 hx2' hmx
      · have := hE _ _ _ _ hp hm2 ht2 (by omega) hx2 hx2' hmx; omega) n.toNat 0 b (by omega) (by omega) (by omega) hA (by
      intro c2 x2 m2 hp hm2 hx2 hx2'; omega)
    exact ⟨r, Ev.step (fun k => by rw [codewrightref17_Best.l1, if_pos (by omega)]) hr, hq⟩
theorem Best_l0 {n most : Int} {zs : List Int} (h1 : 1 ≤ n) (h2 : n ≤ 64) (hz : zs.length ≤ 4611686018427387904) (hm0 : 0 ≤ most) (hmn : most ≤ n) :
    ∀ (d : Nat) (s b : Int), 0 ≤ s → s + d = n → Att n zs most b → E0 n zs most s b →
      ∃ r, Ev (fun k => codewrightref17_Best.l0 k n most (zs.map (· % n)) b s) r ∧ (IsBest n zs most r ∧ 1 ≤ r) := by
  intro d
  induction d with
  | zero =>
    intro s b hs hd hA hE
    obtain rfl : s = n := by omega
    refine ⟨b, ev_succ (ev_now fun k => by rw [codewrightref17_Best.l0, if_neg (by omega)]), ⟨hA, ?_⟩, (hA.bd h1).1⟩
    intro s' t c x m hp hm
    have a1 := Int.emod_nonneg s' (show s ≠ 0 by omega)
    have a2 := Int.emod_lt_of_pos s' (show 0 < s by omega)
    have a3 := Int.emod_nonneg t (show s ≠ 0 by omega)
    have a4 := Int.emod_lt_of_pos t (show 0 < s by omega)
    have a5 := Int.emod_nonneg x (show s ≠ 0 by omega)
    have a6 := Int.emod_lt_of_pos x (show 0 < s by omega)
    by_cases e : most = 0
    · have em : m = 0 := by have := hp.2.2.1; omega
      subst em
      exact hE _ _ _ 0 0 (Proves_zero (Proves_mod.1 hp)) hm a1 a2 a3 a4 (by omega) (by omega) (fun _ => rfl)
    · exact hE _ _ _ _ _ (Proves_mod.1 hp) hm a1 a2 a3 a4 a5 a6 (fun h => absurd h e)
  | succ d ih =>
    intro s b hs hd hA hE
    obtain ⟨r, hr, hq⟩ := Best_l1 (zs := zs) h1 h2 hz hm0 hmn hs (by omega) (fun r => IsBest n zs most r ∧ 1 ≤ r) b (by
      intro b' hb' hA' hE'
      refine ih (s + 1) b' (by omega) (by omega) hA' ?_
      intro s2 t2 c2 x2 m2 hp hm2 hs2 hs2' ht2 ht2' hx2 hx2' hmx
      by_cases e : s2 = s
      · subst e; exact hE' _ _ _ _ hp hm2 ht2 ht2' hx2 hx2' hmx
      · have := hE _ _ _ _ _ hp hm2 hs2 (by omega) ht2 ht2' hx2 hx2' hmx; omega) n.toNat 0 b (by omega) (by omega) (by omega) hA (by
      intro t2 c2 x2 m2 hp hm2 ht2 ht2'; omega)
    exact ⟨r, Ev.step (fun k => by rw [codewrightref17_Best.l0, if_pos (by omega)]) hr, hq⟩
theorem Best_eq {n most : Int} {zs : List Int} (h1 : 1 ≤ n) (h2 : n ≤ 64) (hz : zs.length ≤ 17592186044415) (hm0 : 0 ≤ most) (hmn : most ≤ n) :
    ∃ r, Ev (fun k => codewrightref17_Best.f k n zs most) r ∧ (IsBest n zs most r ∧ 1 ≤ r) := by
  obtain ⟨r, hr, hq⟩ := Best_l0 (zs := zs) h1 h2 (by omega) hm0 hmn n.toNat 0 1 (by omega) (by omega) (.inl rfl) (by
    intro s2 t2 c2 x2 m2 hp hm2 hs2 hs2'; omega)
  exact ⟨r, Ev.bind (residues_eq h1 h2 hz) hr, hq⟩
end Go.Proofs.Ytibbdjkboglepaa.MyBchBounds

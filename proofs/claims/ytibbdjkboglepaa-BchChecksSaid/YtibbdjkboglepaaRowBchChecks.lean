/- The row of BchChecks: for every input the law returns true and its arguments read as before. It follows from the pure law and the printed walk; the run is opened here as a struct of five whole numbers. No further condition. -/
import Derived.Test.YtibbdjkboglepaaRows
import Derived.Test.YtibbdjkboglepaaPureBchChecks
import Derived.WalkKit
import Derived.ProofKit
import Derived.OpenShut
import Derived.ShutString
import Derived.ChangeOld
import Derived.Below
import Derived.SizedLaws
import Derived.Deep.Fields
import Derived.Test.YtibbdjkboglepaaWSized
namespace Go.Proofs.Ytibbdjkboglepaa.bchChecks
open Go.ChangeShapes Go.WideShapes Go.ChangeAt Go.RowKit Go.Deep
open Go.Proofs.Ytibbdjkboglepaa.PBchChecks Go.Proofs.YtibbdjkboglepaaW.PrintWords
theorem own : ownKnob Try.prog.godebug = none := by kernel_rfl
theorem laidOut : laidOutB Try.prog = true := by kernel_rfl
def IsRow (k : IntKind) (w : World) (a : Option Addr) (len cap : Nat) (zs : List Int) : Prop :=
  (a = none ∧ len = 0 ∧ cap = 0 ∧ zs = []) ∨
  ∃ x, a = some x ∧ len ≤ cap ∧ cap ≤ maxLen ∧ zs.length = cap ∧ (∀ i, i < zs.length → w.cell? (x.add i) = some (.int k (zs.getD i 0))) ∧ ∀ n ∈ zs, (Lit.int k n).wf = true
/-- A value that reads at a struct of five ints is five ints. -/
theorem open_run {H : Type} {enc : TypeId × Value → H} {P : Program} {w : World} {base : Nat} {spare : Nat → Bool} {held : Bool} {r : Reach} {b0 : Nat} {t ti : TypeId} {fs : Array Field} {v : Value} {d : DataW H} {p : List MemPlace} (hs : P.underlying t = some (.struct fs))
    (hone : oneCellFields P fs = true) (hsz : fs.size = 5) (hty : ∀ (i : Nat) (f : Field), fs[i]? = some f → f.type = ti) (hint : P.underlying ti = some (.int .i64)) (hC : P.cellsOf t = 5)
    (hv : Value.okWide P w r b0 t v) (h : DataW.Trod enc P w base spare held t v d p) :
    ∃ x0 x1 x2 x3 x4 : Int, v = .agg #[.int .i64 x0, .int .i64 x1, .int .i64 x2, .int .i64 x3, .int .i64 x4] := by
  obtain ⟨cs, rfl, hsz'⟩ := okWide_struct hs hv
  obtain ⟨fuel, hf⟩ := h
  obtain ⟨xs, n, -, -, hl, hlen, hg⟩ := DataW.trod_struct hs hf
  have hlen5 : cs.size = 5 := hsz'.trans hC
  have each : ∀ i, i < 5 → ∃ z : Int, cs[i]? = some (.int .i64 z) := by
    intro i hi
    have h1 : fs[i]? = some (fs[i]'(by omega)) := Array.getElem?_eq_getElem (by omega)
    obtain ⟨ho, hk⟩ := hone_of hone i _ h1
    have h2 := hg i _ h1
    rw [ho, hk, hty i _ h1] at h2
    have h3 : xs[i]? = some (xs[i]'(by omega)) := List.getElem?_eq_getElem (by omega)
    rw [h3] at h2
    obtain ⟨z, hz, -, -⟩ := DataW.trod_int hint h2
    refine ⟨z, ?_⟩
    have h4 : i < (Value.agg cs).cells.toList.length := by simpa [Value.cells] using (by omega : i < cs.size)
    rw [List.drop_eq_getElem_cons h4] at hz
    simp only [List.take_succ_cons, List.take_zero, List.cons.injEq, and_true] at hz
    rw [Array.getElem?_eq_getElem (by omega)]
    simpa [Value.cells] using hz
  obtain ⟨x0, h0⟩ := each 0 (by omega)
  obtain ⟨x1, h1⟩ := each 1 (by omega)
  obtain ⟨x2, h2⟩ := each 2 (by omega)
  obtain ⟨x3, h3⟩ := each 3 (by omega)
  obtain ⟨x4, h4⟩ := each 4 (by omega)
  refine ⟨x0, x1, x2, x3, x4, ?_⟩
  congr 1
  apply Array.ext_getElem?
  intro i
  match i with
  | 0 => simpa using h0
  | 1 => simpa using h1
  | 2 => simpa using h2
  | 3 => simpa using h3
  | 4 => simpa using h4
  | i + 5 => rw [Array.getElem?_eq_none (by omega), Array.getElem?_eq_none (by simp)]
theorem walk (n : Int) (a1 : Option Addr) (len1 cap1 : Nat) (z1 : List Int) (x0 x1 x2 x3 x4 : Int) (w : World) (w1 : IsRow .i64 w a1 len1 cap1 z1) :
    Calls Try.prog 3 #[.int .i64 n, .slice a1 len1 cap1, .agg #[.int .i64 x0, .int .i64 x1, .int .i64 x2, .int .i64 x3, .int .i64 x4]] w fun e w' => e = .returned (.bool true) ∧ Below w.heap.size w w' := by
  obtain ⟨l1, rfl, hr1, hm1, hw1, hc1⟩ := ReadsInt.ofRowC w1
  obtain ⟨k, h⟩ := MyBchChecks.law n l1 x0 x1 x2 x3 x4
  refine (codewrightlaw17_BchChecks.calls k n _ _ l1 x0 x1 x2 x3 x4 true w (Kd.C_of_reads (d := (0 : Int)) (h1 := fun _ => rfl) hr1) hc1 h).mono ?_
  rintro e w' ⟨rfl, hd⟩
  exact ⟨rfl, hd⟩
set_option maxRecDepth 100000 in
theorem lifted (os : Os) (started : os.Started) (H : Type) (enc : TypeId × Value → H) :
    ReturnsInHanded {} Try.checked os 3 .any (Rows.bchChecksSpec.pre6 enc Try.prog Try.f3 Rows.bchChecksRow.domain false) (Rows.bchChecksSpec.post enc Try.prog Try.f3 false true false false) := by
  refine returnsInHanded_of_change_sized (C := Try.checked) own started (by kernel_rfl) Try.func3
    (ChangeSpec.witness6 (enc := enc) (C := Try.checked) false ⟨#[], #[.int .i64 0, .slice none 0 0, .agg #[.int .i64 0, .int .i64 0, .int .i64 0, .int .i64 0, .int .i64 0]], []⟩ 8 (by kernel_rfl) (by kernel_rfl) (by kernel_rfl) (by kernel_rfl)) ?_
  intro W base args ds gs before hval0 hW hcnd hsz0 _
  have hval : ∀ (j : Nat) t v, Try.f3.params[j]? = some t → args[j]? = some v → Value.okWide Try.prog W .any base t v := hval0
  have hW' := hW
  obtain ⟨p, q, hA0, hV, rfl, hfz, hnd⟩ := hW
  have hA : DataW.TrodAll enc Try.prog W 0 (fun _ => true) true Try.f3.params.toList args.toList ds p := hA0
  rw [Try.params3] at hA hval
  obtain ⟨v0, vs0, d0, ds0, p0, q0, hargs, rfl, rfl, h0, r0⟩ := trodAll_cons hA
  obtain ⟨v1, vs1, d1, ds1, p1, q1, rfl, rfl, rfl, h1, r1⟩ := trodAll_cons r0
  obtain ⟨v2, vs2, d2, ds2, p2, q2, rfl, rfl, rfl, h2, r2⟩ := trodAll_cons r1
  obtain ⟨rfl, rfl, rfl⟩ := trodAll_nil r2
  obtain rfl : args = #[v0, v1, v2] := by cases args; simp_all
  obtain ⟨rfl, rfl⟩ := trodVars_none hV
  obtain ⟨a0, rfl, rfl, rfl, w0⟩ := open_int Try.underlying3 (hval 0 3 v0 rfl rfl) h0
  obtain ⟨a1, len1, cap1, rfl⟩ := okWide_slice Try.underlying22 (hval 1 22 v1 rfl rfl)
  have k1 := h1
  have k2 := h2
  have lt1 : ∀ x ∈ p1, x.block < W.heap.size := by obtain ⟨m, hm⟩ := k1; exact DataW.trod_lt m _ _ _ hm
  have lt2 : ∀ x ∈ p2, x.block < W.heap.size := by obtain ⟨m, hm⟩ := k2; exact DataW.trod_lt m _ _ _ hm
  obtain ⟨x0, x1, x2, x3, x4, rfl⟩ := open_run (ti := 3) Try.underlying24 (by kernel_rfl) rfl (by
    intro i f hf
    match i, hf with
    | 0, hf => injection hf with hf; subst hf; rfl
    | 1, hf => injection hf with hf; subst hf; rfl
    | 2, hf => injection hf with hf; subst hf; rfl
    | 3, hf => injection hf with hf; subst hf; rfl
    | 4, hf => injection hf with hf; subst hf; rfl) Try.underlying3 (by kernel_rfl) (hval 2 24 v2 rfl rfl) h2
  obtain ⟨z1, w1⟩ : ∃ zs, IsRow .i64 W a1 len1 cap1 zs := by
    obtain ⟨fuel, hf⟩ := h1
    rcases open_ints Try.underlying22 Try.underlying3 (by kernel_rfl) hf with ⟨hcs, _⟩ | ⟨x, l, c, zs, hcs, _, hl, hm, hz, _, hcell, hwz⟩
    · simp [Value.cells] at hcs
      obtain ⟨rfl, rfl, rfl⟩ := hcs
      exact ⟨[], .inl ⟨rfl, rfl, rfl, rfl⟩⟩
    · simp [Value.cells] at hcs
      obtain ⟨rfl, rfl, rfl⟩ := hcs
      exact ⟨zs, .inr ⟨_, rfl, hl, hm, by simpa using hz, hcell, hwz⟩⟩
  clear hA0 hval0 hsz0
  refine (walk a0 a1 len1 cap1 z1 x0 x1 x2 x3 x4 W w1).mono fun e W' ⟨he, bel⟩ => ?_
  subst he
  exact ⟨_, rfl, _, _, _, [], _, [], hW', trodAll_mk1 (shut_bool Try.underlying4 _), (trodAll_cons_mk (shut_int Try.underlying3 w0) (trodAll_cons_mk (Below.trod laidOut (by kernel_rfl) (of_decide_eq_true (by kernel_rfl)) k1 bel lt1) (trodAll_cons_mk (Below.trod laidOut (by kernel_rfl) (of_decide_eq_true (by kernel_rfl)) k2 bel lt2) trodAll_mk0))), rfl, bel.frame _, fun h => by cases h⟩
theorem over : Rows.bchChecksRow.holds Try.pinned (OpenSpec.ofChange Rows.bchChecksSpec) :=
  OpenClaim.holds_of_wide 3 Try.f3 rfl rfl rfl rfl rfl rfl rfl ⟨rfl, rfl, rfl, rfl, rfl⟩ rfl rfl rfl rfl rfl (by kernel_rfl) Try.func3 (by kernel_rfl)
    (of_decide_eq_true (by kernel_rfl)) (by unfold Func.isWrapper; first | (rw [if_pos (by decide +kernel)]; kernel_rfl) | (rw [if_neg (by decide +kernel)]; exact ⟨rfl, rfl⟩))
    (fun os started H enc _ => lifted os started H enc)
theorem proved : Rows.BchChecksSaid := over
#print axioms proved
end Go.Proofs.Ytibbdjkboglepaa.bchChecks
namespace Go.Proofs.Ytibbdjkboglepaa
/-- The row, under a short name, for the claim. -/
theorem bchChecks_holds : Rows.BchChecksSaid := bchChecks.proved
end Go.Proofs.Ytibbdjkboglepaa

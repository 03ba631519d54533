/- The row of BchRoots: for every input the law returns true and its arguments read as before. It follows from the plain laws and the walk; the field is opened here as a struct of two whole numbers and a list. No further condition. -/
import Derived.Test.YtibbdjkboglepaaRows
import Derived.Test.YtibbdjkboglepaaLawRootsQBchRoots
import Derived.WalkKit
import Derived.ProofKit
import Derived.OpenShut
import Derived.ShutString
import Derived.ChangeOld
import Derived.Below
import Derived.SizedLaws
import Derived.Deep.Fields
namespace Go.Proofs.Ytibbdjkboglepaa.bchRoots
open Go.ChangeShapes Go.WideShapes Go.ChangeAt Go.RowKit Go.Deep
open Go.Proofs.YtibbdjkboglepaaW.PrintWords
theorem own : ownKnob Try.prog.godebug = none := by kernel_rfl
theorem laidOut : laidOutB Try.prog = true := by kernel_rfl
def IsRow (k : IntKind) (w : World) (a : Option Addr) (len cap : Nat) (zs : List Int) : Prop :=
  (a = none ∧ len = 0 ∧ cap = 0 ∧ zs = []) ∨
  ∃ x, a = some x ∧ len ≤ cap ∧ cap ≤ maxLen ∧ zs.length = cap ∧ (∀ i, i < zs.length → w.cell? (x.add i) = some (.int k (zs.getD i 0))) ∧ ∀ n ∈ zs, (Lit.int k n).wf = true
/-- A value that reads at a struct of two ints and a list of ints is these. -/
theorem open_field {H : Type} {enc : TypeId × Value → H} {P : Program} {w : World} {base : Nat} {held : Bool} {r : Reach} {b0 : Nat} {t ti ts : TypeId} {fs : Array Field} {v : Value} {d : DataW H} {p : List MemPlace} (hs : P.underlying t = some (.struct fs))
    (hone : oneCellFields P fs = true) (hsz : fs.size = 3) (hty : ∀ (i : Nat) (f : Field), fs[i]? = some f → f.type = if i = 2 then ts else ti) (hint : P.underlying ti = some (.int .i64)) (hsl : P.underlying ts = some (.slice ti)) (hc1 : P.cellsOf ti = 1) (hC : P.cellsOf t = 3)
    (hv : Value.okWide P w r b0 t v) (h : DataW.Trod enc P w base (fun _ => true) held t v d p) :
    ∃ (x0 x1 : Int) (a : Option Addr) (len cap : Nat) (zs : List Int), v = .agg #[.int .i64 x0, .int .i64 x1, .slice a len cap] ∧ IsRow .i64 w a len cap zs := by
  obtain ⟨cs, rfl, hsz'⟩ := okWide_struct hs hv
  obtain ⟨fuel, hf⟩ := h
  obtain ⟨xs, n, -, -, hl, hlen, hg⟩ := DataW.trod_struct hs hf
  have hlen3 : cs.size = 3 := hsz'.trans hC
  have hat : ∀ i (hi : i < 3), (((Value.agg cs).cells.toList.drop i).take 1) = [cs[i]'(by omega)] := by
    intro i hi
    have h4 : i < (Value.agg cs).cells.toList.length := by simpa [Value.cells] using (by omega : i < cs.size)
    rw [List.drop_eq_getElem_cons h4]
    simp [Value.cells]
  have each : ∀ i, i < 2 → ∃ z : Int, cs[i]? = some (.int .i64 z) := by
    intro i hi
    have h1 : fs[i]? = some (fs[i]'(by omega)) := Array.getElem?_eq_getElem (by omega)
    obtain ⟨ho, hk⟩ := hone_of hone i _ h1
    have h2 := hg i _ h1
    rw [ho, hk, hty i _ h1, if_neg (by omega)] at h2
    have h3 : xs[i]? = some (xs[i]'(by omega)) := List.getElem?_eq_getElem (by omega)
    rw [h3] at h2
    obtain ⟨z, hz, -, -⟩ := DataW.trod_int hint h2
    rw [hat i (by omega)] at hz
    injection hz with hz
    exact ⟨z, by rw [Array.getElem?_eq_getElem (by omega), hz]⟩
  have last : ∃ (a : Option Addr) (len cap : Nat) (zs : List Int), cs[2]? = some (.slice a len cap) ∧ IsRow .i64 w a len cap zs := by
    have h1 : fs[2]? = some (fs[2]'(by omega)) := Array.getElem?_eq_getElem (by omega)
    obtain ⟨ho, hk⟩ := hone_of hone 2 _ h1
    have h2 := hg 2 _ h1
    rw [ho, hk, hty 2 _ h1, if_pos rfl] at h2
    have h3 : xs[2]? = some (xs[2]'(by omega)) := List.getElem?_eq_getElem (by omega)
    rw [h3, hat 2 (by omega)] at h2
    rcases open_ints hsl hint hc1 h2 with ⟨hcs, _⟩ | ⟨x, l, c, zs, hcs, _, hl, hm, hz, _, hcell, hwz⟩
    · injection hcs with hcs
      exact ⟨none, 0, 0, [], by rw [Array.getElem?_eq_getElem (by omega), hcs], .inl ⟨rfl, rfl, rfl, rfl⟩⟩
    · injection hcs with hcs
      exact ⟨some x, l, c, zs, by rw [Array.getElem?_eq_getElem (by omega), hcs], .inr ⟨_, rfl, hl, hm, by simpa using hz, hcell, hwz⟩⟩
  obtain ⟨x0, h0⟩ := each 0 (by omega)
  obtain ⟨x1, h1⟩ := each 1 (by omega)
  obtain ⟨a, len, cap, zs, h2, h3⟩ := last
  refine ⟨x0, x1, a, len, cap, zs, ?_, h3⟩
  congr 1
  apply Array.ext_getElem?
  intro i
  match i with
  | 0 => simpa using h0
  | 1 => simpa using h1
  | 2 => simpa using h2
  | i + 3 => rw [Array.getElem?_eq_none (by omega), Array.getElem?_eq_none (by simp)]
theorem walk (x0 x1 n : Int) (a1 : Option Addr) (len1 cap1 : Nat) (z1 : List Int) (w : World) (w1 : IsRow .i64 w a1 len1 cap1 z1) :
    Calls Try.prog 6 #[.agg #[.int .i64 x0, .int .i64 x1, .slice a1 len1 cap1], .int .i64 n] w fun e w' => e = .returned (.bool true) ∧ Below w.heap.size w w' := by
  obtain ⟨l1, rfl, hr1, hm1, hw1, hc1⟩ := ReadsInt.ofRowC w1
  exact MyQBchRoots.law_roots x0 x1 n a1 cap1 l1 w (Kd.C_of_reads (d := (0 : Int)) (h1 := fun _ => rfl) hr1) hc1
set_option maxRecDepth 100000 in
theorem lifted (os : Os) (started : os.Started) (H : Type) (enc : TypeId × Value → H) :
    ReturnsInHanded {} Try.checked os 6 .any (Rows.bchRootsSpec.pre6 enc Try.prog Try.f6 Rows.bchRootsRow.domain false) (Rows.bchRootsSpec.post enc Try.prog Try.f6 false true false false) := by
  refine returnsInHanded_of_change_sized (C := Try.checked) own started (by kernel_rfl) Try.func6
    (ChangeSpec.witness6 (enc := enc) (C := Try.checked) false ⟨#[], #[.agg #[.int .i64 0, .int .i64 0, .slice none 0 0], .int .i64 0], []⟩ 8 (by kernel_rfl) (by kernel_rfl) (by kernel_rfl) (by kernel_rfl)) ?_
  intro W base args ds gs before hval0 hW hcnd hsz0 _
  have hval : ∀ (j : Nat) t v, Try.f6.params[j]? = some t → args[j]? = some v → Value.okWide Try.prog W .any base t v := hval0
  have hW' := hW
  obtain ⟨p, q, hA0, hV, rfl, hfz, hnd⟩ := hW
  have hA : DataW.TrodAll enc Try.prog W 0 (fun _ => true) true Try.f6.params.toList args.toList ds p := hA0
  rw [Try.params6] at hA hval
  obtain ⟨v0, vs0, d0, ds0, p0, q0, hargs, rfl, rfl, h0, r0⟩ := trodAll_cons hA
  obtain ⟨v1, vs1, d1, ds1, p1, q1, rfl, rfl, rfl, h1, r1⟩ := trodAll_cons r0
  obtain ⟨rfl, rfl, rfl⟩ := trodAll_nil r1
  obtain rfl : args = #[v0, v1] := by cases args; simp_all
  obtain ⟨rfl, rfl⟩ := trodVars_none hV
  obtain ⟨a0, rfl, rfl, rfl, w0⟩ := open_int Try.underlying3 (hval 1 3 v1 rfl rfl) h1
  have k0 := h0
  have lt0 : ∀ x ∈ p0, x.block < W.heap.size := by obtain ⟨m, hm⟩ := k0; exact DataW.trod_lt m _ _ _ hm
  obtain ⟨x0, x1, a1, len1, cap1, z1, rfl, w1⟩ := open_field (ti := 3) (ts := 22) Try.underlying36 (by kernel_rfl) rfl (by
    intro i f hf
    match i, hf with
    | 0, hf => injection hf with hf; subst hf; rfl
    | 1, hf => injection hf with hf; subst hf; rfl
    | 2, hf => injection hf with hf; subst hf; rfl) Try.underlying3 Try.underlying22 (by kernel_rfl) (by kernel_rfl) (hval 0 36 v0 rfl rfl) h0
  clear hA0 hval0 hsz0
  refine (walk x0 x1 a0 a1 len1 cap1 z1 W w1).mono fun e W' ⟨he, bel⟩ => ?_
  subst he
  exact ⟨_, rfl, _, _, _, [], _, [], hW', trodAll_mk1 (shut_bool Try.underlying4 _), (trodAll_cons_mk (Below.trod laidOut (by kernel_rfl) (of_decide_eq_true (by kernel_rfl)) k0 bel lt0) (trodAll_cons_mk (shut_int Try.underlying3 w0) trodAll_mk0)), rfl, bel.frame _, fun h => by cases h⟩
theorem over : Rows.bchRootsRow.holds Try.pinned (OpenSpec.ofChange Rows.bchRootsSpec) :=
  OpenClaim.holds_of_wide 6 Try.f6 rfl rfl rfl rfl rfl rfl rfl ⟨rfl, rfl, rfl, rfl, rfl⟩ rfl rfl rfl rfl rfl (by kernel_rfl) Try.func6 (by kernel_rfl)
    (of_decide_eq_true (by kernel_rfl)) (by unfold Func.isWrapper; first | (rw [if_pos (by decide +kernel)]; kernel_rfl) | (rw [if_neg (by decide +kernel)]; exact ⟨rfl, rfl⟩))
    (fun os started H enc _ => lifted os started H enc)
theorem proved : Rows.BchRootsSaid := over
#print axioms proved
end Go.Proofs.Ytibbdjkboglepaa.bchRoots
namespace Go.Proofs.Ytibbdjkboglepaa
/-- The row, under a short name, for the claim. -/
theorem bchRoots_holds : Rows.BchRootsSaid := bchRoots.proved
end Go.Proofs.Ytibbdjkboglepaa

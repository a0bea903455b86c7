/- What the rows' readers find, as abstract values: the listed table of the powers of ten, and arguments of this seat's types. -/
import Derived.Test.YtbnapbegomemeaaDoorSwR
import Derived.Test.YtbnapbegomemeaaDoorU1
import Derived.Test.YtbnapbegomemeaaDoorRows
import Derived.ProofKit
import Derived.LaidMore
import Derived.OpenShut
import Derived.Stop.Joined
namespace Go.Proofs.YtbnapbegomemeaaDoor
open Go.Sw Go.ChangeShapes Go.WideShapes Go.ChangeAt Go.RowKit

theorem own : ownKnob Tryd.prog.godebug = none := by kernel_rfl
theorem laidOut : laidOutB Tryd.prog = true := by kernel_rfl
theorem gPow : Tryd.prog.globalNamed "internal/strconv.uint64pow10" = some 0 := by kernel_rfl
theorem tPow : (Tryd.prog.globals[0]?).map (·.type) = some 62 := by kernel_rfl

/-- What is listed. -/
abbrev laidL : List (String × DataW Unit) := [("math/bits.deBruijn32tab", Rows.laid_math_bits_deBruijn32tab), ("math/bits.deBruijn64tab", Rows.laid_math_bits_deBruijn64tab), ("internal/strconv.uint64pow10", Rows.laid_internal_strconv_uint64pow10)]
theorem laid_pow : (Rows.laid_internal_strconv_uint64pow10 : DataW Unit) = Lib.tabData .u64 Lib.pow10Tab := by kernel_rfl

/-- What the row's condition gives: the table of the powers of ten. -/
theorem W0_of_laid {W : World} (h : laidMetH Tryd.prog laidL W) : Cc.W0 W W.heap.size := by
  rw [MakeChecks.laidMetH_plain _ _ _ (by kernel_rfl)] at h
  obtain ⟨ps, ⟨_, _, _, _, _, _, _, _, _, _, ⟨_, _, _, _, _, _, _, _, _, _, ⟨g0, t0, cs0, f0, p0, q0, hg0, ht0, hv0, hd0, _⟩, _⟩, _⟩, _, _⟩ := h
  obtain rfl := Option.some.inj (gPow.symm.trans hg0)
  obtain rfl := Option.some.inj (tPow.symm.trans ht0)
  rw [laid_pow] at hd0
  have hc := Lib.cells_of_tab Tryd.underlying62 Tryd.underlying55 (by kernel_rfl) (by kernel_rfl) hd0
  have hv : Lib.TabIs Tryd.prog W "internal/strconv.uint64pow10" .u64 Lib.pow10Tab := by
    unfold Lib.TabIs
    rw [hv0, ← hc]
  refine ⟨hv, ?_⟩
  have h1 := hv.cell gPow 0 (by rw [Lib.pow10Tab_length]; decide)
  unfold World.cell? at h1
  split at h1
  · rename_i hh
    have := (Array.getElem?_eq_some_iff.1 hh).1
    omega
  · cases h1
theorem glob_none {W : World} : ∀ (k : Nat) (p : PV), Cc.GE k = some p → Rep Cc.P (S.start W) p (.pointer (some ⟨k, 0, none⟩)) := by
  intro k p h
  rw [Cc_GE] at h
  cases h

section
variable {H : Type} {enc : TypeId × Value → H} {W : World} {spare : Nat → Bool} {held : Bool}
theorem I64.of_wf {n : Int} (h : (Lit.int .i64 n).wf = true) : I64 n := by
  simp only [Lit.wf, Bool.and_eq_true, decide_eq_true_eq] at h
  exact ⟨h.1, h.2⟩
theorem cells3 : Tryd.prog.cellsOf 3 = 1 := by kernel_rfl
theorem read_int {fuel : Nat} {cs : List Value} {x : DataW H × List MemPlace} (h : DataW.trod enc Tryd.prog W 0 spare held fuel 3 cs = some x) : ∃ n : Int, I64 n ∧ RepCells Cc.P (S.start W) [i64 n] cs := by
  obtain ⟨n, hw, hr⟩ := rep_int Tryd.underlying3 h
  exact ⟨n, I64.of_wf hw, hr⟩
end
end Go.Proofs.YtbnapbegomemeaaDoor

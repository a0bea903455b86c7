/-
  TableNumbers returns true for every entry, value, number and list of numbers, and leaves its arguments as they were.
  Condition: the package variable element.bounds reads as the program's text lays it when the call begins (the card ties that to the text).
-/
import Derived.Test.YtgabnlkkjmepnaaDoorJp
import Derived.Test.YtgabnlkkjmepnaaDoorS18
import Derived.Test.YtgabnlkkjmepnaaDoorCards
import Derived.Test.YtgabnlkkjmepnaaDoorTie
import Derived.SevenTiedAt
namespace Go.Proofs.YtgabnlkkjmepnaaDoor
open Go.Sw Go.ChangeShapes Go.WideShapes Go.ChangeAt Go.RowKit

/-- The state that the program's own start leaves meets the condition. -/
theorem numbers_door (os : Os) (args : Array Value) : laidMetH Tryd.prog laidL ((World.doorLaid Tryd.prog 400 os).forCall (fun _ _ => 0) ⟨#[], args, []⟩).memory :=
  laidMetH_of_parts3 (fuel := 8) (laidMet_of_run' 8 (by kernel_rfl) (by kernel_rfl)) (by kernel_rfl) (by kernel_rfl)

set_option maxRecDepth 100000 in
theorem numbers_lifted (os : Os) (started : os.Started) (H : Type) (enc : TypeId × Value → H) :
    ReturnsInHanded {} Tryd.checked os 3 .any (fun w args => (Rows.tableNumbersSpec.pre enc Tryd.prog Tryd.f3 [] false w args ∧ laidMetH Tryd.prog laidL w) ∧ sizedMet enc Tryd.prog Tryd.f3 (OpenSpec.ofChange Rows.tableNumbersSpec) false w args)
      (Rows.tableNumbersSpec.post enc Tryd.prog Tryd.f3 false true false false) := by
  refine returnsInHanded_of_change_and (C := Tryd.checked) (X := fun w _ => laidMetH Tryd.prog laidL w) (fun _ _ _ hh h => h.of_heap hh) own started (by kernel_rfl) Tryd.func3
    (ChangeSpec.witness_shaped (enc := enc) (C := Tryd.checked) (os := os) (X := fun w _ => laidMetH Tryd.prog laidL w) false (World.doorLaid Tryd.prog 400 os) #[.agg #[.int .i64 0, .int .i64 0, .int .i64 0, .int .i64 0, .int .i64 0], .int .i64 0, .int .i64 0, .slice none 0 0] 8 rfl (World.shaped_of_RefB (by kernel_rfl) (by kernel_rfl)) (by kernel_rfl) (by kernel_rfl) (by kernel_rfl) (numbers_door os _)) ?_
  intro W base args ds gs before hval0 hW _ _ hL _
  have hval : ∀ (j : Nat) t v, Tryd.f3.params[j]? = some t → args[j]? = some v → Value.okWide Tryd.prog W .any base t v := hval0
  have hW' := hW
  obtain ⟨p, q, hA0, hV, rfl, _, _⟩ := hW
  obtain ⟨rfl, rfl⟩ := trodVars_none hV
  have hA : DataW.TrodAll enc Tryd.prog W 0 (fun _ => true) true Tryd.f3.params.toList args.toList ds p := hA0
  rw [Tryd.params3] at hA hval
  obtain ⟨v0, v1, v2, v3, d0, d1, d2, d3, p0, p1, p2, p3, rfl, rfl, rfl, h0, h1, h2, h3⟩ := trodAll_four hA
  obtain ⟨cs, rfl, _⟩ := okWide_struct Tryd.underlying23 (hval 0 23 v0 rfl rfl)
  obtain ⟨a, rfl, rfl, rfl, wa⟩ := open_int Tryd.underlying3 (hval 1 3 v1 rfl rfl) h1
  obtain ⟨b, rfl, rfl, rfl, wb⟩ := open_int Tryd.underlying3 (hval 2 3 v2 rfl rfl) h2
  obtain ⟨f0, h0⟩ := h0
  obtain ⟨f3, h3⟩ := h3
  obtain ⟨e, he, re⟩ := read_ent h0
  obtain ⟨l, v, hv, hl, hll, rl⟩ := read_ints h3
  obtain ⟨a0, len, cap, rfl⟩ := okWide_slice Tryd.underlying24 (hval 3 24 v3 rfl rfl)
  obtain rfl : Value.slice a0 len cap = v := by simpa [Value.cells] using hv
  have hcells : RepCells Cc.P (S.start W) [.agg (encE e), i64 a, i64 b, .sl none (l.map encI)] [.agg cs, .int .i64 a, .int .i64 b, .slice a0 len cap] := by
    have r0 : Rep Cc.P (S.start W) (.agg (encE e)) (.agg cs) := by simpa [Value.cells] using re.agg
    exact (RepCells.mk r0).append ((RepCells.mk (.val _)).append ((RepCells.mk (.val _)).append (RepCells.mk rl)))
  refine (SC.calls (glob_of_laid hL) (TableNumbers_sc e a b l he (I64.of_wf wa) (I64.of_wf wb) ⟨[], []⟩) hcells).mono fun e W' ⟨he, bel⟩ => ?_
  subst he
  exact ⟨_, rfl, law_post rfl rfl (by rw [Tryd.params3]; intro t ht; simp at ht; rcases ht with rfl | rfl | rfl <;> exact ⟨by kernel_rfl, of_decide_eq_true (by kernel_rfl)⟩) hW' rfl rfl rfl bel⟩

theorem numbers_holds : Rows.TableNumbersSaid :=
  OpenClaim.holds_of_wide 3 Tryd.f3 rfl rfl rfl rfl rfl rfl rfl ⟨rfl, rfl, rfl, rfl, rfl⟩ rfl rfl rfl rfl rfl (by kernel_rfl) Tryd.func3 (by kernel_rfl)
    (of_decide_eq_true (by kernel_rfl)) (by unfold Func.isWrapper; first | (rw [if_pos (by decide +kernel)]; kernel_rfl) | (rw [if_neg (by decide +kernel)]; exact ⟨rfl, rfl⟩))
    (fun os started H enc _ => numbers_lifted os started H enc)

theorem numbers_card : Rows.TableNumbersCardSaid :=
  Claim7.holds_tied_plain_at .later [] [.data] true (true, "94063ac6e77091e4154eeea84c6c89d25ff870a1438f388d021ecedf7ce431df") false
    numbers_holds (fun _ h => by cases h) (by kernel_rfl) (fun _ h => by cases h) tableNumbers_row_tie rfl ⟨rfl, rfl⟩ (by kernel_rfl) rfl
    (fun f fn hf hfn => by
      obtain rfl : f = 3 := Option.some.inj ((show Tryd.prog.funcNamed "synoptic/synopticlaw08.TableNumbers" = some 3 by kernel_rfl).symm.trans hf) |>.symm
      obtain rfl : fn = Tryd.f3 := (Option.some.inj (Tryd.func3.symm.trans hfn)).symm
      exact ⟨by kernel_rfl, fun j t ht => by
        rw [Tryd.params3] at ht
        have hm : t ∈ [23, 3, 3, 24] := by simpa using Array.mem_of_getElem? ht
        have hall : ([23, 3, 3, 24].all fun u => !Tryd.prog.wantsStandIn u) = true := by kernel_rfl
        exact (show Tryd.prog.wantsStandIn t = false by simpa using List.all_eq_true.1 hall t hm)⟩)
    (by kernel_rfl)
#print axioms numbers_card
end Go.Proofs.YtgabnlkkjmepnaaDoor

/-
  MonitorMaps returns true for every list of numbers, and leaves it as it was.
  Condition: the package variables internal/strconv.uint64pow10, math/bits.deBruijn32tab and math/bits.deBruijn64tab read as the text lays them when the call begins (the card ties that to the text).
-/
import Derived.Test.YtbnapbegomemeaaDoorJp
import Derived.Test.YtbnapbegomemeaaDoorU8
import Derived.Test.YtbnapbegomemeaaDoorCards
import Derived.Test.YtbnapbegomemeaaDoorTie
import Derived.SevenTiedAt
namespace Go.Proofs.YtbnapbegomemeaaDoor
open Go.Sw Go.ChangeShapes Go.WideShapes Go.ChangeAt Go.RowKit

/-- The state that the program's own start leaves meets the condition. -/
theorem monitorMaps_door (os : Os) (args : Array Value) : laidMetH Tryd.prog laidL ((World.doorLaid Tryd.prog 400 os).forCall (fun _ _ => 0) ⟨#[], args, []⟩).memory :=
  laidMetH_of_parts3 (fuel := 8) (laidMet_of_run' 8 (by kernel_rfl) (by kernel_rfl)) (by kernel_rfl) (by kernel_rfl)

set_option maxRecDepth 100000 in
theorem monitorMaps_lifted (os : Os) (started : os.Started) (H : Type) (enc : TypeId × Value → H) :
    ReturnsInHanded {} Tryd.checked os 3 .any (fun w args => (Rows.monitorMapsSpec.pre enc Tryd.prog Tryd.f3 [] false w args ∧ laidMetH Tryd.prog laidL w) ∧ sizedMet enc Tryd.prog Tryd.f3 (OpenSpec.ofChange Rows.monitorMapsSpec) false w args)
      (Rows.monitorMapsSpec.post enc Tryd.prog Tryd.f3 false true false false) := by
  refine returnsInHanded_of_change_and (C := Tryd.checked) (X := fun w _ => laidMetH Tryd.prog laidL w) (fun _ _ _ hh h => h.of_heap hh) own started (by kernel_rfl) Tryd.func3
    (ChangeSpec.witness_shaped (enc := enc) (C := Tryd.checked) (os := os) (X := fun w _ => laidMetH Tryd.prog laidL w) false (World.doorLaid Tryd.prog 400 os) #[.slice none 0 0] 8 rfl (World.shaped_of_RefB (by kernel_rfl) (by kernel_rfl)) (by kernel_rfl) (by kernel_rfl) (by kernel_rfl) (monitorMaps_door os _)) ?_
  intro W base args ds gs before hval0 hW _ _ hL _
  have hval : ∀ (j : Nat) t v, Tryd.f3.params[j]? = some t → args[j]? = some v → Value.okWide Tryd.prog W .any base t v := hval0
  have hW' := hW
  obtain ⟨p, q, hA0, hV, rfl, _, _⟩ := hW
  obtain ⟨rfl, rfl⟩ := trodVars_none hV
  have hA : DataW.TrodAll enc Tryd.prog W 0 (fun _ => true) true Tryd.f3.params.toList args.toList ds p := hA0
  rw [Tryd.params3] at hA hval
  obtain ⟨v0, d0, rfl, rfl, h0⟩ := trodAll_one hA
  obtain ⟨a0, len, cap, rfl⟩ := okWide_slice Tryd.underlying22 (hval 0 22 v0 rfl rfl)
  obtain ⟨f0, h0⟩ := h0
  obtain ⟨l, v, hv, hl, hll, rl⟩ := rep_slice (encA := fun x => [i64 x]) (ok := I64) Tryd.underlying22 cells3 (by decide) (fun n cs y h => read_int h) h0
  obtain rfl : Value.slice a0 len cap = v := by simpa [Value.cells] using hv
  refine (SC.calls (W0_of_laid hL) glob_none (law_sc l ⟨[], []⟩ hl) (RepCells.mk rl)).mono fun e W' ⟨he, bel⟩ => ?_
  subst he
  exact ⟨_, rfl, law_post rfl rfl (by rw [Tryd.params3]; intro t ht; simp at ht; subst ht; exact ⟨by kernel_rfl, of_decide_eq_true (by kernel_rfl)⟩) hW' rfl rfl rfl bel⟩

theorem monitorMaps_holds : Rows.MonitorMapsSaid :=
  OpenClaim.holds_of_wide 3 Tryd.f3 rfl rfl rfl rfl rfl rfl rfl ⟨rfl, rfl, rfl, rfl, rfl⟩ rfl rfl rfl rfl rfl (by kernel_rfl) Tryd.func3 (by kernel_rfl)
    (of_decide_eq_true (by kernel_rfl)) (by unfold Func.isWrapper; first | (rw [if_pos (by decide +kernel)]; kernel_rfl) | (rw [if_neg (by decide +kernel)]; exact ⟨rfl, rfl⟩))
    (fun os started H enc _ => monitorMaps_lifted os started H enc)

theorem monitorMaps_card : Rows.MonitorMapsCardSaid :=
  Claim7.holds_tied_plain_at .later [] [.data, .data, .data] true (true, "4a02d80df591ba1bf08b44ac6e97b6728f343a4957d84673c2c012fd92f4607f") false
    monitorMaps_holds (fun _ h => by cases h) (by kernel_rfl) (fun _ h => by cases h) monitorMaps_row_tie rfl ⟨rfl, rfl⟩ (by kernel_rfl) rfl
    (fun f fn hf hfn => by
      obtain rfl : f = 3 := Option.some.inj ((show Tryd.prog.funcNamed "synoptic/synopticlaw42.MonitorMaps" = some 3 by kernel_rfl).symm.trans hf) |>.symm
      obtain rfl : fn = Tryd.f3 := (Option.some.inj (Tryd.func3.symm.trans hfn)).symm
      exact ⟨by kernel_rfl, fun j t ht => by
        rw [Tryd.params3] at ht
        have hm : t ∈ [22] := by simpa using Array.mem_of_getElem? ht
        have hall : ([22].all fun u => !Tryd.prog.wantsStandIn u) = true := by kernel_rfl
        exact (show Tryd.prog.wantsStandIn t = false by simpa using List.all_eq_true.1 hall t hm)⟩)
    (by kernel_rfl)
#print axioms monitorMaps_card
end Go.Proofs.YtbnapbegomemeaaDoor

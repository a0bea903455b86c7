/- Encoding and decoding: what the program's functions and the reference's give. -/
import Derived.Test.YtgabnlkkjmepnaaDoorS5
import Derived.IntWalk
namespace Go.Proofs.YtgabnlkkjmepnaaDoor
open Go.Sw
set_option linter.unusedSimpArgs false
set_option linter.unusedVariables false
attribute [local simp] runOps stepOp pureOp gd isCall inN setd Sw.get params ev evs binV unV convV loadA cellsPV oneB storeA fieldAddrA fieldOff fieldA partA aggOf extractA indexAddrA indexA lenA minmaxA sliceA bnd partsA buildA placesA fillA buildSliceA zerosA chunkA TyD.agg Value.oneCell' Value.cells runPure appA appendA okRow_nil okRow_cons okRow_append resultA ressA resA List.getElem?_append List.set_append Cl_any Cl_val Cl_ptr Cl_agg Cl_tup Cl_fn Cl_rop Cl_sl Sw.take_set Sw.take_set_app Sw.take_app

attribute [local simp] encI encE

theorem refDescribe_sc (c : Int) (σ : AS) (hc : I64 c) : SC Cc 29 [i64 c] σ (Desc c σ) := by
  obtain ⟨hc0, hc9⟩ := hc
  refine W.body Tryd.func29 rfl 27 Tryd.ntmps29 _ Tryd.results29 (by simp) GEt_cl fun hσ => ?_
  by_cases a1 : c < 1
  · repeat' (first
      | with_reducible refine W.seq ?_
      | with_reducible refine W.next ?_
      | with_reducible refine W.nil ?_
      | with_reducible refine W.skip ?_
      | with_reducible refine W.ret ?_
      | with_reducible refine W.ret_code ?_
      | with_reducible refine W.block ?_
      | with_reducible refine W.out ?_
      | with_reducible refine W.ret_blk ?_
      | with_reducible refine W.exit ?_
      | with_reducible refine W.exit_code ?_
      | with_reducible refine W.exit_here ?_
      | with_reducible refine W.leave_exit ?_
      | with_reducible refine W.leave_ret ?_
      | ((with_reducible refine W.exit_on ?h ?_); (case h => decide))
      | ((with_reducible apply W.reg); (case h => simp [T3, T62, T9, T5, T85, a1]; exact ⟨rfl, rfl, rfl⟩))
      | ((with_reducible apply W.draw mixed); (case hB => kernel_rfl); (case hr => simp [T3, T62, T9, T5, T85, a1]; rfl))
      | ((with_reducible apply W.cond); (case hc => simp; rfl); all_goals (intro hc_; try (cases hc_; done)))
      | ((with_reducible apply W.runX); (case _hc => rfl); (case h => simp [T3, T62, T9, T5, T85, a1]; exact ⟨rfl, rfl, rfl⟩))
      | fail)
    with_reducible apply W.fin
    case h1 => simp <;> rfl
    case h2 => exact Wk.rfl
    case h3 => simp
    case h4 => exact hσ.clB.app (Nat.le_refl _)
    have e : isEl c = false := by simp [isEl]; omega
    exact ⟨_, _, _, _, _, rfl, by simp [e], by simp [e], by simp⟩
  by_cases a2 : 11 < c
  · repeat' (first
      | with_reducible refine W.seq ?_
      | with_reducible refine W.next ?_
      | with_reducible refine W.nil ?_
      | with_reducible refine W.skip ?_
      | with_reducible refine W.ret ?_
      | with_reducible refine W.ret_code ?_
      | with_reducible refine W.block ?_
      | with_reducible refine W.out ?_
      | with_reducible refine W.ret_blk ?_
      | with_reducible refine W.exit ?_
      | with_reducible refine W.exit_code ?_
      | with_reducible refine W.exit_here ?_
      | with_reducible refine W.leave_exit ?_
      | with_reducible refine W.leave_ret ?_
      | ((with_reducible refine W.exit_on ?h ?_); (case h => decide))
      | ((with_reducible apply W.reg); (case h => simp [T3, T62, T9, T5, T85, a1, a2]; exact ⟨rfl, rfl, rfl⟩))
      | ((with_reducible apply W.draw mixed); (case hB => kernel_rfl); (case hr => simp [T3, T62, T9, T5, T85, a1, a2]; rfl))
      | ((with_reducible apply W.cond); (case hc => simp; rfl); all_goals (intro hc_; try (cases hc_; done)))
      | ((with_reducible apply W.runX); (case _hc => rfl); (case h => simp [T3, T62, T9, T5, T85, a1, a2]; exact ⟨rfl, rfl, rfl⟩))
      | fail)
    with_reducible apply W.fin
    case h1 => simp <;> rfl
    case h2 => exact Wk.rfl
    case h3 => simp
    case h4 => exact hσ.clB.app (Nat.le_refl _)
    have e : isEl c = false := by simp [isEl]; omega
    exact ⟨_, _, _, _, _, rfl, by simp [e], by simp [e], by simp⟩
  have hcc : c = 1 ∨ c = 2 ∨ c = 3 ∨ c = 4 ∨ c = 5 ∨ c = 6 ∨ c = 7 ∨ c = 8 ∨ c = 9 ∨ c = 10 ∨ c = 11 := by omega
  clear a1 a2 hc0 hc9
  rcases hcc with rfl | rfl | rfl | rfl | rfl | rfl | rfl | rfl | rfl | rfl | rfl
  all_goals
    repeat' (first
      | with_reducible refine W.seq ?_
      | with_reducible refine W.next ?_
      | with_reducible refine W.nil ?_
      | with_reducible refine W.skip ?_
      | with_reducible refine W.ret ?_
      | with_reducible refine W.ret_code ?_
      | with_reducible refine W.block ?_
      | with_reducible refine W.out ?_
      | with_reducible refine W.ret_blk ?_
      | with_reducible refine W.exit ?_
      | with_reducible refine W.exit_code ?_
      | with_reducible refine W.exit_here ?_
      | with_reducible refine W.leave_exit ?_
      | with_reducible refine W.leave_ret ?_
      | ((with_reducible refine W.exit_on ?h ?_); (case h => decide))
      | ((with_reducible apply W.reg); (case h => simp [T3, T62, T9, T5, T85, wrapL]; exact ⟨rfl, rfl, rfl⟩))
      | ((with_reducible apply W.draw mixed); (case hB => kernel_rfl); (case hr => simp [T3, T62, T9, T5, T85, wrapL]; rfl))
      | ((with_reducible apply W.cond); (case hc => simp; rfl); all_goals (intro hc_; try (cases hc_; done)))
      | ((with_reducible apply W.runX); (case _hc => rfl); (case h => simp [T3, T62, T9, T5, T85, wrapL]; exact ⟨rfl, rfl, rfl⟩))
      | fail)
    with_reducible apply W.fin
    case h1 => simp <;> rfl
    case h2 => exact Wk.rfl
    case h3 => simp
    case h4 => exact hσ.clB.app (Nat.le_refl _)
    exact ⟨_, _, _, _, _, rfl, by simp [isEl], by simp [isEl, leastF], by simp⟩

theorem ValidEntry_sc (e : Ent) (σ : AS) (he : EntOK e) : SC1 Cc 36 [.agg (encE e)] σ (bV (validB e)) σ := by
  refine W.body Tryd.func36 rfl 17 Tryd.ntmps36 _ Tryd.results36 (by simp) GEt_cl fun hσ => ?_
  repeat' (first
    | with_reducible refine W.seq ?_
    | with_reducible refine W.next ?_
    | with_reducible refine W.nil ?_
    | with_reducible refine W.skip ?_
    | with_reducible refine W.ret ?_
    | with_reducible refine W.ret_code ?_
    | with_reducible refine W.block ?_
    | with_reducible refine W.out ?_
    | with_reducible refine W.ret_blk ?_
    | with_reducible refine W.exit ?_
    | with_reducible refine W.exit_code ?_
    | with_reducible refine W.exit_here ?_
    | with_reducible refine W.leave_exit ?_
    | with_reducible refine W.leave_ret ?_
    | ((with_reducible refine W.exit_on ?h ?_); (case h => decide))
    | ((with_reducible apply W.reg); (case h => simp [T3, T4, T23, T62, T35]; exact ⟨rfl, rfl, rfl⟩))
    | ((with_reducible apply W.draw mixed); (case hB => kernel_rfl); (case hr => simp [T3, T4, T23, T62, T35]; rfl))
    | ((with_reducible apply W.cond); (case hc => simp; rfl); all_goals (intro hc_; try (cases hc_; done)))
    | ((with_reducible apply W.runX); (case _hc => rfl); (case h => simp [T3, T4, T23, T62, T35]; exact ⟨rfl, rfl, rfl⟩))
    | ((with_reducible apply W.callR go29); (case ho => rfl); (case hc => rfl); (case hf => rfl); (case hg => first | rfl | simp [T3, T4, T23, T62, T35]); (case hd => rfl); (case ha => simp [T3, T4, T23, T62, T35]; rfl); (case hargs => rfl); (case hs => exact refDescribe_sc _ _ he.element); rintro _ _ ⟨s, h, d, l, er, rfl, hr, _, rfl⟩)
    | fail)
  cases hb : isEl e.element
  · simp [hb] at hr
    subst hr
    repeat' (first
      | with_reducible refine W.seq ?_
      | with_reducible refine W.next ?_
      | with_reducible refine W.nil ?_
      | with_reducible refine W.skip ?_
      | with_reducible refine W.ret ?_
      | with_reducible refine W.ret_code ?_
      | with_reducible refine W.block ?_
      | with_reducible refine W.out ?_
      | with_reducible refine W.ret_blk ?_
      | with_reducible refine W.exit ?_
      | with_reducible refine W.exit_code ?_
      | with_reducible refine W.exit_here ?_
      | with_reducible refine W.leave_exit ?_
      | with_reducible refine W.leave_ret ?_
      | ((with_reducible refine W.exit_on ?h ?_); (case h => decide))
      | ((with_reducible apply W.reg); (case h => simp [T3, T4, T23, T62, T35]; exact ⟨rfl, rfl, rfl⟩))
      | ((with_reducible apply W.draw mixed); (case hB => kernel_rfl); (case hr => simp [T3, T4, T23, T62, T35]; rfl))
      | ((with_reducible apply W.cond); (case hc => simp; rfl); all_goals (intro hc_; try (cases hc_; done)))
      | ((with_reducible apply W.runX); (case _hc => rfl); (case h => simp [T3, T4, T23, T62, T35]; exact ⟨rfl, rfl, rfl⟩))
      | ((with_reducible apply W.callR go29); (case ho => rfl); (case hc => rfl); (case hf => rfl); (case hg => first | rfl | simp [T3, T4, T23, T62, T35]); (case hd => rfl); (case ha => simp [T3, T4, T23, T62, T35]; rfl); (case hargs => rfl); (case hs => exact refDescribe_sc _ _ he.element); rintro _ _ ⟨s, h, d, l, er, rfl, hr, _, rfl⟩)
      | ((with_reducible apply W.call1 go39); (case ho => rfl); (case hc => rfl); (case hf => rfl); (case hg => first | rfl | simp [T3, T4, T23, T62, T35]); (case hd => rfl); (case ha => simp [T3, T4, T23, T62, T35]; rfl); (case hargs => rfl); (case hs => exact refvalid_sc _ _ he))
      | fail)
    with_reducible apply W.fin
    case h1 => simp <;> rfl
    case h2 => exact Wk.rfl
    case h3 => simp
    case h4 => exact hσ.clB.app (Nat.le_refl _)
    exact ⟨by simp [validB_eq, hb], by simp⟩
  · simp [hb] at hr
    subst hr
    repeat' (first
      | with_reducible refine W.seq ?_
      | with_reducible refine W.next ?_
      | with_reducible refine W.nil ?_
      | with_reducible refine W.skip ?_
      | with_reducible refine W.ret ?_
      | with_reducible refine W.ret_code ?_
      | with_reducible refine W.block ?_
      | with_reducible refine W.out ?_
      | with_reducible refine W.ret_blk ?_
      | with_reducible refine W.exit ?_
      | with_reducible refine W.exit_code ?_
      | with_reducible refine W.exit_here ?_
      | with_reducible refine W.leave_exit ?_
      | with_reducible refine W.leave_ret ?_
      | ((with_reducible refine W.exit_on ?h ?_); (case h => decide))
      | ((with_reducible apply W.reg); (case h => simp [T3, T4, T23, T62, T35]; exact ⟨rfl, rfl, rfl⟩))
      | ((with_reducible apply W.draw mixed); (case hB => kernel_rfl); (case hr => simp [T3, T4, T23, T62, T35]; rfl))
      | ((with_reducible apply W.cond); (case hc => simp; rfl); all_goals (intro hc_; try (cases hc_; done)))
      | ((with_reducible apply W.runX); (case _hc => rfl); (case h => simp [T3, T4, T23, T62, T35]; exact ⟨rfl, rfl, rfl⟩))
      | ((with_reducible apply W.callR go29); (case ho => rfl); (case hc => rfl); (case hf => rfl); (case hg => first | rfl | simp [T3, T4, T23, T62, T35]); (case hd => rfl); (case ha => simp [T3, T4, T23, T62, T35]; rfl); (case hargs => rfl); (case hs => exact refDescribe_sc _ _ he.element); rintro _ _ ⟨s, h, d, l, er, rfl, hr, _, rfl⟩)
      | ((with_reducible apply W.call1 go39); (case ho => rfl); (case hc => rfl); (case hf => rfl); (case hg => first | rfl | simp [T3, T4, T23, T62, T35]); (case hd => rfl); (case ha => simp [T3, T4, T23, T62, T35]; rfl); (case hargs => rfl); (case hs => exact refvalid_sc _ _ he))
      | fail)
    with_reducible apply W.fin
    case h1 => simp <;> rfl
    case h2 => exact Wk.rfl
    case h3 => simp
    case h4 => exact hσ.clB.app (Nat.le_refl _)
    exact ⟨by simp [validB_eq, hb], by simp⟩

theorem validB_iff (e : Ent) : validB e = true ↔ kindF e.code = 1 ∧ isEl e.element = true ∧ 2 ≤ e.width ∧ e.width ≤ 24 ∧ 1 ≤ e.scale ∧ e.scale ≤ 1000 ∧ -100000 ≤ e.least ∧ e.least ≤ 100000 := by
  simp [validB, and_assoc]

/-- What a value is encoded to. -/
def encF (e : Ent) (v : Int) : Int × Int := if validB e = true ∧ e.least ≤ v ∧ v < e.least + e.scale * (pw e.width - 1) then ((v - e.least).tdiv e.scale, 0) else (0, 1)
/-- What a number is decoded to. -/
def decF (e : Ent) (n : Int) : Int × Bool := if validB e = true ∧ 0 ≤ n ∧ n ≤ pw e.width - 2 then (e.least + e.scale * n, true) else (0, false)

theorem Encode_sc (e : Ent) (v : Int) (σ : AS) (he : EntOK e) (hv64 : I64 v) : SC1 Cc 12 [.agg (encE e), i64 v] σ (.tup [i64 (encF e v).1, i64 (encF e v).2]) σ := by
  refine W.body Tryd.func12 rfl 35 Tryd.ntmps12 _ Tryd.results12 (by simp) GEt_cl fun hσ => ?_
  cases hb : validB e
  · repeat' (first
      | with_reducible refine W.seq ?_
      | with_reducible refine W.next ?_
      | with_reducible refine W.nil ?_
      | with_reducible refine W.skip ?_
      | with_reducible refine W.ret ?_
      | with_reducible refine W.ret_code ?_
      | with_reducible refine W.block ?_
      | with_reducible refine W.out ?_
      | with_reducible refine W.ret_blk ?_
      | with_reducible refine W.exit ?_
      | with_reducible refine W.exit_code ?_
      | with_reducible refine W.exit_here ?_
      | with_reducible refine W.leave_exit ?_
      | with_reducible refine W.leave_ret ?_
      | ((with_reducible refine W.exit_on ?h ?_); (case h => decide))
      | ((with_reducible apply W.reg); (case h => simp [T3, T4, T23]; exact ⟨rfl, rfl, rfl⟩))
      | ((with_reducible apply W.draw mixed); (case hB => kernel_rfl); (case hr => simp [T3, T4, T23]; rfl))
      | ((with_reducible apply W.cond); (case hc => simp; rfl); all_goals (intro hc_; try (cases hc_; done)))
      | ((with_reducible apply W.runX); (case _hc => rfl); (case h => simp [T3, T4, T23]; exact ⟨rfl, rfl, rfl⟩))
      | fail)
    with_reducible apply W.held0 mixed 22 [0, 2, 3, 4, 5, 6, 7, 8, 9, 10, 11, 12, 13, 14, 15, 16, 17, 18, 19, 20, 21]
    case hn => rfl
    with_reducible apply SH.takes [0] 21
    case hfu => rfl
    case hs => kernel_rfl
    case hB => kernel_rfl
    case hQ => exact fun _ _ _ h => h
    case hs0 => exact Sub0.rfl
    case hr => simp [T3, T4, T23, hb, runTakes, takeOp, effA, effOp, down, down1, hideB, keep]; exact ⟨rfl, rfl⟩
    with_reducible apply SH.one 1
    case hr => kernel_rfl
    with_reducible apply SHo.callX go34
    case hi => rfl
    case ho => rfl
    case hc => rfl
    case hf => rfl
    case hg => first | rfl | simp [T3, T4, T23, hb, runTakes, takeOp, effA, effOp, down, down1, hideB, keep]
    case hd => rfl
    case ha => simp [T3, T4, T23, hb, runTakes, takeOp, effA, effOp, down, down1, hideB, keep]; rfl
    case hargs => rfl
    case hs => exact FSC.quiet fun σs => valid_sc e σs he
    rintro _ _ ⟨rfl, rfl⟩
    with_reducible apply SH.takes [2, 3, 4, 5, 6, 7, 8, 9, 10, 11, 12, 13, 14, 15, 16, 17, 18, 19, 20, 21] 0
    case hfu => rfl
    case hs => kernel_rfl
    case hB => kernel_rfl
    case hQ => exact fun _ _ _ h => h
    case hs0 => exact Sub0.rfl
    case hr => simp [T3, T4, T23, hb, runTakes, takeOp, effA, effOp, down, down1, hideB, keep]; exact ⟨rfl, rfl⟩
    refine SH.done (by kernel_rfl) ?_
    repeat' (first
      | with_reducible refine W.seq ?_
      | with_reducible refine W.next ?_
      | with_reducible refine W.nil ?_
      | with_reducible refine W.skip ?_
      | with_reducible refine W.ret ?_
      | with_reducible refine W.ret_code ?_
      | with_reducible refine W.block ?_
      | with_reducible refine W.out ?_
      | with_reducible refine W.ret_blk ?_
      | with_reducible refine W.exit ?_
      | with_reducible refine W.exit_code ?_
      | with_reducible refine W.exit_here ?_
      | with_reducible refine W.leave_exit ?_
      | with_reducible refine W.leave_ret ?_
      | ((with_reducible refine W.exit_on ?h ?_); (case h => decide))
      | ((with_reducible apply W.reg); (case h => simp [T3, T4, T23, hb]; exact ⟨rfl, rfl, rfl⟩))
      | ((with_reducible apply W.draw mixed); (case hB => kernel_rfl); (case hr => simp [T3, T4, T23, hb]; rfl))
      | ((with_reducible apply W.cond); (case hc => simp; rfl); all_goals (intro hc_; try (cases hc_; done)))
      | ((with_reducible apply W.runX); (case _hc => rfl); (case h => simp [T3, T4, T23, hb]; exact ⟨rfl, rfl, rfl⟩))
      | fail)
    with_reducible apply W.fin
    case h1 => simp <;> rfl
    case h2 => exact Wk.rfl
    case h3 => simp
    case h4 => exact hσ.clB.app (Nat.le_refl _)
    exact ⟨by simp [encF, hb], by simp⟩
  have hv := (validB_iff e).1 hb
  by_cases h1 : v < e.least
  · repeat' (first
      | with_reducible refine W.seq ?_
      | with_reducible refine W.next ?_
      | with_reducible refine W.nil ?_
      | with_reducible refine W.skip ?_
      | with_reducible refine W.ret ?_
      | with_reducible refine W.ret_code ?_
      | with_reducible refine W.block ?_
      | with_reducible refine W.out ?_
      | with_reducible refine W.ret_blk ?_
      | with_reducible refine W.exit ?_
      | with_reducible refine W.exit_code ?_
      | with_reducible refine W.exit_here ?_
      | with_reducible refine W.leave_exit ?_
      | with_reducible refine W.leave_ret ?_
      | ((with_reducible refine W.exit_on ?h ?_); (case h => decide))
      | ((with_reducible apply W.reg); (case h => simp [T3, T4, T23]; exact ⟨rfl, rfl, rfl⟩))
      | ((with_reducible apply W.draw mixed); (case hB => kernel_rfl); (case hr => simp [T3, T4, T23]; rfl))
      | ((with_reducible apply W.cond); (case hc => simp; rfl); all_goals (intro hc_; try (cases hc_; done)))
      | ((with_reducible apply W.runX); (case _hc => rfl); (case h => simp [T3, T4, T23]; exact ⟨rfl, rfl, rfl⟩))
      | fail)
    with_reducible apply W.held0 mixed 22 [0, 2, 3, 4, 5, 6, 7, 8, 9, 10, 11, 12, 13, 14, 15, 16, 17, 18, 19, 20, 21]
    case hn => rfl
    with_reducible apply SH.takes [0] 21
    case hfu => rfl
    case hs => kernel_rfl
    case hB => kernel_rfl
    case hQ => exact fun _ _ _ h => h
    case hs0 => exact Sub0.rfl
    case hr => simp [T3, T4, T23, hb, h1, runTakes, takeOp, effA, effOp, down, down1, hideB, keep]; exact ⟨rfl, rfl⟩
    with_reducible apply SH.one 1
    case hr => kernel_rfl
    with_reducible apply SHo.callX go34
    case hi => rfl
    case ho => rfl
    case hc => rfl
    case hf => rfl
    case hg => first | rfl | simp [T3, T4, T23, hb, h1, runTakes, takeOp, effA, effOp, down, down1, hideB, keep]
    case hd => rfl
    case ha => simp [T3, T4, T23, hb, h1, runTakes, takeOp, effA, effOp, down, down1, hideB, keep]; rfl
    case hargs => rfl
    case hs => exact FSC.quiet fun σs => valid_sc e σs he
    rintro _ _ ⟨rfl, rfl⟩
    with_reducible apply SH.takes [2, 3, 4, 5, 6, 7, 8, 9, 10, 11, 12, 13, 14, 15, 16, 17, 18, 19, 20, 21] 0
    case hfu => rfl
    case hs => kernel_rfl
    case hB => kernel_rfl
    case hQ => exact fun _ _ _ h => h
    case hs0 => exact Sub0.rfl
    case hr => simp [T3, T4, T23, hb, h1, runTakes, takeOp, effA, effOp, down, down1, hideB, keep]; exact ⟨rfl, rfl⟩
    refine SH.done (by kernel_rfl) ?_
    repeat' (first
      | with_reducible refine W.seq ?_
      | with_reducible refine W.next ?_
      | with_reducible refine W.nil ?_
      | with_reducible refine W.skip ?_
      | with_reducible refine W.ret ?_
      | with_reducible refine W.ret_code ?_
      | with_reducible refine W.block ?_
      | with_reducible refine W.out ?_
      | with_reducible refine W.ret_blk ?_
      | with_reducible refine W.exit ?_
      | with_reducible refine W.exit_code ?_
      | with_reducible refine W.exit_here ?_
      | with_reducible refine W.leave_exit ?_
      | with_reducible refine W.leave_ret ?_
      | ((with_reducible refine W.exit_on ?h ?_); (case h => decide))
      | ((with_reducible apply W.reg); (case h => simp [T3, T4, T23, hb, h1]; exact ⟨rfl, rfl, rfl⟩))
      | ((with_reducible apply W.draw mixed); (case hB => kernel_rfl); (case hr => simp [T3, T4, T23, hb, h1]; rfl))
      | ((with_reducible apply W.cond); (case hc => simp; rfl); all_goals (intro hc_; try (cases hc_; done)))
      | ((with_reducible apply W.runX); (case _hc => rfl); (case h => simp [T3, T4, T23, hb, h1]; exact ⟨rfl, rfl, rfl⟩))
      | fail)
    with_reducible apply W.fin
    case h1 => simp <;> rfl
    case h2 => exact Wk.rfl
    case h3 => simp
    case h4 => exact hσ.clB.app (Nat.le_refl _)
    have : ¬ e.least ≤ v := by omega
    exact ⟨by simp [encF, hb, this], by simp⟩
  have hp := pw_bnd ⟨hv.2.2.1, hv.2.2.2.1⟩
  generalize hP : pw e.width = P at *
  have hm1 : e.scale * (P - 1) ≤ 1000 * (P - 1) := Int.mul_le_mul_of_nonneg_right hv.2.2.2.2.2.1 (by omega)
  have hm0 : 0 ≤ e.scale * (P - 1) := Int.mul_nonneg (by omega) (by omega)
  obtain ⟨_, _, _, _, hs1, hs2, hl1, hl2⟩ := hv
  have hv := (validB_iff e).1 hb
  have w1 : IntKind.i64.wrap (P - 2 + 1) = P - 1 := by rw [wrap64 (by omega)]; omega
  have w2 : IntKind.i64.wrap (e.scale * (P - 1)) = e.scale * (P - 1) := wrap64 (by omega)
  have w3 : IntKind.i64.wrap (e.least + e.scale * (P - 1)) = e.least + e.scale * (P - 1) := wrap64 (by omega)
  have hlast : ∀ σs, SC1 Cc 35 [.agg (encE e)] σs (i64 (P - 2)) σs := fun σs => hP ▸ last_sc e σs ⟨hv.2.2.1, hv.2.2.2.1⟩
  have hle : e.least ≤ v := by omega
  by_cases h2 : e.least + e.scale * (P - 1) ≤ v
  · repeat' (first
      | with_reducible refine W.seq ?_
      | with_reducible refine W.next ?_
      | with_reducible refine W.nil ?_
      | with_reducible refine W.skip ?_
      | with_reducible refine W.ret ?_
      | with_reducible refine W.ret_code ?_
      | with_reducible refine W.block ?_
      | with_reducible refine W.out ?_
      | with_reducible refine W.ret_blk ?_
      | with_reducible refine W.exit ?_
      | with_reducible refine W.exit_code ?_
      | with_reducible refine W.exit_here ?_
      | with_reducible refine W.leave_exit ?_
      | with_reducible refine W.leave_ret ?_
      | ((with_reducible refine W.exit_on ?h ?_); (case h => decide))
      | ((with_reducible apply W.reg); (case h => simp [T3, T4, T23]; exact ⟨rfl, rfl, rfl⟩))
      | ((with_reducible apply W.draw mixed); (case hB => kernel_rfl); (case hr => simp [T3, T4, T23]; rfl))
      | ((with_reducible apply W.cond); (case hc => simp; rfl); all_goals (intro hc_; try (cases hc_; done)))
      | ((with_reducible apply W.runX); (case _hc => rfl); (case h => simp [T3, T4, T23]; exact ⟨rfl, rfl, rfl⟩))
      | fail)
    with_reducible apply W.held0 mixed 22 [0, 2, 3, 4, 5, 6, 7, 8, 9, 10, 11, 12, 13, 14, 15, 16, 17, 18, 19, 20, 21]
    case hn => rfl
    with_reducible apply SH.takes [0] 21
    case hfu => rfl
    case hs => kernel_rfl
    case hB => kernel_rfl
    case hQ => exact fun _ _ _ h => h
    case hs0 => exact Sub0.rfl
    case hr => simp [T3, T4, T23, hb, h1, h2, w1, w2, w3, runTakes, takeOp, effA, effOp, down, down1, hideB, keep]; exact ⟨rfl, rfl⟩
    with_reducible apply SH.one 1
    case hr => kernel_rfl
    with_reducible apply SHo.callX go34
    case hi => rfl
    case ho => rfl
    case hc => rfl
    case hf => rfl
    case hg => first | rfl | simp [T3, T4, T23, hb, h1, h2, w1, w2, w3, runTakes, takeOp, effA, effOp, down, down1, hideB, keep]
    case hd => rfl
    case ha => simp [T3, T4, T23, hb, h1, h2, w1, w2, w3, runTakes, takeOp, effA, effOp, down, down1, hideB, keep]; rfl
    case hargs => rfl
    case hs => exact FSC.quiet fun σs => valid_sc e σs he
    rintro _ _ ⟨rfl, rfl⟩
    with_reducible apply SH.takes [2, 3, 4, 5, 6, 7, 8, 9, 10, 11, 12, 13, 14, 15] 6
    case hfu => rfl
    case hs => kernel_rfl
    case hB => kernel_rfl
    case hQ => exact fun _ _ _ h => h
    case hs0 => exact Sub0.rfl
    case hr => simp [T3, T4, T23, hb, h1, h2, w1, w2, w3, runTakes, takeOp, effA, effOp, down, down1, hideB, keep]; exact ⟨rfl, rfl⟩
    with_reducible apply SH.one 16
    case hr => kernel_rfl
    with_reducible apply SHo.callX go35
    case hi => rfl
    case ho => rfl
    case hc => rfl
    case hf => rfl
    case hg => first | rfl | simp [T3, T4, T23, hb, h1, h2, w1, w2, w3, runTakes, takeOp, effA, effOp, down, down1, hideB, keep]
    case hd => rfl
    case ha => simp [T3, T4, T23, hb, h1, h2, w1, w2, w3, runTakes, takeOp, effA, effOp, down, down1, hideB, keep]; rfl
    case hargs => rfl
    case hs => exact FSC.quiet hlast
    rintro _ _ ⟨rfl, rfl⟩
    with_reducible apply SH.takes [17, 18, 19, 20, 21] 0
    case hfu => rfl
    case hs => kernel_rfl
    case hB => kernel_rfl
    case hQ => exact fun _ _ _ h => h
    case hs0 => exact Sub0.rfl
    case hr => simp [T3, T4, T23, hb, h1, h2, w1, w2, w3, runTakes, takeOp, effA, effOp, down, down1, hideB, keep]; exact ⟨rfl, rfl⟩
    refine SH.done (by kernel_rfl) ?_
    repeat' (first
      | with_reducible refine W.seq ?_
      | with_reducible refine W.next ?_
      | with_reducible refine W.nil ?_
      | with_reducible refine W.skip ?_
      | with_reducible refine W.ret ?_
      | with_reducible refine W.ret_code ?_
      | with_reducible refine W.block ?_
      | with_reducible refine W.out ?_
      | with_reducible refine W.ret_blk ?_
      | with_reducible refine W.exit ?_
      | with_reducible refine W.exit_code ?_
      | with_reducible refine W.exit_here ?_
      | with_reducible refine W.leave_exit ?_
      | with_reducible refine W.leave_ret ?_
      | ((with_reducible refine W.exit_on ?h ?_); (case h => decide))
      | ((with_reducible apply W.reg); (case h => simp [T3, T4, T23, hb, h1, h2]; exact ⟨rfl, rfl, rfl⟩))
      | ((with_reducible apply W.draw mixed); (case hB => kernel_rfl); (case hr => simp [T3, T4, T23, hb, h1, h2]; rfl))
      | ((with_reducible apply W.cond); (case hc => simp; rfl); all_goals (intro hc_; try (cases hc_; done)))
      | ((with_reducible apply W.runX); (case _hc => rfl); (case h => simp [T3, T4, T23, hb, h1, h2]; exact ⟨rfl, rfl, rfl⟩))
      | fail)
    with_reducible apply W.fin
    case h1 => simp <;> rfl
    case h2 => exact Wk.rfl
    case h3 => simp
    case h4 => exact hσ.clB.app (Nat.le_refl _)
    have : ¬ v < e.least + e.scale * (P - 1) := by omega
    exact ⟨by simp [encF, hb, hP, this], by simp⟩
  · have hq : 0 ≤ v - e.least ∧ v - e.least ≤ 100000000000 := by omega
    have w4 : IntKind.i64.wrap (v - e.least) = v - e.least := wrap64 (by omega)
    have hs0 : ¬ e.scale = 0 := by omega
    have hd : 0 ≤ (v - e.least).tdiv e.scale ∧ (v - e.least).tdiv e.scale ≤ v - e.least := by
      rw [Int.tdiv_eq_ediv_of_nonneg hq.1]
      exact ⟨Int.ediv_nonneg hq.1 (by omega), Int.ediv_le_self _ hq.1⟩
    have w5 : IntKind.i64.wrap ((v - e.least).tdiv e.scale) = (v - e.least).tdiv e.scale := wrap64 (by omega)
    repeat' (first
      | with_reducible refine W.seq ?_
      | with_reducible refine W.next ?_
      | with_reducible refine W.nil ?_
      | with_reducible refine W.skip ?_
      | with_reducible refine W.ret ?_
      | with_reducible refine W.ret_code ?_
      | with_reducible refine W.block ?_
      | with_reducible refine W.out ?_
      | with_reducible refine W.ret_blk ?_
      | with_reducible refine W.exit ?_
      | with_reducible refine W.exit_code ?_
      | with_reducible refine W.exit_here ?_
      | with_reducible refine W.leave_exit ?_
      | with_reducible refine W.leave_ret ?_
      | ((with_reducible refine W.exit_on ?h ?_); (case h => decide))
      | ((with_reducible apply W.reg); (case h => simp [T3, T4, T23]; exact ⟨rfl, rfl, rfl⟩))
      | ((with_reducible apply W.draw mixed); (case hB => kernel_rfl); (case hr => simp [T3, T4, T23]; rfl))
      | ((with_reducible apply W.cond); (case hc => simp; rfl); all_goals (intro hc_; try (cases hc_; done)))
      | ((with_reducible apply W.runX); (case _hc => rfl); (case h => simp [T3, T4, T23]; exact ⟨rfl, rfl, rfl⟩))
      | fail)
    with_reducible apply W.held0 mixed 22 [0, 2, 3, 4, 5, 6, 7, 8, 9, 10, 11, 12, 13, 14, 15, 16, 17, 18, 19, 20, 21]
    case hn => rfl
    with_reducible apply SH.takes [0] 21
    case hfu => rfl
    case hs => kernel_rfl
    case hB => kernel_rfl
    case hQ => exact fun _ _ _ h => h
    case hs0 => exact Sub0.rfl
    case hr => simp [T3, T4, T23, hb, h1, h2, w1, w2, w3, runTakes, takeOp, effA, effOp, down, down1, hideB, keep]; exact ⟨rfl, rfl⟩
    with_reducible apply SH.one 1
    case hr => kernel_rfl
    with_reducible apply SHo.callX go34
    case hi => rfl
    case ho => rfl
    case hc => rfl
    case hf => rfl
    case hg => first | rfl | simp [T3, T4, T23, hb, h1, h2, w1, w2, w3, runTakes, takeOp, effA, effOp, down, down1, hideB, keep]
    case hd => rfl
    case ha => simp [T3, T4, T23, hb, h1, h2, w1, w2, w3, runTakes, takeOp, effA, effOp, down, down1, hideB, keep]; rfl
    case hargs => rfl
    case hs => exact FSC.quiet fun σs => valid_sc e σs he
    rintro _ _ ⟨rfl, rfl⟩
    with_reducible apply SH.takes [2, 3, 4, 5, 6, 7, 8, 9, 10, 11, 12, 13, 14, 15] 6
    case hfu => rfl
    case hs => kernel_rfl
    case hB => kernel_rfl
    case hQ => exact fun _ _ _ h => h
    case hs0 => exact Sub0.rfl
    case hr => simp [T3, T4, T23, hb, h1, h2, w1, w2, w3, runTakes, takeOp, effA, effOp, down, down1, hideB, keep]; exact ⟨rfl, rfl⟩
    with_reducible apply SH.one 16
    case hr => kernel_rfl
    with_reducible apply SHo.callX go35
    case hi => rfl
    case ho => rfl
    case hc => rfl
    case hf => rfl
    case hg => first | rfl | simp [T3, T4, T23, hb, h1, h2, w1, w2, w3, runTakes, takeOp, effA, effOp, down, down1, hideB, keep]
    case hd => rfl
    case ha => simp [T3, T4, T23, hb, h1, h2, w1, w2, w3, runTakes, takeOp, effA, effOp, down, down1, hideB, keep]; rfl
    case hargs => rfl
    case hs => exact FSC.quiet hlast
    rintro _ _ ⟨rfl, rfl⟩
    with_reducible apply SH.takes [17, 18, 19, 20, 21] 0
    case hfu => rfl
    case hs => kernel_rfl
    case hB => kernel_rfl
    case hQ => exact fun _ _ _ h => h
    case hs0 => exact Sub0.rfl
    case hr => simp [T3, T4, T23, hb, h1, h2, w1, w2, w3, runTakes, takeOp, effA, effOp, down, down1, hideB, keep]; exact ⟨rfl, rfl⟩
    refine SH.done (by kernel_rfl) ?_
    repeat' (first
      | with_reducible refine W.seq ?_
      | with_reducible refine W.next ?_
      | with_reducible refine W.nil ?_
      | with_reducible refine W.skip ?_
      | with_reducible refine W.ret ?_
      | with_reducible refine W.ret_code ?_
      | with_reducible refine W.block ?_
      | with_reducible refine W.out ?_
      | with_reducible refine W.ret_blk ?_
      | with_reducible refine W.exit ?_
      | with_reducible refine W.exit_code ?_
      | with_reducible refine W.exit_here ?_
      | with_reducible refine W.leave_exit ?_
      | with_reducible refine W.leave_ret ?_
      | ((with_reducible refine W.exit_on ?h ?_); (case h => decide))
      | ((with_reducible apply W.reg); (case h => simp [T3, T4, T23, hb, h1, h2, w4, w5, hs0]; exact ⟨rfl, rfl, rfl⟩))
      | ((with_reducible apply W.draw mixed); (case hB => kernel_rfl); (case hr => simp [T3, T4, T23, hb, h1, h2, w4, w5, hs0]; rfl))
      | ((with_reducible apply W.cond); (case hc => simp; rfl); all_goals (intro hc_; try (cases hc_; done)))
      | ((with_reducible apply W.runX); (case _hc => rfl); (case h => simp [T3, T4, T23, hb, h1, h2, w4, w5, hs0]; exact ⟨rfl, rfl, rfl⟩))
      | fail)
    with_reducible apply W.fin
    case h1 => simp <;> rfl
    case h2 => exact Wk.rfl
    case h3 => simp
    case h4 => exact hσ.clB.app (Nat.le_refl _)
    have : v < e.least + e.scale * (P - 1) := by omega
    exact ⟨by simp [encF, hb, hP, this, hle], by simp⟩

theorem refEncode_sc (e : Ent) (v : Int) (σ : AS) (he : EntOK e) (hv64 : I64 v) : SC1 Cc 13 [.agg (encE e), i64 v] σ (.tup [i64 (encF e v).1, i64 (encF e v).2]) σ := by
  refine W.body Tryd.func13 rfl 35 Tryd.ntmps13 _ Tryd.results13 (by simp) GEt_cl fun hσ => ?_
  cases hb : validB e
  · repeat' (first
      | with_reducible refine W.seq ?_
      | with_reducible refine W.next ?_
      | with_reducible refine W.nil ?_
      | with_reducible refine W.skip ?_
      | with_reducible refine W.ret ?_
      | with_reducible refine W.ret_code ?_
      | with_reducible refine W.block ?_
      | with_reducible refine W.out ?_
      | with_reducible refine W.ret_blk ?_
      | with_reducible refine W.exit ?_
      | with_reducible refine W.exit_code ?_
      | with_reducible refine W.exit_here ?_
      | with_reducible refine W.leave_exit ?_
      | with_reducible refine W.leave_ret ?_
      | ((with_reducible refine W.exit_on ?h ?_); (case h => decide))
      | ((with_reducible apply W.reg); (case h => simp [T3, T4, T23, hb]; exact ⟨rfl, rfl, rfl⟩))
      | ((with_reducible apply W.draw mixed); (case hB => kernel_rfl); (case hr => simp [T3, T4, T23, hb]; rfl))
      | ((with_reducible apply W.cond); (case hc => simp; rfl); all_goals (intro hc_; try (cases hc_; done)))
      | ((with_reducible apply W.runX); (case _hc => rfl); (case h => simp [T3, T4, T23, hb]; exact ⟨rfl, rfl, rfl⟩))
      | ((with_reducible apply W.call1 go36); (case ho => rfl); (case hc => rfl); (case hf => rfl); (case hg => first | rfl | simp [T3, T4, T23, hb]); (case hd => rfl); (case ha => simp [T3, T4, T23, hb]; rfl); (case hargs => rfl); (case hs => exact ValidEntry_sc _ _ he))
      | fail)
    with_reducible apply W.fin
    case h1 => simp <;> rfl
    case h2 => exact Wk.rfl
    case h3 => simp
    case h4 => exact hσ.clB.app (Nat.le_refl _)
    exact ⟨by simp [encF, hb], by simp⟩
  have hv := (validB_iff e).1 hb
  by_cases h1 : v < e.least
  · repeat' (first
      | with_reducible refine W.seq ?_
      | with_reducible refine W.next ?_
      | with_reducible refine W.nil ?_
      | with_reducible refine W.skip ?_
      | with_reducible refine W.ret ?_
      | with_reducible refine W.ret_code ?_
      | with_reducible refine W.block ?_
      | with_reducible refine W.out ?_
      | with_reducible refine W.ret_blk ?_
      | with_reducible refine W.exit ?_
      | with_reducible refine W.exit_code ?_
      | with_reducible refine W.exit_here ?_
      | with_reducible refine W.leave_exit ?_
      | with_reducible refine W.leave_ret ?_
      | ((with_reducible refine W.exit_on ?h ?_); (case h => decide))
      | ((with_reducible apply W.reg); (case h => simp [T3, T4, T23, hb, h1]; exact ⟨rfl, rfl, rfl⟩))
      | ((with_reducible apply W.draw mixed); (case hB => kernel_rfl); (case hr => simp [T3, T4, T23, hb, h1]; rfl))
      | ((with_reducible apply W.cond); (case hc => simp; rfl); all_goals (intro hc_; try (cases hc_; done)))
      | ((with_reducible apply W.runX); (case _hc => rfl); (case h => simp [T3, T4, T23, hb, h1]; exact ⟨rfl, rfl, rfl⟩))
      | ((with_reducible apply W.call1 go36); (case ho => rfl); (case hc => rfl); (case hf => rfl); (case hg => first | rfl | simp [T3, T4, T23, hb, h1]); (case hd => rfl); (case ha => simp [T3, T4, T23, hb, h1]; rfl); (case hargs => rfl); (case hs => exact ValidEntry_sc _ _ he))
      | fail)
    with_reducible apply W.fin
    case h1 => simp <;> rfl
    case h2 => exact Wk.rfl
    case h3 => simp
    case h4 => exact hσ.clB.app (Nat.le_refl _)
    have : ¬ e.least ≤ v := by omega
    exact ⟨by simp [encF, hb, this], by simp⟩
  have hp := pw_bnd ⟨hv.2.2.1, hv.2.2.2.1⟩
  have hpw := pw_wrap ⟨hv.2.2.1, hv.2.2.2.1⟩
  generalize hP : pw e.width = P at *
  have hm1 : e.scale * (P - 1) ≤ 1000 * (P - 1) := Int.mul_le_mul_of_nonneg_right hv.2.2.2.2.2.1 (by omega)
  obtain ⟨_, _, hw1, hw2, hs1, hs2, hl1, hl2⟩ := hv
  have hle : e.least ≤ v := by omega
  by_cases h2 : 1099511627776 < v
  · repeat' (first
      | with_reducible refine W.seq ?_
      | with_reducible refine W.next ?_
      | with_reducible refine W.nil ?_
      | with_reducible refine W.skip ?_
      | with_reducible refine W.ret ?_
      | with_reducible refine W.ret_code ?_
      | with_reducible refine W.block ?_
      | with_reducible refine W.out ?_
      | with_reducible refine W.ret_blk ?_
      | with_reducible refine W.exit ?_
      | with_reducible refine W.exit_code ?_
      | with_reducible refine W.exit_here ?_
      | with_reducible refine W.leave_exit ?_
      | with_reducible refine W.leave_ret ?_
      | ((with_reducible refine W.exit_on ?h ?_); (case h => decide))
      | ((with_reducible apply W.reg); (case h => simp [T3, T4, T23, hb, h1, h2]; exact ⟨rfl, rfl, rfl⟩))
      | ((with_reducible apply W.draw mixed); (case hB => kernel_rfl); (case hr => simp [T3, T4, T23, hb, h1, h2]; rfl))
      | ((with_reducible apply W.cond); (case hc => simp; rfl); all_goals (intro hc_; try (cases hc_; done)))
      | ((with_reducible apply W.runX); (case _hc => rfl); (case h => simp [T3, T4, T23, hb, h1, h2]; exact ⟨rfl, rfl, rfl⟩))
      | ((with_reducible apply W.call1 go36); (case ho => rfl); (case hc => rfl); (case hf => rfl); (case hg => first | rfl | simp [T3, T4, T23, hb, h1, h2]); (case hd => rfl); (case ha => simp [T3, T4, T23, hb, h1, h2]; rfl); (case hargs => rfl); (case hs => exact ValidEntry_sc _ _ he))
      | fail)
    with_reducible apply W.fin
    case h1 => simp <;> rfl
    case h2 => exact Wk.rfl
    case h3 => simp
    case h4 => exact hσ.clB.app (Nat.le_refl _)
    have : ¬ v < e.least + e.scale * (P - 1) := by omega
    exact ⟨by simp [encF, hb, hP, this], by simp⟩
  have hq : 0 ≤ v - e.least ∧ v - e.least ≤ 10000000000000 := by omega
  have w4 : IntKind.i64.wrap (v - e.least) = v - e.least := wrap64 (by omega)
  have hs0 : ¬ e.scale = 0 := by omega
  have hw0 : 0 ≤ e.width := by omega
  have hde : (v - e.least).tdiv e.scale = (v - e.least) / e.scale := Int.tdiv_eq_ediv_of_nonneg hq.1
  have hd : 0 ≤ (v - e.least).tdiv e.scale ∧ (v - e.least).tdiv e.scale ≤ v - e.least := by
    rw [hde]
    exact ⟨Int.ediv_nonneg hq.1 (by omega), Int.ediv_le_self _ hq.1⟩
  have w5 : IntKind.i64.wrap ((v - e.least).tdiv e.scale) = (v - e.least).tdiv e.scale := wrap64 (by omega)
  have w6 : IntKind.u64.wrap e.width = e.width := wrapU (by omega)
  have w7 : IntKind.i64.wrap (P - 2) = P - 2 := wrap64 (by omega)
  have hiff : (v - e.least).tdiv e.scale ≤ P - 2 ↔ v < e.least + e.scale * (P - 1) := by
    rw [hde]
    have h3 : (v - e.least) / e.scale < P - 1 ↔ v - e.least < (P - 1) * e.scale := Int.ediv_lt_iff_lt_mul (by omega)
    rw [Int.mul_comm (P - 1)] at h3
    omega
  by_cases h3 : P - 2 < (v - e.least).tdiv e.scale
  · repeat' (first
      | with_reducible refine W.seq ?_
      | with_reducible refine W.next ?_
      | with_reducible refine W.nil ?_
      | with_reducible refine W.skip ?_
      | with_reducible refine W.ret ?_
      | with_reducible refine W.ret_code ?_
      | with_reducible refine W.block ?_
      | with_reducible refine W.out ?_
      | with_reducible refine W.ret_blk ?_
      | with_reducible refine W.exit ?_
      | with_reducible refine W.exit_code ?_
      | with_reducible refine W.exit_here ?_
      | with_reducible refine W.leave_exit ?_
      | with_reducible refine W.leave_ret ?_
      | ((with_reducible refine W.exit_on ?h ?_); (case h => decide))
      | ((with_reducible apply W.reg); (case h => simp [T3, T4, T23, T33, hb, h1, h2, w4, w5, w6, w7, hw0, hpw, hs0, h3]; exact ⟨rfl, rfl, rfl⟩))
      | ((with_reducible apply W.draw mixed); (case hB => kernel_rfl); (case hr => simp [T3, T4, T23, T33, hb, h1, h2, w4, w5, w6, w7, hw0, hpw, hs0, h3]; rfl))
      | ((with_reducible apply W.cond); (case hc => simp; rfl); all_goals (intro hc_; try (cases hc_; done)))
      | ((with_reducible apply W.runX); (case _hc => rfl); (case h => simp [T3, T4, T23, T33, hb, h1, h2, w4, w5, w6, w7, hw0, hpw, hs0, h3]; exact ⟨rfl, rfl, rfl⟩))
      | ((with_reducible apply W.call1 go36); (case ho => rfl); (case hc => rfl); (case hf => rfl); (case hg => first | rfl | simp [T3, T4, T23, T33, hb, h1, h2, w4, w5, w6, w7, hw0, hpw, hs0, h3]); (case hd => rfl); (case ha => simp [T3, T4, T23, T33, hb, h1, h2, w4, w5, w6, w7, hw0, hpw, hs0, h3]; rfl); (case hargs => rfl); (case hs => exact ValidEntry_sc _ _ he))
      | fail)
    with_reducible apply W.fin
    case h1 => simp <;> rfl
    case h2 => exact Wk.rfl
    case h3 => simp
    case h4 => exact hσ.clB.app (Nat.le_refl _)
    have : ¬ v < e.least + e.scale * (P - 1) := by omega
    exact ⟨by simp [encF, hb, hP, this], by simp⟩
  · repeat' (first
      | with_reducible refine W.seq ?_
      | with_reducible refine W.next ?_
      | with_reducible refine W.nil ?_
      | with_reducible refine W.skip ?_
      | with_reducible refine W.ret ?_
      | with_reducible refine W.ret_code ?_
      | with_reducible refine W.block ?_
      | with_reducible refine W.out ?_
      | with_reducible refine W.ret_blk ?_
      | with_reducible refine W.exit ?_
      | with_reducible refine W.exit_code ?_
      | with_reducible refine W.exit_here ?_
      | with_reducible refine W.leave_exit ?_
      | with_reducible refine W.leave_ret ?_
      | ((with_reducible refine W.exit_on ?h ?_); (case h => decide))
      | ((with_reducible apply W.reg); (case h => simp [T3, T4, T23, T33, hb, h1, h2, w4, w5, w6, w7, hw0, hpw, hs0, h3]; exact ⟨rfl, rfl, rfl⟩))
      | ((with_reducible apply W.draw mixed); (case hB => kernel_rfl); (case hr => simp [T3, T4, T23, T33, hb, h1, h2, w4, w5, w6, w7, hw0, hpw, hs0, h3]; rfl))
      | ((with_reducible apply W.cond); (case hc => simp; rfl); all_goals (intro hc_; try (cases hc_; done)))
      | ((with_reducible apply W.runX); (case _hc => rfl); (case h => simp [T3, T4, T23, T33, hb, h1, h2, w4, w5, w6, w7, hw0, hpw, hs0, h3]; exact ⟨rfl, rfl, rfl⟩))
      | ((with_reducible apply W.call1 go36); (case ho => rfl); (case hc => rfl); (case hf => rfl); (case hg => first | rfl | simp [T3, T4, T23, T33, hb, h1, h2, w4, w5, w6, w7, hw0, hpw, hs0, h3]); (case hd => rfl); (case ha => simp [T3, T4, T23, T33, hb, h1, h2, w4, w5, w6, w7, hw0, hpw, hs0, h3]; rfl); (case hargs => rfl); (case hs => exact ValidEntry_sc _ _ he))
      | fail)
    with_reducible apply W.fin
    case h1 => simp <;> rfl
    case h2 => exact Wk.rfl
    case h3 => simp
    case h4 => exact hσ.clB.app (Nat.le_refl _)
    have : v < e.least + e.scale * (P - 1) := by omega
    exact ⟨by simp [encF, hb, hP, this, hle], by simp⟩


end Go.Proofs.YtgabnlkkjmepnaaDoor

/- Decoding: what the program's function and the reference's give. -/
import Derived.Test.YtgabnlkkjmepnaaDoorS6
import Derived.IntWalk
namespace Go.Proofs.YtgabnlkkjmepnaaDoor
open Go.Sw
set_option linter.unusedSimpArgs false
set_option linter.unusedVariables false
attribute [local simp] runOps stepOp pureOp gd isCall inN setd Sw.get params ev evs binV unV convV loadA cellsPV oneB storeA fieldAddrA fieldOff fieldA partA aggOf extractA indexAddrA indexA lenA minmaxA sliceA bnd partsA buildA placesA fillA buildSliceA zerosA chunkA TyD.agg Value.oneCell' Value.cells runPure appA appendA okRow_nil okRow_cons okRow_append resultA ressA resA List.getElem?_append List.set_append Cl_any Cl_val Cl_ptr Cl_agg Cl_tup Cl_fn Cl_rop Cl_sl Sw.take_set Sw.take_set_app Sw.take_app

attribute [local simp] encI encE

theorem Decode_sc (e : Ent) (n : Int) (σ : AS) (he : EntOK e) (hn64 : I64 n) : SC1 Cc 14 [.agg (encE e), i64 n] σ (.tup [i64 (decF e n).1, bV (decF e n).2]) σ := by
  refine W.body Tryd.func14 rfl 26 Tryd.ntmps14 _ Tryd.results14 (by simp) GEt_cl fun hσ => ?_
  cases hb : validB e
  · repeat' (first
      | with_reducible refine W.seq ?_
      | with_reducible refine W.next ?_
      | with_reducible refine W.nil ?_
      | with_reducible refine W.skip ?_
      | with_reducible refine W.ret ?_
      | with_reducible refine W.ret_code ?_
      | with_reducible refine W.block ?_
      | with_reducible refine W.out ?_
      | with_reducible refine W.ret_blk ?_
      | with_reducible refine W.exit ?_
      | with_reducible refine W.exit_code ?_
      | with_reducible refine W.exit_here ?_
      | with_reducible refine W.leave_exit ?_
      | with_reducible refine W.leave_ret ?_
      | ((with_reducible refine W.exit_on ?h ?_); (case h => decide))
      | ((with_reducible apply W.reg); (case h => simp [T3, T4, T23, hb]; exact ⟨rfl, rfl, rfl⟩))
      | ((with_reducible apply W.draw mixed); (case hB => kernel_rfl); (case hr => simp [T3, T4, T23, hb]; rfl))
      | ((with_reducible apply W.cond); (case hc => simp; rfl); all_goals (intro hc_; try (cases hc_; done)))
      | ((with_reducible apply W.runX); (case _hc => rfl); (case h => simp [T3, T4, T23, hb]; exact ⟨rfl, rfl, rfl⟩))
      | ((with_reducible apply W.call1 go34); (case ho => rfl); (case hc => rfl); (case hf => rfl); (case hg => first | rfl | simp [T3, T4, T23, hb]); (case hd => rfl); (case ha => simp [T3, T4, T23, hb]; rfl); (case hargs => rfl); (case hs => exact valid_sc _ _ he))
      | fail)
    with_reducible apply W.fin
    case h1 => simp <;> rfl
    case h2 => exact Wk.rfl
    case h3 => simp
    case h4 => exact hσ.clB.app (Nat.le_refl _)
    exact ⟨by simp [decF, hb], by simp⟩
  have hv := (validB_iff e).1 hb
  by_cases h1 : n < 0
  · repeat' (first
      | with_reducible refine W.seq ?_
      | with_reducible refine W.next ?_
      | with_reducible refine W.nil ?_
      | with_reducible refine W.skip ?_
      | with_reducible refine W.ret ?_
      | with_reducible refine W.ret_code ?_
      | with_reducible refine W.block ?_
      | with_reducible refine W.out ?_
      | with_reducible refine W.ret_blk ?_
      | with_reducible refine W.exit ?_
      | with_reducible refine W.exit_code ?_
      | with_reducible refine W.exit_here ?_
      | with_reducible refine W.leave_exit ?_
      | with_reducible refine W.leave_ret ?_
      | ((with_reducible refine W.exit_on ?h ?_); (case h => decide))
      | ((with_reducible apply W.reg); (case h => simp [T3, T4, T23, hb, h1]; exact ⟨rfl, rfl, rfl⟩))
      | ((with_reducible apply W.draw mixed); (case hB => kernel_rfl); (case hr => simp [T3, T4, T23, hb, h1]; rfl))
      | ((with_reducible apply W.cond); (case hc => simp; rfl); all_goals (intro hc_; try (cases hc_; done)))
      | ((with_reducible apply W.runX); (case _hc => rfl); (case h => simp [T3, T4, T23, hb, h1]; exact ⟨rfl, rfl, rfl⟩))
      | ((with_reducible apply W.call1 go34); (case ho => rfl); (case hc => rfl); (case hf => rfl); (case hg => first | rfl | simp [T3, T4, T23, hb, h1]); (case hd => rfl); (case ha => simp [T3, T4, T23, hb, h1]; rfl); (case hargs => rfl); (case hs => exact valid_sc _ _ he))
      | fail)
    with_reducible apply W.fin
    case h1 => simp <;> rfl
    case h2 => exact Wk.rfl
    case h3 => simp
    case h4 => exact hσ.clB.app (Nat.le_refl _)
    have : ¬ 0 ≤ n := by omega
    exact ⟨by simp [decF, hb, this], by simp⟩
  have hp := pw_bnd ⟨hv.2.2.1, hv.2.2.2.1⟩
  have hlast : ∀ σs, SC1 Cc 35 [.agg (encE e)] σs (i64 (pw e.width - 2)) σs := fun σs => last_sc e σs ⟨hv.2.2.1, hv.2.2.2.1⟩
  generalize hP : pw e.width = P at *
  obtain ⟨_, _, hw1, hw2, hs1, hs2, hl1, hl2⟩ := hv
  have hle : 0 ≤ n := by omega
  by_cases h2 : P - 2 < n
  · repeat' (first
      | with_reducible refine W.seq ?_
      | with_reducible refine W.next ?_
      | with_reducible refine W.nil ?_
      | with_reducible refine W.skip ?_
      | with_reducible refine W.ret ?_
      | with_reducible refine W.ret_code ?_
      | with_reducible refine W.block ?_
      | with_reducible refine W.out ?_
      | with_reducible refine W.ret_blk ?_
      | with_reducible refine W.exit ?_
      | with_reducible refine W.exit_code ?_
      | with_reducible refine W.exit_here ?_
      | with_reducible refine W.leave_exit ?_
      | with_reducible refine W.leave_ret ?_
      | ((with_reducible refine W.exit_on ?h ?_); (case h => decide))
      | ((with_reducible apply W.reg); (case h => simp [T3, T4, T23, hb, h1, h2]; exact ⟨rfl, rfl, rfl⟩))
      | ((with_reducible apply W.draw mixed); (case hB => kernel_rfl); (case hr => simp [T3, T4, T23, hb, h1, h2]; rfl))
      | ((with_reducible apply W.cond); (case hc => simp; rfl); all_goals (intro hc_; try (cases hc_; done)))
      | ((with_reducible apply W.runX); (case _hc => rfl); (case h => simp [T3, T4, T23, hb, h1, h2]; exact ⟨rfl, rfl, rfl⟩))
      | ((with_reducible apply W.call1 go34); (case ho => rfl); (case hc => rfl); (case hf => rfl); (case hg => first | rfl | simp [T3, T4, T23, hb, h1, h2]); (case hd => rfl); (case ha => simp [T3, T4, T23, hb, h1, h2]; rfl); (case hargs => rfl); (case hs => exact valid_sc _ _ he))
      | ((with_reducible apply W.call1 go35); (case ho => rfl); (case hc => rfl); (case hf => rfl); (case hg => first | rfl | simp [T3, T4, T23, hb, h1, h2]); (case hd => rfl); (case ha => simp [T3, T4, T23, hb, h1, h2]; rfl); (case hargs => rfl); (case hs => exact hlast _))
      | fail)
    with_reducible apply W.fin
    case h1 => simp <;> rfl
    case h2 => exact Wk.rfl
    case h3 => simp
    case h4 => exact hσ.clB.app (Nat.le_refl _)
    have : ¬ n ≤ P - 2 := by omega
    exact ⟨by simp [decF, hb, hP, this], by simp⟩
  · have hm1 : e.scale * n ≤ 1000 * n := Int.mul_le_mul_of_nonneg_right hs2 hle
    have hm0 : 0 ≤ e.scale * n := Int.mul_nonneg (by omega) hle
    have w1 : IntKind.i64.wrap (e.scale * n) = e.scale * n := wrap64 (by omega)
    have w2 : IntKind.i64.wrap (e.least + e.scale * n) = e.least + e.scale * n := wrap64 (by omega)
    repeat' (first
      | with_reducible refine W.seq ?_
      | with_reducible refine W.next ?_
      | with_reducible refine W.nil ?_
      | with_reducible refine W.skip ?_
      | with_reducible refine W.ret ?_
      | with_reducible refine W.ret_code ?_
      | with_reducible refine W.block ?_
      | with_reducible refine W.out ?_
      | with_reducible refine W.ret_blk ?_
      | with_reducible refine W.exit ?_
      | with_reducible refine W.exit_code ?_
      | with_reducible refine W.exit_here ?_
      | with_reducible refine W.leave_exit ?_
      | with_reducible refine W.leave_ret ?_
      | ((with_reducible refine W.exit_on ?h ?_); (case h => decide))
      | ((with_reducible apply W.reg); (case h => simp [T3, T4, T23, hb, h1, h2, w1, w2]; exact ⟨rfl, rfl, rfl⟩))
      | ((with_reducible apply W.draw mixed); (case hB => kernel_rfl); (case hr => simp [T3, T4, T23, hb, h1, h2, w1, w2]; rfl))
      | ((with_reducible apply W.cond); (case hc => simp; rfl); all_goals (intro hc_; try (cases hc_; done)))
      | ((with_reducible apply W.runX); (case _hc => rfl); (case h => simp [T3, T4, T23, hb, h1, h2, w1, w2]; exact ⟨rfl, rfl, rfl⟩))
      | ((with_reducible apply W.call1 go34); (case ho => rfl); (case hc => rfl); (case hf => rfl); (case hg => first | rfl | simp [T3, T4, T23, hb, h1, h2, w1, w2]); (case hd => rfl); (case ha => simp [T3, T4, T23, hb, h1, h2, w1, w2]; rfl); (case hargs => rfl); (case hs => exact valid_sc _ _ he))
      | ((with_reducible apply W.call1 go35); (case ho => rfl); (case hc => rfl); (case hf => rfl); (case hg => first | rfl | simp [T3, T4, T23, hb, h1, h2, w1, w2]); (case hd => rfl); (case ha => simp [T3, T4, T23, hb, h1, h2, w1, w2]; rfl); (case hargs => rfl); (case hs => exact hlast _))
      | fail)
    with_reducible apply W.fin
    case h1 => simp <;> rfl
    case h2 => exact Wk.rfl
    case h3 => simp
    case h4 => exact hσ.clB.app (Nat.le_refl _)
    have : n ≤ P - 2 := by omega
    exact ⟨by simp [decF, hb, hP, this, hle], by simp⟩

theorem refDecode_sc (e : Ent) (n : Int) (σ : AS) (he : EntOK e) (hn64 : I64 n) : SC1 Cc 15 [.agg (encE e), i64 n] σ (.tup [i64 (decF e n).1, bV (decF e n).2]) σ := by
  refine W.body Tryd.func15 rfl 29 Tryd.ntmps15 _ Tryd.results15 (by simp) GEt_cl fun hσ => ?_
  cases hb : validB e
  · repeat' (first
      | with_reducible refine W.seq ?_
      | with_reducible refine W.next ?_
      | with_reducible refine W.nil ?_
      | with_reducible refine W.skip ?_
      | with_reducible refine W.ret ?_
      | with_reducible refine W.ret_code ?_
      | with_reducible refine W.block ?_
      | with_reducible refine W.out ?_
      | with_reducible refine W.ret_blk ?_
      | with_reducible refine W.exit ?_
      | with_reducible refine W.exit_code ?_
      | with_reducible refine W.exit_here ?_
      | with_reducible refine W.leave_exit ?_
      | with_reducible refine W.leave_ret ?_
      | ((with_reducible refine W.exit_on ?h ?_); (case h => decide))
      | ((with_reducible apply W.reg); (case h => simp [T3, T4, T23, T33, hb]; exact ⟨rfl, rfl, rfl⟩))
      | ((with_reducible apply W.draw mixed); (case hB => kernel_rfl); (case hr => simp [T3, T4, T23, T33, hb]; rfl))
      | ((with_reducible apply W.cond); (case hc => simp; rfl); all_goals (intro hc_; try (cases hc_; done)))
      | ((with_reducible apply W.runX); (case _hc => rfl); (case h => simp [T3, T4, T23, T33, hb]; exact ⟨rfl, rfl, rfl⟩))
      | ((with_reducible apply W.call1 go36); (case ho => rfl); (case hc => rfl); (case hf => rfl); (case hg => first | rfl | simp [T3, T4, T23, T33, hb]); (case hd => rfl); (case ha => simp [T3, T4, T23, T33, hb]; rfl); (case hargs => rfl); (case hs => exact ValidEntry_sc _ _ he))
      | fail)
    with_reducible apply W.fin
    case h1 => simp <;> rfl
    case h2 => exact Wk.rfl
    case h3 => simp
    case h4 => exact hσ.clB.app (Nat.le_refl _)
    exact ⟨by simp [decF, hb], by simp⟩
  have hv := (validB_iff e).1 hb
  by_cases h1 : n < 0
  · repeat' (first
      | with_reducible refine W.seq ?_
      | with_reducible refine W.next ?_
      | with_reducible refine W.nil ?_
      | with_reducible refine W.skip ?_
      | with_reducible refine W.ret ?_
      | with_reducible refine W.ret_code ?_
      | with_reducible refine W.block ?_
      | with_reducible refine W.out ?_
      | with_reducible refine W.ret_blk ?_
      | with_reducible refine W.exit ?_
      | with_reducible refine W.exit_code ?_
      | with_reducible refine W.exit_here ?_
      | with_reducible refine W.leave_exit ?_
      | with_reducible refine W.leave_ret ?_
      | ((with_reducible refine W.exit_on ?h ?_); (case h => decide))
      | ((with_reducible apply W.reg); (case h => simp [T3, T4, T23, T33, hb, h1]; exact ⟨rfl, rfl, rfl⟩))
      | ((with_reducible apply W.draw mixed); (case hB => kernel_rfl); (case hr => simp [T3, T4, T23, T33, hb, h1]; rfl))
      | ((with_reducible apply W.cond); (case hc => simp; rfl); all_goals (intro hc_; try (cases hc_; done)))
      | ((with_reducible apply W.runX); (case _hc => rfl); (case h => simp [T3, T4, T23, T33, hb, h1]; exact ⟨rfl, rfl, rfl⟩))
      | ((with_reducible apply W.call1 go36); (case ho => rfl); (case hc => rfl); (case hf => rfl); (case hg => first | rfl | simp [T3, T4, T23, T33, hb, h1]); (case hd => rfl); (case ha => simp [T3, T4, T23, T33, hb, h1]; rfl); (case hargs => rfl); (case hs => exact ValidEntry_sc _ _ he))
      | fail)
    with_reducible apply W.fin
    case h1 => simp <;> rfl
    case h2 => exact Wk.rfl
    case h3 => simp
    case h4 => exact hσ.clB.app (Nat.le_refl _)
    have : ¬ 0 ≤ n := by omega
    exact ⟨by simp [decF, hb, this], by simp⟩
  have hp := pw_bnd ⟨hv.2.2.1, hv.2.2.2.1⟩
  have hpw := pw_wrap ⟨hv.2.2.1, hv.2.2.2.1⟩
  generalize hP : pw e.width = P at *
  obtain ⟨_, _, hw1, hw2, hs1, hs2, hl1, hl2⟩ := hv
  have hle : 0 ≤ n := by omega
  have hw0 : 0 ≤ e.width := by omega
  have w6 : IntKind.u64.wrap e.width = e.width := wrapU (by omega)
  have w7 : IntKind.i64.wrap (P - 2) = P - 2 := wrap64 (by omega)
  by_cases h2 : P - 2 < n
  · repeat' (first
      | with_reducible refine W.seq ?_
      | with_reducible refine W.next ?_
      | with_reducible refine W.nil ?_
      | with_reducible refine W.skip ?_
      | with_reducible refine W.ret ?_
      | with_reducible refine W.ret_code ?_
      | with_reducible refine W.block ?_
      | with_reducible refine W.out ?_
      | with_reducible refine W.ret_blk ?_
      | with_reducible refine W.exit ?_
      | with_reducible refine W.exit_code ?_
      | with_reducible refine W.exit_here ?_
      | with_reducible refine W.leave_exit ?_
      | with_reducible refine W.leave_ret ?_
      | ((with_reducible refine W.exit_on ?h ?_); (case h => decide))
      | ((with_reducible apply W.reg); (case h => simp [T3, T4, T23, T33, hb, h1, h2, hw0, w6, w7, hpw]; exact ⟨rfl, rfl, rfl⟩))
      | ((with_reducible apply W.draw mixed); (case hB => kernel_rfl); (case hr => simp [T3, T4, T23, T33, hb, h1, h2, hw0, w6, w7, hpw]; rfl))
      | ((with_reducible apply W.cond); (case hc => simp; rfl); all_goals (intro hc_; try (cases hc_; done)))
      | ((with_reducible apply W.runX); (case _hc => rfl); (case h => simp [T3, T4, T23, T33, hb, h1, h2, hw0, w6, w7, hpw]; exact ⟨rfl, rfl, rfl⟩))
      | ((with_reducible apply W.call1 go36); (case ho => rfl); (case hc => rfl); (case hf => rfl); (case hg => first | rfl | simp [T3, T4, T23, T33, hb, h1, h2, hw0, w6, w7, hpw]); (case hd => rfl); (case ha => simp [T3, T4, T23, T33, hb, h1, h2, hw0, w6, w7, hpw]; rfl); (case hargs => rfl); (case hs => exact ValidEntry_sc _ _ he))
      | fail)
    with_reducible apply W.fin
    case h1 => simp <;> rfl
    case h2 => exact Wk.rfl
    case h3 => simp
    case h4 => exact hσ.clB.app (Nat.le_refl _)
    have : ¬ n ≤ P - 2 := by omega
    exact ⟨by simp [decF, hb, hP, this], by simp⟩
  · have hm1 : e.scale * n ≤ 1000 * n := Int.mul_le_mul_of_nonneg_right hs2 hle
    have hm0 : 0 ≤ e.scale * n := Int.mul_nonneg (by omega) hle
    have w1 : IntKind.i64.wrap (e.scale * n) = e.scale * n := wrap64 (by omega)
    have w2 : IntKind.i64.wrap (e.least + e.scale * n) = e.least + e.scale * n := wrap64 (by omega)
    repeat' (first
      | with_reducible refine W.seq ?_
      | with_reducible refine W.next ?_
      | with_reducible refine W.nil ?_
      | with_reducible refine W.skip ?_
      | with_reducible refine W.ret ?_
      | with_reducible refine W.ret_code ?_
      | with_reducible refine W.block ?_
      | with_reducible refine W.out ?_
      | with_reducible refine W.ret_blk ?_
      | with_reducible refine W.exit ?_
      | with_reducible refine W.exit_code ?_
      | with_reducible refine W.exit_here ?_
      | with_reducible refine W.leave_exit ?_
      | with_reducible refine W.leave_ret ?_
      | ((with_reducible refine W.exit_on ?h ?_); (case h => decide))
      | ((with_reducible apply W.reg); (case h => simp [T3, T4, T23, T33, hb, h1, h2, w1, w2, w6, w7, hw0, hpw]; exact ⟨rfl, rfl, rfl⟩))
      | ((with_reducible apply W.draw mixed); (case hB => kernel_rfl); (case hr => simp [T3, T4, T23, T33, hb, h1, h2, w1, w2, w6, w7, hw0, hpw]; rfl))
      | ((with_reducible apply W.cond); (case hc => simp; rfl); all_goals (intro hc_; try (cases hc_; done)))
      | ((with_reducible apply W.runX); (case _hc => rfl); (case h => simp [T3, T4, T23, T33, hb, h1, h2, w1, w2, w6, w7, hw0, hpw]; exact ⟨rfl, rfl, rfl⟩))
      | ((with_reducible apply W.call1 go36); (case ho => rfl); (case hc => rfl); (case hf => rfl); (case hg => first | rfl | simp [T3, T4, T23, T33, hb, h1, h2, w1, w2, w6, w7, hw0, hpw]); (case hd => rfl); (case ha => simp [T3, T4, T23, T33, hb, h1, h2, w1, w2, w6, w7, hw0, hpw]; rfl); (case hargs => rfl); (case hs => exact ValidEntry_sc _ _ he))
      | fail)
    with_reducible apply W.fin
    case h1 => simp <;> rfl
    case h2 => exact Wk.rfl
    case h3 => simp
    case h4 => exact hσ.clB.app (Nat.le_refl _)
    have : n ≤ P - 2 := by omega
    exact ⟨by simp [decF, hb, hP, this, hle], by simp⟩


end Go.Proofs.YtgabnlkkjmepnaaDoor

/- Elements, entries, encoding: what the program's functions and the reference's give. -/
import Derived.Test.YtgabnlkkjmepnaaDoorS3
import Derived.IntWalk
namespace Go.Proofs.YtgabnlkkjmepnaaDoor
open Go.Sw
set_option linter.unusedSimpArgs false
set_option linter.unusedVariables false
attribute [local simp] runOps stepOp pureOp gd isCall inN setd Sw.get params ev evs binV unV convV loadA cellsPV oneB storeA fieldAddrA fieldOff fieldA partA aggOf extractA indexAddrA indexA lenA minmaxA sliceA bnd partsA buildA placesA fillA buildSliceA zerosA chunkA TyD.agg Value.oneCell' Value.cells runPure appA appendA okRow_nil okRow_cons okRow_append resultA ressA resA List.getElem?_append List.set_append Cl_any Cl_val Cl_ptr Cl_agg Cl_tup Cl_fn Cl_rop Cl_sl Sw.take_set Sw.take_set_app Sw.take_app

attribute [local simp] encI encE
theorem wrapL {n : Int} (h1 : -9223372036854775808 ≤ n) (h2 : n ≤ 9223372036854775807) : IntKind.i64.wrap n = n := wrap64 ⟨h1, h2⟩

/-- The least value of an element. -/
def leastF (c : Int) : Int := ([8000, 1800, 1800, -1000, -1000, 900, 2000, 2400, 2000, 4400, 2000] : List Int).getD (c - 1).toNat 0
def isEl (c : Int) : Bool := decide (1 ≤ c) && decide (c ≤ 11)
/-- What Describe gives. -/
def Desc (c : Int) (σ : AS) (r : PV) (σ' : AS) : Prop := ∃ (s : ByteArray) (h d l e : Int), r = .tup [.agg [.val (.string s), i64 l, i64 h, i64 d], i64 e] ∧ (e = if isEl c then 0 else 4) ∧ (isEl c → l = leastF c) ∧ σ = σ'

theorem Describe_sc (c : Int) (σ : AS) (hc : I64 c) : SC Cc 59 [i64 c] σ (Desc c σ) := by
  obtain ⟨hc0, hc9⟩ := hc
  refine W.body Tryd.func59 rfl 30 Tryd.ntmps59 _ Tryd.results59 (by simp) GEt_cl fun hσ => ?_
  by_cases a1 : c < 1
  · repeat' (first
      | with_reducible refine W.seq ?_
      | with_reducible refine W.next ?_
      | with_reducible refine W.nil ?_
      | with_reducible refine W.skip ?_
      | with_reducible refine W.ret ?_
      | with_reducible refine W.ret_code ?_
      | with_reducible refine W.block ?_
      | with_reducible refine W.out ?_
      | with_reducible refine W.ret_blk ?_
      | with_reducible refine W.exit ?_
      | with_reducible refine W.exit_code ?_
      | with_reducible refine W.exit_here ?_
      | with_reducible refine W.leave_exit ?_
      | with_reducible refine W.leave_ret ?_
      | ((with_reducible refine W.exit_on ?h ?_); (case h => decide))
      | ((with_reducible apply W.reg); (case h => simp [T3, T62, T9, T5, T98, T99, a1]; exact ⟨rfl, rfl, rfl⟩))
      | ((with_reducible apply W.draw mixed); (case hB => kernel_rfl); (case hr => simp [T3, T62, T9, T5, T98, T99, a1]; rfl))
      | ((with_reducible apply W.cond); (case hc => simp; rfl); all_goals (intro hc_; try (cases hc_; done)))
      | ((with_reducible apply W.runX); (case _hc => rfl); (case h => simp [T3, T62, T9, T5, T98, T99, a1]; exact ⟨rfl, rfl, rfl⟩))
      | fail)
    with_reducible apply W.fin
    case h1 => simp <;> rfl
    case h2 => exact Wk.rfl
    case h3 => simp
    case h4 => exact hσ.clB.app (Nat.le_refl _)
    have e : isEl c = false := by simp [isEl]; omega
    exact ⟨_, _, _, _, _, rfl, by simp [e], by simp [e], by simp⟩
  by_cases a2 : 11 < c
  · repeat' (first
      | with_reducible refine W.seq ?_
      | with_reducible refine W.next ?_
      | with_reducible refine W.nil ?_
      | with_reducible refine W.skip ?_
      | with_reducible refine W.ret ?_
      | with_reducible refine W.ret_code ?_
      | with_reducible refine W.block ?_
      | with_reducible refine W.out ?_
      | with_reducible refine W.ret_blk ?_
      | with_reducible refine W.exit ?_
      | with_reducible refine W.exit_code ?_
      | with_reducible refine W.exit_here ?_
      | with_reducible refine W.leave_exit ?_
      | with_reducible refine W.leave_ret ?_
      | ((with_reducible refine W.exit_on ?h ?_); (case h => decide))
      | ((with_reducible apply W.reg); (case h => simp [T3, T62, T9, T5, T98, T99, a1, a2]; exact ⟨rfl, rfl, rfl⟩))
      | ((with_reducible apply W.draw mixed); (case hB => kernel_rfl); (case hr => simp [T3, T62, T9, T5, T98, T99, a1, a2]; rfl))
      | ((with_reducible apply W.cond); (case hc => simp; rfl); all_goals (intro hc_; try (cases hc_; done)))
      | ((with_reducible apply W.runX); (case _hc => rfl); (case h => simp [T3, T62, T9, T5, T98, T99, a1, a2]; exact ⟨rfl, rfl, rfl⟩))
      | fail)
    with_reducible apply W.fin
    case h1 => simp <;> rfl
    case h2 => exact Wk.rfl
    case h3 => simp
    case h4 => exact hσ.clB.app (Nat.le_refl _)
    have e : isEl c = false := by simp [isEl]; omega
    exact ⟨_, _, _, _, _, rfl, by simp [e], by simp [e], by simp⟩
  have hcc : c = 1 ∨ c = 2 ∨ c = 3 ∨ c = 4 ∨ c = 5 ∨ c = 6 ∨ c = 7 ∨ c = 8 ∨ c = 9 ∨ c = 10 ∨ c = 11 := by omega
  clear a1 a2 hc0 hc9
  rcases hcc with rfl | rfl | rfl | rfl | rfl | rfl | rfl | rfl | rfl | rfl | rfl
  all_goals
    repeat' (first
      | with_reducible refine W.seq ?_
      | with_reducible refine W.next ?_
      | with_reducible refine W.nil ?_
      | with_reducible refine W.skip ?_
      | with_reducible refine W.ret ?_
      | with_reducible refine W.ret_code ?_
      | with_reducible refine W.block ?_
      | with_reducible refine W.out ?_
      | with_reducible refine W.ret_blk ?_
      | with_reducible refine W.exit ?_
      | with_reducible refine W.exit_code ?_
      | with_reducible refine W.exit_here ?_
      | with_reducible refine W.leave_exit ?_
      | with_reducible refine W.leave_ret ?_
      | ((with_reducible refine W.exit_on ?h ?_); (case h => decide))
      | ((with_reducible apply W.reg); (case h => simp [T3, T62, T9, T5, T98, T99, Cc_GE, GEt, wrapL, ByteArray.size]; exact ⟨rfl, rfl, rfl⟩))
      | ((with_reducible apply W.draw mixed); (case hB => kernel_rfl); (case hr => simp [T3, T62, T9, T5, T98, T99, Cc_GE, GEt, wrapL, ByteArray.size]; rfl))
      | ((with_reducible apply W.cond); (case hc => simp; rfl); all_goals (intro hc_; try (cases hc_; done)))
      | ((with_reducible apply W.runX); (case _hc => rfl); (case h => simp [T3, T62, T9, T5, T98, T99, Cc_GE, GEt, wrapL, ByteArray.size]; exact ⟨rfl, rfl, rfl⟩))
      | fail)
    with_reducible apply W.held0 mixed 11 [0, 1, 2, 3, 4, 5, 6, 7, 8]
    case hn => rfl
    with_reducible apply SH.takes [0, 1, 2, 3, 4, 5, 6, 7, 8] 2
    case hfu => rfl
    case hs => kernel_rfl
    case hB => kernel_rfl
    case hQ => exact fun _ _ _ h => h
    case hs0 => exact Sub0.rfl
    case hr => simp [T3, T62, T9, T5, T98, T99, Cc_GE, GEt, wrapL, ByteArray.size, runTakes, takeOp, effA, effOp, down, down1, hideB, keep]; exact ⟨rfl, rfl⟩
    with_reducible apply SH.one 9
    case hr => kernel_rfl
    with_reducible apply SHo.effX
    case hh => exact (Sub0.rfl).hid.mono (by simp)
    case he => simp [T3, T62, T9, T5, T98, T99, Cc_GE, GEt, wrapL, ByteArray.size, runTakes, takeOp, effA, effOp, down, down1, hideB, keep]; exact ⟨rfl, rfl, rfl⟩
    with_reducible apply SH.one 10
    case hr => kernel_rfl
    with_reducible apply SHo.effX
    case hh => exact (Sub0.rfl).hid.mono (by simp)
    case he => simp [T3, T62, T9, T5, T98, T99, Cc_GE, GEt, wrapL, ByteArray.size, runTakes, takeOp, effA, effOp, down, down1, hideB, keep]; exact ⟨rfl, rfl, rfl⟩
    refine SH.done (by kernel_rfl) ?_
    repeat' (first
      | with_reducible refine W.seq ?_
      | with_reducible refine W.next ?_
      | with_reducible refine W.nil ?_
      | with_reducible refine W.skip ?_
      | with_reducible refine W.ret ?_
      | with_reducible refine W.ret_code ?_
      | with_reducible refine W.block ?_
      | with_reducible refine W.out ?_
      | with_reducible refine W.ret_blk ?_
      | with_reducible refine W.exit ?_
      | with_reducible refine W.exit_code ?_
      | with_reducible refine W.exit_here ?_
      | with_reducible refine W.leave_exit ?_
      | with_reducible refine W.leave_ret ?_
      | ((with_reducible refine W.exit_on ?h ?_); (case h => decide))
      | ((with_reducible apply W.reg); (case h => simp [T3, T62, T9, T5, T98, T99, Cc_GE, GEt, wrapL, ByteArray.size]; exact ⟨rfl, rfl, rfl⟩))
      | ((with_reducible apply W.draw mixed); (case hB => kernel_rfl); (case hr => simp [T3, T62, T9, T5, T98, T99, Cc_GE, GEt, wrapL, ByteArray.size]; rfl))
      | ((with_reducible apply W.cond); (case hc => simp; rfl); all_goals (intro hc_; try (cases hc_; done)))
      | ((with_reducible apply W.runX); (case _hc => rfl); (case h => simp [T3, T62, T9, T5, T98, T99, Cc_GE, GEt, wrapL, ByteArray.size]; exact ⟨rfl, rfl, rfl⟩))
      | fail)
    with_reducible apply W.fin
    case h1 => simp <;> rfl
    case h2 => exact Wk.rfl
    case h3 => simp
    case h4 => exact hσ.clB.app (Nat.le_refl _)
    exact ⟨_, _, _, _, _, rfl, by simp [isEl], by simp [isEl, leastF], by simp⟩


end Go.Proofs.YtgabnlkkjmepnaaDoor

/- The small functions on entries and codes, of the program and of the reference: what each gives. -/
import Derived.Test.YtgabnlkkjmepnaaDoorS2
import Derived.IntWalk
namespace Go.Proofs.YtgabnlkkjmepnaaDoor
open Go.Sw
set_option linter.unusedSimpArgs false
set_option linter.unusedVariables false
attribute [local simp] runOps stepOp pureOp gd isCall inN setd Sw.get params ev evs binV unV convV loadA cellsPV oneB storeA fieldAddrA fieldOff fieldA partA aggOf extractA indexAddrA indexA lenA minmaxA sliceA bnd partsA buildA placesA fillA buildSliceA zerosA chunkA TyD.agg Value.oneCell' Value.cells runPure appA appendA okRow_nil okRow_cons okRow_append resultA ressA resA List.getElem?_append List.set_append Cl_any Cl_val Cl_ptr Cl_agg Cl_tup Cl_fn Cl_rop Cl_sl Sw.take_set Sw.take_set_app Sw.take_app

attribute [local simp] encI
structure Ent where
  code : Int
  element : Int
  width : Int
  scale : Int
  least : Int
  deriving Inhabited, DecidableEq
def encE (e : Ent) : List PV := [i64 e.code, i64 e.element, i64 e.width, i64 e.scale, i64 e.least]
attribute [local simp] encE
def I64 (n : Int) : Prop := -9223372036854775808 ≤ n ∧ n ≤ 9223372036854775807
structure EntOK (e : Ent) : Prop where
  code : I64 e.code
  element : I64 e.element
  width : I64 e.width
  scale : I64 e.scale
  least : I64 e.least

theorem seven_sc (σ : AS) : SC1 Cc 11 [] σ (.agg (encE ⟨7, 1, 10, 5, 8000⟩)) σ := by
  refine W.body Tryd.func11 rfl 2 Tryd.ntmps11 _ Tryd.results11 (by simp) GEt_cl fun hσ => ?_
  repeat' (first
    | with_reducible refine W.seq ?_
    | with_reducible refine W.next ?_
    | with_reducible refine W.nil ?_
    | with_reducible refine W.skip ?_
    | with_reducible refine W.ret ?_
    | with_reducible refine W.ret_code ?_
    | with_reducible refine W.block ?_
    | with_reducible refine W.out ?_
    | with_reducible refine W.ret_blk ?_
    | with_reducible refine W.exit ?_
    | with_reducible refine W.exit_code ?_
    | with_reducible refine W.exit_here ?_
    | with_reducible refine W.leave_exit ?_
    | with_reducible refine W.leave_ret ?_
    | ((with_reducible refine W.exit_on ?h ?_); (case h => decide))
    | ((with_reducible apply W.reg); (case h => simp [T3, T23]; exact ⟨rfl, rfl, rfl⟩))
    | ((with_reducible apply W.draw mixed); (case hB => kernel_rfl); (case hr => simp [T3, T23]; rfl))
    | ((with_reducible apply W.cond); (case hc => simp; rfl); all_goals (intro hc_; try (cases hc_; done)))
    | ((with_reducible apply W.runX); (case _hc => rfl); (case h => simp [T3, T23]; exact ⟨rfl, rfl, rfl⟩)))
  with_reducible apply W.fin
  case h1 => simp <;> rfl
  case h2 => exact Wk.rfl
  case h3 => simp
  case h4 => exact hσ.clB.app (Nat.le_refl _)
  exact ⟨by simp, by simp⟩

theorem split_sc (c : Int) (σ : AS) (h : 20000 ≤ c ∧ c ≤ 9223372036854775807) : SC1 Cc 62 [i64 c] σ (.tup [i64 ((c - 20000).tdiv 100), i64 ((c - 20000).tmod 100)]) σ := by
  refine W.body Tryd.func62 rfl 10 Tryd.ntmps62 _ Tryd.results62 (by simp) GEt_cl fun hσ => ?_
  have h1 : IntKind.i64.wrap (c - 20000) = c - 20000 := wrap64 (by omega)
  have h2 : IntKind.i64.wrap ((c - 20000).tdiv 100) = (c - 20000).tdiv 100 := wrap64 (by rw [Int.tdiv_eq_ediv_of_nonneg (by omega)]; omega)
  repeat' (first
    | with_reducible refine W.seq ?_
    | with_reducible refine W.next ?_
    | with_reducible refine W.nil ?_
    | with_reducible refine W.skip ?_
    | with_reducible refine W.ret ?_
    | with_reducible refine W.ret_code ?_
    | with_reducible refine W.block ?_
    | with_reducible refine W.out ?_
    | with_reducible refine W.ret_blk ?_
    | with_reducible refine W.exit ?_
    | with_reducible refine W.exit_code ?_
    | with_reducible refine W.exit_here ?_
    | with_reducible refine W.leave_exit ?_
    | with_reducible refine W.leave_ret ?_
    | ((with_reducible refine W.exit_on ?h ?_); (case h => decide))
    | ((with_reducible apply W.reg); (case h => simp [T3, h1, h2]; exact ⟨rfl, rfl, rfl⟩))
    | ((with_reducible apply W.draw mixed); (case hB => kernel_rfl); (case hr => simp [T3, h1, h2]; rfl))
    | ((with_reducible apply W.cond); (case hc => simp; rfl); all_goals (intro hc_; try (cases hc_; done)))
    | ((with_reducible apply W.runX); (case _hc => rfl); (case h => simp [T3, h1, h2]; exact ⟨rfl, rfl, rfl⟩)))
  with_reducible apply W.fin
  case h1 => simp <;> rfl
  case h2 => exact Wk.rfl
  case h3 => simp
  case h4 => exact hσ.clB
  exact ⟨rfl, by simp⟩

theorem of_sc (c : Int) (σ : AS) (h : I64 c) : SC1 Cc 55 [i64 c] σ (i64 (kindF c)) σ := by
  obtain ⟨h0, h9⟩ := h
  refine W.body Tryd.func55 rfl 33 Tryd.ntmps55 _ Tryd.results55 (by simp) GEt_cl fun hσ => ?_
  by_cases a1 : c < 1
  · repeat' (first
      | with_reducible refine W.seq ?_
      | with_reducible refine W.next ?_
      | with_reducible refine W.nil ?_
      | with_reducible refine W.skip ?_
      | with_reducible refine W.ret ?_
      | with_reducible refine W.ret_code ?_
      | with_reducible refine W.block ?_
      | with_reducible refine W.out ?_
      | with_reducible refine W.ret_blk ?_
      | with_reducible refine W.exit ?_
      | with_reducible refine W.exit_code ?_
      | with_reducible refine W.exit_here ?_
      | with_reducible refine W.leave_exit ?_
      | with_reducible refine W.leave_ret ?_
      | ((with_reducible refine W.exit_on ?h ?_); (case h => decide))
      | ((with_reducible apply W.reg); (case h => simp [T3, a1]; exact ⟨rfl, rfl, rfl⟩))
      | ((with_reducible apply W.draw mixed); (case hB => kernel_rfl); (case hr => simp [T3, a1]; rfl))
      | ((with_reducible apply W.cond); (case hc => simp; rfl); all_goals (intro hc_; try (cases hc_; done)))
      | ((with_reducible apply W.runX); (case _hc => rfl); (case h => simp [T3, a1]; exact ⟨rfl, rfl, rfl⟩)))
    with_reducible apply W.fin
    case h1 => simp <;> rfl
    case h2 => exact Wk.rfl
    case h3 => simp
    case h4 => exact hσ.clB
    exact ⟨by simp [kindF, a1], by simp⟩
  by_cases a2 : c < 10000
  · repeat' (first
      | with_reducible refine W.seq ?_
      | with_reducible refine W.next ?_
      | with_reducible refine W.nil ?_
      | with_reducible refine W.skip ?_
      | with_reducible refine W.ret ?_
      | with_reducible refine W.ret_code ?_
      | with_reducible refine W.block ?_
      | with_reducible refine W.out ?_
      | with_reducible refine W.ret_blk ?_
      | with_reducible refine W.exit ?_
      | with_reducible refine W.exit_code ?_
      | with_reducible refine W.exit_here ?_
      | with_reducible refine W.leave_exit ?_
      | with_reducible refine W.leave_ret ?_
      | ((with_reducible refine W.exit_on ?h ?_); (case h => decide))
      | ((with_reducible apply W.reg); (case h => simp [T3, a1, a2]; exact ⟨rfl, rfl, rfl⟩))
      | ((with_reducible apply W.draw mixed); (case hB => kernel_rfl); (case hr => simp [T3, a1, a2]; rfl))
      | ((with_reducible apply W.cond); (case hc => simp; rfl); all_goals (intro hc_; try (cases hc_; done)))
      | ((with_reducible apply W.runX); (case _hc => rfl); (case h => simp [T3, a1, a2]; exact ⟨rfl, rfl, rfl⟩)))
    with_reducible apply W.fin
    case h1 => simp <;> rfl
    case h2 => exact Wk.rfl
    case h3 => simp
    case h4 => exact hσ.clB
    exact ⟨by simp [kindF, a1, a2], by simp⟩
  by_cases a3 : c < 20000
  · repeat' (first
      | with_reducible refine W.seq ?_
      | with_reducible refine W.next ?_
      | with_reducible refine W.nil ?_
      | with_reducible refine W.skip ?_
      | with_reducible refine W.ret ?_
      | with_reducible refine W.ret_code ?_
      | with_reducible refine W.block ?_
      | with_reducible refine W.out ?_
      | with_reducible refine W.ret_blk ?_
      | with_reducible refine W.exit ?_
      | with_reducible refine W.exit_code ?_
      | with_reducible refine W.exit_here ?_
      | with_reducible refine W.leave_exit ?_
      | with_reducible refine W.leave_ret ?_
      | ((with_reducible refine W.exit_on ?h ?_); (case h => decide))
      | ((with_reducible apply W.reg); (case h => simp [T3, a1, a2, a3]; exact ⟨rfl, rfl, rfl⟩))
      | ((with_reducible apply W.draw mixed); (case hB => kernel_rfl); (case hr => simp [T3, a1, a2, a3]; rfl))
      | ((with_reducible apply W.cond); (case hc => simp; rfl); all_goals (intro hc_; try (cases hc_; done)))
      | ((with_reducible apply W.runX); (case _hc => rfl); (case h => simp [T3, a1, a2, a3]; exact ⟨rfl, rfl, rfl⟩)))
    with_reducible apply W.fin
    case h1 => simp <;> rfl
    case h2 => exact Wk.rfl
    case h3 => simp
    case h4 => exact hσ.clB
    exact ⟨by simp [kindF, a1, a2, a3], by simp⟩
  generalize hx : (c - 20000).tdiv 100 = x
  generalize hy : (c - 20000).tmod 100 = y
  by_cases h1_ : 1 ≤ x
  · by_cases h2_ : x ≤ 20
    · by_cases h3_ : 1 ≤ y
      · by_cases h4_ : y ≤ 20
        · repeat' (first
            | with_reducible refine W.seq ?_
            | with_reducible refine W.next ?_
            | with_reducible refine W.nil ?_
            | with_reducible refine W.skip ?_
            | with_reducible refine W.ret ?_
            | with_reducible refine W.ret_code ?_
            | with_reducible refine W.block ?_
            | with_reducible refine W.out ?_
            | with_reducible refine W.ret_blk ?_
            | with_reducible refine W.exit ?_
            | with_reducible refine W.exit_code ?_
            | with_reducible refine W.exit_here ?_
            | with_reducible refine W.leave_exit ?_
            | with_reducible refine W.leave_ret ?_
            | ((with_reducible refine W.exit_on ?h ?_); (case h => decide))
            | ((with_reducible apply W.reg); (case h => simp [T3, a1, a2, a3, h1_, h2_, h3_, h4_]; exact ⟨rfl, rfl, rfl⟩))
            | ((with_reducible apply W.draw mixed); (case hB => kernel_rfl); (case hr => simp [T3, a1, a2, a3, h1_, h2_, h3_, h4_]; rfl))
            | ((with_reducible apply W.cond); (case hc => simp; rfl); all_goals (intro hc_; try (cases hc_; done)))
            | ((with_reducible apply W.runX); (case _hc => rfl); (case h => simp [T3, a1, a2, a3, h1_, h2_, h3_, h4_]; exact ⟨rfl, rfl, rfl⟩))
            | ((with_reducible apply W.call1 go62); (case ho => rfl); (case hc => rfl); (case hf => rfl); (case hg => first | rfl | simp [T3, a1, a2, a3, h1_, h2_, h3_, h4_]); (case hd => rfl); (case ha => simp [T3, a1, a2, a3, h1_, h2_, h3_, h4_]; rfl); (case hargs => rfl); (case hs => exact (by rw [← hx, ← hy]; exact split_sc _ _ ⟨by omega, by omega⟩ : SC1 Cc 62 [i64 c] σ (.tup [i64 x, i64 y]) σ))))
          with_reducible apply W.fin
          case h1 => simp <;> rfl
          case h2 => exact Wk.rfl
          case h3 => simp
          case h4 => exact hσ.clB
          exact ⟨by simp [kindF, a1, a2, a3, hx, hy, h1_, h2_, h3_, h4_], by simp⟩
        · repeat' (first
            | with_reducible refine W.seq ?_
            | with_reducible refine W.next ?_
            | with_reducible refine W.nil ?_
            | with_reducible refine W.skip ?_
            | with_reducible refine W.ret ?_
            | with_reducible refine W.ret_code ?_
            | with_reducible refine W.block ?_
            | with_reducible refine W.out ?_
            | with_reducible refine W.ret_blk ?_
            | with_reducible refine W.exit ?_
            | with_reducible refine W.exit_code ?_
            | with_reducible refine W.exit_here ?_
            | with_reducible refine W.leave_exit ?_
            | with_reducible refine W.leave_ret ?_
            | ((with_reducible refine W.exit_on ?h ?_); (case h => decide))
            | ((with_reducible apply W.reg); (case h => simp [T3, a1, a2, a3, h1_, h2_, h3_, h4_]; exact ⟨rfl, rfl, rfl⟩))
            | ((with_reducible apply W.draw mixed); (case hB => kernel_rfl); (case hr => simp [T3, a1, a2, a3, h1_, h2_, h3_, h4_]; rfl))
            | ((with_reducible apply W.cond); (case hc => simp; rfl); all_goals (intro hc_; try (cases hc_; done)))
            | ((with_reducible apply W.runX); (case _hc => rfl); (case h => simp [T3, a1, a2, a3, h1_, h2_, h3_, h4_]; exact ⟨rfl, rfl, rfl⟩))
            | ((with_reducible apply W.call1 go62); (case ho => rfl); (case hc => rfl); (case hf => rfl); (case hg => first | rfl | simp [T3, a1, a2, a3, h1_, h2_, h3_, h4_]); (case hd => rfl); (case ha => simp [T3, a1, a2, a3, h1_, h2_, h3_, h4_]; rfl); (case hargs => rfl); (case hs => exact (by rw [← hx, ← hy]; exact split_sc _ _ ⟨by omega, by omega⟩ : SC1 Cc 62 [i64 c] σ (.tup [i64 x, i64 y]) σ))))
          with_reducible apply W.fin
          case h1 => simp <;> rfl
          case h2 => exact Wk.rfl
          case h3 => simp
          case h4 => exact hσ.clB
          exact ⟨by simp [kindF, a1, a2, a3, hx, hy, h1_, h2_, h3_, h4_], by simp⟩
      · repeat' (first
          | with_reducible refine W.seq ?_
          | with_reducible refine W.next ?_
          | with_reducible refine W.nil ?_
          | with_reducible refine W.skip ?_
          | with_reducible refine W.ret ?_
          | with_reducible refine W.ret_code ?_
          | with_reducible refine W.block ?_
          | with_reducible refine W.out ?_
          | with_reducible refine W.ret_blk ?_
          | with_reducible refine W.exit ?_
          | with_reducible refine W.exit_code ?_
          | with_reducible refine W.exit_here ?_
          | with_reducible refine W.leave_exit ?_
          | with_reducible refine W.leave_ret ?_
          | ((with_reducible refine W.exit_on ?h ?_); (case h => decide))
          | ((with_reducible apply W.reg); (case h => simp [T3, a1, a2, a3, h1_, h2_, h3_]; exact ⟨rfl, rfl, rfl⟩))
          | ((with_reducible apply W.draw mixed); (case hB => kernel_rfl); (case hr => simp [T3, a1, a2, a3, h1_, h2_, h3_]; rfl))
          | ((with_reducible apply W.cond); (case hc => simp; rfl); all_goals (intro hc_; try (cases hc_; done)))
          | ((with_reducible apply W.runX); (case _hc => rfl); (case h => simp [T3, a1, a2, a3, h1_, h2_, h3_]; exact ⟨rfl, rfl, rfl⟩))
          | ((with_reducible apply W.call1 go62); (case ho => rfl); (case hc => rfl); (case hf => rfl); (case hg => first | rfl | simp [T3, a1, a2, a3, h1_, h2_, h3_]); (case hd => rfl); (case ha => simp [T3, a1, a2, a3, h1_, h2_, h3_]; rfl); (case hargs => rfl); (case hs => exact (by rw [← hx, ← hy]; exact split_sc _ _ ⟨by omega, by omega⟩ : SC1 Cc 62 [i64 c] σ (.tup [i64 x, i64 y]) σ))))
        with_reducible apply W.fin
        case h1 => simp <;> rfl
        case h2 => exact Wk.rfl
        case h3 => simp
        case h4 => exact hσ.clB
        exact ⟨by simp [kindF, a1, a2, a3, hx, hy, h1_, h2_, h3_], by simp⟩
    · repeat' (first
        | with_reducible refine W.seq ?_
        | with_reducible refine W.next ?_
        | with_reducible refine W.nil ?_
        | with_reducible refine W.skip ?_
        | with_reducible refine W.ret ?_
        | with_reducible refine W.ret_code ?_
        | with_reducible refine W.block ?_
        | with_reducible refine W.out ?_
        | with_reducible refine W.ret_blk ?_
        | with_reducible refine W.exit ?_
        | with_reducible refine W.exit_code ?_
        | with_reducible refine W.exit_here ?_
        | with_reducible refine W.leave_exit ?_
        | with_reducible refine W.leave_ret ?_
        | ((with_reducible refine W.exit_on ?h ?_); (case h => decide))
        | ((with_reducible apply W.reg); (case h => simp [T3, a1, a2, a3, h1_, h2_]; exact ⟨rfl, rfl, rfl⟩))
        | ((with_reducible apply W.draw mixed); (case hB => kernel_rfl); (case hr => simp [T3, a1, a2, a3, h1_, h2_]; rfl))
        | ((with_reducible apply W.cond); (case hc => simp; rfl); all_goals (intro hc_; try (cases hc_; done)))
        | ((with_reducible apply W.runX); (case _hc => rfl); (case h => simp [T3, a1, a2, a3, h1_, h2_]; exact ⟨rfl, rfl, rfl⟩))
        | ((with_reducible apply W.call1 go62); (case ho => rfl); (case hc => rfl); (case hf => rfl); (case hg => first | rfl | simp [T3, a1, a2, a3, h1_, h2_]); (case hd => rfl); (case ha => simp [T3, a1, a2, a3, h1_, h2_]; rfl); (case hargs => rfl); (case hs => exact (by rw [← hx, ← hy]; exact split_sc _ _ ⟨by omega, by omega⟩ : SC1 Cc 62 [i64 c] σ (.tup [i64 x, i64 y]) σ))))
      with_reducible apply W.fin
      case h1 => simp <;> rfl
      case h2 => exact Wk.rfl
      case h3 => simp
      case h4 => exact hσ.clB
      exact ⟨by simp [kindF, a1, a2, a3, hx, hy, h1_, h2_], by simp⟩
  · repeat' (first
      | with_reducible refine W.seq ?_
      | with_reducible refine W.next ?_
      | with_reducible refine W.nil ?_
      | with_reducible refine W.skip ?_
      | with_reducible refine W.ret ?_
      | with_reducible refine W.ret_code ?_
      | with_reducible refine W.block ?_
      | with_reducible refine W.out ?_
      | with_reducible refine W.ret_blk ?_
      | with_reducible refine W.exit ?_
      | with_reducible refine W.exit_code ?_
      | with_reducible refine W.exit_here ?_
      | with_reducible refine W.leave_exit ?_
      | with_reducible refine W.leave_ret ?_
      | ((with_reducible refine W.exit_on ?h ?_); (case h => decide))
      | ((with_reducible apply W.reg); (case h => simp [T3, a1, a2, a3, h1_]; exact ⟨rfl, rfl, rfl⟩))
      | ((with_reducible apply W.draw mixed); (case hB => kernel_rfl); (case hr => simp [T3, a1, a2, a3, h1_]; rfl))
      | ((with_reducible apply W.cond); (case hc => simp; rfl); all_goals (intro hc_; try (cases hc_; done)))
      | ((with_reducible apply W.runX); (case _hc => rfl); (case h => simp [T3, a1, a2, a3, h1_]; exact ⟨rfl, rfl, rfl⟩))
      | ((with_reducible apply W.call1 go62); (case ho => rfl); (case hc => rfl); (case hf => rfl); (case hg => first | rfl | simp [T3, a1, a2, a3, h1_]); (case hd => rfl); (case ha => simp [T3, a1, a2, a3, h1_]; rfl); (case hargs => rfl); (case hs => exact (by rw [← hx, ← hy]; exact split_sc _ _ ⟨by omega, by omega⟩ : SC1 Cc 62 [i64 c] σ (.tup [i64 x, i64 y]) σ))))
    with_reducible apply W.fin
    case h1 => simp <;> rfl
    case h2 => exact Wk.rfl
    case h3 => simp
    case h4 => exact hσ.clB
    exact ⟨by simp [kindF, a1, a2, a3, hx, hy, h1_], by simp⟩

theorem kind_sc (c : Int) (σ : AS) (h : I64 c) : SC1 Cc 40 [i64 c] σ (i64 (kindF c)) σ := by
  obtain ⟨h0, h9⟩ := h
  refine W.body Tryd.func40 rfl 43 Tryd.ntmps40 _ Tryd.results40 (by simp) GEt_cl fun hσ => ?_
  by_cases b1 : 1 ≤ c
  · have a1 : ¬ c < 1 := by omega
    by_cases a2 : c ≤ 9999
    · have a2' : c < 10000 := by omega
      repeat' (first
        | with_reducible refine W.seq ?_
        | with_reducible refine W.next ?_
        | with_reducible refine W.nil ?_
        | with_reducible refine W.skip ?_
        | with_reducible refine W.ret ?_
        | with_reducible refine W.ret_code ?_
        | with_reducible refine W.block ?_
        | with_reducible refine W.out ?_
        | with_reducible refine W.ret_blk ?_
        | with_reducible refine W.exit ?_
        | with_reducible refine W.exit_code ?_
        | with_reducible refine W.exit_here ?_
        | with_reducible refine W.leave_exit ?_
        | with_reducible refine W.leave_ret ?_
        | ((with_reducible refine W.exit_on ?h ?_); (case h => decide))
        | ((with_reducible apply W.reg); (case h => simp [T3, b1, a2]; exact ⟨rfl, rfl, rfl⟩))
        | ((with_reducible apply W.draw mixed); (case hB => kernel_rfl); (case hr => simp [T3, b1, a2]; rfl))
        | ((with_reducible apply W.cond); (case hc => simp; rfl); all_goals (intro hc_; try (cases hc_; done)))
        | ((with_reducible apply W.runX); (case _hc => rfl); (case h => simp [T3, b1, a2]; exact ⟨rfl, rfl, rfl⟩)))
      with_reducible apply W.fin
      case h1 => simp <;> rfl
      case h2 => exact Wk.rfl
      case h3 => simp
      case h4 => exact hσ.clB
      exact ⟨by simp [kindF, a1, a2'], by simp⟩
    have a2' : ¬ c < 10000 := by omega
    have b2 : 10000 ≤ c := by omega
    by_cases a3 : c ≤ 19999
    · have a3' : c < 20000 := by omega
      repeat' (first
        | with_reducible refine W.seq ?_
        | with_reducible refine W.next ?_
        | with_reducible refine W.nil ?_
        | with_reducible refine W.skip ?_
        | with_reducible refine W.ret ?_
        | with_reducible refine W.ret_code ?_
        | with_reducible refine W.block ?_
        | with_reducible refine W.out ?_
        | with_reducible refine W.ret_blk ?_
        | with_reducible refine W.exit ?_
        | with_reducible refine W.exit_code ?_
        | with_reducible refine W.exit_here ?_
        | with_reducible refine W.leave_exit ?_
        | with_reducible refine W.leave_ret ?_
        | ((with_reducible refine W.exit_on ?h ?_); (case h => decide))
        | ((with_reducible apply W.reg); (case h => simp [T3, b1, a2, b2, a3]; exact ⟨rfl, rfl, rfl⟩))
        | ((with_reducible apply W.draw mixed); (case hB => kernel_rfl); (case hr => simp [T3, b1, a2, b2, a3]; rfl))
        | ((with_reducible apply W.cond); (case hc => simp; rfl); all_goals (intro hc_; try (cases hc_; done)))
        | ((with_reducible apply W.runX); (case _hc => rfl); (case h => simp [T3, b1, a2, b2, a3]; exact ⟨rfl, rfl, rfl⟩)))
      with_reducible apply W.fin
      case h1 => simp <;> rfl
      case h2 => exact Wk.rfl
      case h3 => simp
      case h4 => exact hσ.clB
      exact ⟨by simp [kindF, a1, a2', a3'], by simp⟩
    have a3' : ¬ c < 20000 := by omega
    have h1 : IntKind.i64.wrap (c - 20000) = c - 20000 := wrap64 (by omega)
    have h2 : IntKind.i64.wrap ((c - 20000).tdiv 100) = (c - 20000).tdiv 100 := wrap64 (by rw [Int.tdiv_eq_ediv_of_nonneg (by omega)]; omega)
    by_cases a4 : 20000 < c
    · generalize hx : (c - 20000).tdiv 100 = x at h2
      generalize hy : (c - 20000).tmod 100 = y
      by_cases h1_ : 1 ≤ x
      · by_cases h2_ : x ≤ 20
        · by_cases h3_ : 1 ≤ y
          · by_cases h4_ : y ≤ 20
            · repeat' (first
                | with_reducible refine W.seq ?_
                | with_reducible refine W.next ?_
                | with_reducible refine W.nil ?_
                | with_reducible refine W.skip ?_
                | with_reducible refine W.ret ?_
                | with_reducible refine W.ret_code ?_
                | with_reducible refine W.block ?_
                | with_reducible refine W.out ?_
                | with_reducible refine W.ret_blk ?_
                | with_reducible refine W.exit ?_
                | with_reducible refine W.exit_code ?_
                | with_reducible refine W.exit_here ?_
                | with_reducible refine W.leave_exit ?_
                | with_reducible refine W.leave_ret ?_
                | ((with_reducible refine W.exit_on ?h ?_); (case h => decide))
                | ((with_reducible apply W.reg); (case h => simp [T3, b1, a2, b2, a3, a4, h1, h2, hx, hy, h1_, h2_, h3_, h4_]; exact ⟨rfl, rfl, rfl⟩))
                | ((with_reducible apply W.draw mixed); (case hB => kernel_rfl); (case hr => simp [T3, b1, a2, b2, a3, a4, h1, h2, hx, hy, h1_, h2_, h3_, h4_]; rfl))
                | ((with_reducible apply W.cond); (case hc => simp; rfl); all_goals (intro hc_; try (cases hc_; done)))
                | ((with_reducible apply W.runX); (case _hc => rfl); (case h => simp [T3, b1, a2, b2, a3, a4, h1, h2, hx, hy, h1_, h2_, h3_, h4_]; exact ⟨rfl, rfl, rfl⟩)))
              with_reducible apply W.fin
              case h1 => simp <;> rfl
              case h2 => exact Wk.rfl
              case h3 => simp
              case h4 => exact hσ.clB
              exact ⟨by simp [kindF, a1, a2', a3', hx, hy, h1_, h2_, h3_, h4_], by simp⟩
            · repeat' (first
                | with_reducible refine W.seq ?_
                | with_reducible refine W.next ?_
                | with_reducible refine W.nil ?_
                | with_reducible refine W.skip ?_
                | with_reducible refine W.ret ?_
                | with_reducible refine W.ret_code ?_
                | with_reducible refine W.block ?_
                | with_reducible refine W.out ?_
                | with_reducible refine W.ret_blk ?_
                | with_reducible refine W.exit ?_
                | with_reducible refine W.exit_code ?_
                | with_reducible refine W.exit_here ?_
                | with_reducible refine W.leave_exit ?_
                | with_reducible refine W.leave_ret ?_
                | ((with_reducible refine W.exit_on ?h ?_); (case h => decide))
                | ((with_reducible apply W.reg); (case h => simp [T3, b1, a2, b2, a3, a4, h1, h2, hx, hy, h1_, h2_, h3_, h4_]; exact ⟨rfl, rfl, rfl⟩))
                | ((with_reducible apply W.draw mixed); (case hB => kernel_rfl); (case hr => simp [T3, b1, a2, b2, a3, a4, h1, h2, hx, hy, h1_, h2_, h3_, h4_]; rfl))
                | ((with_reducible apply W.cond); (case hc => simp; rfl); all_goals (intro hc_; try (cases hc_; done)))
                | ((with_reducible apply W.runX); (case _hc => rfl); (case h => simp [T3, b1, a2, b2, a3, a4, h1, h2, hx, hy, h1_, h2_, h3_, h4_]; exact ⟨rfl, rfl, rfl⟩)))
              with_reducible apply W.fin
              case h1 => simp <;> rfl
              case h2 => exact Wk.rfl
              case h3 => simp
              case h4 => exact hσ.clB
              exact ⟨by simp [kindF, a1, a2', a3', hx, hy, h1_, h2_, h3_, h4_], by simp⟩
          · repeat' (first
              | with_reducible refine W.seq ?_
              | with_reducible refine W.next ?_
              | with_reducible refine W.nil ?_
              | with_reducible refine W.skip ?_
              | with_reducible refine W.ret ?_
              | with_reducible refine W.ret_code ?_
              | with_reducible refine W.block ?_
              | with_reducible refine W.out ?_
              | with_reducible refine W.ret_blk ?_
              | with_reducible refine W.exit ?_
              | with_reducible refine W.exit_code ?_
              | with_reducible refine W.exit_here ?_
              | with_reducible refine W.leave_exit ?_
              | with_reducible refine W.leave_ret ?_
              | ((with_reducible refine W.exit_on ?h ?_); (case h => decide))
              | ((with_reducible apply W.reg); (case h => simp [T3, b1, a2, b2, a3, a4, h1, h2, hx, hy, h1_, h2_, h3_]; exact ⟨rfl, rfl, rfl⟩))
              | ((with_reducible apply W.draw mixed); (case hB => kernel_rfl); (case hr => simp [T3, b1, a2, b2, a3, a4, h1, h2, hx, hy, h1_, h2_, h3_]; rfl))
              | ((with_reducible apply W.cond); (case hc => simp; rfl); all_goals (intro hc_; try (cases hc_; done)))
              | ((with_reducible apply W.runX); (case _hc => rfl); (case h => simp [T3, b1, a2, b2, a3, a4, h1, h2, hx, hy, h1_, h2_, h3_]; exact ⟨rfl, rfl, rfl⟩)))
            with_reducible apply W.fin
            case h1 => simp <;> rfl
            case h2 => exact Wk.rfl
            case h3 => simp
            case h4 => exact hσ.clB
            exact ⟨by simp [kindF, a1, a2', a3', hx, hy, h1_, h2_, h3_], by simp⟩
        · repeat' (first
            | with_reducible refine W.seq ?_
            | with_reducible refine W.next ?_
            | with_reducible refine W.nil ?_
            | with_reducible refine W.skip ?_
            | with_reducible refine W.ret ?_
            | with_reducible refine W.ret_code ?_
            | with_reducible refine W.block ?_
            | with_reducible refine W.out ?_
            | with_reducible refine W.ret_blk ?_
            | with_reducible refine W.exit ?_
            | with_reducible refine W.exit_code ?_
            | with_reducible refine W.exit_here ?_
            | with_reducible refine W.leave_exit ?_
            | with_reducible refine W.leave_ret ?_
            | ((with_reducible refine W.exit_on ?h ?_); (case h => decide))
            | ((with_reducible apply W.reg); (case h => simp [T3, b1, a2, b2, a3, a4, h1, h2, hx, hy, h1_, h2_]; exact ⟨rfl, rfl, rfl⟩))
            | ((with_reducible apply W.draw mixed); (case hB => kernel_rfl); (case hr => simp [T3, b1, a2, b2, a3, a4, h1, h2, hx, hy, h1_, h2_]; rfl))
            | ((with_reducible apply W.cond); (case hc => simp; rfl); all_goals (intro hc_; try (cases hc_; done)))
            | ((with_reducible apply W.runX); (case _hc => rfl); (case h => simp [T3, b1, a2, b2, a3, a4, h1, h2, hx, hy, h1_, h2_]; exact ⟨rfl, rfl, rfl⟩)))
          with_reducible apply W.fin
          case h1 => simp <;> rfl
          case h2 => exact Wk.rfl
          case h3 => simp
          case h4 => exact hσ.clB
          exact ⟨by simp [kindF, a1, a2', a3', hx, hy, h1_, h2_], by simp⟩
      · repeat' (first
          | with_reducible refine W.seq ?_
          | with_reducible refine W.next ?_
          | with_reducible refine W.nil ?_
          | with_reducible refine W.skip ?_
          | with_reducible refine W.ret ?_
          | with_reducible refine W.ret_code ?_
          | with_reducible refine W.block ?_
          | with_reducible refine W.out ?_
          | with_reducible refine W.ret_blk ?_
          | with_reducible refine W.exit ?_
          | with_reducible refine W.exit_code ?_
          | with_reducible refine W.exit_here ?_
          | with_reducible refine W.leave_exit ?_
          | with_reducible refine W.leave_ret ?_
          | ((with_reducible refine W.exit_on ?h ?_); (case h => decide))
          | ((with_reducible apply W.reg); (case h => simp [T3, b1, a2, b2, a3, a4, h1, h2, hx, hy, h1_]; exact ⟨rfl, rfl, rfl⟩))
          | ((with_reducible apply W.draw mixed); (case hB => kernel_rfl); (case hr => simp [T3, b1, a2, b2, a3, a4, h1, h2, hx, hy, h1_]; rfl))
          | ((with_reducible apply W.cond); (case hc => simp; rfl); all_goals (intro hc_; try (cases hc_; done)))
          | ((with_reducible apply W.runX); (case _hc => rfl); (case h => simp [T3, b1, a2, b2, a3, a4, h1, h2, hx, hy, h1_]; exact ⟨rfl, rfl, rfl⟩)))
        with_reducible apply W.fin
        case h1 => simp <;> rfl
        case h2 => exact Wk.rfl
        case h3 => simp
        case h4 => exact hσ.clB
        exact ⟨by simp [kindF, a1, a2', a3', hx, hy, h1_], by simp⟩
    · obtain rfl : c = 20000 := by omega
      repeat' (first
        | with_reducible refine W.seq ?_
        | with_reducible refine W.next ?_
        | with_reducible refine W.nil ?_
        | with_reducible refine W.skip ?_
        | with_reducible refine W.ret ?_
        | with_reducible refine W.ret_code ?_
        | with_reducible refine W.block ?_
        | with_reducible refine W.out ?_
        | with_reducible refine W.ret_blk ?_
        | with_reducible refine W.exit ?_
        | with_reducible refine W.exit_code ?_
        | with_reducible refine W.exit_here ?_
        | with_reducible refine W.leave_exit ?_
        | with_reducible refine W.leave_ret ?_
        | ((with_reducible refine W.exit_on ?h ?_); (case h => decide))
        | ((with_reducible apply W.reg); (case h => simp [T3, h1, h2]; exact ⟨rfl, rfl, rfl⟩))
        | ((with_reducible apply W.draw mixed); (case hB => kernel_rfl); (case hr => simp [T3, h1, h2]; rfl))
        | ((with_reducible apply W.cond); (case hc => simp; rfl); all_goals (intro hc_; try (cases hc_; done)))
        | ((with_reducible apply W.runX); (case _hc => rfl); (case h => simp [T3, h1, h2]; exact ⟨rfl, rfl, rfl⟩)))
      with_reducible apply W.fin
      case h1 => simp <;> rfl
      case h2 => exact Wk.rfl
      case h3 => simp
      case h4 => exact hσ.clB
      exact ⟨rfl, by simp⟩
  · have a1 : c < 1 := by omega
    have b2 : ¬ 10000 ≤ c := by omega
    have b4 : ¬ 20000 < c := by omega
    repeat' (first
      | with_reducible refine W.seq ?_
      | with_reducible refine W.next ?_
      | with_reducible refine W.nil ?_
      | with_reducible refine W.skip ?_
      | with_reducible refine W.ret ?_
      | with_reducible refine W.ret_code ?_
      | with_reducible refine W.block ?_
      | with_reducible refine W.out ?_
      | with_reducible refine W.ret_blk ?_
      | with_reducible refine W.exit ?_
      | with_reducible refine W.exit_code ?_
      | with_reducible refine W.exit_here ?_
      | with_reducible refine W.leave_exit ?_
      | with_reducible refine W.leave_ret ?_
      | ((with_reducible refine W.exit_on ?h ?_); (case h => decide))
      | ((with_reducible apply W.reg); (case h => simp [T3, b1, b2, b4]; exact ⟨rfl, rfl, rfl⟩))
      | ((with_reducible apply W.draw mixed); (case hB => kernel_rfl); (case hr => simp [T3, b1, b2, b4]; rfl))
      | ((with_reducible apply W.cond); (case hc => simp; rfl); all_goals (intro hc_; try (cases hc_; done)))
      | ((with_reducible apply W.runX); (case _hc => rfl); (case h => simp [T3, b1, b2, b4]; exact ⟨rfl, rfl, rfl⟩)))
    with_reducible apply W.fin
    case h1 => simp <;> rfl
    case h2 => exact Wk.rfl
    case h3 => simp
    case h4 => exact hσ.clB
    exact ⟨by simp [kindF, a1], by simp⟩


end Go.Proofs.YtgabnlkkjmepnaaDoor

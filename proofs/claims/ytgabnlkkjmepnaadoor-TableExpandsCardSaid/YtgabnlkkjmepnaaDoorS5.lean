/- Valid entries, encoding and decoding: what the program's functions and the reference's give. -/
import Derived.Test.YtgabnlkkjmepnaaDoorS4
import Derived.IntWalk
namespace Go.Proofs.YtgabnlkkjmepnaaDoor
open Go.Sw
set_option linter.unusedSimpArgs false
set_option linter.unusedVariables false
attribute [local simp] runOps stepOp pureOp gd isCall inN setd Sw.get params ev evs binV unV convV loadA cellsPV oneB storeA fieldAddrA fieldOff fieldA partA aggOf extractA indexAddrA indexA lenA minmaxA sliceA bnd partsA buildA placesA fillA buildSliceA zerosA chunkA TyD.agg Value.oneCell' Value.cells runPure appA appendA okRow_nil okRow_cons okRow_append resultA ressA resA List.getElem?_append List.set_append Cl_any Cl_val Cl_ptr Cl_agg Cl_tup Cl_fn Cl_rop Cl_sl Sw.take_set Sw.take_set_app Sw.take_app

attribute [local simp] encI encE
theorem wrapU {n : Int} (h : 0 ≤ n ∧ n ≤ 18446744073709551615) : IntKind.u64.wrap n = n := by
  have : IntKind.u64.wrap n = n % 2 ^ 64 := by simp [IntKind.wrap, IntKind.signed, IntKind.bits] <;> omega
  rw [this]; omega

/-- 2 to the power of a width. -/
def pw (w : Int) : Int := 2 ^ w.toNat
theorem pw_bnd {w : Int} (h : 2 ≤ w ∧ w ≤ 24) : 4 ≤ pw w ∧ pw w ≤ 16777216 := by
  have : w = 2 ∨ w = 3 ∨ w = 4 ∨ w = 5 ∨ w = 6 ∨ w = 7 ∨ w = 8 ∨ w = 9 ∨ w = 10 ∨ w = 11 ∨ w = 12 ∨ w = 13 ∨ w = 14 ∨ w = 15 ∨ w = 16 ∨ w = 17 ∨ w = 18 ∨ w = 19 ∨ w = 20 ∨ w = 21 ∨ w = 22 ∨ w = 23 ∨ w = 24 := by omega
  rcases this with rfl | rfl | rfl | rfl | rfl | rfl | rfl | rfl | rfl | rfl | rfl | rfl | rfl | rfl | rfl | rfl | rfl | rfl | rfl | rfl | rfl | rfl | rfl <;> decide
theorem pw_wrap {w : Int} (h : 2 ≤ w ∧ w ≤ 24) : IntKind.i64.wrap (2 ^ min w.toNat IntKind.i64.bits) = pw w := by
  have hb : IntKind.i64.bits = 64 := rfl
  have h1 : min w.toNat IntKind.i64.bits = w.toNat := by omega
  have h2 := pw_bnd h
  rw [h1]
  exact wrap64 ⟨by unfold pw at h2; omega, by unfold pw at h2; omega⟩

theorem exists_sc (c : Int) (σ : AS) (hc : I64 c) : SC1 Cc 45 [i64 c] σ (bV (isEl c)) σ := by
  refine W.body Tryd.func45 rfl 12 Tryd.ntmps45 _ Tryd.results45 (by simp) GEt_cl fun hσ => ?_
  repeat' (first
    | with_reducible refine W.seq ?_
    | with_reducible refine W.next ?_
    | with_reducible refine W.nil ?_
    | with_reducible refine W.skip ?_
    | with_reducible refine W.ret ?_
    | with_reducible refine W.ret_code ?_
    | with_reducible refine W.block ?_
    | with_reducible refine W.out ?_
    | with_reducible refine W.ret_blk ?_
    | with_reducible refine W.exit ?_
    | with_reducible refine W.exit_code ?_
    | with_reducible refine W.exit_here ?_
    | with_reducible refine W.leave_exit ?_
    | with_reducible refine W.leave_ret ?_
    | ((with_reducible refine W.exit_on ?h ?_); (case h => decide))
    | ((with_reducible apply W.reg); (case h => simp [T3, T4, T62, T35]; exact ⟨rfl, rfl, rfl⟩))
    | ((with_reducible apply W.draw mixed); (case hB => kernel_rfl); (case hr => simp [T3, T4, T62, T35]; rfl))
    | ((with_reducible apply W.cond); (case hc => simp; rfl); all_goals (intro hc_; try (cases hc_; done)))
    | ((with_reducible apply W.runX); (case _hc => rfl); (case h => simp [T3, T4, T62, T35]; exact ⟨rfl, rfl, rfl⟩))
    | ((with_reducible apply W.callR go59); (case ho => rfl); (case hc => rfl); (case hf => rfl); (case hg => first | rfl | simp [T3, T4, T62, T35]); (case hd => rfl); (case ha => simp [T3, T4, T62, T35]; rfl); (case hargs => rfl); (case hs => exact Describe_sc _ _ hc); rintro _ _ ⟨s, h, d, l, e, rfl, he, _, rfl⟩)
    | fail)
  cases hb : isEl c
  · simp [hb] at he
    subst he
    repeat' (first
      | with_reducible refine W.seq ?_
      | with_reducible refine W.next ?_
      | with_reducible refine W.nil ?_
      | with_reducible refine W.skip ?_
      | with_reducible refine W.ret ?_
      | with_reducible refine W.ret_code ?_
      | with_reducible refine W.block ?_
      | with_reducible refine W.out ?_
      | with_reducible refine W.ret_blk ?_
      | with_reducible refine W.exit ?_
      | with_reducible refine W.exit_code ?_
      | with_reducible refine W.exit_here ?_
      | with_reducible refine W.leave_exit ?_
      | with_reducible refine W.leave_ret ?_
      | ((with_reducible refine W.exit_on ?h ?_); (case h => decide))
      | ((with_reducible apply W.reg); (case h => simp [T3, T4, T62, T35]; exact ⟨rfl, rfl, rfl⟩))
      | ((with_reducible apply W.draw mixed); (case hB => kernel_rfl); (case hr => simp [T3, T4, T62, T35]; rfl))
      | ((with_reducible apply W.cond); (case hc => simp; rfl); all_goals (intro hc_; try (cases hc_; done)))
      | ((with_reducible apply W.runX); (case _hc => rfl); (case h => simp [T3, T4, T62, T35]; exact ⟨rfl, rfl, rfl⟩))
      | ((with_reducible apply W.callR go59); (case ho => rfl); (case hc => rfl); (case hf => rfl); (case hg => first | rfl | simp [T3, T4, T62, T35]); (case hd => rfl); (case ha => simp [T3, T4, T62, T35]; rfl); (case hargs => rfl); (case hs => exact Describe_sc _ _ hc); rintro _ _ ⟨s, h, d, l, e, rfl, he, _, rfl⟩)
      | fail)
    with_reducible apply W.fin
    case h1 => simp <;> rfl
    case h2 => exact Wk.rfl
    case h3 => simp
    case h4 => exact hσ.clB.app (Nat.le_refl _)
    exact ⟨by simp, by simp⟩
  · simp [hb] at he
    subst he
    repeat' (first
      | with_reducible refine W.seq ?_
      | with_reducible refine W.next ?_
      | with_reducible refine W.nil ?_
      | with_reducible refine W.skip ?_
      | with_reducible refine W.ret ?_
      | with_reducible refine W.ret_code ?_
      | with_reducible refine W.block ?_
      | with_reducible refine W.out ?_
      | with_reducible refine W.ret_blk ?_
      | with_reducible refine W.exit ?_
      | with_reducible refine W.exit_code ?_
      | with_reducible refine W.exit_here ?_
      | with_reducible refine W.leave_exit ?_
      | with_reducible refine W.leave_ret ?_
      | ((with_reducible refine W.exit_on ?h ?_); (case h => decide))
      | ((with_reducible apply W.reg); (case h => simp [T3, T4, T62, T35]; exact ⟨rfl, rfl, rfl⟩))
      | ((with_reducible apply W.draw mixed); (case hB => kernel_rfl); (case hr => simp [T3, T4, T62, T35]; rfl))
      | ((with_reducible apply W.cond); (case hc => simp; rfl); all_goals (intro hc_; try (cases hc_; done)))
      | ((with_reducible apply W.runX); (case _hc => rfl); (case h => simp [T3, T4, T62, T35]; exact ⟨rfl, rfl, rfl⟩))
      | ((with_reducible apply W.callR go59); (case ho => rfl); (case hc => rfl); (case hf => rfl); (case hg => first | rfl | simp [T3, T4, T62, T35]); (case hd => rfl); (case ha => simp [T3, T4, T62, T35]; rfl); (case hargs => rfl); (case hs => exact Describe_sc _ _ hc); rintro _ _ ⟨s, h, d, l, e, rfl, he, _, rfl⟩)
      | fail)
    with_reducible apply W.fin
    case h1 => simp <;> rfl
    case h2 => exact Wk.rfl
    case h3 => simp
    case h4 => exact hσ.clB.app (Nat.le_refl _)
    exact ⟨by simp, by simp⟩

/-- Is an entry one of those that a table may have? -/
def validB (e : Ent) : Bool := decide (kindF e.code = 1) && isEl e.element && decide (2 ≤ e.width) && decide (e.width ≤ 24) && decide (1 ≤ e.scale) && decide (e.scale ≤ 1000) && decide (-100000 ≤ e.least) && decide (e.least ≤ 100000)
/-- The same without the element. -/
def validR (e : Ent) : Bool := decide (kindF e.code = 1) && decide (2 ≤ e.width) && decide (e.width ≤ 24) && decide (1 ≤ e.scale) && decide (e.scale ≤ 1000) && decide (-100000 ≤ e.least) && decide (e.least ≤ 100000)
theorem validB_eq (e : Ent) : validB e = (isEl e.element && validR e) := by
  unfold validB validR
  cases isEl e.element <;> simp

theorem valid_sc (e : Ent) (σ : AS) (he : EntOK e) : SC1 Cc 34 [.agg (encE e)] σ (bV (validB e)) σ := by
  refine W.body Tryd.func34 rfl 42 Tryd.ntmps34 _ Tryd.results34 (by simp) GEt_cl fun hσ => ?_
  obtain ⟨kc, hk⟩ : ∃ kc, kindF e.code = kc := ⟨_, rfl⟩
  have hof : ∀ σ, SC1 Cc 55 [i64 e.code] σ (i64 kc) σ := fun σ => hk ▸ of_sc e.code σ he.code
  cases hb_ : (kc == 1)
  · have h1 : ¬ kc = 1 := by simpa using hb_
    repeat' (first
      | with_reducible refine W.seq ?_
      | with_reducible refine W.next ?_
      | with_reducible refine W.nil ?_
      | with_reducible refine W.skip ?_
      | with_reducible refine W.ret ?_
      | with_reducible refine W.ret_code ?_
      | with_reducible refine W.block ?_
      | with_reducible refine W.out ?_
      | with_reducible refine W.ret_blk ?_
      | with_reducible refine W.exit ?_
      | with_reducible refine W.exit_code ?_
      | with_reducible refine W.exit_here ?_
      | with_reducible refine W.leave_exit ?_
      | with_reducible refine W.leave_ret ?_
      | ((with_reducible refine W.exit_on ?h ?_); (case h => decide))
      | ((with_reducible apply W.reg); (case h => simp [T3, T4, T23, T86, hb_]; exact ⟨rfl, rfl, rfl⟩))
      | ((with_reducible apply W.draw mixed); (case hB => kernel_rfl); (case hr => simp [T3, T4, T23, T86, hb_]; rfl))
      | ((with_reducible apply W.cond); (case hc => simp; rfl); all_goals (intro hc_; try (cases hc_; done)))
      | ((with_reducible apply W.runX); (case _hc => rfl); (case h => simp [T3, T4, T23, T86, hb_]; exact ⟨rfl, rfl, rfl⟩))
      | ((with_reducible apply W.call1 go55); (case ho => rfl); (case hc => rfl); (case hf => rfl); (case hg => first | rfl | simp [T3, T4, T23, T86, hb_]); (case hd => rfl); (case ha => simp [T3, T4, T23, T86, hb_]; rfl); (case hargs => rfl); (case hs => exact hof _))
      | ((with_reducible apply W.call1 go45); (case ho => rfl); (case hc => rfl); (case hf => rfl); (case hg => first | rfl | simp [T3, T4, T23, T86, hb_]); (case hd => rfl); (case ha => simp [T3, T4, T23, T86, hb_]; rfl); (case hargs => rfl); (case hs => exact exists_sc _ _ he.element))
      | fail)
    with_reducible apply W.fin
    case h1 => simp <;> rfl
    case h2 => exact Wk.rfl
    case h3 => simp
    case h4 => exact hσ.clB.app (Nat.le_refl _)
    exact ⟨by simp [validB, hk, h1], by simp⟩
  have h1 : kindF e.code = 1 := by simpa [hk] using hb_
  by_cases h1_ : isEl e.element = true
  · by_cases h2_ : 2 ≤ e.width
    · by_cases h3_ : e.width ≤ 24
      · by_cases h4_ : 1 ≤ e.scale
        · by_cases h5_ : e.scale ≤ 1000
          · by_cases h6_ : -100000 ≤ e.least
            · by_cases h7_ : e.least ≤ 100000
              · repeat' (first
                  | with_reducible refine W.seq ?_
                  | with_reducible refine W.next ?_
                  | with_reducible refine W.nil ?_
                  | with_reducible refine W.skip ?_
                  | with_reducible refine W.ret ?_
                  | with_reducible refine W.ret_code ?_
                  | with_reducible refine W.block ?_
                  | with_reducible refine W.out ?_
                  | with_reducible refine W.ret_blk ?_
                  | with_reducible refine W.exit ?_
                  | with_reducible refine W.exit_code ?_
                  | with_reducible refine W.exit_here ?_
                  | with_reducible refine W.leave_exit ?_
                  | with_reducible refine W.leave_ret ?_
                  | ((with_reducible refine W.exit_on ?h ?_); (case h => decide))
                  | ((with_reducible apply W.reg); (case h => simp [T3, T4, T23, T86, hb_, h1_, h2_, h3_, h4_, h5_, h6_, h7_]; exact ⟨rfl, rfl, rfl⟩))
                  | ((with_reducible apply W.draw mixed); (case hB => kernel_rfl); (case hr => simp [T3, T4, T23, T86, hb_, h1_, h2_, h3_, h4_, h5_, h6_, h7_]; rfl))
                  | ((with_reducible apply W.cond); (case hc => simp; rfl); all_goals (intro hc_; try (cases hc_; done)))
                  | ((with_reducible apply W.runX); (case _hc => rfl); (case h => simp [T3, T4, T23, T86, hb_, h1_, h2_, h3_, h4_, h5_, h6_, h7_]; exact ⟨rfl, rfl, rfl⟩))
                  | ((with_reducible apply W.call1 go55); (case ho => rfl); (case hc => rfl); (case hf => rfl); (case hg => first | rfl | simp [T3, T4, T23, T86, hb_, h1_, h2_, h3_, h4_, h5_, h6_, h7_]); (case hd => rfl); (case ha => simp [T3, T4, T23, T86, hb_, h1_, h2_, h3_, h4_, h5_, h6_, h7_]; rfl); (case hargs => rfl); (case hs => exact hof _))
                  | ((with_reducible apply W.call1 go45); (case ho => rfl); (case hc => rfl); (case hf => rfl); (case hg => first | rfl | simp [T3, T4, T23, T86, hb_, h1_, h2_, h3_, h4_, h5_, h6_, h7_]); (case hd => rfl); (case ha => simp [T3, T4, T23, T86, hb_, h1_, h2_, h3_, h4_, h5_, h6_, h7_]; rfl); (case hargs => rfl); (case hs => exact exists_sc _ _ he.element))
                  | fail)
                with_reducible apply W.fin
                case h1 => simp <;> rfl
                case h2 => exact Wk.rfl
                case h3 => simp
                case h4 => exact hσ.clB.app (Nat.le_refl _)
                exact ⟨by simp [validB, h1, h1_, h2_, h3_, h4_, h5_, h6_, h7_], by simp⟩
              · repeat' (first
                  | with_reducible refine W.seq ?_
                  | with_reducible refine W.next ?_
                  | with_reducible refine W.nil ?_
                  | with_reducible refine W.skip ?_
                  | with_reducible refine W.ret ?_
                  | with_reducible refine W.ret_code ?_
                  | with_reducible refine W.block ?_
                  | with_reducible refine W.out ?_
                  | with_reducible refine W.ret_blk ?_
                  | with_reducible refine W.exit ?_
                  | with_reducible refine W.exit_code ?_
                  | with_reducible refine W.exit_here ?_
                  | with_reducible refine W.leave_exit ?_
                  | with_reducible refine W.leave_ret ?_
                  | ((with_reducible refine W.exit_on ?h ?_); (case h => decide))
                  | ((with_reducible apply W.reg); (case h => simp [T3, T4, T23, T86, hb_, h1_, h2_, h3_, h4_, h5_, h6_, h7_]; exact ⟨rfl, rfl, rfl⟩))
                  | ((with_reducible apply W.draw mixed); (case hB => kernel_rfl); (case hr => simp [T3, T4, T23, T86, hb_, h1_, h2_, h3_, h4_, h5_, h6_, h7_]; rfl))
                  | ((with_reducible apply W.cond); (case hc => simp; rfl); all_goals (intro hc_; try (cases hc_; done)))
                  | ((with_reducible apply W.runX); (case _hc => rfl); (case h => simp [T3, T4, T23, T86, hb_, h1_, h2_, h3_, h4_, h5_, h6_, h7_]; exact ⟨rfl, rfl, rfl⟩))
                  | ((with_reducible apply W.call1 go55); (case ho => rfl); (case hc => rfl); (case hf => rfl); (case hg => first | rfl | simp [T3, T4, T23, T86, hb_, h1_, h2_, h3_, h4_, h5_, h6_, h7_]); (case hd => rfl); (case ha => simp [T3, T4, T23, T86, hb_, h1_, h2_, h3_, h4_, h5_, h6_, h7_]; rfl); (case hargs => rfl); (case hs => exact hof _))
                  | ((with_reducible apply W.call1 go45); (case ho => rfl); (case hc => rfl); (case hf => rfl); (case hg => first | rfl | simp [T3, T4, T23, T86, hb_, h1_, h2_, h3_, h4_, h5_, h6_, h7_]); (case hd => rfl); (case ha => simp [T3, T4, T23, T86, hb_, h1_, h2_, h3_, h4_, h5_, h6_, h7_]; rfl); (case hargs => rfl); (case hs => exact exists_sc _ _ he.element))
                  | fail)
                with_reducible apply W.fin
                case h1 => simp <;> rfl
                case h2 => exact Wk.rfl
                case h3 => simp
                case h4 => exact hσ.clB.app (Nat.le_refl _)
                exact ⟨by simp [validB, h1, h1_, h2_, h3_, h4_, h5_, h6_, h7_], by simp⟩
            · repeat' (first
                | with_reducible refine W.seq ?_
                | with_reducible refine W.next ?_
                | with_reducible refine W.nil ?_
                | with_reducible refine W.skip ?_
                | with_reducible refine W.ret ?_
                | with_reducible refine W.ret_code ?_
                | with_reducible refine W.block ?_
                | with_reducible refine W.out ?_
                | with_reducible refine W.ret_blk ?_
                | with_reducible refine W.exit ?_
                | with_reducible refine W.exit_code ?_
                | with_reducible refine W.exit_here ?_
                | with_reducible refine W.leave_exit ?_
                | with_reducible refine W.leave_ret ?_
                | ((with_reducible refine W.exit_on ?h ?_); (case h => decide))
                | ((with_reducible apply W.reg); (case h => simp [T3, T4, T23, T86, hb_, h1_, h2_, h3_, h4_, h5_, h6_]; exact ⟨rfl, rfl, rfl⟩))
                | ((with_reducible apply W.draw mixed); (case hB => kernel_rfl); (case hr => simp [T3, T4, T23, T86, hb_, h1_, h2_, h3_, h4_, h5_, h6_]; rfl))
                | ((with_reducible apply W.cond); (case hc => simp; rfl); all_goals (intro hc_; try (cases hc_; done)))
                | ((with_reducible apply W.runX); (case _hc => rfl); (case h => simp [T3, T4, T23, T86, hb_, h1_, h2_, h3_, h4_, h5_, h6_]; exact ⟨rfl, rfl, rfl⟩))
                | ((with_reducible apply W.call1 go55); (case ho => rfl); (case hc => rfl); (case hf => rfl); (case hg => first | rfl | simp [T3, T4, T23, T86, hb_, h1_, h2_, h3_, h4_, h5_, h6_]); (case hd => rfl); (case ha => simp [T3, T4, T23, T86, hb_, h1_, h2_, h3_, h4_, h5_, h6_]; rfl); (case hargs => rfl); (case hs => exact hof _))
                | ((with_reducible apply W.call1 go45); (case ho => rfl); (case hc => rfl); (case hf => rfl); (case hg => first | rfl | simp [T3, T4, T23, T86, hb_, h1_, h2_, h3_, h4_, h5_, h6_]); (case hd => rfl); (case ha => simp [T3, T4, T23, T86, hb_, h1_, h2_, h3_, h4_, h5_, h6_]; rfl); (case hargs => rfl); (case hs => exact exists_sc _ _ he.element))
                | fail)
              with_reducible apply W.fin
              case h1 => simp <;> rfl
              case h2 => exact Wk.rfl
              case h3 => simp
              case h4 => exact hσ.clB.app (Nat.le_refl _)
              exact ⟨by simp [validB, h1, h1_, h2_, h3_, h4_, h5_, h6_], by simp⟩
          · repeat' (first
              | with_reducible refine W.seq ?_
              | with_reducible refine W.next ?_
              | with_reducible refine W.nil ?_
              | with_reducible refine W.skip ?_
              | with_reducible refine W.ret ?_
              | with_reducible refine W.ret_code ?_
              | with_reducible refine W.block ?_
              | with_reducible refine W.out ?_
              | with_reducible refine W.ret_blk ?_
              | with_reducible refine W.exit ?_
              | with_reducible refine W.exit_code ?_
              | with_reducible refine W.exit_here ?_
              | with_reducible refine W.leave_exit ?_
              | with_reducible refine W.leave_ret ?_
              | ((with_reducible refine W.exit_on ?h ?_); (case h => decide))
              | ((with_reducible apply W.reg); (case h => simp [T3, T4, T23, T86, hb_, h1_, h2_, h3_, h4_, h5_]; exact ⟨rfl, rfl, rfl⟩))
              | ((with_reducible apply W.draw mixed); (case hB => kernel_rfl); (case hr => simp [T3, T4, T23, T86, hb_, h1_, h2_, h3_, h4_, h5_]; rfl))
              | ((with_reducible apply W.cond); (case hc => simp; rfl); all_goals (intro hc_; try (cases hc_; done)))
              | ((with_reducible apply W.runX); (case _hc => rfl); (case h => simp [T3, T4, T23, T86, hb_, h1_, h2_, h3_, h4_, h5_]; exact ⟨rfl, rfl, rfl⟩))
              | ((with_reducible apply W.call1 go55); (case ho => rfl); (case hc => rfl); (case hf => rfl); (case hg => first | rfl | simp [T3, T4, T23, T86, hb_, h1_, h2_, h3_, h4_, h5_]); (case hd => rfl); (case ha => simp [T3, T4, T23, T86, hb_, h1_, h2_, h3_, h4_, h5_]; rfl); (case hargs => rfl); (case hs => exact hof _))
              | ((with_reducible apply W.call1 go45); (case ho => rfl); (case hc => rfl); (case hf => rfl); (case hg => first | rfl | simp [T3, T4, T23, T86, hb_, h1_, h2_, h3_, h4_, h5_]); (case hd => rfl); (case ha => simp [T3, T4, T23, T86, hb_, h1_, h2_, h3_, h4_, h5_]; rfl); (case hargs => rfl); (case hs => exact exists_sc _ _ he.element))
              | fail)
            with_reducible apply W.fin
            case h1 => simp <;> rfl
            case h2 => exact Wk.rfl
            case h3 => simp
            case h4 => exact hσ.clB.app (Nat.le_refl _)
            exact ⟨by simp [validB, h1, h1_, h2_, h3_, h4_, h5_], by simp⟩
        · repeat' (first
            | with_reducible refine W.seq ?_
            | with_reducible refine W.next ?_
            | with_reducible refine W.nil ?_
            | with_reducible refine W.skip ?_
            | with_reducible refine W.ret ?_
            | with_reducible refine W.ret_code ?_
            | with_reducible refine W.block ?_
            | with_reducible refine W.out ?_
            | with_reducible refine W.ret_blk ?_
            | with_reducible refine W.exit ?_
            | with_reducible refine W.exit_code ?_
            | with_reducible refine W.exit_here ?_
            | with_reducible refine W.leave_exit ?_
            | with_reducible refine W.leave_ret ?_
            | ((with_reducible refine W.exit_on ?h ?_); (case h => decide))
            | ((with_reducible apply W.reg); (case h => simp [T3, T4, T23, T86, hb_, h1_, h2_, h3_, h4_]; exact ⟨rfl, rfl, rfl⟩))
            | ((with_reducible apply W.draw mixed); (case hB => kernel_rfl); (case hr => simp [T3, T4, T23, T86, hb_, h1_, h2_, h3_, h4_]; rfl))
            | ((with_reducible apply W.cond); (case hc => simp; rfl); all_goals (intro hc_; try (cases hc_; done)))
            | ((with_reducible apply W.runX); (case _hc => rfl); (case h => simp [T3, T4, T23, T86, hb_, h1_, h2_, h3_, h4_]; exact ⟨rfl, rfl, rfl⟩))
            | ((with_reducible apply W.call1 go55); (case ho => rfl); (case hc => rfl); (case hf => rfl); (case hg => first | rfl | simp [T3, T4, T23, T86, hb_, h1_, h2_, h3_, h4_]); (case hd => rfl); (case ha => simp [T3, T4, T23, T86, hb_, h1_, h2_, h3_, h4_]; rfl); (case hargs => rfl); (case hs => exact hof _))
            | ((with_reducible apply W.call1 go45); (case ho => rfl); (case hc => rfl); (case hf => rfl); (case hg => first | rfl | simp [T3, T4, T23, T86, hb_, h1_, h2_, h3_, h4_]); (case hd => rfl); (case ha => simp [T3, T4, T23, T86, hb_, h1_, h2_, h3_, h4_]; rfl); (case hargs => rfl); (case hs => exact exists_sc _ _ he.element))
            | fail)
          with_reducible apply W.fin
          case h1 => simp <;> rfl
          case h2 => exact Wk.rfl
          case h3 => simp
          case h4 => exact hσ.clB.app (Nat.le_refl _)
          exact ⟨by simp [validB, h1, h1_, h2_, h3_, h4_], by simp⟩
      · repeat' (first
          | with_reducible refine W.seq ?_
          | with_reducible refine W.next ?_
          | with_reducible refine W.nil ?_
          | with_reducible refine W.skip ?_
          | with_reducible refine W.ret ?_
          | with_reducible refine W.ret_code ?_
          | with_reducible refine W.block ?_
          | with_reducible refine W.out ?_
          | with_reducible refine W.ret_blk ?_
          | with_reducible refine W.exit ?_
          | with_reducible refine W.exit_code ?_
          | with_reducible refine W.exit_here ?_
          | with_reducible refine W.leave_exit ?_
          | with_reducible refine W.leave_ret ?_
          | ((with_reducible refine W.exit_on ?h ?_); (case h => decide))
          | ((with_reducible apply W.reg); (case h => simp [T3, T4, T23, T86, hb_, h1_, h2_, h3_]; exact ⟨rfl, rfl, rfl⟩))
          | ((with_reducible apply W.draw mixed); (case hB => kernel_rfl); (case hr => simp [T3, T4, T23, T86, hb_, h1_, h2_, h3_]; rfl))
          | ((with_reducible apply W.cond); (case hc => simp; rfl); all_goals (intro hc_; try (cases hc_; done)))
          | ((with_reducible apply W.runX); (case _hc => rfl); (case h => simp [T3, T4, T23, T86, hb_, h1_, h2_, h3_]; exact ⟨rfl, rfl, rfl⟩))
          | ((with_reducible apply W.call1 go55); (case ho => rfl); (case hc => rfl); (case hf => rfl); (case hg => first | rfl | simp [T3, T4, T23, T86, hb_, h1_, h2_, h3_]); (case hd => rfl); (case ha => simp [T3, T4, T23, T86, hb_, h1_, h2_, h3_]; rfl); (case hargs => rfl); (case hs => exact hof _))
          | ((with_reducible apply W.call1 go45); (case ho => rfl); (case hc => rfl); (case hf => rfl); (case hg => first | rfl | simp [T3, T4, T23, T86, hb_, h1_, h2_, h3_]); (case hd => rfl); (case ha => simp [T3, T4, T23, T86, hb_, h1_, h2_, h3_]; rfl); (case hargs => rfl); (case hs => exact exists_sc _ _ he.element))
          | fail)
        with_reducible apply W.fin
        case h1 => simp <;> rfl
        case h2 => exact Wk.rfl
        case h3 => simp
        case h4 => exact hσ.clB.app (Nat.le_refl _)
        exact ⟨by simp [validB, h1, h1_, h2_, h3_], by simp⟩
    · repeat' (first
        | with_reducible refine W.seq ?_
        | with_reducible refine W.next ?_
        | with_reducible refine W.nil ?_
        | with_reducible refine W.skip ?_
        | with_reducible refine W.ret ?_
        | with_reducible refine W.ret_code ?_
        | with_reducible refine W.block ?_
        | with_reducible refine W.out ?_
        | with_reducible refine W.ret_blk ?_
        | with_reducible refine W.exit ?_
        | with_reducible refine W.exit_code ?_
        | with_reducible refine W.exit_here ?_
        | with_reducible refine W.leave_exit ?_
        | with_reducible refine W.leave_ret ?_
        | ((with_reducible refine W.exit_on ?h ?_); (case h => decide))
        | ((with_reducible apply W.reg); (case h => simp [T3, T4, T23, T86, hb_, h1_, h2_]; exact ⟨rfl, rfl, rfl⟩))
        | ((with_reducible apply W.draw mixed); (case hB => kernel_rfl); (case hr => simp [T3, T4, T23, T86, hb_, h1_, h2_]; rfl))
        | ((with_reducible apply W.cond); (case hc => simp; rfl); all_goals (intro hc_; try (cases hc_; done)))
        | ((with_reducible apply W.runX); (case _hc => rfl); (case h => simp [T3, T4, T23, T86, hb_, h1_, h2_]; exact ⟨rfl, rfl, rfl⟩))
        | ((with_reducible apply W.call1 go55); (case ho => rfl); (case hc => rfl); (case hf => rfl); (case hg => first | rfl | simp [T3, T4, T23, T86, hb_, h1_, h2_]); (case hd => rfl); (case ha => simp [T3, T4, T23, T86, hb_, h1_, h2_]; rfl); (case hargs => rfl); (case hs => exact hof _))
        | ((with_reducible apply W.call1 go45); (case ho => rfl); (case hc => rfl); (case hf => rfl); (case hg => first | rfl | simp [T3, T4, T23, T86, hb_, h1_, h2_]); (case hd => rfl); (case ha => simp [T3, T4, T23, T86, hb_, h1_, h2_]; rfl); (case hargs => rfl); (case hs => exact exists_sc _ _ he.element))
        | fail)
      with_reducible apply W.fin
      case h1 => simp <;> rfl
      case h2 => exact Wk.rfl
      case h3 => simp
      case h4 => exact hσ.clB.app (Nat.le_refl _)
      exact ⟨by simp [validB, h1, h1_, h2_], by simp⟩
  · repeat' (first
      | with_reducible refine W.seq ?_
      | with_reducible refine W.next ?_
      | with_reducible refine W.nil ?_
      | with_reducible refine W.skip ?_
      | with_reducible refine W.ret ?_
      | with_reducible refine W.ret_code ?_
      | with_reducible refine W.block ?_
      | with_reducible refine W.out ?_
      | with_reducible refine W.ret_blk ?_
      | with_reducible refine W.exit ?_
      | with_reducible refine W.exit_code ?_
      | with_reducible refine W.exit_here ?_
      | with_reducible refine W.leave_exit ?_
      | with_reducible refine W.leave_ret ?_
      | ((with_reducible refine W.exit_on ?h ?_); (case h => decide))
      | ((with_reducible apply W.reg); (case h => simp [T3, T4, T23, T86, hb_, h1_]; exact ⟨rfl, rfl, rfl⟩))
      | ((with_reducible apply W.draw mixed); (case hB => kernel_rfl); (case hr => simp [T3, T4, T23, T86, hb_, h1_]; rfl))
      | ((with_reducible apply W.cond); (case hc => simp; rfl); all_goals (intro hc_; try (cases hc_; done)))
      | ((with_reducible apply W.runX); (case _hc => rfl); (case h => simp [T3, T4, T23, T86, hb_, h1_]; exact ⟨rfl, rfl, rfl⟩))
      | ((with_reducible apply W.call1 go55); (case ho => rfl); (case hc => rfl); (case hf => rfl); (case hg => first | rfl | simp [T3, T4, T23, T86, hb_, h1_]); (case hd => rfl); (case ha => simp [T3, T4, T23, T86, hb_, h1_]; rfl); (case hargs => rfl); (case hs => exact hof _))
      | ((with_reducible apply W.call1 go45); (case ho => rfl); (case hc => rfl); (case hf => rfl); (case hg => first | rfl | simp [T3, T4, T23, T86, hb_, h1_]); (case hd => rfl); (case ha => simp [T3, T4, T23, T86, hb_, h1_]; rfl); (case hargs => rfl); (case hs => exact exists_sc _ _ he.element))
      | fail)
    with_reducible apply W.fin
    case h1 => simp <;> rfl
    case h2 => exact Wk.rfl
    case h3 => simp
    case h4 => exact hσ.clB.app (Nat.le_refl _)
    exact ⟨by simp [validB, h1, h1_], by simp⟩

theorem refvalid_sc (e : Ent) (σ : AS) (he : EntOK e) : SC1 Cc 39 [.agg (encE e)] σ (bV (validR e)) σ := by
  refine W.body Tryd.func39 rfl 37 Tryd.ntmps39 _ Tryd.results39 (by simp) GEt_cl fun hσ => ?_
  obtain ⟨kc, hk⟩ : ∃ kc, kindF e.code = kc := ⟨_, rfl⟩
  have hof : ∀ σ, SC1 Cc 40 [i64 e.code] σ (i64 kc) σ := fun σ => hk ▸ kind_sc e.code σ he.code
  cases hb_ : (kc == 1)
  · have h1 : ¬ kc = 1 := by simpa using hb_
    repeat' (first
      | with_reducible refine W.seq ?_
      | with_reducible refine W.next ?_
      | with_reducible refine W.nil ?_
      | with_reducible refine W.skip ?_
      | with_reducible refine W.ret ?_
      | with_reducible refine W.ret_code ?_
      | with_reducible refine W.block ?_
      | with_reducible refine W.out ?_
      | with_reducible refine W.ret_blk ?_
      | with_reducible refine W.exit ?_
      | with_reducible refine W.exit_code ?_
      | with_reducible refine W.exit_here ?_
      | with_reducible refine W.leave_exit ?_
      | with_reducible refine W.leave_ret ?_
      | ((with_reducible refine W.exit_on ?h ?_); (case h => decide))
      | ((with_reducible apply W.reg); (case h => simp [T3, T4, T23, T86, hb_]; exact ⟨rfl, rfl, rfl⟩))
      | ((with_reducible apply W.draw mixed); (case hB => kernel_rfl); (case hr => simp [T3, T4, T23, T86, hb_]; rfl))
      | ((with_reducible apply W.cond); (case hc => simp; rfl); all_goals (intro hc_; try (cases hc_; done)))
      | ((with_reducible apply W.runX); (case _hc => rfl); (case h => simp [T3, T4, T23, T86, hb_]; exact ⟨rfl, rfl, rfl⟩))
      | ((with_reducible apply W.call1 go40); (case ho => rfl); (case hc => rfl); (case hf => rfl); (case hg => first | rfl | simp [T3, T4, T23, T86, hb_]); (case hd => rfl); (case ha => simp [T3, T4, T23, T86, hb_]; rfl); (case hargs => rfl); (case hs => exact hof _))
      | fail)
    with_reducible apply W.fin
    case h1 => simp <;> rfl
    case h2 => exact Wk.rfl
    case h3 => simp
    case h4 => exact hσ.clB.app (Nat.le_refl _)
    exact ⟨by simp [validR, hk, h1], by simp⟩
  have h1 : kindF e.code = 1 := by simpa [hk] using hb_
  by_cases h1_ : 2 ≤ e.width
  · by_cases h2_ : e.width ≤ 24
    · by_cases h3_ : 1 ≤ e.scale
      · by_cases h4_ : e.scale ≤ 1000
        · by_cases h5_ : -100000 ≤ e.least
          · by_cases h6_ : e.least ≤ 100000
            · repeat' (first
                | with_reducible refine W.seq ?_
                | with_reducible refine W.next ?_
                | with_reducible refine W.nil ?_
                | with_reducible refine W.skip ?_
                | with_reducible refine W.ret ?_
                | with_reducible refine W.ret_code ?_
                | with_reducible refine W.block ?_
                | with_reducible refine W.out ?_
                | with_reducible refine W.ret_blk ?_
                | with_reducible refine W.exit ?_
                | with_reducible refine W.exit_code ?_
                | with_reducible refine W.exit_here ?_
                | with_reducible refine W.leave_exit ?_
                | with_reducible refine W.leave_ret ?_
                | ((with_reducible refine W.exit_on ?h ?_); (case h => decide))
                | ((with_reducible apply W.reg); (case h => simp [T3, T4, T23, T86, hb_, h1_, h2_, h3_, h4_, h5_, h6_]; exact ⟨rfl, rfl, rfl⟩))
                | ((with_reducible apply W.draw mixed); (case hB => kernel_rfl); (case hr => simp [T3, T4, T23, T86, hb_, h1_, h2_, h3_, h4_, h5_, h6_]; rfl))
                | ((with_reducible apply W.cond); (case hc => simp; rfl); all_goals (intro hc_; try (cases hc_; done)))
                | ((with_reducible apply W.runX); (case _hc => rfl); (case h => simp [T3, T4, T23, T86, hb_, h1_, h2_, h3_, h4_, h5_, h6_]; exact ⟨rfl, rfl, rfl⟩))
                | ((with_reducible apply W.call1 go40); (case ho => rfl); (case hc => rfl); (case hf => rfl); (case hg => first | rfl | simp [T3, T4, T23, T86, hb_, h1_, h2_, h3_, h4_, h5_, h6_]); (case hd => rfl); (case ha => simp [T3, T4, T23, T86, hb_, h1_, h2_, h3_, h4_, h5_, h6_]; rfl); (case hargs => rfl); (case hs => exact hof _))
                | fail)
              with_reducible apply W.fin
              case h1 => simp <;> rfl
              case h2 => exact Wk.rfl
              case h3 => simp
              case h4 => exact hσ.clB.app (Nat.le_refl _)
              exact ⟨by simp [validR, h1, h1_, h2_, h3_, h4_, h5_, h6_], by simp⟩
            · repeat' (first
                | with_reducible refine W.seq ?_
                | with_reducible refine W.next ?_
                | with_reducible refine W.nil ?_
                | with_reducible refine W.skip ?_
                | with_reducible refine W.ret ?_
                | with_reducible refine W.ret_code ?_
                | with_reducible refine W.block ?_
                | with_reducible refine W.out ?_
                | with_reducible refine W.ret_blk ?_
                | with_reducible refine W.exit ?_
                | with_reducible refine W.exit_code ?_
                | with_reducible refine W.exit_here ?_
                | with_reducible refine W.leave_exit ?_
                | with_reducible refine W.leave_ret ?_
                | ((with_reducible refine W.exit_on ?h ?_); (case h => decide))
                | ((with_reducible apply W.reg); (case h => simp [T3, T4, T23, T86, hb_, h1_, h2_, h3_, h4_, h5_, h6_]; exact ⟨rfl, rfl, rfl⟩))
                | ((with_reducible apply W.draw mixed); (case hB => kernel_rfl); (case hr => simp [T3, T4, T23, T86, hb_, h1_, h2_, h3_, h4_, h5_, h6_]; rfl))
                | ((with_reducible apply W.cond); (case hc => simp; rfl); all_goals (intro hc_; try (cases hc_; done)))
                | ((with_reducible apply W.runX); (case _hc => rfl); (case h => simp [T3, T4, T23, T86, hb_, h1_, h2_, h3_, h4_, h5_, h6_]; exact ⟨rfl, rfl, rfl⟩))
                | ((with_reducible apply W.call1 go40); (case ho => rfl); (case hc => rfl); (case hf => rfl); (case hg => first | rfl | simp [T3, T4, T23, T86, hb_, h1_, h2_, h3_, h4_, h5_, h6_]); (case hd => rfl); (case ha => simp [T3, T4, T23, T86, hb_, h1_, h2_, h3_, h4_, h5_, h6_]; rfl); (case hargs => rfl); (case hs => exact hof _))
                | fail)
              with_reducible apply W.fin
              case h1 => simp <;> rfl
              case h2 => exact Wk.rfl
              case h3 => simp
              case h4 => exact hσ.clB.app (Nat.le_refl _)
              exact ⟨by simp [validR, h1, h1_, h2_, h3_, h4_, h5_, h6_], by simp⟩
          · repeat' (first
              | with_reducible refine W.seq ?_
              | with_reducible refine W.next ?_
              | with_reducible refine W.nil ?_
              | with_reducible refine W.skip ?_
              | with_reducible refine W.ret ?_
              | with_reducible refine W.ret_code ?_
              | with_reducible refine W.block ?_
              | with_reducible refine W.out ?_
              | with_reducible refine W.ret_blk ?_
              | with_reducible refine W.exit ?_
              | with_reducible refine W.exit_code ?_
              | with_reducible refine W.exit_here ?_
              | with_reducible refine W.leave_exit ?_
              | with_reducible refine W.leave_ret ?_
              | ((with_reducible refine W.exit_on ?h ?_); (case h => decide))
              | ((with_reducible apply W.reg); (case h => simp [T3, T4, T23, T86, hb_, h1_, h2_, h3_, h4_, h5_]; exact ⟨rfl, rfl, rfl⟩))
              | ((with_reducible apply W.draw mixed); (case hB => kernel_rfl); (case hr => simp [T3, T4, T23, T86, hb_, h1_, h2_, h3_, h4_, h5_]; rfl))
              | ((with_reducible apply W.cond); (case hc => simp; rfl); all_goals (intro hc_; try (cases hc_; done)))
              | ((with_reducible apply W.runX); (case _hc => rfl); (case h => simp [T3, T4, T23, T86, hb_, h1_, h2_, h3_, h4_, h5_]; exact ⟨rfl, rfl, rfl⟩))
              | ((with_reducible apply W.call1 go40); (case ho => rfl); (case hc => rfl); (case hf => rfl); (case hg => first | rfl | simp [T3, T4, T23, T86, hb_, h1_, h2_, h3_, h4_, h5_]); (case hd => rfl); (case ha => simp [T3, T4, T23, T86, hb_, h1_, h2_, h3_, h4_, h5_]; rfl); (case hargs => rfl); (case hs => exact hof _))
              | fail)
            with_reducible apply W.fin
            case h1 => simp <;> rfl
            case h2 => exact Wk.rfl
            case h3 => simp
            case h4 => exact hσ.clB.app (Nat.le_refl _)
            exact ⟨by simp [validR, h1, h1_, h2_, h3_, h4_, h5_], by simp⟩
        · repeat' (first
            | with_reducible refine W.seq ?_
            | with_reducible refine W.next ?_
            | with_reducible refine W.nil ?_
            | with_reducible refine W.skip ?_
            | with_reducible refine W.ret ?_
            | with_reducible refine W.ret_code ?_
            | with_reducible refine W.block ?_
            | with_reducible refine W.out ?_
            | with_reducible refine W.ret_blk ?_
            | with_reducible refine W.exit ?_
            | with_reducible refine W.exit_code ?_
            | with_reducible refine W.exit_here ?_
            | with_reducible refine W.leave_exit ?_
            | with_reducible refine W.leave_ret ?_
            | ((with_reducible refine W.exit_on ?h ?_); (case h => decide))
            | ((with_reducible apply W.reg); (case h => simp [T3, T4, T23, T86, hb_, h1_, h2_, h3_, h4_]; exact ⟨rfl, rfl, rfl⟩))
            | ((with_reducible apply W.draw mixed); (case hB => kernel_rfl); (case hr => simp [T3, T4, T23, T86, hb_, h1_, h2_, h3_, h4_]; rfl))
            | ((with_reducible apply W.cond); (case hc => simp; rfl); all_goals (intro hc_; try (cases hc_; done)))
            | ((with_reducible apply W.runX); (case _hc => rfl); (case h => simp [T3, T4, T23, T86, hb_, h1_, h2_, h3_, h4_]; exact ⟨rfl, rfl, rfl⟩))
            | ((with_reducible apply W.call1 go40); (case ho => rfl); (case hc => rfl); (case hf => rfl); (case hg => first | rfl | simp [T3, T4, T23, T86, hb_, h1_, h2_, h3_, h4_]); (case hd => rfl); (case ha => simp [T3, T4, T23, T86, hb_, h1_, h2_, h3_, h4_]; rfl); (case hargs => rfl); (case hs => exact hof _))
            | fail)
          with_reducible apply W.fin
          case h1 => simp <;> rfl
          case h2 => exact Wk.rfl
          case h3 => simp
          case h4 => exact hσ.clB.app (Nat.le_refl _)
          exact ⟨by simp [validR, h1, h1_, h2_, h3_, h4_], by simp⟩
      · repeat' (first
          | with_reducible refine W.seq ?_
          | with_reducible refine W.next ?_
          | with_reducible refine W.nil ?_
          | with_reducible refine W.skip ?_
          | with_reducible refine W.ret ?_
          | with_reducible refine W.ret_code ?_
          | with_reducible refine W.block ?_
          | with_reducible refine W.out ?_
          | with_reducible refine W.ret_blk ?_
          | with_reducible refine W.exit ?_
          | with_reducible refine W.exit_code ?_
          | with_reducible refine W.exit_here ?_
          | with_reducible refine W.leave_exit ?_
          | with_reducible refine W.leave_ret ?_
          | ((with_reducible refine W.exit_on ?h ?_); (case h => decide))
          | ((with_reducible apply W.reg); (case h => simp [T3, T4, T23, T86, hb_, h1_, h2_, h3_]; exact ⟨rfl, rfl, rfl⟩))
          | ((with_reducible apply W.draw mixed); (case hB => kernel_rfl); (case hr => simp [T3, T4, T23, T86, hb_, h1_, h2_, h3_]; rfl))
          | ((with_reducible apply W.cond); (case hc => simp; rfl); all_goals (intro hc_; try (cases hc_; done)))
          | ((with_reducible apply W.runX); (case _hc => rfl); (case h => simp [T3, T4, T23, T86, hb_, h1_, h2_, h3_]; exact ⟨rfl, rfl, rfl⟩))
          | ((with_reducible apply W.call1 go40); (case ho => rfl); (case hc => rfl); (case hf => rfl); (case hg => first | rfl | simp [T3, T4, T23, T86, hb_, h1_, h2_, h3_]); (case hd => rfl); (case ha => simp [T3, T4, T23, T86, hb_, h1_, h2_, h3_]; rfl); (case hargs => rfl); (case hs => exact hof _))
          | fail)
        with_reducible apply W.fin
        case h1 => simp <;> rfl
        case h2 => exact Wk.rfl
        case h3 => simp
        case h4 => exact hσ.clB.app (Nat.le_refl _)
        exact ⟨by simp [validR, h1, h1_, h2_, h3_], by simp⟩
    · repeat' (first
        | with_reducible refine W.seq ?_
        | with_reducible refine W.next ?_
        | with_reducible refine W.nil ?_
        | with_reducible refine W.skip ?_
        | with_reducible refine W.ret ?_
        | with_reducible refine W.ret_code ?_
        | with_reducible refine W.block ?_
        | with_reducible refine W.out ?_
        | with_reducible refine W.ret_blk ?_
        | with_reducible refine W.exit ?_
        | with_reducible refine W.exit_code ?_
        | with_reducible refine W.exit_here ?_
        | with_reducible refine W.leave_exit ?_
        | with_reducible refine W.leave_ret ?_
        | ((with_reducible refine W.exit_on ?h ?_); (case h => decide))
        | ((with_reducible apply W.reg); (case h => simp [T3, T4, T23, T86, hb_, h1_, h2_]; exact ⟨rfl, rfl, rfl⟩))
        | ((with_reducible apply W.draw mixed); (case hB => kernel_rfl); (case hr => simp [T3, T4, T23, T86, hb_, h1_, h2_]; rfl))
        | ((with_reducible apply W.cond); (case hc => simp; rfl); all_goals (intro hc_; try (cases hc_; done)))
        | ((with_reducible apply W.runX); (case _hc => rfl); (case h => simp [T3, T4, T23, T86, hb_, h1_, h2_]; exact ⟨rfl, rfl, rfl⟩))
        | ((with_reducible apply W.call1 go40); (case ho => rfl); (case hc => rfl); (case hf => rfl); (case hg => first | rfl | simp [T3, T4, T23, T86, hb_, h1_, h2_]); (case hd => rfl); (case ha => simp [T3, T4, T23, T86, hb_, h1_, h2_]; rfl); (case hargs => rfl); (case hs => exact hof _))
        | fail)
      with_reducible apply W.fin
      case h1 => simp <;> rfl
      case h2 => exact Wk.rfl
      case h3 => simp
      case h4 => exact hσ.clB.app (Nat.le_refl _)
      exact ⟨by simp [validR, h1, h1_, h2_], by simp⟩
  · repeat' (first
      | with_reducible refine W.seq ?_
      | with_reducible refine W.next ?_
      | with_reducible refine W.nil ?_
      | with_reducible refine W.skip ?_
      | with_reducible refine W.ret ?_
      | with_reducible refine W.ret_code ?_
      | with_reducible refine W.block ?_
      | with_reducible refine W.out ?_
      | with_reducible refine W.ret_blk ?_
      | with_reducible refine W.exit ?_
      | with_reducible refine W.exit_code ?_
      | with_reducible refine W.exit_here ?_
      | with_reducible refine W.leave_exit ?_
      | with_reducible refine W.leave_ret ?_
      | ((with_reducible refine W.exit_on ?h ?_); (case h => decide))
      | ((with_reducible apply W.reg); (case h => simp [T3, T4, T23, T86, hb_, h1_]; exact ⟨rfl, rfl, rfl⟩))
      | ((with_reducible apply W.draw mixed); (case hB => kernel_rfl); (case hr => simp [T3, T4, T23, T86, hb_, h1_]; rfl))
      | ((with_reducible apply W.cond); (case hc => simp; rfl); all_goals (intro hc_; try (cases hc_; done)))
      | ((with_reducible apply W.runX); (case _hc => rfl); (case h => simp [T3, T4, T23, T86, hb_, h1_]; exact ⟨rfl, rfl, rfl⟩))
      | ((with_reducible apply W.call1 go40); (case ho => rfl); (case hc => rfl); (case hf => rfl); (case hg => first | rfl | simp [T3, T4, T23, T86, hb_, h1_]); (case hd => rfl); (case ha => simp [T3, T4, T23, T86, hb_, h1_]; rfl); (case hargs => rfl); (case hs => exact hof _))
      | fail)
    with_reducible apply W.fin
    case h1 => simp <;> rfl
    case h2 => exact Wk.rfl
    case h3 => simp
    case h4 => exact hσ.clB.app (Nat.le_refl _)
    exact ⟨by simp [validR, h1, h1_], by simp⟩

theorem last_sc (e : Ent) (σ : AS) (hw : 2 ≤ e.width ∧ e.width ≤ 24) : SC1 Cc 35 [.agg (encE e)] σ (i64 (pw e.width - 2)) σ := by
  have h1 := pw_wrap hw
  have h2 := pw_bnd hw
  have h3 : IntKind.i64.wrap (pw e.width - 2) = pw e.width - 2 := wrap64 (by omega)
  have h4 : 0 ≤ e.width := by omega
  refine W.body Tryd.func35 rfl 7 Tryd.ntmps35 _ Tryd.results35 (by simp) GEt_cl fun hσ => ?_
  repeat' (first
    | with_reducible refine W.seq ?_
    | with_reducible refine W.next ?_
    | with_reducible refine W.nil ?_
    | with_reducible refine W.skip ?_
    | with_reducible refine W.ret ?_
    | with_reducible refine W.ret_code ?_
    | with_reducible refine W.block ?_
    | with_reducible refine W.out ?_
    | with_reducible refine W.ret_blk ?_
    | with_reducible refine W.exit ?_
    | with_reducible refine W.exit_code ?_
    | with_reducible refine W.exit_here ?_
    | with_reducible refine W.leave_exit ?_
    | with_reducible refine W.leave_ret ?_
    | ((with_reducible refine W.exit_on ?h ?_); (case h => decide))
    | ((with_reducible apply W.reg); (case h => simp [T3, T23, h1, h3, h4]; exact ⟨rfl, rfl, rfl⟩))
    | ((with_reducible apply W.draw mixed); (case hB => kernel_rfl); (case hr => simp [T3, T23, h1, h3, h4]; rfl))
    | ((with_reducible apply W.cond); (case hc => simp; rfl); all_goals (intro hc_; try (cases hc_; done)))
    | ((with_reducible apply W.runX); (case _hc => rfl); (case h => simp [T3, T23, h1, h3, h4]; exact ⟨rfl, rfl, rfl⟩))
    | fail)
  with_reducible apply W.fin
  case h1 => simp <;> rfl
  case h2 => exact Wk.rfl
  case h3 => simp
  case h4 => exact hσ.clB.app (Nat.le_refl _)
  exact ⟨by simp, by simp⟩


end Go.Proofs.YtgabnlkkjmepnaaDoor

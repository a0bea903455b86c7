/- The reference's Expand: it answers as the program's. -/
import Derived.Test.YtgabnlkkjmepnaaDoorS21
import Derived.IntWalk
namespace Go.Proofs.YtgabnlkkjmepnaaDoor
open Go.Sw
set_option linter.unusedSimpArgs false
set_option linter.unusedVariables false
attribute [local simp] runOps stepOp pureOp gd isCall inN setd Sw.get params ev evs binV unV convV loadA cellsPV oneB storeA fieldAddrA fieldOff fieldA partA aggOf extractA indexAddrA indexA lenA minmaxA sliceA bnd partsA buildA placesA fillA buildSliceA zerosA chunkA TyD.agg Value.oneCell' Value.cells runPure appA appendA okRow_nil okRow_cons okRow_append resultA ressA resA List.getElem?_append List.set_append Cl_any Cl_val Cl_ptr Cl_agg Cl_tup Cl_fn Cl_rop Cl_sl Sw.take_set Sw.take_set_app Sw.take_app

attribute [local simp] encI encE encS encT okRow_encE okRow_encS okRow_encI
/-- A nil slice among the arguments is given a token. -/
theorem SC.token {f : FuncId} {ps qs : List PV} {σ : AS} {R : PV → AS → Prop} (e : TypeId) (h : SC Cc f (ps ++ .sl (some σ.tk.length) [] :: qs) ⟨σ.bx, σ.tk ++ [(e, 0)]⟩ R) : SC Cc f (ps ++ .val (.slice none 0 0) :: qs) σ R := by
  intro w0 base s vs hi hl hr
  obtain ⟨i1, m1, r1⟩ := hi.token e
  refine (h w0 base ⟨⟨s.g.bx, s.g.rw ++ [none]⟩, s.tk ++ [(e, 0)], s.w⟩ vs i1 (by simpa using hl) (fun j p v hp hv => ?_)).mono ?_
  · by_cases hj : j < ps.length
    · rw [List.getElem?_append_left hj] at hp
      exact (hr j p v (by rw [List.getElem?_append_left hj]; exact hp) hv).mono m1
    · rw [List.getElem?_append_right (by omega)] at hp
      cases hk : j - ps.length with
      | zero =>
        rw [hk] at hp
        simp at hp
        subst hp
        have := (hr j (.val (.slice none 0 0)) v (by rw [List.getElem?_append_right (by omega), hk]; rfl) hv).val_eq
        subst this
        exact r1
      | succ q =>
        rw [hk] at hp
        exact (hr j p v (by rw [List.getElem?_append_right (by omega), hk]; exact hp) hv).mono m1
  · rintro e w' ⟨v, r, σ', s', h1, h2, h3, h4, h5, h6⟩
    exact ⟨v, r, σ', s', h1, h2, h3, h4, h5, m1.trans h6⟩
theorem refExpand_sc (t : Tab) (codes : List Int) (σ : AS) (ht : TabOK t) (hc : ∀ c ∈ codes, I64 c) (hl : codes.length ≤ 1000000) : SC1 Cc 21 [.agg (encT t), .sl none (codes.map encI)] σ (.tup [.sl none ((expandF t codes).2.map encE), i64 (expandF t codes).1]) σ := by
  refine W.body Tryd.func21 rfl 21 Tryd.ntmps21 _ Tryd.results21 (by simp) GEt_cl fun hσ => ?_
  by_cases hv : validateF t = 0
  · have hr : expandF t codes = if (20 : Int) < (codes.length : Int) then (2, []) else if (allF t 501 codes 0 ⟨[], 0⟩).1 ≠ 0 then ((allF t 501 codes 0 ⟨[], 0⟩).1, []) else (0, (allF t 501 codes 0 ⟨[], 0⟩).2.out) := by
      unfold expandF
      rw [if_neg (by rw [hv]; decide)]
    have hval : ∀ σ, SC1 Cc 22 [.agg (encT t)] σ (i64 0) σ := fun σ => hv ▸ refValidate_sc t σ ht
    by_cases h20 : (20 : Int) < (codes.length : Int)
    · rw [hr, if_pos h20]
      repeat' (first
        | with_reducible refine W.seq ?_
        | with_reducible refine W.next ?_
        | with_reducible refine W.nil ?_
        | with_reducible refine W.skip ?_
        | with_reducible refine W.ret ?_
        | with_reducible refine W.ret_code ?_
        | with_reducible refine W.block ?_
        | with_reducible refine W.out ?_
        | with_reducible refine W.ret_blk ?_
        | with_reducible refine W.exit ?_
        | with_reducible refine W.exit_code ?_
        | with_reducible refine W.exit_here ?_
        | with_reducible refine W.leave_exit ?_
        | with_reducible refine W.leave_ret ?_
        | ((with_reducible refine W.exit_on ?h ?_); (case h => decide))
        | ((with_reducible apply W.reg); (case h => simp [T3, T23, T24, T25, T27, T28, T30, T35, T49, h20]; exact ⟨rfl, rfl, rfl⟩))
        | ((with_reducible apply W.draw mixed); (case hB => kernel_rfl); (case hr => simp [T3, T23, T24, T25, T27, T28, T30, T35, T49, h20]; rfl))
        | ((with_reducible apply W.cond); (case hc => simp; rfl); all_goals (intro hc_; try (cases hc_; done)))
        | ((with_reducible apply W.runX); (case _hc => rfl); (case h => simp [T3, T23, T24, T25, T27, T28, T30, T35, T49, h20]; exact ⟨rfl, rfl, rfl⟩))
        | ((with_reducible apply W.call1 go22); (case ho => rfl); (case hc => rfl); (case hf => rfl); (case hg => first | rfl | simp [T3, T23, T24, T25, T27, T28, T30, T35, T49, h20]); (case hd => rfl); (case ha => simp [T3, T23, T24, T25, T27, T28, T30, T35, T49, h20]; rfl); (case hargs => rfl); (case hs => exact hval _))
        | fail)
      with_reducible apply W.fin
      case h1 => simp <;> rfl
      case h2 => exact wkErr _
      case h3 => simp
      case h4 => exact hσ.clB.app (Nat.le_refl _)
      exact ⟨rfl, by simp⟩
    · rw [hr, if_neg h20]
      have hexp := refexpand_sc t (VT.of ht hv) 501 codes 0 ⟨[], 0⟩ ⟨σ.bx ++ [encT t, [i64 0]], σ.tk ++ [(23, 0)]⟩ (σ.bx.length + 1) σ.tk.length hc hl (by omega) (by simp) (by simp) ⟨by simp, by simp⟩ (by simp)
      have hexp' : SC Cc 38 [.agg (encT t), .sl none (codes.map encI), i64 0, .ptr (σ.bx.length + 1) 0, .val (.slice none 0 0)] ⟨σ.bx ++ [encT t, [i64 0]], σ.tk⟩ (RefR t 501 codes 0 ⟨[], 0⟩ ⟨σ.bx ++ [encT t, [i64 0]], σ.tk ++ [(23, 0)]⟩ (σ.bx.length + 1) σ.tk.length) :=
        SC.token (ps := [.agg (encT t), .sl none (codes.map encI), i64 0, .ptr (σ.bx.length + 1) 0]) (qs := []) 23 hexp
      repeat' (first
        | with_reducible refine W.seq ?_
        | with_reducible refine W.next ?_
        | with_reducible refine W.nil ?_
        | with_reducible refine W.skip ?_
        | with_reducible refine W.ret ?_
        | with_reducible refine W.ret_code ?_
        | with_reducible refine W.block ?_
        | with_reducible refine W.out ?_
        | with_reducible refine W.ret_blk ?_
        | with_reducible refine W.exit ?_
        | with_reducible refine W.exit_code ?_
        | with_reducible refine W.exit_here ?_
        | with_reducible refine W.leave_exit ?_
        | with_reducible refine W.leave_ret ?_
        | ((with_reducible refine W.exit_on ?h ?_); (case h => decide))
        | ((with_reducible apply W.reg); (case h => simp [T3, T23, T24, T25, T27, T28, T30, T35, T49, h20]; exact ⟨rfl, rfl, rfl⟩))
        | ((with_reducible apply W.draw mixed); (case hB => kernel_rfl); (case hr => simp [T3, T23, T24, T25, T27, T28, T30, T35, T49, h20]; rfl))
        | ((with_reducible apply W.cond); (case hc => simp; rfl); all_goals (intro hc_; try (cases hc_; done)))
        | ((with_reducible apply W.runX); (case _hc => rfl); (case h => simp [T3, T23, T24, T25, T27, T28, T30, T35, T49, h20]; exact ⟨rfl, rfl, rfl⟩))
        | ((with_reducible apply W.call1 go22); (case ho => rfl); (case hc => rfl); (case hf => rfl); (case hg => first | rfl | simp [T3, T23, T24, T25, T27, T28, T30, T35, T49, h20]); (case hd => rfl); (case ha => simp [T3, T23, T24, T25, T27, T28, T30, T35, T49, h20]; rfl); (case hargs => rfl); (case hs => exact hval _))
        | ((with_reducible apply W.callR go38); (case ho => rfl); (case hc => rfl); (case hf => rfl); (case hg => first | rfl | simp [T3, T23, T24, T25, T27, T28, T30, T35, T49, h20]); (case hd => rfl); (case ha => simp [T3, T23, T24, T25, T27, T28, T30, T35, T49, h20]; rfl); (case hargs => rfl); (case hs => exact hexp'); rintro _ _ ⟨p, k', m', rfl, rfl, hz, hnz⟩)
        | fail)
      by_cases he : (allF t 501 codes 0 ⟨[], 0⟩).1 = 0
      · obtain ⟨rfl, _, _⟩ := hz he
        rw [if_neg (by rw [he]; decide), he]
        with_reducible apply W.fin
        case h1 => simp <;> rfl
        case h2 => exact Wk.tup (show WkL Cc [.sl (some σ.tk.length) ((allF t 501 codes 0 ⟨[], 0⟩).2.out.map encE), i64 0] [.sl none ((allF t 501 codes 0 ⟨[], 0⟩).2.out.map encE), i64 0] from ⟨Wk.unown, Wk.rfl, trivial⟩)
        case h3 => simp
        case h4 => exact hσ.clB.app (Nat.le_refl _)
        exact ⟨rfl, by simp⟩
      · obtain rfl := hnz he
        rw [if_pos he]
        with_reducible apply W.fin
        case h1 => simp <;> rfl
        case h2 => exact Wk.rfl
        case h3 => simp
        case h4 => exact hσ.clB.app (Nat.le_refl _)
        exact ⟨rfl, by simp⟩
  · have hr : expandF t codes = (validateF t, []) := by unfold expandF; rw [if_pos hv]
    rw [hr]
    have hb : (validateF t == 0) = false := by simpa using hv
    have hb2 : (validateF t != 0) = true := by simpa using hv
    repeat' (first
      | with_reducible refine W.seq ?_
      | with_reducible refine W.next ?_
      | with_reducible refine W.nil ?_
      | with_reducible refine W.skip ?_
      | with_reducible refine W.ret ?_
      | with_reducible refine W.ret_code ?_
      | with_reducible refine W.block ?_
      | with_reducible refine W.out ?_
      | with_reducible refine W.ret_blk ?_
      | with_reducible refine W.exit ?_
      | with_reducible refine W.exit_code ?_
      | with_reducible refine W.exit_here ?_
      | with_reducible refine W.leave_exit ?_
      | with_reducible refine W.leave_ret ?_
      | ((with_reducible refine W.exit_on ?h ?_); (case h => decide))
      | ((with_reducible apply W.reg); (case h => simp [T3, T23, T24, T25, T27, T28, T30, T35, T49, hb, hb2, hv]; exact ⟨rfl, rfl, rfl⟩))
      | ((with_reducible apply W.draw mixed); (case hB => kernel_rfl); (case hr => simp [T3, T23, T24, T25, T27, T28, T30, T35, T49, hb, hb2, hv]; rfl))
      | ((with_reducible apply W.cond); (case hc => simp; rfl); all_goals (intro hc_; try (cases hc_; done)))
      | ((with_reducible apply W.runX); (case _hc => rfl); (case h => simp [T3, T23, T24, T25, T27, T28, T30, T35, T49, hb, hb2, hv]; exact ⟨rfl, rfl, rfl⟩))
      | ((with_reducible apply W.call1 go22); (case ho => rfl); (case hc => rfl); (case hf => rfl); (case hg => first | rfl | simp [T3, T23, T24, T25, T27, T28, T30, T35, T49, hb, hb2, hv]); (case hd => rfl); (case ha => simp [T3, T23, T24, T25, T27, T28, T30, T35, T49, hb, hb2, hv]; rfl); (case hargs => rfl); (case hs => exact refValidate_sc t _ ht))
      | fail)
    with_reducible apply W.fin
    case h1 => simp <;> rfl
    case h2 => exact wkErr _
    case h3 => simp
    case h4 => exact hσ.clB.app (Nat.le_refl _)
    exact ⟨rfl, by simp⟩


end Go.Proofs.YtgabnlkkjmepnaaDoor

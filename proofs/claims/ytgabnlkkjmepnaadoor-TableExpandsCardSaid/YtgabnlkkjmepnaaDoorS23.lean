/- Copies of lists (Clone), the search for a table with a version. -/
import Derived.Test.YtgabnlkkjmepnaaDoorS13
import Derived.Test.YtgabnlkkjmepnaaDoorSwT
import Derived.Test.YtgabnlkkjmepnaaDoorSwS
import Derived.IntWalk
namespace Go.Proofs.YtgabnlkkjmepnaaDoor
open Go.Sw
set_option linter.unusedSimpArgs false
set_option linter.unusedVariables false
attribute [local simp] runOps stepOp pureOp gd isCall inN setd Sw.get params ev evs binV unV convV loadA cellsPV oneB storeA fieldAddrA fieldOff fieldA partA aggOf extractA indexAddrA indexA lenA minmaxA sliceA bnd partsA buildA placesA fillA buildSliceA zerosA chunkA TyD.agg Value.oneCell' Value.cells runPure appA appendA okRow_nil okRow_cons okRow_append resultA ressA resA List.getElem?_append List.set_append Cl_any Cl_val Cl_ptr Cl_agg Cl_tup Cl_fn Cl_rop Cl_sl Sw.take_set Sw.take_set_app Sw.take_app

attribute [local simp] encI encE encS encT okRow_encE okRow_encS okRow_encI
theorem Clone52_sc (es : List Ent) (own : Option Nat) (σ : AS) (hl : es.length ≤ 1000000) : SC1 Cc 52 [.sl own (es.map encE)] σ (.sl none (es.map encE)) σ := by
  refine W.body Tryd.func52 rfl 8 Tryd.ntmps52 _ Tryd.results52 (by simp) GEt_cl fun hσ => ?_
  repeat' (first
    | with_reducible refine W.seq ?_
    | with_reducible refine W.next ?_
    | with_reducible refine W.nil ?_
    | with_reducible refine W.skip ?_
    | with_reducible refine W.ret ?_
    | with_reducible refine W.ret_code ?_
    | with_reducible refine W.block ?_
    | with_reducible refine W.out ?_
    | with_reducible refine W.ret_blk ?_
    | with_reducible refine W.exit ?_
    | with_reducible refine W.exit_code ?_
    | with_reducible refine W.exit_here ?_
    | with_reducible refine W.leave_exit ?_
    | with_reducible refine W.leave_ret ?_
    | ((with_reducible refine W.exit_on ?h ?_); (case h => decide))
    | ((with_reducible apply W.reg); (case h => simp [T27]; exact ⟨rfl, rfl, rfl⟩))
    | ((with_reducible apply W.draw mixed); (case hB => kernel_rfl); (case hr => simp [T27]; rfl))
    | ((with_reducible apply W.cond); (case hc => simp; rfl); all_goals (intro hc_; try (cases hc_; done)))
    | ((with_reducible apply W.runX); (case _hc => rfl); (case h => simp [T27]; exact ⟨rfl, rfl, rfl⟩))
    | fail)
  with_reducible apply W.regN 1
  case h => simp [T27]; exact ⟨rfl, rfl⟩
  refine W.list (by simp only [List.drop_succ_cons, List.drop_zero]; rfl) ?_
  with_reducible apply W.eqNil
  case ho => rfl
  case hg => rfl
  case hdst => rfl
  case hy => exact T27
  case hd => rfl
  case hx => simp; exact ⟨rfl, rfl⟩
  intro bb hbb
  refine W.nil ?_
  refine W.next ?_
  cases bb
  · have hsz : es.length * 40 ≤ 140737488355328 := by omega
    refine W.cond (t := false) (by simp) (fun h => by cases h) fun _ => ?_
    refine W.skip ?_
    refine W.next ?_
    refine W.seq ?_
    with_reducible apply W.regN 0
    case h => simp [T27]; exact ⟨rfl, rfl⟩
    refine W.list (by simp only [List.drop_succ_cons, List.drop_zero]; rfl) ?_
    with_reducible apply W.ownL
    case ho => rfl
    case hp => rfl
    case hb => simp [T27, T23]; exact ⟨rfl, rfl⟩
    case hg => rfl
    case hd => rfl
    repeat' (first
      | with_reducible refine W.seq ?_
      | with_reducible refine W.next ?_
      | with_reducible refine W.nil ?_
      | with_reducible refine W.skip ?_
      | with_reducible refine W.ret ?_
      | with_reducible refine W.ret_code ?_
      | with_reducible refine W.block ?_
      | with_reducible refine W.out ?_
      | with_reducible refine W.ret_blk ?_
      | with_reducible refine W.exit ?_
      | with_reducible refine W.exit_code ?_
      | with_reducible refine W.exit_here ?_
      | with_reducible refine W.leave_exit ?_
      | with_reducible refine W.leave_ret ?_
      | ((with_reducible refine W.exit_on ?h ?_); (case h => decide))
      | ((with_reducible apply W.reg); (case h => simp [T27, T23, hsz]; exact ⟨rfl, rfl, rfl⟩))
      | ((with_reducible apply W.draw mixed); (case hB => kernel_rfl); (case hr => simp [T27, T23, hsz]; rfl))
      | ((with_reducible apply W.cond); (case hc => simp; rfl); all_goals (intro hc_; try (cases hc_; done)))
      | ((with_reducible apply W.runX); (case _hc => rfl); (case h => simp [T27, T23, hsz]; exact ⟨rfl, rfl, rfl⟩))
      | fail)
    with_reducible apply W.fin
    case h1 => simp <;> rfl
    case h2 => exact Wk.unown
    case h3 => simp
    case h4 => exact hσ.clB
    exact ⟨by simp, by simp⟩
  · have hes : es = [] := by simpa using hbb rfl
    subst hes
    repeat' (first
      | with_reducible refine W.seq ?_
      | with_reducible refine W.next ?_
      | with_reducible refine W.nil ?_
      | with_reducible refine W.skip ?_
      | with_reducible refine W.ret ?_
      | with_reducible refine W.ret_code ?_
      | with_reducible refine W.block ?_
      | with_reducible refine W.out ?_
      | with_reducible refine W.ret_blk ?_
      | with_reducible refine W.exit ?_
      | with_reducible refine W.exit_code ?_
      | with_reducible refine W.exit_here ?_
      | with_reducible refine W.leave_exit ?_
      | with_reducible refine W.leave_ret ?_
      | ((with_reducible refine W.exit_on ?h ?_); (case h => decide))
      | ((with_reducible apply W.reg); (case h => simp [T27]; exact ⟨rfl, rfl, rfl⟩))
      | ((with_reducible apply W.draw mixed); (case hB => kernel_rfl); (case hr => simp [T27]; rfl))
      | ((with_reducible apply W.cond); (case hc => simp; rfl); all_goals (intro hc_; try (cases hc_; done)))
      | ((with_reducible apply W.runX); (case _hc => rfl); (case h => simp [T27]; exact ⟨rfl, rfl, rfl⟩))
      | fail)
    with_reducible apply W.fin
    case h1 => simp <;> rfl
    case h2 => exact Wk.nil
    case h3 => simp
    case h4 => exact hσ.clB
    exact ⟨by simp, by simp⟩
theorem Clone54_sc (es : List Int) (own : Option Nat) (σ : AS) (hl : es.length ≤ 1000000) : SC1 Cc 54 [.sl own (es.map encI)] σ (.sl none (es.map encI)) σ := by
  refine W.body Tryd.func54 rfl 8 Tryd.ntmps54 _ Tryd.results54 (by simp) GEt_cl fun hσ => ?_
  repeat' (first
    | with_reducible refine W.seq ?_
    | with_reducible refine W.next ?_
    | with_reducible refine W.nil ?_
    | with_reducible refine W.skip ?_
    | with_reducible refine W.ret ?_
    | with_reducible refine W.ret_code ?_
    | with_reducible refine W.block ?_
    | with_reducible refine W.out ?_
    | with_reducible refine W.ret_blk ?_
    | with_reducible refine W.exit ?_
    | with_reducible refine W.exit_code ?_
    | with_reducible refine W.exit_here ?_
    | with_reducible refine W.leave_exit ?_
    | with_reducible refine W.leave_ret ?_
    | ((with_reducible refine W.exit_on ?h ?_); (case h => decide))
    | ((with_reducible apply W.reg); (case h => simp [T24]; exact ⟨rfl, rfl, rfl⟩))
    | ((with_reducible apply W.draw mixed); (case hB => kernel_rfl); (case hr => simp [T24]; rfl))
    | ((with_reducible apply W.cond); (case hc => simp; rfl); all_goals (intro hc_; try (cases hc_; done)))
    | ((with_reducible apply W.runX); (case _hc => rfl); (case h => simp [T24]; exact ⟨rfl, rfl, rfl⟩))
    | fail)
  with_reducible apply W.regN 1
  case h => simp [T24]; exact ⟨rfl, rfl⟩
  refine W.list (by simp only [List.drop_succ_cons, List.drop_zero]; rfl) ?_
  with_reducible apply W.eqNil
  case ho => rfl
  case hg => rfl
  case hdst => rfl
  case hy => exact T24
  case hd => rfl
  case hx => simp; exact ⟨rfl, rfl⟩
  intro bb hbb
  refine W.nil ?_
  refine W.next ?_
  cases bb
  · have hsz : es.length * 8 ≤ 140737488355328 := by omega
    refine W.cond (t := false) (by simp) (fun h => by cases h) fun _ => ?_
    refine W.skip ?_
    refine W.next ?_
    refine W.seq ?_
    with_reducible apply W.regN 0
    case h => simp [T24]; exact ⟨rfl, rfl⟩
    refine W.list (by simp only [List.drop_succ_cons, List.drop_zero]; rfl) ?_
    with_reducible apply W.ownL
    case ho => rfl
    case hp => rfl
    case hb => simp [T24, T3]; exact ⟨rfl, rfl⟩
    case hg => rfl
    case hd => rfl
    repeat' (first
      | with_reducible refine W.seq ?_
      | with_reducible refine W.next ?_
      | with_reducible refine W.nil ?_
      | with_reducible refine W.skip ?_
      | with_reducible refine W.ret ?_
      | with_reducible refine W.ret_code ?_
      | with_reducible refine W.block ?_
      | with_reducible refine W.out ?_
      | with_reducible refine W.ret_blk ?_
      | with_reducible refine W.exit ?_
      | with_reducible refine W.exit_code ?_
      | with_reducible refine W.exit_here ?_
      | with_reducible refine W.leave_exit ?_
      | with_reducible refine W.leave_ret ?_
      | ((with_reducible refine W.exit_on ?h ?_); (case h => decide))
      | ((with_reducible apply W.reg); (case h => simp [T24, T3, hsz]; exact ⟨rfl, rfl, rfl⟩))
      | ((with_reducible apply W.draw mixed); (case hB => kernel_rfl); (case hr => simp [T24, T3, hsz]; rfl))
      | ((with_reducible apply W.cond); (case hc => simp; rfl); all_goals (intro hc_; try (cases hc_; done)))
      | ((with_reducible apply W.runX); (case _hc => rfl); (case h => simp [T24, T3, hsz]; exact ⟨rfl, rfl, rfl⟩))
      | fail)
    with_reducible apply W.fin
    case h1 => simp <;> rfl
    case h2 => exact Wk.unown
    case h3 => simp
    case h4 => exact hσ.clB
    exact ⟨by simp, by simp⟩
  · have hes : es = [] := by simpa using hbb rfl
    subst hes
    repeat' (first
      | with_reducible refine W.seq ?_
      | with_reducible refine W.next ?_
      | with_reducible refine W.nil ?_
      | with_reducible refine W.skip ?_
      | with_reducible refine W.ret ?_
      | with_reducible refine W.ret_code ?_
      | with_reducible refine W.block ?_
      | with_reducible refine W.out ?_
      | with_reducible refine W.ret_blk ?_
      | with_reducible refine W.exit ?_
      | with_reducible refine W.exit_code ?_
      | with_reducible refine W.exit_here ?_
      | with_reducible refine W.leave_exit ?_
      | with_reducible refine W.leave_ret ?_
      | ((with_reducible refine W.exit_on ?h ?_); (case h => decide))
      | ((with_reducible apply W.reg); (case h => simp [T24]; exact ⟨rfl, rfl, rfl⟩))
      | ((with_reducible apply W.draw mixed); (case hB => kernel_rfl); (case hr => simp [T24]; rfl))
      | ((with_reducible apply W.cond); (case hc => simp; rfl); all_goals (intro hc_; try (cases hc_; done)))
      | ((with_reducible apply W.runX); (case _hc => rfl); (case h => simp [T24]; exact ⟨rfl, rfl, rfl⟩))
      | fail)
    with_reducible apply W.fin
    case h1 => simp <;> rfl
    case h2 => exact Wk.nil
    case h3 => simp
    case h4 => exact hσ.clB
    exact ⟨by simp, by simp⟩
theorem Clone53r_sc (es : List Sq) (own : Option Nat) (σ : AS) (hl : es.length ≤ 1000000) : SC1 Cc 53 [.sl own (es.map encS)] σ (.sl none (es.map encS)) σ := by
  refine W.body Tryd.func53 rfl 8 Tryd.ntmps53 _ Tryd.results53 (by simp) GEt_cl fun hσ => ?_
  repeat' (first
    | with_reducible refine W.seq ?_
    | with_reducible refine W.next ?_
    | with_reducible refine W.nil ?_
    | with_reducible refine W.skip ?_
    | with_reducible refine W.ret ?_
    | with_reducible refine W.ret_code ?_
    | with_reducible refine W.block ?_
    | with_reducible refine W.out ?_
    | with_reducible refine W.ret_blk ?_
    | with_reducible refine W.exit ?_
    | with_reducible refine W.exit_code ?_
    | with_reducible refine W.exit_here ?_
    | with_reducible refine W.leave_exit ?_
    | with_reducible refine W.leave_ret ?_
    | ((with_reducible refine W.exit_on ?h ?_); (case h => decide))
    | ((with_reducible apply W.reg); (case h => simp [T28]; exact ⟨rfl, rfl, rfl⟩))
    | ((with_reducible apply W.draw mixed); (case hB => kernel_rfl); (case hr => simp [T28]; rfl))
    | ((with_reducible apply W.cond); (case hc => simp; rfl); all_goals (intro hc_; try (cases hc_; done)))
    | ((with_reducible apply W.runX); (case _hc => rfl); (case h => simp [T28]; exact ⟨rfl, rfl, rfl⟩))
    | fail)
  with_reducible apply W.regN 1
  case h => simp [T28]; exact ⟨rfl, rfl⟩
  refine W.list (by simp only [List.drop_succ_cons, List.drop_zero]; rfl) ?_
  with_reducible apply W.eqNil
  case ho => rfl
  case hg => rfl
  case hdst => rfl
  case hy => exact T28
  case hd => rfl
  case hx => simp; exact ⟨rfl, rfl⟩
  intro bb hbb
  refine W.nil ?_
  refine W.next ?_
  cases bb
  · have hsz : es.length * 32 ≤ 140737488355328 := by omega
    refine W.cond (t := false) (by simp) (fun h => by cases h) fun _ => ?_
    refine W.skip ?_
    refine W.next ?_
    refine W.seq ?_
    with_reducible apply W.regN 0
    case h => simp [T28]; exact ⟨rfl, rfl⟩
    refine W.list (by simp only [List.drop_succ_cons, List.drop_zero]; rfl) ?_
    with_reducible apply W.ownL
    case ho => rfl
    case hp => rfl
    case hb => simp [T28, T49]; exact ⟨rfl, rfl⟩
    case hg => rfl
    case hd => rfl
    repeat' (first
      | with_reducible refine W.seq ?_
      | with_reducible refine W.next ?_
      | with_reducible refine W.nil ?_
      | with_reducible refine W.skip ?_
      | with_reducible refine W.ret ?_
      | with_reducible refine W.ret_code ?_
      | with_reducible refine W.block ?_
      | with_reducible refine W.out ?_
      | with_reducible refine W.ret_blk ?_
      | with_reducible refine W.exit ?_
      | with_reducible refine W.exit_code ?_
      | with_reducible refine W.exit_here ?_
      | with_reducible refine W.leave_exit ?_
      | with_reducible refine W.leave_ret ?_
      | ((with_reducible refine W.exit_on ?h ?_); (case h => decide))
      | ((with_reducible apply W.reg); (case h => simp [T28, T49, hsz]; exact ⟨rfl, rfl, rfl⟩))
      | ((with_reducible apply W.draw mixed); (case hB => kernel_rfl); (case hr => simp [T28, T49, hsz]; rfl))
      | ((with_reducible apply W.cond); (case hc => simp; rfl); all_goals (intro hc_; try (cases hc_; done)))
      | ((with_reducible apply W.runX); (case _hc => rfl); (case h => simp [T28, T49, hsz]; exact ⟨rfl, rfl, rfl⟩))
      | fail)
    with_reducible apply W.fin
    case h1 => simp <;> rfl
    case h2 => exact Wk.unown
    case h3 => simp
    case h4 => exact hσ.clB
    exact ⟨by simp, by simp⟩
  · have hes : es = [] := by simpa using hbb rfl
    subst hes
    repeat' (first
      | with_reducible refine W.seq ?_
      | with_reducible refine W.next ?_
      | with_reducible refine W.nil ?_
      | with_reducible refine W.skip ?_
      | with_reducible refine W.ret ?_
      | with_reducible refine W.ret_code ?_
      | with_reducible refine W.block ?_
      | with_reducible refine W.out ?_
      | with_reducible refine W.ret_blk ?_
      | with_reducible refine W.exit ?_
      | with_reducible refine W.exit_code ?_
      | with_reducible refine W.exit_here ?_
      | with_reducible refine W.leave_exit ?_
      | with_reducible refine W.leave_ret ?_
      | ((with_reducible refine W.exit_on ?h ?_); (case h => decide))
      | ((with_reducible apply W.reg); (case h => simp [T28]; exact ⟨rfl, rfl, rfl⟩))
      | ((with_reducible apply W.draw mixed); (case hB => kernel_rfl); (case hr => simp [T28]; rfl))
      | ((with_reducible apply W.cond); (case hc => simp; rfl); all_goals (intro hc_; try (cases hc_; done)))
      | ((with_reducible apply W.runX); (case _hc => rfl); (case h => simp [T28]; exact ⟨rfl, rfl, rfl⟩))
      | fail)
    with_reducible apply W.fin
    case h1 => simp <;> rfl
    case h2 => exact Wk.nil
    case h3 => simp
    case h4 => exact hσ.clB
    exact ⟨by simp, by simp⟩
theorem Frz.tup {σ : AS} {n k : Nat} {ps qs : List PV} (h : FrzL Cc σ n k ps qs) : Frz Cc σ n k (.tup ps) (.tup qs) := by
  intro w0 base s v hi hr
  cases hr with
  | tup _ vs hl hv =>
    refine .tup qs vs (by rw [← h.length]; exact hl) fun j q v hq hu => ?_
    obtain ⟨p, h1, h2⟩ := h.at_ j q hq
    exact h2 w0 base s v hi (hv j p v h1 hu)
theorem frzL_refl {σ : AS} {n k : Nat} : ∀ {ps : List PV}, (∀ p ∈ ps, Cl n k p) → FrzL Cc σ n k ps ps
  | [], _ => trivial
  | _ :: _, h => ⟨Frz.cl (h _ (by simp)), frzL_refl fun p hp => h p (by simp [hp])⟩
theorem frzB_refl {σ : AS} {n k : Nat} : ∀ {xs : List (List PV)}, (∀ x ∈ xs, ∀ p ∈ x, Cl n k p) → FrzB Cc σ n k xs xs
  | [], _ => trivial
  | _ :: _, h => ⟨frzL_refl (h _ (by simp)), frzB_refl fun x hx => h x (by simp [hx])⟩
theorem encSs_in (n m : Nat) (l : List Sq) : ∀ x ∈ l.map encS, ∀ p ∈ x, Cl n m p := ((Cl_sl ..).1 (encSs_cl n m none (by simp) l)).2
theorem encEs_in (n m : Nat) (l : List Ent) : ∀ x ∈ l.map encE, ∀ p ∈ x, Cl n m p := ((Cl_sl ..).1 (encEs_cl n m none (by simp) l)).2
/-- The copy of a list of sequences: a row that its holder writes. -/
theorem Clone53_sc (es : List Sq) (own : Option Nat) (σ : AS) (hl : es.length ≤ 1000000) (h0 : es ≠ []) : SC Cc 53 [.sl own (es.map encS)] σ (fun r σ' => ∃ c, es.length ≤ c ∧ r = .bs 49 (σ.bx.length + 1) es.length c ∧ σ' = ⟨σ.bx ++ [[], cellsZ 2 0 c [] (es.map encS)], σ.tk⟩) := by
  refine W.body Tryd.func53 rfl 8 Tryd.ntmps53 _ Tryd.results53 (by simp) GEt_cl fun hσ => ?_
  repeat' (first
    | with_reducible refine W.seq ?_
    | with_reducible refine W.next ?_
    | with_reducible refine W.nil ?_
    | with_reducible refine W.skip ?_
    | with_reducible refine W.ret ?_
    | with_reducible refine W.ret_code ?_
    | with_reducible refine W.block ?_
    | with_reducible refine W.out ?_
    | with_reducible refine W.ret_blk ?_
    | with_reducible refine W.exit ?_
    | with_reducible refine W.exit_code ?_
    | with_reducible refine W.exit_here ?_
    | with_reducible refine W.leave_exit ?_
    | with_reducible refine W.leave_ret ?_
    | ((with_reducible refine W.exit_on ?h ?_); (case h => decide))
    | ((with_reducible apply W.reg); (case h => simp [T28]; exact ⟨rfl, rfl, rfl⟩))
    | ((with_reducible apply W.draw mixed); (case hB => kernel_rfl); (case hr => simp [T28]; rfl))
    | ((with_reducible apply W.cond); (case hc => simp; rfl); all_goals (intro hc_; try (cases hc_; done)))
    | ((with_reducible apply W.runX); (case _hc => rfl); (case h => simp [T28]; exact ⟨rfl, rfl, rfl⟩))
    | fail)
  with_reducible apply W.regN 1
  case h => simp [T28]; exact ⟨rfl, rfl⟩
  refine W.list (by simp only [List.drop_succ_cons, List.drop_zero]; rfl) ?_
  with_reducible apply W.eqNil
  case ho => rfl
  case hg => rfl
  case hdst => rfl
  case hy => exact T28
  case hd => rfl
  case hx => simp; exact ⟨rfl, rfl⟩
  intro bb hbb
  refine W.nil ?_
  refine W.next ?_
  cases bb
  · have hsz : (0 + (es.map encS).length) * 32 ≤ 140737488355328 := by simp; omega
    refine W.cond (t := false) (by simp) (fun h => by cases h) fun _ => ?_
    refine W.skip ?_
    refine W.next ?_
    refine W.seq ?_
    with_reducible apply W.regN 0
    case h => simp [T28]; exact ⟨rfl, rfl⟩
    refine W.list (by simp only [List.drop_succ_cons, List.drop_zero]; rfl) ?_
    with_reducible apply W.lit0
    case ho => rfl
    case hb => simp [T28, T49]; rfl
    case hg => rfl
    case hdst => rfl
    with_reducible apply W.runN 1
    case h => simp [T28]; exact ⟨rfl, rfl⟩
    refine W.list (by simp only [List.drop_succ_cons, List.drop_zero]; rfl) ?_
    with_reducible apply W.appZ
    case ho => rfl
    case hc => rfl
    case hA => rfl
    case hT => rfl
    case hy => exact T28
    case hd => rfl
    case hz => exact T49
    case hzp => decide
    case hzb => decide
    case hg => rfl
    case hdst => rfl
    case hx => rfl
    case hq => simp; rfl
    case hu => rfl
    case hys => exact okRow_encS es
    case hbytes => exact hsz
    rintro _ _ (⟨h, _⟩ | ⟨_, h, _⟩ | ⟨_, c, hc, rfl, rfl⟩)
    · exact absurd (by simpa using h) h0
    · simp at h; exact absurd h h0
    · repeat' (first
        | with_reducible refine W.seq ?_
        | with_reducible refine W.next ?_
        | with_reducible refine W.nil ?_
        | with_reducible refine W.skip ?_
        | with_reducible refine W.ret ?_
        | with_reducible refine W.ret_code ?_
        | with_reducible refine W.block ?_
        | with_reducible refine W.out ?_
        | with_reducible refine W.ret_blk ?_
        | with_reducible refine W.exit ?_
        | with_reducible refine W.exit_code ?_
        | with_reducible refine W.exit_here ?_
        | with_reducible refine W.leave_exit ?_
        | with_reducible refine W.leave_ret ?_
        | ((with_reducible refine W.exit_on ?h ?_); (case h => decide))
        | ((with_reducible apply W.reg); (case h => simp [T28, T49]; exact ⟨rfl, rfl, rfl⟩))
        | ((with_reducible apply W.draw mixed); (case hB => kernel_rfl); (case hr => simp [T28, T49]; rfl))
        | ((with_reducible apply W.cond); (case hc => simp; rfl); all_goals (intro hc_; try (cases hc_; done)))
        | ((with_reducible apply W.runX); (case _hc => rfl); (case h => simp [T28, T49]; exact ⟨rfl, rfl, rfl⟩))
        | fail)
      refine W.finK (σ.bx.length + 2) σ.tk.length (.bs 49 (σ.bx.length + 1) es.length c) (.bs 49 (σ.bx.length + 1) es.length c) (by omega) (Nat.le_refl _) rfl Wk.rfl ((Cl_bs ..).2 (by omega)) (hσ.clBs _ rfl ?_) ⟨c, by simpa using hc, rfl, by rw [List.take_of_length_le (by simp)]; simp⟩
      intro x hx
      simp only [List.mem_cons, List.not_mem_nil, or_false] at hx
      rcases hx with rfl | rfl
      · simp
      · exact cl_cellsZ (by simp) (encSs_in _ _ es)
  · exact absurd (by simpa using hbb rfl) h0
theorem IndexTab_sc (l : List Tab) (own : Option Nat) (f : FuncId) (caps : List PV) (p : Tab → Bool) (σ : AS) (hgo : isGo Cc.P f = true) (hl : l.length ≤ 1000000) (hf : ∀ e ∈ l, SC1 Cc f (PV.agg (encT e) :: caps) σ (bV (p e)) σ) :
    SC1 Cc 50 [.sl own (l.map encT), .fn f caps] σ (i64 (idxF p l)) σ := by
  refine W.body Tryd.func50 rfl 19 Tryd.ntmps50 _ Tryd.results50 (by simp) GEt_cl fun hσ => ?_
  repeat' (first
    | with_reducible refine W.seq ?_
    | with_reducible refine W.next ?_
    | with_reducible refine W.nil ?_
    | with_reducible refine W.skip ?_
    | with_reducible refine W.ret ?_
    | with_reducible refine W.ret_code ?_
    | with_reducible refine W.block ?_
    | with_reducible refine W.out ?_
    | with_reducible refine W.ret_blk ?_
    | with_reducible refine W.exit ?_
    | with_reducible refine W.exit_code ?_
    | with_reducible refine W.exit_here ?_
    | with_reducible refine W.leave_exit ?_
    | with_reducible refine W.leave_ret ?_
    | ((with_reducible refine W.exit_on ?h ?_); (case h => decide))
    | ((with_reducible apply W.reg); (case h => simp [T3, T30, T53]; exact ⟨rfl, rfl, rfl⟩))
    | ((with_reducible apply W.draw mixed); (case hB => kernel_rfl); (case hr => simp [T3, T30, T53]; rfl))
    | ((with_reducible apply W.cond); (case hc => simp; rfl); all_goals (intro hc_; try (cases hc_; done)))
    | ((with_reducible apply W.runX); (case _hc => rfl); (case h => simp [T3, T30, T53]; exact ⟨rfl, rfl, rfl⟩))
    | fail)
  with_reducible refine W.loopS (α := Nat) (fun k => [(0, .sl own (l.map encT)), (1, .fn f caps), (7, i64 l.length), (8, i64 k)]) (fun _ => σ) (fun k => k ≤ l.length ∧ ∀ j (hj : j < k) (hjl : j < l.length), p l[j] = false) (fun k => l.length - k) 0 ?_ ?_ ?_ ?_
  · exact ⟨Nat.zero_le _, fun j hj => absurd hj (Nat.not_lt_zero _)⟩
  · repeat (first | exact Sw.Sub.nil | refine Sw.Sub.cons (by simp) ?_)
  · rfl
  · rintro k ⟨hk, hno⟩
    dsimp only
    by_cases hlt : k < l.length
    · have hwi : IntKind.i64.wrap ((k : Int) + 1) = (k : Int) + 1 := wrap64 (by omega)
      have hlt' : (k : Int) < l.length := by omega
      have hh := hf l[k] (List.getElem_mem hlt)
      cases hb : p l[k]
      · rw [hb] at hh
        repeat' (first
          | with_reducible refine W.seq ?_
          | with_reducible refine W.next ?_
          | with_reducible refine W.nil ?_
          | with_reducible refine W.skip ?_
          | with_reducible refine W.ret ?_
          | with_reducible refine W.ret_code ?_
          | with_reducible refine W.block ?_
          | with_reducible refine W.out ?_
          | with_reducible refine W.ret_blk ?_
          | with_reducible refine W.exit ?_
          | with_reducible refine W.exit_code ?_
          | with_reducible refine W.exit_here ?_
          | with_reducible refine W.leave_exit ?_
          | with_reducible refine W.leave_ret ?_
          | ((with_reducible refine W.exit_on ?h ?_); (case h => decide))
          | ((with_reducible apply W.reg); (case h => simp [T3, T30, T53, hlt, hwi]; exact ⟨rfl, rfl, rfl⟩))
          | ((with_reducible apply W.draw mixed); (case hB => kernel_rfl); (case hr => simp [T3, T30, T53, hlt, hwi]; rfl))
          | ((with_reducible apply W.cond); (case hc => simp; rfl); all_goals (intro hc_; try (cases hc_; done)))
          | ((with_reducible apply W.runX); (case _hc => rfl); (case h => simp [T3, T30, T53, hlt, hwi]; exact ⟨rfl, rfl, rfl⟩))
          | fail)
        ((with_reducible apply W.call1 hgo); (case ho => rfl); (case hc => rfl); (case hf => rfl); (case hg => rfl); (case hd => rfl); (case ha => simp [hlt]; rfl); (case hargs => rfl); (case hs => exact hh))
        repeat' (first
          | with_reducible refine W.seq ?_
          | with_reducible refine W.next ?_
          | with_reducible refine W.nil ?_
          | with_reducible refine W.skip ?_
          | with_reducible refine W.ret ?_
          | with_reducible refine W.ret_code ?_
          | with_reducible refine W.block ?_
          | with_reducible refine W.out ?_
          | with_reducible refine W.ret_blk ?_
          | with_reducible refine W.exit ?_
          | with_reducible refine W.exit_code ?_
          | with_reducible refine W.exit_here ?_
          | with_reducible refine W.leave_exit ?_
          | with_reducible refine W.leave_ret ?_
          | ((with_reducible refine W.exit_on ?h ?_); (case h => decide))
          | ((with_reducible apply W.reg); (case h => simp [T3, T30, T53, hlt, hwi]; exact ⟨rfl, rfl, rfl⟩))
          | ((with_reducible apply W.draw mixed); (case hB => kernel_rfl); (case hr => simp [T3, T30, T53, hlt, hwi]; rfl))
          | ((with_reducible apply W.cond); (case hc => simp; rfl); all_goals (intro hc_; try (cases hc_; done)))
          | ((with_reducible apply W.runX); (case _hc => rfl); (case h => simp [T3, T30, T53, hlt, hwi]; exact ⟨rfl, rfl, rfl⟩))
          | fail)
        refine W.hand (k + 1) ⟨by omega, fun j hj hjl => ?_⟩ (by omega) ?_ rfl
        · rcases Nat.lt_succ_iff_lt_or_eq.1 hj with h | rfl
          · exact hno j h hjl
          · exact hb
        · repeat (first | exact Sw.Sub.nil | refine Sw.Sub.cons (by simp) ?_)
      · rw [hb] at hh
        repeat' (first
          | with_reducible refine W.seq ?_
          | with_reducible refine W.next ?_
          | with_reducible refine W.nil ?_
          | with_reducible refine W.skip ?_
          | with_reducible refine W.ret ?_
          | with_reducible refine W.ret_code ?_
          | with_reducible refine W.block ?_
          | with_reducible refine W.out ?_
          | with_reducible refine W.ret_blk ?_
          | with_reducible refine W.exit ?_
          | with_reducible refine W.exit_code ?_
          | with_reducible refine W.exit_here ?_
          | with_reducible refine W.leave_exit ?_
          | with_reducible refine W.leave_ret ?_
          | ((with_reducible refine W.exit_on ?h ?_); (case h => decide))
          | ((with_reducible apply W.reg); (case h => simp [T3, T30, T53, hlt, hwi]; exact ⟨rfl, rfl, rfl⟩))
          | ((with_reducible apply W.draw mixed); (case hB => kernel_rfl); (case hr => simp [T3, T30, T53, hlt, hwi]; rfl))
          | ((with_reducible apply W.cond); (case hc => simp; rfl); all_goals (intro hc_; try (cases hc_; done)))
          | ((with_reducible apply W.runX); (case _hc => rfl); (case h => simp [T3, T30, T53, hlt, hwi]; exact ⟨rfl, rfl, rfl⟩))
          | fail)
        ((with_reducible apply W.call1 hgo); (case ho => rfl); (case hc => rfl); (case hf => rfl); (case hg => rfl); (case hd => rfl); (case ha => simp [hlt]; rfl); (case hargs => rfl); (case hs => exact hh))
        repeat' (first
          | with_reducible refine W.seq ?_
          | with_reducible refine W.next ?_
          | with_reducible refine W.nil ?_
          | with_reducible refine W.skip ?_
          | with_reducible refine W.ret ?_
          | with_reducible refine W.ret_code ?_
          | with_reducible refine W.block ?_
          | with_reducible refine W.out ?_
          | with_reducible refine W.ret_blk ?_
          | with_reducible refine W.exit ?_
          | with_reducible refine W.exit_code ?_
          | with_reducible refine W.exit_here ?_
          | with_reducible refine W.leave_exit ?_
          | with_reducible refine W.leave_ret ?_
          | ((with_reducible refine W.exit_on ?h ?_); (case h => decide))
          | ((with_reducible apply W.reg); (case h => simp [T3, T30, T53, hlt, hwi]; exact ⟨rfl, rfl, rfl⟩))
          | ((with_reducible apply W.draw mixed); (case hB => kernel_rfl); (case hr => simp [T3, T30, T53, hlt, hwi]; rfl))
          | ((with_reducible apply W.cond); (case hc => simp; rfl); all_goals (intro hc_; try (cases hc_; done)))
          | ((with_reducible apply W.runX); (case _hc => rfl); (case h => simp [T3, T30, T53, hlt, hwi]; exact ⟨rfl, rfl, rfl⟩))
          | fail)
        with_reducible apply W.fin
        case h1 => simp <;> rfl
        case h2 => exact Wk.rfl
        case h3 => simp
        case h4 => exact hσ.clB
        exact ⟨by simp [idxF_here hlt hb (fun j hj => hno j hj (by omega))], by simp⟩
    · have hlt' : ¬ (k : Int) < l.length := by omega
      repeat' (first
        | with_reducible refine W.seq ?_
        | with_reducible refine W.next ?_
        | with_reducible refine W.nil ?_
        | with_reducible refine W.skip ?_
        | with_reducible refine W.ret ?_
        | with_reducible refine W.ret_code ?_
        | with_reducible refine W.block ?_
        | with_reducible refine W.out ?_
        | with_reducible refine W.ret_blk ?_
        | with_reducible refine W.exit ?_
        | with_reducible refine W.exit_code ?_
        | with_reducible refine W.exit_here ?_
        | with_reducible refine W.leave_exit ?_
        | with_reducible refine W.leave_ret ?_
        | ((with_reducible refine W.exit_on ?h ?_); (case h => decide))
        | ((with_reducible apply W.reg); (case h => simp [T3, T30, T53, hlt]; exact ⟨rfl, rfl, rfl⟩))
        | ((with_reducible apply W.draw mixed); (case hB => kernel_rfl); (case hr => simp [T3, T30, T53, hlt]; rfl))
        | ((with_reducible apply W.cond); (case hc => simp; rfl); all_goals (intro hc_; try (cases hc_; done)))
        | ((with_reducible apply W.runX); (case _hc => rfl); (case h => simp [T3, T30, T53, hlt]; exact ⟨rfl, rfl, rfl⟩))
        | fail)
      with_reducible apply W.fin
      case h1 => simp <;> rfl
      case h2 => exact Wk.rfl
      case h3 => simp
      case h4 => exact hσ.clB
      exact ⟨by rw [idxF_none (fun j hj => hno j (by omega) hj)], by simp⟩


theorem choose1_sc (t : Tab) (v : Int) (i : Nat) (σ : AS) (hi : σ.bx[i]? = some [i64 v]) : SC1 Cc 51 [.agg (encT t), .ptr i 0] σ (bV (t.version == v)) σ := by
  have hi2 : ∀ r, (σ.bx ++ r)[i]? = some [i64 v] := fun r => get_app_of hi r
  refine W.body Tryd.func51 rfl 8 Tryd.ntmps51 _ Tryd.results51 (by simp) GEt_cl fun hσ => ?_
  repeat' (first
    | with_reducible refine W.seq ?_
    | with_reducible refine W.next ?_
    | with_reducible refine W.nil ?_
    | with_reducible refine W.skip ?_
    | with_reducible refine W.ret ?_
    | with_reducible refine W.ret_code ?_
    | with_reducible refine W.block ?_
    | with_reducible refine W.out ?_
    | with_reducible refine W.ret_blk ?_
    | with_reducible refine W.exit ?_
    | with_reducible refine W.exit_code ?_
    | with_reducible refine W.exit_here ?_
    | with_reducible refine W.leave_exit ?_
    | with_reducible refine W.leave_ret ?_
    | ((with_reducible refine W.exit_on ?h ?_); (case h => decide))
    | ((with_reducible apply W.reg); (case h => simp [T3, T4, T30, hi2]; exact ⟨rfl, rfl, rfl⟩))
    | ((with_reducible apply W.draw mixed); (case hB => kernel_rfl); (case hr => simp [T3, T4, T30, hi2]; rfl))
    | ((with_reducible apply W.cond); (case hc => simp; rfl); all_goals (intro hc_; try (cases hc_; done)))
    | ((with_reducible apply W.runX); (case _hc => rfl); (case h => simp [T3, T4, T30, hi2]; exact ⟨rfl, rfl, rfl⟩))
    | fail)
  with_reducible apply W.fin
  case h1 => simp <;> rfl
  case h2 => exact Wk.rfl
  case h3 => simp
  case h4 => exact hσ.clB.app (Nat.le_refl _)
  exact ⟨by simp, by simp⟩


end Go.Proofs.YtgabnlkkjmepnaaDoor

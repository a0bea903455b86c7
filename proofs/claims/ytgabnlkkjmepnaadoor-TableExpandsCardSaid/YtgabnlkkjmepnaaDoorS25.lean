/- Small tables and equal tables: SmallTable and the reference's SameTable. -/
import Derived.Test.YtgabnlkkjmepnaaDoorS23
import Derived.Test.YtgabnlkkjmepnaaDoorSwM
import Derived.Test.YtgabnlkkjmepnaaDoorSwQ
import Derived.IntWalk
namespace Go.Proofs.YtgabnlkkjmepnaaDoor
open Go.Sw
set_option linter.unusedSimpArgs false
set_option linter.unusedVariables false
attribute [local simp] runOps stepOp pureOp gd isCall inN setd Sw.get params ev evs binV unV convV loadA cellsPV oneB storeA fieldAddrA fieldOff fieldA partA aggOf extractA indexAddrA indexA lenA minmaxA sliceA bnd partsA buildA placesA fillA buildSliceA zerosA chunkA TyD.agg Value.oneCell' Value.cells runPure appA appendA okRow_nil okRow_cons okRow_append resultA ressA resA List.getElem?_append List.set_append Cl_any Cl_val Cl_ptr Cl_agg Cl_tup Cl_fn Cl_rop Cl_sl Sw.take_set Sw.take_set_app Sw.take_app

attribute [local simp] encI encE encS encT okRow_encE okRow_encS okRow_encI
/-- How many entries, sequences and codes a table has. -/
def sumT (t : Tab) : Nat := t.entries.length + t.seqs.length + (t.seqs.map fun q => q.codes.length).sum

theorem SmallTable_sc (t : Tab) (σ : AS) (hel : t.entries.length ≤ 9007199254740992) (hsl : t.seqs.length ≤ 9007199254740992) (hcl : ∀ q ∈ t.seqs, q.codes.length ≤ 9007199254740992) : SC Cc 23 [.agg (encT t)] σ (fun r σ' => ∃ b : Bool, r = bV b ∧ σ' = σ ∧ (b = true → sumT t ≤ 300)) := by
  refine W.body Tryd.func23 rfl 34 Tryd.ntmps23 _ Tryd.results23 (by simp) GEt_cl fun hσ => ?_
  have hw0 : IntKind.i64.wrap ((t.entries.length : Int) + t.seqs.length) = ((t.entries.length + t.seqs.length : Nat) : Int) := wrap64 (by omega)
  repeat' (first
    | with_reducible refine W.seq ?_
    | with_reducible refine W.next ?_
    | with_reducible refine W.nil ?_
    | with_reducible refine W.skip ?_
    | with_reducible refine W.ret ?_
    | with_reducible refine W.ret_code ?_
    | with_reducible refine W.block ?_
    | with_reducible refine W.out ?_
    | with_reducible refine W.ret_blk ?_
    | with_reducible refine W.exit ?_
    | with_reducible refine W.exit_code ?_
    | with_reducible refine W.exit_here ?_
    | with_reducible refine W.leave_exit ?_
    | with_reducible refine W.leave_ret ?_
    | ((with_reducible refine W.exit_on ?h ?_); (case h => decide))
    | ((with_reducible apply W.reg); (case h => simp [T3, T4, T24, T27, T28, T30, T49, hw0]; exact ⟨rfl, rfl, rfl⟩))
    | ((with_reducible apply W.draw mixed); (case hB => kernel_rfl); (case hr => simp [T3, T4, T24, T27, T28, T30, T49, hw0]; rfl))
    | ((with_reducible apply W.cond); (case hc => simp; rfl); all_goals (intro hc_; try (cases hc_; done)))
    | ((with_reducible apply W.runX); (case _hc => rfl); (case h => simp [T3, T4, T24, T27, T28, T30, T49, hw0]; exact ⟨rfl, rfl, rfl⟩))
    | fail)
  with_reducible refine W.loopS (α := Nat) (fun k => [(1, .ptr σ.bx.length 0), (2, bV false), (3, i64 ((t.entries.length + t.seqs.length + ((t.seqs.take k).map fun q => q.codes.length).sum : Nat) : Int)), (4, i64 k)]) (fun _ => ⟨σ.bx ++ [encT t], σ.tk⟩) (fun k => k ≤ t.seqs.length) (fun k => t.seqs.length - k) 0 (Nat.zero_le _) ?_ ?_ ?_
  · repeat (first | exact Sw.Sub.nil | refine Sw.Sub.cons (by simp) ?_)
  · first | rfl | simp
  · intro k hk
    dsimp only
    generalize hN : t.entries.length + t.seqs.length + ((t.seqs.take k).map fun q => q.codes.length).sum = N at *
    by_cases hlt : k < t.seqs.length
    · have hlt' : (k : Int) < t.seqs.length := by omega
      have hsum : t.entries.length + t.seqs.length + ((t.seqs.take (k + 1)).map fun q => q.codes.length).sum = N + t.seqs[k].codes.length := by
        rw [List.take_succ_eq_append_getElem hlt, List.map_append, List.sum_append]; simp only [List.map_cons, List.map_nil, List.sum_cons, List.sum_nil]; omega
      have hcl' := hcl _ (List.getElem_mem hlt)
      by_cases h6 : N < 600
      · have h6' : (N : Int) < 600 := by omega
        have hwi : IntKind.i64.wrap ((k : Int) + 1) = (k : Int) + 1 := wrap64 (by omega)
        have hwn : IntKind.i64.wrap ((N : Int) + t.seqs[k].codes.length) = ((N + t.seqs[k].codes.length : Nat) : Int) := wrap64 (by omega)
        repeat' (first
          | with_reducible refine W.seq ?_
          | with_reducible refine W.next ?_
          | with_reducible refine W.nil ?_
          | with_reducible refine W.skip ?_
          | with_reducible refine W.ret ?_
          | with_reducible refine W.ret_code ?_
          | with_reducible refine W.block ?_
          | with_reducible refine W.out ?_
          | with_reducible refine W.ret_blk ?_
          | with_reducible refine W.exit ?_
          | with_reducible refine W.exit_code ?_
          | with_reducible refine W.exit_here ?_
          | with_reducible refine W.leave_exit ?_
          | with_reducible refine W.leave_ret ?_
          | ((with_reducible refine W.exit_on ?h ?_); (case h => decide))
          | ((with_reducible apply W.reg); (case h => simp [T3, T4, T24, T27, T28, T30, T49, hlt, hlt', h6', hwi, hwn]; exact ⟨rfl, rfl, rfl⟩))
          | ((with_reducible apply W.draw mixed); (case hB => kernel_rfl); (case hr => simp [T3, T4, T24, T27, T28, T30, T49, hlt, hlt', h6', hwi, hwn]; rfl))
          | ((with_reducible apply W.cond); (case hc => simp; rfl); all_goals (intro hc_; try (cases hc_; done)))
          | ((with_reducible apply W.runX); (case _hc => rfl); (case h => simp [T3, T4, T24, T27, T28, T30, T49, hlt, hlt', h6', hwi, hwn]; exact ⟨rfl, rfl, rfl⟩))
          | fail)
        refine W.hand (k + 1) (by omega) (by omega) ?_ rfl
        rw [hsum]
        repeat (first | exact Sw.Sub.nil | refine Sw.Sub.cons (by simp) ?_)
      · have h6' : ¬ (N : Int) < 600 := by omega
        have h3' : ¬ (N : Int) ≤ 300 := by omega
        repeat' (first
          | with_reducible refine W.seq ?_
          | with_reducible refine W.next ?_
          | with_reducible refine W.nil ?_
          | with_reducible refine W.skip ?_
          | with_reducible refine W.ret ?_
          | with_reducible refine W.ret_code ?_
          | with_reducible refine W.block ?_
          | with_reducible refine W.out ?_
          | with_reducible refine W.ret_blk ?_
          | with_reducible refine W.exit ?_
          | with_reducible refine W.exit_code ?_
          | with_reducible refine W.exit_here ?_
          | with_reducible refine W.leave_exit ?_
          | with_reducible refine W.leave_ret ?_
          | ((with_reducible refine W.exit_on ?h ?_); (case h => decide))
          | ((with_reducible apply W.reg); (case h => simp [T3, T4, T24, T27, T28, T30, T49, hlt, hlt', h6', h3']; exact ⟨rfl, rfl, rfl⟩))
          | ((with_reducible apply W.draw mixed); (case hB => kernel_rfl); (case hr => simp [T3, T4, T24, T27, T28, T30, T49, hlt, hlt', h6', h3']; rfl))
          | ((with_reducible apply W.cond); (case hc => simp; rfl); all_goals (intro hc_; try (cases hc_; done)))
          | ((with_reducible apply W.runX); (case _hc => rfl); (case h => simp [T3, T4, T24, T27, T28, T30, T49, hlt, hlt', h6', h3']; exact ⟨rfl, rfl, rfl⟩))
          | fail)
        with_reducible apply W.fin
        case h1 => simp <;> rfl
        case h2 => exact Wk.rfl
        case h3 => simp
        case h4 => exact hσ.clB.app (Nat.le_refl _)
        exact ⟨false, rfl, by simp, by simp⟩
    · have hlt' : ¬ (k : Int) < t.seqs.length := by omega
      have hk' : k = t.seqs.length := by omega
      subst hk'
      rw [List.take_length] at hN
      by_cases h3 : N ≤ 300
      · have h3' : (N : Int) ≤ 300 := by omega
        repeat' (first
          | with_reducible refine W.seq ?_
          | with_reducible refine W.next ?_
          | with_reducible refine W.nil ?_
          | with_reducible refine W.skip ?_
          | with_reducible refine W.ret ?_
          | with_reducible refine W.ret_code ?_
          | with_reducible refine W.block ?_
          | with_reducible refine W.out ?_
          | with_reducible refine W.ret_blk ?_
          | with_reducible refine W.exit ?_
          | with_reducible refine W.exit_code ?_
          | with_reducible refine W.exit_here ?_
          | with_reducible refine W.leave_exit ?_
          | with_reducible refine W.leave_ret ?_
          | ((with_reducible refine W.exit_on ?h ?_); (case h => decide))
          | ((with_reducible apply W.reg); (case h => simp [T3, T4, T24, T27, T28, T30, T49, hlt', h3']; exact ⟨rfl, rfl, rfl⟩))
          | ((with_reducible apply W.draw mixed); (case hB => kernel_rfl); (case hr => simp [T3, T4, T24, T27, T28, T30, T49, hlt', h3']; rfl))
          | ((with_reducible apply W.cond); (case hc => simp; rfl); all_goals (intro hc_; try (cases hc_; done)))
          | ((with_reducible apply W.runX); (case _hc => rfl); (case h => simp [T3, T4, T24, T27, T28, T30, T49, hlt', h3']; exact ⟨rfl, rfl, rfl⟩))
          | fail)
        with_reducible apply W.fin
        case h1 => simp <;> rfl
        case h2 => exact Wk.rfl
        case h3 => simp
        case h4 => exact hσ.clB.app (Nat.le_refl _)
        exact ⟨true, rfl, by simp, fun _ => by unfold sumT; omega⟩
      · have h3' : ¬ (N : Int) ≤ 300 := by omega
        repeat' (first
          | with_reducible refine W.seq ?_
          | with_reducible refine W.next ?_
          | with_reducible refine W.nil ?_
          | with_reducible refine W.skip ?_
          | with_reducible refine W.ret ?_
          | with_reducible refine W.ret_code ?_
          | with_reducible refine W.block ?_
          | with_reducible refine W.out ?_
          | with_reducible refine W.ret_blk ?_
          | with_reducible refine W.exit ?_
          | with_reducible refine W.exit_code ?_
          | with_reducible refine W.exit_here ?_
          | with_reducible refine W.leave_exit ?_
          | with_reducible refine W.leave_ret ?_
          | ((with_reducible refine W.exit_on ?h ?_); (case h => decide))
          | ((with_reducible apply W.reg); (case h => simp [T3, T4, T24, T27, T28, T30, T49, hlt', h3']; exact ⟨rfl, rfl, rfl⟩))
          | ((with_reducible apply W.draw mixed); (case hB => kernel_rfl); (case hr => simp [T3, T4, T24, T27, T28, T30, T49, hlt', h3']; rfl))
          | ((with_reducible apply W.cond); (case hc => simp; rfl); all_goals (intro hc_; try (cases hc_; done)))
          | ((with_reducible apply W.runX); (case _hc => rfl); (case h => simp [T3, T4, T24, T27, T28, T30, T49, hlt', h3']; exact ⟨rfl, rfl, rfl⟩))
          | fail)
        with_reducible apply W.fin
        case h1 => simp <;> rfl
        case h2 => exact Wk.rfl
        case h3 => simp
        case h4 => exact hσ.clB.app (Nat.le_refl _)
        exact ⟨false, rfl, by simp, by simp⟩
/-- A table is equal to itself. -/
theorem SameTable_sc (t : Tab) (σ : AS) (ht : TabOK t) : SC1 Cc 28 [.agg (encT t), .agg (encT t)] σ (bV true) σ := by
  have hse : ∀ σ, SC1 Cc 19 [.sl none (t.entries.map encE), .sl none (t.entries.map encE)] σ (bV true) σ := fun σ => by
    have := SameEntries_sc t.entries t.entries σ ht.elen ht.elen
    simpa using this
  refine W.body Tryd.func28 rfl 80 Tryd.ntmps28 _ Tryd.results28 (by simp) GEt_cl fun hσ => ?_
  repeat' (first
    | with_reducible refine W.seq ?_
    | with_reducible refine W.next ?_
    | with_reducible refine W.nil ?_
    | with_reducible refine W.skip ?_
    | with_reducible refine W.ret ?_
    | with_reducible refine W.ret_code ?_
    | with_reducible refine W.block ?_
    | with_reducible refine W.out ?_
    | with_reducible refine W.ret_blk ?_
    | with_reducible refine W.exit ?_
    | with_reducible refine W.exit_code ?_
    | with_reducible refine W.exit_here ?_
    | with_reducible refine W.leave_exit ?_
    | with_reducible refine W.leave_ret ?_
    | ((with_reducible refine W.exit_on ?h ?_); (case h => decide))
    | ((with_reducible apply W.reg); (case h => simp [T3, T4, T23, T24, T27, T28, T30, T49]; exact ⟨rfl, rfl, rfl⟩))
    | ((with_reducible apply W.draw mixed); (case hB => kernel_rfl); (case hr => simp [T3, T4, T23, T24, T27, T28, T30, T49]; rfl))
    | ((with_reducible apply W.cond); (case hc => simp; rfl); all_goals (intro hc_; try (cases hc_; done)))
    | ((with_reducible apply W.runX); (case _hc => rfl); (case h => simp [T3, T4, T23, T24, T27, T28, T30, T49]; exact ⟨rfl, rfl, rfl⟩))
    | ((with_reducible apply W.call1 go19); (case ho => rfl); (case hc => rfl); (case hf => rfl); (case hg => first | rfl | simp [T3, T4, T23, T24, T27, T28, T30, T49]); (case hd => rfl); (case ha => simp [T3, T4, T23, T24, T27, T28, T30, T49]; rfl); (case hargs => rfl); (case hs => exact hse _))
    | fail)
  have hcl0 : ∀ r, ClB (σ.bx.length + 2) σ.tk.length (σ.bx ++ encT t :: encT t :: r) := fun r => by
    have := hσ.clBs (r := [encT t, encT t]) _ rfl (fun x hx p hp => by
      have : x = encT t := by simpa using hx
      subst this
      simp only [encT, List.mem_cons, List.not_mem_nil, or_false] at hp
      rcases hp with rfl | rfl | rfl
      · exact .val _
      · exact encEs_cl _ _ _ (by simp) _
      · exact encSs_cl _ _ _ (by simp) _)
    have h2 := ClB.app (r := r) this (by simp)
    simpa using h2
  simp only [encT] at hcl0
  with_reducible refine W.loopF GEt_cl (α := Nat) (fun k => [(2, .ptr σ.bx.length 0), (3, .ptr (σ.bx.length + 1) 0), (4, bV false), (5, i64 k)]) (fun _ => ⟨σ.bx ++ [encT t, encT t], σ.tk⟩) (fun k => k ≤ t.seqs.length) (fun k => t.seqs.length - k) 0 ?_ ?_ ?_ ?_
  · exact Nat.zero_le _
  · repeat (first | exact Sw.Sub.nil | refine Sw.Sub.cons (by simp) ?_)
  · first | rfl | simp
  intro i hi
  dsimp only
  by_cases hlt : i < t.seqs.length
  · have hlt' : (i : Int) < t.seqs.length := by omega
    have hsl := ht.slen
    have hwi : IntKind.i64.wrap ((i : Int) + 1) = (i : Int) + 1 := wrap64 (by omega)
    obtain ⟨q, hq⟩ : ∃ q, q = t.seqs[i] := ⟨_, rfl⟩
    have hqo : SqOK q := by rw [hq]; exact ht.seqs _ (List.getElem_mem hlt)
    have hql := hqo.len
    repeat' (first
      | with_reducible refine W.seq ?_
      | with_reducible refine W.next ?_
      | with_reducible refine W.nil ?_
      | with_reducible refine W.skip ?_
      | with_reducible refine W.ret ?_
      | with_reducible refine W.ret_code ?_
      | with_reducible refine W.block ?_
      | with_reducible refine W.out ?_
      | with_reducible refine W.ret_blk ?_
      | with_reducible refine W.exit ?_
      | with_reducible refine W.exit_code ?_
      | with_reducible refine W.exit_here ?_
      | with_reducible refine W.leave_exit ?_
      | with_reducible refine W.leave_ret ?_
      | ((with_reducible refine W.exit_on ?h ?_); (case h => decide))
      | ((with_reducible apply W.reg); (case h => simp [T3, T4, T23, T24, T27, T28, T30, T49, hlt, hlt']; exact ⟨rfl, rfl, rfl⟩))
      | ((with_reducible apply W.draw mixed); (case hB => kernel_rfl); (case hr => simp [T3, T4, T23, T24, T27, T28, T30, T49, hlt, hlt']; rfl))
      | ((with_reducible apply W.cond); (case hc => simp; rfl); all_goals (intro hc_; try (cases hc_; done)))
      | ((with_reducible apply W.runX); (case _hc => rfl); (case h => simp [T3, T4, T23, T24, T27, T28, T30, T49, hlt, hlt']; exact ⟨rfl, rfl, rfl⟩))
      | fail)
    with_reducible apply W.held0 mixed 14 [0, 1, 2, 3, 4, 5, 6, 7, 8, 9]
    case hn => rfl
    with_reducible apply SH.takes [0, 1, 2, 3, 4, 5, 6, 7, 8, 9] 4
    case hfu => rfl
    case hs => kernel_rfl
    case hB => kernel_rfl
    case hQ => first | exact fun _ _ _ h => h | exact fun _ _ _ h => hNP _ _ _ h
    case hs0 => exact Sub0.rfl
    case hr => simp [T3, T4, T23, T24, T27, T28, T30, T49, hlt, hlt', ← hq, runTakes, takeOp, effA, effOp, down, down1, hideB, keep]; exact ⟨rfl, rfl⟩
    with_reducible apply SH.two 10 11
    case hr => kernel_rfl
    · skip
      with_reducible apply SHo.effX
      case hh => exact (Sub0.rfl).hid.mono (by simp)
      case he => simp [T3, T4, T23, T24, T27, T28, T30, T49, runTakes, takeOp, effA, effOp, down, down1, hideB, keep]; exact ⟨rfl, rfl, rfl⟩
      with_reducible apply SH.one 11
      case hr => kernel_rfl
      with_reducible apply SHo.effX
      case hh => exact (Sub0.rfl).hid.mono (by simp)
      case he => simp [T3, T4, T23, T24, T27, T28, T30, T49, runTakes, takeOp, effA, effOp, down, down1, hideB, keep]; exact ⟨rfl, rfl, rfl⟩
      with_reducible apply SH.one 12
      case hr => kernel_rfl
      with_reducible apply SHo.effX
      case hh => exact (Sub0.rfl).hid.mono (by simp)
      case he => simp [T3, T4, T23, T24, T27, T28, T30, T49, runTakes, takeOp, effA, effOp, down, down1, hideB, keep]; exact ⟨rfl, rfl, rfl⟩
      with_reducible apply SH.one 13
      case hr => kernel_rfl
      with_reducible apply SHo.lastX
      case hnd => kernel_rfl
      case he => simp [T3, T4, T23, T24, T27, T28, T30, T49, runTakes, takeOp, effA, effOp, down, down1, hideB, keep, lastA]; exact ⟨rfl, rfl, rfl⟩
      refine SH.done (by kernel_rfl) ?_
      repeat' (first
        | with_reducible refine W.seq ?_
        | with_reducible refine W.next ?_
        | with_reducible refine W.nil ?_
        | with_reducible refine W.skip ?_
        | with_reducible refine W.ret ?_
        | with_reducible refine W.ret_code ?_
        | with_reducible refine W.block ?_
        | with_reducible refine W.out ?_
        | with_reducible refine W.ret_blk ?_
        | with_reducible refine W.exit ?_
        | with_reducible refine W.exit_code ?_
        | with_reducible refine W.exit_here ?_
        | with_reducible refine W.leave_exit ?_
        | with_reducible refine W.leave_ret ?_
        | ((with_reducible refine W.exit_on ?h ?_); (case h => decide))
        | ((with_reducible apply W.reg); (case h => simp [T3, T4, T23, T24, T27, T28, T30, T49]; exact ⟨rfl, rfl, rfl⟩))
        | ((with_reducible apply W.draw mixed); (case hB => kernel_rfl); (case hr => simp [T3, T4, T23, T24, T27, T28, T30, T49]; rfl))
        | ((with_reducible apply W.cond); (case hc => simp; rfl); all_goals (intro hc_; try (cases hc_; done)))
        | ((with_reducible apply W.runX); (case _hc => rfl); (case h => simp [T3, T4, T23, T24, T27, T28, T30, T49]; exact ⟨rfl, rfl, rfl⟩))
        | fail)
      with_reducible refine W.loopS (α := Nat) (fun k => [(2, .ptr σ.bx.length 0), (3, .ptr (σ.bx.length + 1) 0), (4, bV false), (5, i64 i), (6, .ptr (σ.bx.length + 2) 0), (7, .ptr (σ.bx.length + 3) 0), (8, i64 k)]) (fun _ => ⟨σ.bx ++ [encT t, encT t, encS q, encS q], σ.tk⟩) (fun k => k ≤ q.codes.length) (fun k => q.codes.length - k) 0 ?_ ?_ ?_ ?_
      · exact Nat.zero_le _
      · repeat (first | exact Sw.Sub.nil | refine Sw.Sub.cons (by simp) ?_)
      · first | rfl | simp
      intro k hk
      (try dsimp only)
      by_cases hkl : k < q.codes.length
      · have hkl' : (k : Int) < q.codes.length := by omega
        have hwk : IntKind.i64.wrap ((k : Int) + 1) = (k : Int) + 1 := wrap64 (by omega)
        repeat' (first
          | with_reducible refine W.seq ?_
          | with_reducible refine W.next ?_
          | with_reducible refine W.nil ?_
          | with_reducible refine W.skip ?_
          | with_reducible refine W.ret ?_
          | with_reducible refine W.ret_code ?_
          | with_reducible refine W.block ?_
          | with_reducible refine W.out ?_
          | with_reducible refine W.ret_blk ?_
          | with_reducible refine W.exit ?_
          | with_reducible refine W.exit_code ?_
          | with_reducible refine W.exit_here ?_
          | with_reducible refine W.leave_exit ?_
          | with_reducible refine W.leave_ret ?_
          | ((with_reducible refine W.exit_on ?h ?_); (case h => decide))
          | ((with_reducible apply W.reg); (case h => simp [T3, T4, T23, T24, T27, T28, T30, T49, hkl, hkl', hwk]; exact ⟨rfl, rfl, rfl⟩))
          | ((with_reducible apply W.draw mixed); (case hB => kernel_rfl); (case hr => simp [T3, T4, T23, T24, T27, T28, T30, T49, hkl, hkl', hwk]; rfl))
          | ((with_reducible apply W.cond); (case hc => simp; rfl); all_goals (intro hc_; try (cases hc_; done)))
          | ((with_reducible apply W.runX); (case _hc => rfl); (case h => simp [T3, T4, T23, T24, T27, T28, T30, T49, hkl, hkl', hwk]; exact ⟨rfl, rfl, rfl⟩))
          | fail)
        refine W.hand (k + 1) (by omega) (by omega) ?_ ?_
        · repeat (first | exact Sw.Sub.nil | refine Sw.Sub.cons (by simp) ?_)
        · first | rfl | simp
      · have hkl' : ¬ (k : Int) < q.codes.length := by omega
        repeat' (first
          | with_reducible refine W.seq ?_
          | with_reducible refine W.next ?_
          | with_reducible refine W.nil ?_
          | with_reducible refine W.skip ?_
          | with_reducible refine W.ret ?_
          | with_reducible refine W.ret_code ?_
          | with_reducible refine W.block ?_
          | with_reducible refine W.out ?_
          | with_reducible refine W.ret_blk ?_
          | with_reducible refine W.exit ?_
          | with_reducible refine W.exit_code ?_
          | with_reducible refine W.exit_here ?_
          | with_reducible refine W.leave_exit ?_
          | with_reducible refine W.leave_ret ?_
          | ((with_reducible refine W.exit_on ?h ?_); (case h => decide))
          | ((with_reducible apply W.reg); (case h => simp [T3, T4, T23, T24, T27, T28, T30, T49, hkl', hwi]; exact ⟨rfl, rfl, rfl⟩))
          | ((with_reducible apply W.draw mixed); (case hB => kernel_rfl); (case hr => simp [T3, T4, T23, T24, T27, T28, T30, T49, hkl', hwi]; rfl))
          | ((with_reducible apply W.cond); (case hc => simp; rfl); all_goals (intro hc_; try (cases hc_; done)))
          | ((with_reducible apply W.runX); (case _hc => rfl); (case h => simp [T3, T4, T23, T24, T27, T28, T30, T49, hkl', hwi]; exact ⟨rfl, rfl, rfl⟩))
          | fail)
        refine W.handF (i + 1) (σ.bx.length + 2) σ.tk.length (by omega) (by omega) ?_ (by simp) (by simp) (ClPF.get ?_) ?_ ?_
        · repeat (first | exact Sw.Sub.nil | refine Sw.Sub.cons (by simp) ?_)
        · simp [ClPF]
        · exact hcl0 _
        · simp [List.take_append]; rw [List.take_of_length_le (by omega)]
    · skip
      with_reducible apply SHo.effX
      case hh => exact (Sub0.rfl).hid.mono (by simp)
      case he => simp [T3, T4, T23, T24, T27, T28, T30, T49, runTakes, takeOp, effA, effOp, down, down1, hideB, keep]; exact ⟨rfl, rfl, rfl⟩
      with_reducible apply SH.one 10
      case hr => kernel_rfl
      with_reducible apply SHo.effX
      case hh => exact (Sub0.rfl).hid.mono (by simp)
      case he => simp [T3, T4, T23, T24, T27, T28, T30, T49, runTakes, takeOp, effA, effOp, down, down1, hideB, keep]; exact ⟨rfl, rfl, rfl⟩
      with_reducible apply SH.one 12
      case hr => kernel_rfl
      with_reducible apply SHo.effX
      case hh => exact (Sub0.rfl).hid.mono (by simp)
      case he => simp [T3, T4, T23, T24, T27, T28, T30, T49, runTakes, takeOp, effA, effOp, down, down1, hideB, keep]; exact ⟨rfl, rfl, rfl⟩
      with_reducible apply SH.one 13
      case hr => kernel_rfl
      with_reducible apply SHo.lastX
      case hnd => kernel_rfl
      case he => simp [T3, T4, T23, T24, T27, T28, T30, T49, runTakes, takeOp, effA, effOp, down, down1, hideB, keep, lastA]; exact ⟨rfl, rfl, rfl⟩
      refine SH.done (by kernel_rfl) ?_
      repeat' (first
        | with_reducible refine W.seq ?_
        | with_reducible refine W.next ?_
        | with_reducible refine W.nil ?_
        | with_reducible refine W.skip ?_
        | with_reducible refine W.ret ?_
        | with_reducible refine W.ret_code ?_
        | with_reducible refine W.block ?_
        | with_reducible refine W.out ?_
        | with_reducible refine W.ret_blk ?_
        | with_reducible refine W.exit ?_
        | with_reducible refine W.exit_code ?_
        | with_reducible refine W.exit_here ?_
        | with_reducible refine W.leave_exit ?_
        | with_reducible refine W.leave_ret ?_
        | ((with_reducible refine W.exit_on ?h ?_); (case h => decide))
        | ((with_reducible apply W.reg); (case h => simp [T3, T4, T23, T24, T27, T28, T30, T49]; exact ⟨rfl, rfl, rfl⟩))
        | ((with_reducible apply W.draw mixed); (case hB => kernel_rfl); (case hr => simp [T3, T4, T23, T24, T27, T28, T30, T49]; rfl))
        | ((with_reducible apply W.cond); (case hc => simp; rfl); all_goals (intro hc_; try (cases hc_; done)))
        | ((with_reducible apply W.runX); (case _hc => rfl); (case h => simp [T3, T4, T23, T24, T27, T28, T30, T49]; exact ⟨rfl, rfl, rfl⟩))
        | fail)
      with_reducible refine W.loopS (α := Nat) (fun k => [(2, .ptr σ.bx.length 0), (3, .ptr (σ.bx.length + 1) 0), (4, bV false), (5, i64 i), (6, .ptr (σ.bx.length + 3) 0), (7, .ptr (σ.bx.length + 2) 0), (8, i64 k)]) (fun _ => ⟨σ.bx ++ [encT t, encT t, encS q, encS q], σ.tk⟩) (fun k => k ≤ q.codes.length) (fun k => q.codes.length - k) 0 ?_ ?_ ?_ ?_
      · exact Nat.zero_le _
      · repeat (first | exact Sw.Sub.nil | refine Sw.Sub.cons (by simp) ?_)
      · first | rfl | simp
      intro k hk
      (try dsimp only)
      by_cases hkl : k < q.codes.length
      · have hkl' : (k : Int) < q.codes.length := by omega
        have hwk : IntKind.i64.wrap ((k : Int) + 1) = (k : Int) + 1 := wrap64 (by omega)
        repeat' (first
          | with_reducible refine W.seq ?_
          | with_reducible refine W.next ?_
          | with_reducible refine W.nil ?_
          | with_reducible refine W.skip ?_
          | with_reducible refine W.ret ?_
          | with_reducible refine W.ret_code ?_
          | with_reducible refine W.block ?_
          | with_reducible refine W.out ?_
          | with_reducible refine W.ret_blk ?_
          | with_reducible refine W.exit ?_
          | with_reducible refine W.exit_code ?_
          | with_reducible refine W.exit_here ?_
          | with_reducible refine W.leave_exit ?_
          | with_reducible refine W.leave_ret ?_
          | ((with_reducible refine W.exit_on ?h ?_); (case h => decide))
          | ((with_reducible apply W.reg); (case h => simp [T3, T4, T23, T24, T27, T28, T30, T49, hkl, hkl', hwk]; exact ⟨rfl, rfl, rfl⟩))
          | ((with_reducible apply W.draw mixed); (case hB => kernel_rfl); (case hr => simp [T3, T4, T23, T24, T27, T28, T30, T49, hkl, hkl', hwk]; rfl))
          | ((with_reducible apply W.cond); (case hc => simp; rfl); all_goals (intro hc_; try (cases hc_; done)))
          | ((with_reducible apply W.runX); (case _hc => rfl); (case h => simp [T3, T4, T23, T24, T27, T28, T30, T49, hkl, hkl', hwk]; exact ⟨rfl, rfl, rfl⟩))
          | fail)
        refine W.hand (k + 1) (by omega) (by omega) ?_ ?_
        · repeat (first | exact Sw.Sub.nil | refine Sw.Sub.cons (by simp) ?_)
        · first | rfl | simp
      · have hkl' : ¬ (k : Int) < q.codes.length := by omega
        repeat' (first
          | with_reducible refine W.seq ?_
          | with_reducible refine W.next ?_
          | with_reducible refine W.nil ?_
          | with_reducible refine W.skip ?_
          | with_reducible refine W.ret ?_
          | with_reducible refine W.ret_code ?_
          | with_reducible refine W.block ?_
          | with_reducible refine W.out ?_
          | with_reducible refine W.ret_blk ?_
          | with_reducible refine W.exit ?_
          | with_reducible refine W.exit_code ?_
          | with_reducible refine W.exit_here ?_
          | with_reducible refine W.leave_exit ?_
          | with_reducible refine W.leave_ret ?_
          | ((with_reducible refine W.exit_on ?h ?_); (case h => decide))
          | ((with_reducible apply W.reg); (case h => simp [T3, T4, T23, T24, T27, T28, T30, T49, hkl', hwi]; exact ⟨rfl, rfl, rfl⟩))
          | ((with_reducible apply W.draw mixed); (case hB => kernel_rfl); (case hr => simp [T3, T4, T23, T24, T27, T28, T30, T49, hkl', hwi]; rfl))
          | ((with_reducible apply W.cond); (case hc => simp; rfl); all_goals (intro hc_; try (cases hc_; done)))
          | ((with_reducible apply W.runX); (case _hc => rfl); (case h => simp [T3, T4, T23, T24, T27, T28, T30, T49, hkl', hwi]; exact ⟨rfl, rfl, rfl⟩))
          | fail)
        refine W.handF (i + 1) (σ.bx.length + 2) σ.tk.length (by omega) (by omega) ?_ (by simp) (by simp) (ClPF.get ?_) ?_ ?_
        · repeat (first | exact Sw.Sub.nil | refine Sw.Sub.cons (by simp) ?_)
        · simp [ClPF]
        · exact hcl0 _
        · simp [List.take_append]; rw [List.take_of_length_le (by omega)]
  · have hlt' : ¬ (i : Int) < t.seqs.length := by omega
    repeat' (first
      | with_reducible refine W.seq ?_
      | with_reducible refine W.next ?_
      | with_reducible refine W.nil ?_
      | with_reducible refine W.skip ?_
      | with_reducible refine W.ret ?_
      | with_reducible refine W.ret_code ?_
      | with_reducible refine W.block ?_
      | with_reducible refine W.out ?_
      | with_reducible refine W.ret_blk ?_
      | with_reducible refine W.exit ?_
      | with_reducible refine W.exit_code ?_
      | with_reducible refine W.exit_here ?_
      | with_reducible refine W.leave_exit ?_
      | with_reducible refine W.leave_ret ?_
      | ((with_reducible refine W.exit_on ?h ?_); (case h => decide))
      | ((with_reducible apply W.reg); (case h => simp [T3, T4, T23, T24, T27, T28, T30, T49, hlt']; exact ⟨rfl, rfl, rfl⟩))
      | ((with_reducible apply W.draw mixed); (case hB => kernel_rfl); (case hr => simp [T3, T4, T23, T24, T27, T28, T30, T49, hlt']; rfl))
      | ((with_reducible apply W.cond); (case hc => simp; rfl); all_goals (intro hc_; try (cases hc_; done)))
      | ((with_reducible apply W.runX); (case _hc => rfl); (case h => simp [T3, T4, T23, T24, T27, T28, T30, T49, hlt']; exact ⟨rfl, rfl, rfl⟩))
      | fail)
    with_reducible apply W.fin
    case h1 => simp <;> rfl
    case h2 => exact Wk.rfl
    case h3 => simp
    case h4 => exact hσ.clB.app (Nat.le_refl _)
    exact ⟨rfl, by simp⟩


end Go.Proofs.YtgabnlkkjmepnaaDoor

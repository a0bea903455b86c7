/- The reference's Validate: it answers as the program's. -/
import Derived.Test.YtgabnlkkjmepnaaDoorX2
import Derived.Test.YtgabnlkkjmepnaaDoorS18
import Derived.Test.YtgabnlkkjmepnaaDoorSwS
import Derived.IntWalk
namespace Go.Proofs.YtgabnlkkjmepnaaDoor
open Go.Sw
set_option linter.unusedSimpArgs false
set_option linter.unusedVariables false
attribute [local simp] runOps stepOp pureOp gd isCall inN setd Sw.get params ev evs binV unV convV loadA cellsPV oneB storeA fieldAddrA fieldOff fieldA partA aggOf extractA indexAddrA indexA lenA minmaxA sliceA bnd partsA buildA placesA fillA buildSliceA zerosA chunkA TyD.agg Value.oneCell' Value.cells runPure appA appendA okRow_nil okRow_cons okRow_append resultA ressA resA List.getElem?_append List.set_append Cl_any Cl_val Cl_ptr Cl_agg Cl_tup Cl_fn Cl_rop Cl_sl Sw.take_set Sw.take_set_app Sw.take_app

attribute [local simp] encI encE encS encT okRow_encE okRow_encS okRow_encI
def pairE {α : Type} (f : α → Int) (l : List α) : Prop := (l.map f).Nodup
/-- Codes of entries and of sequences are never alike. -/
theorem dup_iff {t : Tab} (h1 : ∀ e ∈ t.entries, validB e = true) (h2 : ∀ q ∈ t.seqs, properB q = true) : dupB t = false ↔ (t.entries.map (·.code)).Nodup ∧ (t.seqs.map (·.code)).Nodup := by
  have hk := keyCount_lt (tabKeys t)
  have e : dupB t = false ↔ (tabKeys t).Nodup := by
    unfold dupB
    rw [decide_eq_false_iff_not, hk, Classical.not_not]
  rw [e]
  unfold tabKeys
  rw [List.nodup_append]
  refine ⟨fun h => ⟨h.1, h.2.1⟩, fun h => ⟨h.1, h.2, ?_⟩⟩
  intro a ha b hb hab
  obtain ⟨x, hx, rfl⟩ := List.mem_map.1 ha
  obtain ⟨y, hy, rfl⟩ := List.mem_map.1 hb
  have k1 := ((validB_iff x).1 (h1 x hx)).1
  have k2 : kindF y.code = 2 := by
    have := h2 y hy
    simp [properB] at this
    exact this.1
  rw [hab] at k1
  omega
theorem nodup_of {l : List Int} (h : ∀ (i k : Nat) (x y : Int), k < i → l[i]? = some x → l[k]? = some y → x ≠ y) : l.Nodup := by
  rw [List.Nodup, List.pairwise_iff_getElem]
  intro i j hi hj hij e
  exact h j i _ _ hij (List.getElem?_eq_getElem hj) (List.getElem?_eq_getElem hi) e.symm
theorem not_nodup {l : List Int} {i k : Nat} {x : Int} (hk : k < i) (h1 : l[i]? = some x) (h2 : l[k]? = some x) : ¬ l.Nodup := by
  rw [List.Nodup, List.pairwise_iff_getElem]
  intro h
  have hi := (List.getElem?_eq_some_iff.1 h1)
  have hj := (List.getElem?_eq_some_iff.1 h2)
  exact h k i hj.1 hi.1 hk (hj.2.trans hi.2.symm)
noncomputable def c22 : Code := Tryd.f22.body.getD .skip
set_option maxHeartbeats 4000000 in
theorem refValidate_sc (t : Tab) (σ : AS) (ht : TabOK t) : SC1 Cc 22 [.agg (encT t)] σ (i64 (validateF t)) σ := by
  refine W.body Tryd.func22 rfl 178 Tryd.ntmps22 _ Tryd.results22 (by simp) GEt_cl fun hσ => ?_
  have hel := ht.elen
  have hsl := ht.slen
  by_cases v1 : t.version < 1
  · have hv : validateF t = 1 := by unfold validateF; rw [if_pos (.inl v1)]
    rw [hv]
    repeat' (first
      | with_reducible refine W.seq ?_
      | with_reducible refine W.next ?_
      | with_reducible refine W.nil ?_
      | with_reducible refine W.skip ?_
      | with_reducible refine W.ret ?_
      | with_reducible refine W.ret_code ?_
      | with_reducible refine W.block ?_
      | with_reducible refine W.out ?_
      | with_reducible refine W.ret_blk ?_
      | with_reducible refine W.exit ?_
      | with_reducible refine W.exit_code ?_
      | with_reducible refine W.exit_here ?_
      | with_reducible refine W.leave_exit ?_
      | with_reducible refine W.leave_ret ?_
      | ((with_reducible refine W.exit_on ?h ?_); (case h => decide))
      | ((with_reducible apply W.reg); (case h => simp [T3, T23, T24, T27, T28, T30, v1]; exact ⟨rfl, rfl, rfl⟩))
      | ((with_reducible apply W.draw mixed); (case hB => kernel_rfl); (case hr => simp [T3, T23, T24, T27, T28, T30, v1]; rfl))
      | ((with_reducible apply W.cond); (case hc => simp; rfl); all_goals (intro hc_; try (cases hc_; done)))
      | ((with_reducible apply W.runX); (case _hc => rfl); (case h => simp [T3, T23, T24, T27, T28, T30, v1]; exact ⟨rfl, rfl, rfl⟩))
      | fail)
    with_reducible apply W.fin
    case h1 => simp <;> rfl
    case h2 => exact Wk.rfl
    case h3 => simp
    case h4 => exact hσ.clB.app (Nat.le_refl _)
    exact ⟨rfl, by simp⟩
  by_cases v2 : 99 < t.version
  · have hv : validateF t = 1 := by unfold validateF; rw [if_pos (.inr v2)]
    rw [hv]
    repeat' (first
      | with_reducible refine W.seq ?_
      | with_reducible refine W.next ?_
      | with_reducible refine W.nil ?_
      | with_reducible refine W.skip ?_
      | with_reducible refine W.ret ?_
      | with_reducible refine W.ret_code ?_
      | with_reducible refine W.block ?_
      | with_reducible refine W.out ?_
      | with_reducible refine W.ret_blk ?_
      | with_reducible refine W.exit ?_
      | with_reducible refine W.exit_code ?_
      | with_reducible refine W.exit_here ?_
      | with_reducible refine W.leave_exit ?_
      | with_reducible refine W.leave_ret ?_
      | ((with_reducible refine W.exit_on ?h ?_); (case h => decide))
      | ((with_reducible apply W.reg); (case h => simp [T3, T23, T24, T27, T28, T30, v1, v2]; exact ⟨rfl, rfl, rfl⟩))
      | ((with_reducible apply W.draw mixed); (case hB => kernel_rfl); (case hr => simp [T3, T23, T24, T27, T28, T30, v1, v2]; rfl))
      | ((with_reducible apply W.cond); (case hc => simp; rfl); all_goals (intro hc_; try (cases hc_; done)))
      | ((with_reducible apply W.runX); (case _hc => rfl); (case h => simp [T3, T23, T24, T27, T28, T30, v1, v2]; exact ⟨rfl, rfl, rfl⟩))
      | fail)
    with_reducible apply W.fin
    case h1 => simp <;> rfl
    case h2 => exact Wk.rfl
    case h3 => simp
    case h4 => exact hσ.clB.app (Nat.le_refl _)
    exact ⟨rfl, by simp⟩
  have hv0 : ¬ (t.version < 1 ∨ 99 < t.version) := by omega
  by_cases l1 : (40 : Int) < (t.entries.length : Int)
  · have hv : validateF t = 2 := by unfold validateF; rw [if_neg hv0, if_pos (.inl l1)]
    rw [hv]
    repeat' (first
      | with_reducible refine W.seq ?_
      | with_reducible refine W.next ?_
      | with_reducible refine W.nil ?_
      | with_reducible refine W.skip ?_
      | with_reducible refine W.ret ?_
      | with_reducible refine W.ret_code ?_
      | with_reducible refine W.block ?_
      | with_reducible refine W.out ?_
      | with_reducible refine W.ret_blk ?_
      | with_reducible refine W.exit ?_
      | with_reducible refine W.exit_code ?_
      | with_reducible refine W.exit_here ?_
      | with_reducible refine W.leave_exit ?_
      | with_reducible refine W.leave_ret ?_
      | ((with_reducible refine W.exit_on ?h ?_); (case h => decide))
      | ((with_reducible apply W.reg); (case h => simp [T3, T23, T24, T27, T28, T30, v1, v2, l1]; exact ⟨rfl, rfl, rfl⟩))
      | ((with_reducible apply W.draw mixed); (case hB => kernel_rfl); (case hr => simp [T3, T23, T24, T27, T28, T30, v1, v2, l1]; rfl))
      | ((with_reducible apply W.cond); (case hc => simp; rfl); all_goals (intro hc_; try (cases hc_; done)))
      | ((with_reducible apply W.runX); (case _hc => rfl); (case h => simp [T3, T23, T24, T27, T28, T30, v1, v2, l1]; exact ⟨rfl, rfl, rfl⟩))
      | fail)
    with_reducible apply W.fin
    case h1 => simp <;> rfl
    case h2 => exact Wk.rfl
    case h3 => simp
    case h4 => exact hσ.clB.app (Nat.le_refl _)
    exact ⟨rfl, by simp⟩
  by_cases l2 : (40 : Int) < (t.seqs.length : Int)
  · have hv : validateF t = 2 := by unfold validateF; rw [if_neg hv0, if_pos (.inr (.inl l2))]
    rw [hv]
    repeat' (first
      | with_reducible refine W.seq ?_
      | with_reducible refine W.next ?_
      | with_reducible refine W.nil ?_
      | with_reducible refine W.skip ?_
      | with_reducible refine W.ret ?_
      | with_reducible refine W.ret_code ?_
      | with_reducible refine W.block ?_
      | with_reducible refine W.out ?_
      | with_reducible refine W.ret_blk ?_
      | with_reducible refine W.exit ?_
      | with_reducible refine W.exit_code ?_
      | with_reducible refine W.exit_here ?_
      | with_reducible refine W.leave_exit ?_
      | with_reducible refine W.leave_ret ?_
      | ((with_reducible refine W.exit_on ?h ?_); (case h => decide))
      | ((with_reducible apply W.reg); (case h => simp [T3, T23, T24, T27, T28, T30, v1, v2, l1, l2]; exact ⟨rfl, rfl, rfl⟩))
      | ((with_reducible apply W.draw mixed); (case hB => kernel_rfl); (case hr => simp [T3, T23, T24, T27, T28, T30, v1, v2, l1, l2]; rfl))
      | ((with_reducible apply W.cond); (case hc => simp; rfl); all_goals (intro hc_; try (cases hc_; done)))
      | ((with_reducible apply W.runX); (case _hc => rfl); (case h => simp [T3, T23, T24, T27, T28, T30, v1, v2, l1, l2]; exact ⟨rfl, rfl, rfl⟩))
      | fail)
    with_reducible apply W.fin
    case h1 => simp <;> rfl
    case h2 => exact Wk.rfl
    case h3 => simp
    case h4 => exact hσ.clB.app (Nat.le_refl _)
    exact ⟨rfl, by simp⟩
  repeat' (first
    | with_reducible refine W.seq ?_
    | with_reducible refine W.next ?_
    | with_reducible refine W.nil ?_
    | with_reducible refine W.skip ?_
    | with_reducible refine W.ret ?_
    | with_reducible refine W.ret_code ?_
    | with_reducible refine W.block ?_
    | with_reducible refine W.out ?_
    | with_reducible refine W.ret_blk ?_
    | with_reducible refine W.exit ?_
    | with_reducible refine W.exit_code ?_
    | with_reducible refine W.exit_here ?_
    | with_reducible refine W.leave_exit ?_
    | with_reducible refine W.leave_ret ?_
    | ((with_reducible refine W.exit_on ?h ?_); (case h => decide))
    | ((with_reducible apply W.reg); (case h => simp [T3, T4, T23, T24, T27, T28, T30, T35, T49, v1, v2, l1, l2]; exact ⟨rfl, rfl, rfl⟩))
    | ((with_reducible apply W.draw mixed); (case hB => kernel_rfl); (case hr => simp [T3, T4, T23, T24, T27, T28, T30, T35, T49, v1, v2, l1, l2]; rfl))
    | ((with_reducible apply W.cond); (case hc => simp; rfl); all_goals (intro hc_; try (cases hc_; done)))
    | ((with_reducible apply W.runX); (case _hc => rfl); (case h => simp [T3, T4, T23, T24, T27, T28, T30, T35, T49, v1, v2, l1, l2]; exact ⟨rfl, rfl, rfl⟩))
    | fail)
  -- the numbers of codes
  with_reducible refine W.loopS (α := Nat) (fun j => [(1, .ptr σ.bx.length 0), (3, i64 j)]) (fun _ => ⟨σ.bx ++ [encT t], σ.tk⟩) (fun j => j ≤ t.seqs.length ∧ ∀ q ∈ t.seqs.take j, q.codes.length ≤ 20) (fun j => t.seqs.length - j) 0 ?_ ?_ ?_ ?_
  · exact ⟨Nat.zero_le _, by simp⟩
  · repeat (first | exact Sw.Sub.nil | refine Sw.Sub.cons (by simp) ?_)
  · simp
  intro j hj
  obtain ⟨hj1, hj2⟩ := hj
  (try dsimp only)
  by_cases hjl : j < t.seqs.length
  · obtain ⟨q, hq⟩ : ∃ q, t.seqs[j]? = some q := ⟨_, List.getElem?_eq_getElem hjl⟩
    have hq' : t.seqs[j] = q := (List.getElem?_eq_some_iff.1 hq).2
    have hqm : q ∈ t.seqs := List.mem_of_getElem? hq
    have hwj : IntKind.i64.wrap ((j : Int) + 1) = (j : Int) + 1 := wrap64 (by omega)
    have htk : t.seqs.take (j + 1) = t.seqs.take j ++ [q] := by rw [List.take_add_one, hq]; rfl
    by_cases h20 : 20 < (q.codes.length : Int)
    · have ha : t.seqs.any (fun q => decide (20 < q.codes.length)) = true := List.any_eq_true.2 ⟨q, hqm, by simp; omega⟩
      have hv : validateF t = 2 := by unfold validateF; rw [if_neg hv0, if_pos (.inr (.inr ha))]
      rw [hv]
      repeat' (first
        | with_reducible refine W.seq ?_
        | with_reducible refine W.next ?_
        | with_reducible refine W.nil ?_
        | with_reducible refine W.skip ?_
        | with_reducible refine W.ret ?_
        | with_reducible refine W.ret_code ?_
        | with_reducible refine W.block ?_
        | with_reducible refine W.out ?_
        | with_reducible refine W.ret_blk ?_
        | with_reducible refine W.exit ?_
        | with_reducible refine W.exit_code ?_
        | with_reducible refine W.exit_here ?_
        | with_reducible refine W.leave_exit ?_
        | with_reducible refine W.leave_ret ?_
        | ((with_reducible refine W.exit_on ?h ?_); (case h => decide))
        | ((with_reducible apply W.reg); (case h => simp [T3, T4, T23, T24, T27, T28, T30, T35, T49, hjl, hq', h20]; exact ⟨rfl, rfl, rfl⟩))
        | ((with_reducible apply W.draw mixed); (case hB => kernel_rfl); (case hr => simp [T3, T4, T23, T24, T27, T28, T30, T35, T49, hjl, hq', h20]; rfl))
        | ((with_reducible apply W.cond); (case hc => simp; rfl); all_goals (intro hc_; try (cases hc_; done)))
        | ((with_reducible apply W.runX); (case _hc => rfl); (case h => simp [T3, T4, T23, T24, T27, T28, T30, T35, T49, hjl, hq', h20]; exact ⟨rfl, rfl, rfl⟩))
        | fail)
      with_reducible apply W.fin
      case h1 => simp <;> rfl
      case h2 => exact Wk.rfl
      case h3 => simp
      case h4 => exact hσ.clB.app (Nat.le_refl _)
      exact ⟨rfl, by simp⟩
    · repeat' (first
        | with_reducible refine W.seq ?_
        | with_reducible refine W.next ?_
        | with_reducible refine W.nil ?_
        | with_reducible refine W.skip ?_
        | with_reducible refine W.ret ?_
        | with_reducible refine W.ret_code ?_
        | with_reducible refine W.block ?_
        | with_reducible refine W.out ?_
        | with_reducible refine W.ret_blk ?_
        | with_reducible refine W.exit ?_
        | with_reducible refine W.exit_code ?_
        | with_reducible refine W.exit_here ?_
        | with_reducible refine W.leave_exit ?_
        | with_reducible refine W.leave_ret ?_
        | ((with_reducible refine W.exit_on ?h ?_); (case h => decide))
        | ((with_reducible apply W.reg); (case h => simp [T3, T4, T23, T24, T27, T28, T30, T35, T49, hjl, hq', h20, hwj]; exact ⟨rfl, rfl, rfl⟩))
        | ((with_reducible apply W.draw mixed); (case hB => kernel_rfl); (case hr => simp [T3, T4, T23, T24, T27, T28, T30, T35, T49, hjl, hq', h20, hwj]; rfl))
        | ((with_reducible apply W.cond); (case hc => simp; rfl); all_goals (intro hc_; try (cases hc_; done)))
        | ((with_reducible apply W.runX); (case _hc => rfl); (case h => simp [T3, T4, T23, T24, T27, T28, T30, T35, T49, hjl, hq', h20, hwj]; exact ⟨rfl, rfl, rfl⟩))
        | fail)
      refine W.hand (j + 1) ?_ ?_ ?_ rfl
      · refine ⟨hjl, fun q' hq' => ?_⟩
        rw [htk] at hq'
        rcases List.mem_append.1 hq' with h | h
        · exact hj2 q' h
        · rw [List.mem_singleton.1 h]; omega
      · omega
      · repeat (first | exact Sw.Sub.nil | refine Sw.Sub.cons (by simp) ?_)
  have hje : j = t.seqs.length := by omega
  have ha : t.seqs.any (fun q => decide (20 < q.codes.length)) = false := by
    rw [List.any_eq_false]
    intro q hq
    have := hj2 q (by rw [hje, List.take_length]; exact hq)
    simp; omega
  have hv1 : ¬ ((40 : Int) < (t.entries.length : Int) ∨ (40 : Int) < (t.seqs.length : Int) ∨ t.seqs.any (fun q => decide (20 < q.codes.length)) = true) := by
    rintro (h | h | h)
    · exact l1 h
    · exact l2 h
    · rw [ha] at h; cases h
  clear ha hj2 hj1
  repeat' (first
    | with_reducible refine W.seq ?_
    | with_reducible refine W.next ?_
    | with_reducible refine W.nil ?_
    | with_reducible refine W.skip ?_
    | with_reducible refine W.ret ?_
    | with_reducible refine W.ret_code ?_
    | with_reducible refine W.block ?_
    | with_reducible refine W.out ?_
    | with_reducible refine W.ret_blk ?_
    | with_reducible refine W.exit ?_
    | with_reducible refine W.exit_code ?_
    | with_reducible refine W.exit_here ?_
    | with_reducible refine W.leave_exit ?_
    | with_reducible refine W.leave_ret ?_
    | ((with_reducible refine W.exit_on ?h ?_); (case h => decide))
    | ((with_reducible apply W.reg); (case h => simp [T3, T4, T23, T24, T27, T28, T30, T35, T49, hjl]; exact ⟨rfl, rfl, rfl⟩))
    | ((with_reducible apply W.draw mixed); (case hB => kernel_rfl); (case hr => simp [T3, T4, T23, T24, T27, T28, T30, T35, T49, hjl]; rfl))
    | ((with_reducible apply W.cond); (case hc => simp; rfl); all_goals (intro hc_; try (cases hc_; done)))
    | ((with_reducible apply W.runX); (case _hc => rfl); (case h => simp [T3, T4, T23, T24, T27, T28, T30, T35, T49, hjl]; exact ⟨rfl, rfl, rfl⟩))
    | fail)
  -- the elements
  with_reducible refine W.loopF GEt_cl (α := Nat) (fun j => [(1, .ptr σ.bx.length 0), (4, i64 j)]) (fun _ => ⟨σ.bx ++ [encT t], σ.tk⟩) (fun j => j ≤ t.entries.length ∧ ∀ e ∈ t.entries.take j, isEl e.element = true) (fun j => t.entries.length - j) 0 ?_ ?_ ?_ ?_
  · exact ⟨Nat.zero_le _, by simp⟩
  · repeat (first | exact Sw.Sub.nil | refine Sw.Sub.cons (by simp) ?_)
  · simp
  intro j2 hj2
  obtain ⟨hj1, hj3⟩ := hj2
  (try dsimp only)
  by_cases hjl2 : j2 < t.entries.length
  · obtain ⟨q, hq⟩ : ∃ q, t.entries[j2]? = some q := ⟨_, List.getElem?_eq_getElem hjl2⟩
    have hq' : t.entries[j2] = q := (List.getElem?_eq_some_iff.1 hq).2
    have hqm : q ∈ t.entries := List.mem_of_getElem? hq
    have hei := (ht.entries q hqm).element
    have hwj : IntKind.i64.wrap ((j2 : Int) + 1) = (j2 : Int) + 1 := wrap64 (by omega)
    have htk : t.entries.take (j2 + 1) = t.entries.take j2 ++ [q] := by rw [List.take_add_one, hq]; rfl
    cases hb : isEl q.element
    · have hv : validateF t = 4 := by
        unfold validateF
        rw [if_neg hv0, if_neg hv1, if_pos (List.any_eq_true.2 ⟨q, hqm, by simp [hb]⟩)]
      rw [hv]
      repeat' (first
        | with_reducible refine W.seq ?_
        | with_reducible refine W.next ?_
        | with_reducible refine W.nil ?_
        | with_reducible refine W.skip ?_
        | with_reducible refine W.ret ?_
        | with_reducible refine W.ret_code ?_
        | with_reducible refine W.block ?_
        | with_reducible refine W.out ?_
        | with_reducible refine W.ret_blk ?_
        | with_reducible refine W.exit ?_
        | with_reducible refine W.exit_code ?_
        | with_reducible refine W.exit_here ?_
        | with_reducible refine W.leave_exit ?_
        | with_reducible refine W.leave_ret ?_
        | ((with_reducible refine W.exit_on ?h ?_); (case h => decide))
        | ((with_reducible apply W.reg); (case h => simp [T3, T4, T23, T24, T27, T28, T30, T35, T49, T62, hjl2, hq']; exact ⟨rfl, rfl, rfl⟩))
        | ((with_reducible apply W.draw mixed); (case hB => kernel_rfl); (case hr => simp [T3, T4, T23, T24, T27, T28, T30, T35, T49, T62, hjl2, hq']; rfl))
        | ((with_reducible apply W.cond); (case hc => simp; rfl); all_goals (intro hc_; try (cases hc_; done)))
        | ((with_reducible apply W.runX); (case _hc => rfl); (case h => simp [T3, T4, T23, T24, T27, T28, T30, T35, T49, T62, hjl2, hq']; exact ⟨rfl, rfl, rfl⟩))
        | ((with_reducible apply W.callR go29); (case ho => rfl); (case hc => rfl); (case hf => rfl); (case hg => first | rfl | simp [T3, T4, T23, T24, T27, T28, T30, T35, T49, T62, hjl2, hq']); (case hd => rfl); (case ha => simp [T3, T4, T23, T24, T27, T28, T30, T35, T49, T62, hjl2, hq']; rfl); (case hargs => rfl); (case hs => exact refDescribe_sc _ _ hei); rintro _ _ ⟨sn, hn_, dn, ln, en, rfl, he_, hl_, rfl⟩; simp [hb] at he_; subst he_)
        | fail)
      with_reducible apply W.fin
      case h1 => simp <;> rfl
      case h2 => exact Wk.rfl
      case h3 => simp
      case h4 => exact hσ.clB.app (Nat.le_refl _)
      exact ⟨rfl, by simp⟩
    · repeat' (first
        | with_reducible refine W.seq ?_
        | with_reducible refine W.next ?_
        | with_reducible refine W.nil ?_
        | with_reducible refine W.skip ?_
        | with_reducible refine W.ret ?_
        | with_reducible refine W.ret_code ?_
        | with_reducible refine W.block ?_
        | with_reducible refine W.out ?_
        | with_reducible refine W.ret_blk ?_
        | with_reducible refine W.exit ?_
        | with_reducible refine W.exit_code ?_
        | with_reducible refine W.exit_here ?_
        | with_reducible refine W.leave_exit ?_
        | with_reducible refine W.leave_ret ?_
        | ((with_reducible refine W.exit_on ?h ?_); (case h => decide))
        | ((with_reducible apply W.reg); (case h => simp [T3, T4, T23, T24, T27, T28, T30, T35, T49, T62, hjl2, hq', hwj]; exact ⟨rfl, rfl, rfl⟩))
        | ((with_reducible apply W.draw mixed); (case hB => kernel_rfl); (case hr => simp [T3, T4, T23, T24, T27, T28, T30, T35, T49, T62, hjl2, hq', hwj]; rfl))
        | ((with_reducible apply W.cond); (case hc => simp; rfl); all_goals (intro hc_; try (cases hc_; done)))
        | ((with_reducible apply W.runX); (case _hc => rfl); (case h => simp [T3, T4, T23, T24, T27, T28, T30, T35, T49, T62, hjl2, hq', hwj]; exact ⟨rfl, rfl, rfl⟩))
        | ((with_reducible apply W.callR go29); (case ho => rfl); (case hc => rfl); (case hf => rfl); (case hg => first | rfl | simp [T3, T4, T23, T24, T27, T28, T30, T35, T49, T62, hjl2, hq', hwj]); (case hd => rfl); (case ha => simp [T3, T4, T23, T24, T27, T28, T30, T35, T49, T62, hjl2, hq', hwj]; rfl); (case hargs => rfl); (case hs => exact refDescribe_sc _ _ hei); rintro _ _ ⟨sn, hn_, dn, ln, en, rfl, he_, hl_, rfl⟩; simp [hb] at he_; subst he_)
        | fail)
      refine W.handF (j2 + 1) (σ.bx.length + 1) σ.tk.length ?_ ?_ ?_ ?_ ?_ (ClPF.get ?_) ?_ ?_
      · refine ⟨hjl2, fun q' hq' => ?_⟩
        rw [htk] at hq'
        rcases List.mem_append.1 hq' with h | h
        · exact hj3 q' h
        · rw [List.mem_singleton.1 h]; exact hb
      · omega
      · repeat (first | exact Sw.Sub.nil | refine Sw.Sub.cons (by simp) ?_)
      · exact Nat.le_succ _
      · exact Nat.le_refl _
      · simp [ClPF]
      · exact clB_ext (ex := [encT t]) (r := [_]) hσ.clB rfl (fun ps hps => by rw [List.mem_singleton.1 hps]; exact encT_cl _ _ _)
      · have := take_ext σ.bx [encT t] [[.val (.string sn), i64 ln, i64 hn_, i64 dn]]
        simp only [List.take_length]
        exact congrArg (fun b => AS.mk b σ.tk) this.symm
  have hje2 : j2 = t.entries.length := by omega
  have hels : ∀ e ∈ t.entries, isEl e.element = true := by rw [hje2, List.take_length] at hj3; exact hj3
  have hv2 : ¬ t.entries.any (fun e => !isEl e.element) = true := by
    rw [List.any_eq_true]
    rintro ⟨e, he, h⟩
    rw [hels e he] at h; cases h
  clear hj3 hj1
  repeat' (first
    | with_reducible refine W.seq ?_
    | with_reducible refine W.next ?_
    | with_reducible refine W.nil ?_
    | with_reducible refine W.skip ?_
    | with_reducible refine W.ret ?_
    | with_reducible refine W.ret_code ?_
    | with_reducible refine W.block ?_
    | with_reducible refine W.out ?_
    | with_reducible refine W.ret_blk ?_
    | with_reducible refine W.exit ?_
    | with_reducible refine W.exit_code ?_
    | with_reducible refine W.exit_here ?_
    | with_reducible refine W.leave_exit ?_
    | with_reducible refine W.leave_ret ?_
    | ((with_reducible refine W.exit_on ?h ?_); (case h => decide))
    | ((with_reducible apply W.reg); (case h => simp [T3, T4, T23, T24, T27, T28, T30, T35, T49, hjl2]; exact ⟨rfl, rfl, rfl⟩))
    | ((with_reducible apply W.draw mixed); (case hB => kernel_rfl); (case hr => simp [T3, T4, T23, T24, T27, T28, T30, T35, T49, hjl2]; rfl))
    | ((with_reducible apply W.cond); (case hc => simp; rfl); all_goals (intro hc_; try (cases hc_; done)))
    | ((with_reducible apply W.runX); (case _hc => rfl); (case h => simp [T3, T4, T23, T24, T27, T28, T30, T35, T49, hjl2]; exact ⟨rfl, rfl, rfl⟩))
    | fail)
  -- the entries
  with_reducible refine W.loopS (α := Nat) (fun j => [(1, .ptr σ.bx.length 0), (8, i64 j), (7, bV ((t.entries.take j).all validR))]) (fun _ => ⟨σ.bx ++ [encT t], σ.tk⟩) (fun j => j ≤ t.entries.length) (fun j => t.entries.length - j) 0 ?_ ?_ ?_ ?_
  · exact Nat.zero_le _
  · repeat (first | exact Sw.Sub.nil | refine Sw.Sub.cons (by simp) ?_)
  · rfl
  intro j3 hj3
  (try dsimp only)
  by_cases hjl3 : j3 < t.entries.length
  · obtain ⟨q, hq⟩ : ∃ q, t.entries[j3]? = some q := ⟨_, List.getElem?_eq_getElem hjl3⟩
    have hq' : t.entries[j3] = q := (List.getElem?_eq_some_iff.1 hq).2
    have hqm : q ∈ t.entries := List.mem_of_getElem? hq
    have heo := ht.entries q hqm
    have hwj : IntKind.i64.wrap ((j3 : Int) + 1) = (j3 : Int) + 1 := wrap64 (by omega)
    have htk : (t.entries.take (j3 + 1)).all validR = ((t.entries.take j3).all validR && validR q) := by rw [List.take_add_one, hq]; simp
    have hne : ∀ b, (t.entries.take (j3 + 1)).all validR = b → [(1, .ptr σ.bx.length 0), (8, i64 ((j3 + 1 : Nat) : Int)), (7, bV ((t.entries.take (j3 + 1)).all validR))] = [(1, .ptr σ.bx.length 0), (8, i64 ((j3 + 1 : Nat) : Int)), (7, bV b)] := fun b h => by rw [h]
    generalize (t.entries.take j3).all validR = ok at htk
    cases ok
    · repeat' (first
        | with_reducible refine W.seq ?_
        | with_reducible refine W.next ?_
        | with_reducible refine W.nil ?_
        | with_reducible refine W.skip ?_
        | with_reducible refine W.ret ?_
        | with_reducible refine W.ret_code ?_
        | with_reducible refine W.block ?_
        | with_reducible refine W.out ?_
        | with_reducible refine W.ret_blk ?_
        | with_reducible refine W.exit ?_
        | with_reducible refine W.exit_code ?_
        | with_reducible refine W.exit_here ?_
        | with_reducible refine W.leave_exit ?_
        | with_reducible refine W.leave_ret ?_
        | ((with_reducible refine W.exit_on ?h ?_); (case h => decide))
        | ((with_reducible apply W.reg); (case h => simp [T3, T4, T23, T24, T27, T28, T30, T35, T49, hjl3, hq', hwj]; exact ⟨rfl, rfl, rfl⟩))
        | ((with_reducible apply W.draw mixed); (case hB => kernel_rfl); (case hr => simp [T3, T4, T23, T24, T27, T28, T30, T35, T49, hjl3, hq', hwj]; rfl))
        | ((with_reducible apply W.cond); (case hc => simp; rfl); all_goals (intro hc_; try (cases hc_; done)))
        | ((with_reducible apply W.runX); (case _hc => rfl); (case h => simp [T3, T4, T23, T24, T27, T28, T30, T35, T49, hjl3, hq', hwj]; exact ⟨rfl, rfl, rfl⟩))
        | fail)
      refine W.hand (j3 + 1) hjl3 ?_ ?_ rfl
      · omega
      · rw [hne _ htk]
        repeat (first | exact Sw.Sub.nil | refine Sw.Sub.cons (by simp) ?_)
    · repeat' (first
        | with_reducible refine W.seq ?_
        | with_reducible refine W.next ?_
        | with_reducible refine W.nil ?_
        | with_reducible refine W.skip ?_
        | with_reducible refine W.ret ?_
        | with_reducible refine W.ret_code ?_
        | with_reducible refine W.block ?_
        | with_reducible refine W.out ?_
        | with_reducible refine W.ret_blk ?_
        | with_reducible refine W.exit ?_
        | with_reducible refine W.exit_code ?_
        | with_reducible refine W.exit_here ?_
        | with_reducible refine W.leave_exit ?_
        | with_reducible refine W.leave_ret ?_
        | ((with_reducible refine W.exit_on ?h ?_); (case h => decide))
        | ((with_reducible apply W.reg); (case h => simp [T3, T4, T23, T24, T27, T28, T30, T35, T49, hjl3, hq', hwj]; exact ⟨rfl, rfl, rfl⟩))
        | ((with_reducible apply W.draw mixed); (case hB => kernel_rfl); (case hr => simp [T3, T4, T23, T24, T27, T28, T30, T35, T49, hjl3, hq', hwj]; rfl))
        | ((with_reducible apply W.cond); (case hc => simp; rfl); all_goals (intro hc_; try (cases hc_; done)))
        | ((with_reducible apply W.runX); (case _hc => rfl); (case h => simp [T3, T4, T23, T24, T27, T28, T30, T35, T49, hjl3, hq', hwj]; exact ⟨rfl, rfl, rfl⟩))
        | ((with_reducible apply W.call1 go39); (case ho => rfl); (case hc => rfl); (case hf => rfl); (case hg => first | rfl | simp [T3, T4, T23, T24, T27, T28, T30, T35, T49, hjl3, hq', hwj]); (case hd => rfl); (case ha => simp [T3, T4, T23, T24, T27, T28, T30, T35, T49, hjl3, hq', hwj]; rfl); (case hargs => rfl); (case hs => exact refvalid_sc _ _ heo))
        | fail)
      refine W.hand (j3 + 1) hjl3 ?_ ?_ rfl
      · omega
      · rw [hne _ htk]
        repeat (first | exact Sw.Sub.nil | refine Sw.Sub.cons (by simp) ?_)
  have hje3 : j3 = t.entries.length := by omega
  rw [hje3, List.take_length]
  clear hj3
  repeat' (first
    | with_reducible refine W.seq ?_
    | with_reducible refine W.next ?_
    | with_reducible refine W.nil ?_
    | with_reducible refine W.skip ?_
    | with_reducible refine W.ret ?_
    | with_reducible refine W.ret_code ?_
    | with_reducible refine W.block ?_
    | with_reducible refine W.out ?_
    | with_reducible refine W.ret_blk ?_
    | with_reducible refine W.exit ?_
    | with_reducible refine W.exit_code ?_
    | with_reducible refine W.exit_here ?_
    | with_reducible refine W.leave_exit ?_
    | with_reducible refine W.leave_ret ?_
    | ((with_reducible refine W.exit_on ?h ?_); (case h => decide))
    | ((with_reducible apply W.reg); (case h => simp [T3, T4, T23, T24, T27, T28, T30, T35, T49, hjl3]; exact ⟨rfl, rfl, rfl⟩))
    | ((with_reducible apply W.draw mixed); (case hB => kernel_rfl); (case hr => simp [T3, T4, T23, T24, T27, T28, T30, T35, T49, hjl3]; rfl))
    | ((with_reducible apply W.cond); (case hc => simp; rfl); all_goals (intro hc_; try (cases hc_; done)))
    | ((with_reducible apply W.runX); (case _hc => rfl); (case h => simp [T3, T4, T23, T24, T27, T28, T30, T35, T49, hjl3]; exact ⟨rfl, rfl, rfl⟩))
    | fail)
  -- the sequences
  with_reducible refine W.loopS (α := Nat) (fun j => [(1, .ptr σ.bx.length 0), (9, i64 j), (7, bV (t.entries.all validR && (t.seqs.take j).all properB))]) (fun _ => ⟨σ.bx ++ [encT t], σ.tk⟩) (fun j => j ≤ t.seqs.length) (fun j => t.seqs.length - j) 0 ?_ ?_ ?_ ?_
  · exact Nat.zero_le _
  · repeat (first | exact Sw.Sub.nil | refine Sw.Sub.cons (by simp) ?_)
  · rfl
  intro j4 hj4
  (try dsimp only)
  by_cases hjl4 : j4 < t.seqs.length
  · obtain ⟨q, hq⟩ : ∃ q, t.seqs[j4]? = some q := ⟨_, List.getElem?_eq_getElem hjl4⟩
    have hq' : t.seqs[j4] = q := (List.getElem?_eq_some_iff.1 hq).2
    have hqm : q ∈ t.seqs := List.mem_of_getElem? hq
    have hqo := ht.seqs q hqm
    have hqc := hqo.code
    have hwj : IntKind.i64.wrap ((j4 : Int) + 1) = (j4 : Int) + 1 := wrap64 (by omega)
    have htk : (t.entries.all validR && (t.seqs.take (j4 + 1)).all properB) = ((t.entries.all validR && (t.seqs.take j4).all properB) && properB q) := by rw [List.take_add_one, hq]; simp [Bool.and_assoc]
    have hne : ∀ b, (t.entries.all validR && (t.seqs.take (j4 + 1)).all properB) = b → [(1, .ptr σ.bx.length 0), (9, i64 ((j4 + 1 : Nat) : Int)), (7, bV (t.entries.all validR && (t.seqs.take (j4 + 1)).all properB))] = [(1, .ptr σ.bx.length 0), (9, i64 ((j4 + 1 : Nat) : Int)), (7, bV b)] := fun b h => by rw [h]
    generalize (t.entries.all validR && (t.seqs.take j4).all properB) = ok at htk
    refine W.sub (pf' := [(1, .ptr σ.bx.length 0), (9, i64 (j4 : Int)), (7, bV ok)]) ?_ (by repeat (first | exact Sw.Sub.nil | refine Sw.Sub.cons (by simp) ?_))
    have inner : ∀ (ok2 : Bool) (Q : Post) (kk : List KI), SW Cc ⟨178, σ.bx.length, σ.tk.length⟩ (cAt [2, 2, 2, 2, 2, 2, 2, 1, 2, 3, 4, 2, 1, 3, 2, 2, 3] c22) (Cont Cc ⟨178, σ.bx.length, σ.tk.length⟩ (thenP (MidP (fun _ : Unit => [(1, .ptr σ.bx.length 0), (9, i64 (j4 : Int)), (7, bV (ok2 && q.codes.all fun c => !(kindF c == 0)))]) (fun _ => ⟨σ.bx ++ [encT t], σ.tk⟩) (fun _ => True)) (Cont Cc ⟨178, σ.bx.length, σ.tk.length⟩ Q kk)) [.blk 8])
        [(1, .ptr σ.bx.length 0), (9, i64 (j4 : Int)), (7, bV ok2), (10, i64 0)] ⟨σ.bx ++ [encT t], σ.tk⟩ := by
      intro ok2 Q kk
      change SW Cc ⟨178, σ.bx.length, σ.tk.length⟩ (Code.loop _) _ _ _
      with_reducible refine W.loopS (α := Nat) (fun k => [(1, .ptr σ.bx.length 0), (9, i64 (j4 : Int)), (10, i64 k), (7, bV (ok2 && (q.codes.take k).all fun c => !(kindF c == 0)))]) (fun _ => ⟨σ.bx ++ [encT t], σ.tk⟩) (fun k => k ≤ q.codes.length) (fun k => q.codes.length - k) 0 ?_ ?_ ?_ ?_
      · exact Nat.zero_le _
      · repeat (first | exact Sw.Sub.nil | refine Sw.Sub.cons (by simp) ?_)
      · rfl
      intro k hk
      (try dsimp only)
      by_cases hkl : k < q.codes.length
      · obtain ⟨c, hc⟩ : ∃ c, q.codes[k]? = some c := ⟨_, List.getElem?_eq_getElem hkl⟩
        have hc' : q.codes[k] = c := (List.getElem?_eq_some_iff.1 hc).2
        have hci := hqo.codes c (List.mem_of_getElem? hc)
        have hql := hqo.len
        have hwk : IntKind.i64.wrap ((k : Int) + 1) = (k : Int) + 1 := wrap64 (by omega)
        have htk2 : (ok2 && (q.codes.take (k + 1)).all fun c => !(kindF c == 0)) = ((ok2 && (q.codes.take k).all fun c => !(kindF c == 0)) && !(kindF c == 0)) := by rw [List.take_add_one, hc]; simp [Bool.and_assoc]
        have hne2 : ∀ b, (ok2 && (q.codes.take (k + 1)).all fun c => !(kindF c == 0)) = b → [(1, .ptr σ.bx.length 0), (9, i64 (j4 : Int)), (10, i64 ((k + 1 : Nat) : Int)), (7, bV (ok2 && (q.codes.take (k + 1)).all fun c => !(kindF c == 0)))] = [(1, .ptr σ.bx.length 0), (9, i64 (j4 : Int)), (10, i64 ((k + 1 : Nat) : Int)), (7, bV b)] := fun b h => by rw [h]
        generalize (ok2 && (q.codes.take k).all fun c => !(kindF c == 0)) = ok3 at htk2
        cases ok3
        · repeat' (first
            | with_reducible refine W.seq ?_
            | with_reducible refine W.next ?_
            | with_reducible refine W.nil ?_
            | with_reducible refine W.skip ?_
            | with_reducible refine W.ret ?_
            | with_reducible refine W.ret_code ?_
            | with_reducible refine W.block ?_
            | with_reducible refine W.out ?_
            | with_reducible refine W.ret_blk ?_
            | with_reducible refine W.exit ?_
            | with_reducible refine W.exit_code ?_
            | with_reducible refine W.exit_here ?_
            | with_reducible refine W.leave_exit ?_
            | with_reducible refine W.leave_ret ?_
            | ((with_reducible refine W.exit_on ?h ?_); (case h => decide))
            | ((with_reducible apply W.reg); (case h => simp [T3, T4, T23, T24, T27, T28, T30, T35, T49, hjl4, hq', hkl, hc', hwk]; exact ⟨rfl, rfl, rfl⟩))
            | ((with_reducible apply W.draw mixed); (case hB => kernel_rfl); (case hr => simp [T3, T4, T23, T24, T27, T28, T30, T35, T49, hjl4, hq', hkl, hc', hwk]; rfl))
            | ((with_reducible apply W.cond); (case hc => simp; rfl); all_goals (intro hc_; try (cases hc_; done)))
            | ((with_reducible apply W.runX); (case _hc => rfl); (case h => simp [T3, T4, T23, T24, T27, T28, T30, T35, T49, hjl4, hq', hkl, hc', hwk]; exact ⟨rfl, rfl, rfl⟩))
            | fail)
          refine W.hand (k + 1) hkl ?_ ?_ rfl
          · omega
          · rw [hne2 _ htk2]
            repeat (first | exact Sw.Sub.nil | refine Sw.Sub.cons (by simp) ?_)
        · repeat' (first
            | with_reducible refine W.seq ?_
            | with_reducible refine W.next ?_
            | with_reducible refine W.nil ?_
            | with_reducible refine W.skip ?_
            | with_reducible refine W.ret ?_
            | with_reducible refine W.ret_code ?_
            | with_reducible refine W.block ?_
            | with_reducible refine W.out ?_
            | with_reducible refine W.ret_blk ?_
            | with_reducible refine W.exit ?_
            | with_reducible refine W.exit_code ?_
            | with_reducible refine W.exit_here ?_
            | with_reducible refine W.leave_exit ?_
            | with_reducible refine W.leave_ret ?_
            | ((with_reducible refine W.exit_on ?h ?_); (case h => decide))
            | ((with_reducible apply W.reg); (case h => simp [T3, T4, T23, T24, T27, T28, T30, T35, T49, hjl4, hq', hkl, hc', hwk]; exact ⟨rfl, rfl, rfl⟩))
            | ((with_reducible apply W.draw mixed); (case hB => kernel_rfl); (case hr => simp [T3, T4, T23, T24, T27, T28, T30, T35, T49, hjl4, hq', hkl, hc', hwk]; rfl))
            | ((with_reducible apply W.cond); (case hc => simp; rfl); all_goals (intro hc_; try (cases hc_; done)))
            | ((with_reducible apply W.runX); (case _hc => rfl); (case h => simp [T3, T4, T23, T24, T27, T28, T30, T35, T49, hjl4, hq', hkl, hc', hwk]; exact ⟨rfl, rfl, rfl⟩))
            | ((with_reducible apply W.call1 go40); (case ho => rfl); (case hc => rfl); (case hf => rfl); (case hg => first | rfl | simp [T3, T4, T23, T24, T27, T28, T30, T35, T49, hjl4, hq', hkl, hc', hwk]); (case hd => rfl); (case ha => simp [T3, T4, T23, T24, T27, T28, T30, T35, T49, hjl4, hq', hkl, hc', hwk]; rfl); (case hargs => rfl); (case hs => exact kind_sc _ _ hci))
            | fail)
          refine W.hand (k + 1) hkl ?_ ?_ rfl
          · omega
          · rw [hne2 _ htk2]
            repeat (first | exact Sw.Sub.nil | refine Sw.Sub.cons (by first | (simp; done) | (simp; rfl)) ?_)
      have hke : k = q.codes.length := by omega
      rw [hke, List.take_length]
      repeat' (first
        | with_reducible refine W.seq ?_
        | with_reducible refine W.next ?_
        | with_reducible refine W.nil ?_
        | with_reducible refine W.skip ?_
        | with_reducible refine W.ret ?_
        | with_reducible refine W.ret_code ?_
        | with_reducible refine W.block ?_
        | with_reducible refine W.out ?_
        | with_reducible refine W.ret_blk ?_
        | with_reducible refine W.exit ?_
        | with_reducible refine W.exit_code ?_
        | with_reducible refine W.exit_here ?_
        | with_reducible refine W.leave_exit ?_
        | with_reducible refine W.leave_ret ?_
        | ((with_reducible refine W.exit_on ?h ?_); (case h => decide))
        | ((with_reducible apply W.reg); (case h => simp [T3, T4, T23, T24, T27, T28, T30, T35, T49, hjl4, hq', hkl]; exact ⟨rfl, rfl, rfl⟩))
        | ((with_reducible apply W.draw mixed); (case hB => kernel_rfl); (case hr => simp [T3, T4, T23, T24, T27, T28, T30, T35, T49, hjl4, hq', hkl]; rfl))
        | ((with_reducible apply W.cond); (case hc => simp; rfl); all_goals (intro hc_; try (cases hc_; done)))
        | ((with_reducible apply W.runX); (case _hc => rfl); (case h => simp [T3, T4, T23, T24, T27, T28, T30, T35, T49, hjl4, hq', hkl]; exact ⟨rfl, rfl, rfl⟩))
        | fail)
      refine W.mid () trivial ?_ rfl
      repeat (first | exact Sw.Sub.nil | refine Sw.Sub.cons (by simp) ?_)
    have hpr : properB q = ((kindF q.code == 2) && q.codes.all fun c => !(kindF c == 0)) := by unfold properB; rw [List.not_any_eq_all_not]
    cases ok
    · repeat' (first
        | with_reducible refine W.seq ?_
        | with_reducible refine W.next ?_
        | with_reducible refine W.nil ?_
        | with_reducible refine W.skip ?_
        | with_reducible refine W.ret ?_
        | with_reducible refine W.ret_code ?_
        | with_reducible refine W.block ?_
        | with_reducible refine W.out ?_
        | with_reducible refine W.ret_blk ?_
        | with_reducible refine W.exit ?_
        | with_reducible refine W.exit_code ?_
        | with_reducible refine W.exit_here ?_
        | with_reducible refine W.leave_exit ?_
        | with_reducible refine W.leave_ret ?_
        | ((with_reducible refine W.exit_on ?h ?_); (case h => decide))
        | ((with_reducible apply W.reg); (case h => simp [T3, T4, T23, T24, T27, T28, T30, T35, T49, hjl4, hq', hwj]; exact ⟨rfl, rfl, rfl⟩))
        | ((with_reducible apply W.draw mixed); (case hB => kernel_rfl); (case hr => simp [T3, T4, T23, T24, T27, T28, T30, T35, T49, hjl4, hq', hwj]; rfl))
        | ((with_reducible apply W.cond); (case hc => simp; rfl); all_goals (intro hc_; try (cases hc_; done)))
        | ((with_reducible apply W.runX); (case _hc => rfl); (case h => simp [T3, T4, T23, T24, T27, T28, T30, T35, T49, hjl4, hq', hwj]; exact ⟨rfl, rfl, rfl⟩))
        | fail)
      refine W.cutG (inner false _ _) ?_ ?_
      · repeat (first | exact Sw.Sub.nil | refine Sw.Sub.cons (by simp) ?_)
      · rintro _ pf - hs
        with_reducible refine W.out ?_
        with_reducible refine W.next ?_
        refine W.sub ?_ hs
        repeat' (first
          | with_reducible refine W.seq ?_
          | with_reducible refine W.next ?_
          | with_reducible refine W.nil ?_
          | with_reducible refine W.skip ?_
          | with_reducible refine W.ret ?_
          | with_reducible refine W.ret_code ?_
          | with_reducible refine W.block ?_
          | with_reducible refine W.out ?_
          | with_reducible refine W.ret_blk ?_
          | with_reducible refine W.exit ?_
          | with_reducible refine W.exit_code ?_
          | with_reducible refine W.exit_here ?_
          | with_reducible refine W.leave_exit ?_
          | with_reducible refine W.leave_ret ?_
          | ((with_reducible refine W.exit_on ?h ?_); (case h => decide))
          | ((with_reducible apply W.reg); (case h => simp [T3, T4, T23, T24, T27, T28, T30, T35, T49, hjl4, hq', hwj]; exact ⟨rfl, rfl, rfl⟩))
          | ((with_reducible apply W.draw mixed); (case hB => kernel_rfl); (case hr => simp [T3, T4, T23, T24, T27, T28, T30, T35, T49, hjl4, hq', hwj]; rfl))
          | ((with_reducible apply W.cond); (case hc => simp; rfl); all_goals (intro hc_; try (cases hc_; done)))
          | ((with_reducible apply W.runX); (case _hc => rfl); (case h => simp [T3, T4, T23, T24, T27, T28, T30, T35, T49, hjl4, hq', hwj]; exact ⟨rfl, rfl, rfl⟩))
          | fail)
        refine W.hand (j4 + 1) hjl4 ?_ ?_ rfl
        · omega
        · rw [hne _ htk]
          repeat (first | exact Sw.Sub.nil | refine Sw.Sub.cons (by simp) ?_)
    · repeat' (first
        | with_reducible refine W.seq ?_
        | with_reducible refine W.next ?_
        | with_reducible refine W.nil ?_
        | with_reducible refine W.skip ?_
        | with_reducible refine W.ret ?_
        | with_reducible refine W.ret_code ?_
        | with_reducible refine W.block ?_
        | with_reducible refine W.out ?_
        | with_reducible refine W.ret_blk ?_
        | with_reducible refine W.exit ?_
        | with_reducible refine W.exit_code ?_
        | with_reducible refine W.exit_here ?_
        | with_reducible refine W.leave_exit ?_
        | with_reducible refine W.leave_ret ?_
        | ((with_reducible refine W.exit_on ?h ?_); (case h => decide))
        | ((with_reducible apply W.reg); (case h => simp [T3, T4, T23, T24, T27, T28, T30, T35, T49, hjl4, hq', hwj]; exact ⟨rfl, rfl, rfl⟩))
        | ((with_reducible apply W.draw mixed); (case hB => kernel_rfl); (case hr => simp [T3, T4, T23, T24, T27, T28, T30, T35, T49, hjl4, hq', hwj]; rfl))
        | ((with_reducible apply W.cond); (case hc => simp; rfl); all_goals (intro hc_; try (cases hc_; done)))
        | ((with_reducible apply W.runX); (case _hc => rfl); (case h => simp [T3, T4, T23, T24, T27, T28, T30, T35, T49, hjl4, hq', hwj]; exact ⟨rfl, rfl, rfl⟩))
        | ((with_reducible apply W.call1 go40); (case ho => rfl); (case hc => rfl); (case hf => rfl); (case hg => first | rfl | simp [T3, T4, T23, T24, T27, T28, T30, T35, T49, hjl4, hq', hwj]); (case hd => rfl); (case ha => simp [T3, T4, T23, T24, T27, T28, T30, T35, T49, hjl4, hq', hwj]; rfl); (case hargs => rfl); (case hs => exact kind_sc _ _ hqc))
        | fail)
      refine W.cutG (inner (kindF q.code == 2) _ _) ?_ ?_
      · repeat (first | exact Sw.Sub.nil | refine Sw.Sub.cons (by simp) ?_)
      · rintro _ pf - hs
        with_reducible refine W.out ?_
        with_reducible refine W.next ?_
        refine W.sub ?_ hs
        repeat' (first
          | with_reducible refine W.seq ?_
          | with_reducible refine W.next ?_
          | with_reducible refine W.nil ?_
          | with_reducible refine W.skip ?_
          | with_reducible refine W.ret ?_
          | with_reducible refine W.ret_code ?_
          | with_reducible refine W.block ?_
          | with_reducible refine W.out ?_
          | with_reducible refine W.ret_blk ?_
          | with_reducible refine W.exit ?_
          | with_reducible refine W.exit_code ?_
          | with_reducible refine W.exit_here ?_
          | with_reducible refine W.leave_exit ?_
          | with_reducible refine W.leave_ret ?_
          | ((with_reducible refine W.exit_on ?h ?_); (case h => decide))
          | ((with_reducible apply W.reg); (case h => simp [T3, T4, T23, T24, T27, T28, T30, T35, T49, hjl4, hq', hwj]; exact ⟨rfl, rfl, rfl⟩))
          | ((with_reducible apply W.draw mixed); (case hB => kernel_rfl); (case hr => simp [T3, T4, T23, T24, T27, T28, T30, T35, T49, hjl4, hq', hwj]; rfl))
          | ((with_reducible apply W.cond); (case hc => simp; rfl); all_goals (intro hc_; try (cases hc_; done)))
          | ((with_reducible apply W.runX); (case _hc => rfl); (case h => simp [T3, T4, T23, T24, T27, T28, T30, T35, T49, hjl4, hq', hwj]; exact ⟨rfl, rfl, rfl⟩))
          | fail)
        refine W.hand (j4 + 1) hjl4 ?_ ?_ rfl
        · omega
        · rw [hne _ htk, hpr]
          repeat (first | exact Sw.Sub.nil | refine Sw.Sub.cons (by simp) ?_)
  have hje4 : j4 = t.seqs.length := by omega
  rw [hje4, List.take_length]
  clear hj4
  obtain ⟨okb, hokb⟩ : ∃ b, (t.entries.all validR && t.seqs.all properB) = b := ⟨_, rfl⟩
  rw [hokb]
  have hvb : ∀ e ∈ t.entries, validB e = validR e := fun e he => by rw [validB_eq, hels e he]; rfl
  cases okb
  · have hv : validateF t = 1 := by
      unfold validateF
      rw [if_neg hv0, if_neg hv1, if_neg hv2, if_pos]
      rcases Bool.and_eq_false_iff.1 hokb with h | h
      · left
        rw [List.any_eq_true]
        obtain ⟨e, he, h2⟩ := List.all_eq_false.1 h
        exact ⟨e, he, by rw [hvb e he]; simpa using h2⟩
      · right
        rw [List.any_eq_true]
        obtain ⟨e, he, h2⟩ := List.all_eq_false.1 h
        exact ⟨e, he, by simpa using h2⟩
    rw [hv]
    repeat' (first
      | with_reducible refine W.seq ?_
      | with_reducible refine W.next ?_
      | with_reducible refine W.nil ?_
      | with_reducible refine W.skip ?_
      | with_reducible refine W.ret ?_
      | with_reducible refine W.ret_code ?_
      | with_reducible refine W.block ?_
      | with_reducible refine W.out ?_
      | with_reducible refine W.ret_blk ?_
      | with_reducible refine W.exit ?_
      | with_reducible refine W.exit_code ?_
      | with_reducible refine W.exit_here ?_
      | with_reducible refine W.leave_exit ?_
      | with_reducible refine W.leave_ret ?_
      | ((with_reducible refine W.exit_on ?h ?_); (case h => decide))
      | ((with_reducible apply W.reg); (case h => simp [T3, T4, T23, T24, T27, T28, T30, T35, T49, hjl4]; exact ⟨rfl, rfl, rfl⟩))
      | ((with_reducible apply W.draw mixed); (case hB => kernel_rfl); (case hr => simp [T3, T4, T23, T24, T27, T28, T30, T35, T49, hjl4]; rfl))
      | ((with_reducible apply W.cond); (case hc => simp; rfl); all_goals (intro hc_; try (cases hc_; done)))
      | ((with_reducible apply W.runX); (case _hc => rfl); (case h => simp [T3, T4, T23, T24, T27, T28, T30, T35, T49, hjl4]; exact ⟨rfl, rfl, rfl⟩))
      | fail)
    with_reducible apply W.fin
    case h1 => simp <;> rfl
    case h2 => exact Wk.rfl
    case h3 => simp
    case h4 => exact hσ.clB.app (Nat.le_refl _)
    exact ⟨rfl, by simp⟩
  obtain ⟨hok1, hok2⟩ := Bool.and_eq_true_iff.1 hokb
  have hval : ∀ e ∈ t.entries, validB e = true := fun e he => by rw [hvb e he]; exact List.all_eq_true.1 hok1 e he
  have hprp : ∀ q ∈ t.seqs, properB q = true := List.all_eq_true.1 hok2
  have hv3 : ¬ (t.entries.any (fun e => !validB e) = true ∨ t.seqs.any (fun q => !properB q) = true) := by
    rintro (h | h)
    · obtain ⟨e, he, h2⟩ := List.any_eq_true.1 h
      rw [hval e he] at h2; cases h2
    · obtain ⟨e, he, h2⟩ := List.any_eq_true.1 h
      rw [hprp e he] at h2; cases h2
  have hdup := dup_iff hval hprp
  have hv5 : dupB t = true → validateF t = 5 := fun h => by unfold validateF; rw [if_neg hv0, if_neg hv1, if_neg hv2, if_neg hv3, if_pos h]
  have hv6 : dupB t = false → validateF t = 0 := fun h => by unfold validateF; rw [if_neg hv0, if_neg hv1, if_neg hv2, if_neg hv3, if_neg (by rw [h]; decide)]
  repeat' (first
    | with_reducible refine W.seq ?_
    | with_reducible refine W.next ?_
    | with_reducible refine W.nil ?_
    | with_reducible refine W.skip ?_
    | with_reducible refine W.ret ?_
    | with_reducible refine W.ret_code ?_
    | with_reducible refine W.block ?_
    | with_reducible refine W.out ?_
    | with_reducible refine W.ret_blk ?_
    | with_reducible refine W.exit ?_
    | with_reducible refine W.exit_code ?_
    | with_reducible refine W.exit_here ?_
    | with_reducible refine W.leave_exit ?_
    | with_reducible refine W.leave_ret ?_
    | ((with_reducible refine W.exit_on ?h ?_); (case h => decide))
    | ((with_reducible apply W.reg); (case h => simp [T3, T4, T23, T24, T27, T28, T30, T35, T49, hjl4]; exact ⟨rfl, rfl, rfl⟩))
    | ((with_reducible apply W.draw mixed); (case hB => kernel_rfl); (case hr => simp [T3, T4, T23, T24, T27, T28, T30, T35, T49, hjl4]; rfl))
    | ((with_reducible apply W.cond); (case hc => simp; rfl); all_goals (intro hc_; try (cases hc_; done)))
    | ((with_reducible apply W.runX); (case _hc => rfl); (case h => simp [T3, T4, T23, T24, T27, T28, T30, T35, T49, hjl4]; exact ⟨rfl, rfl, rfl⟩))
    | fail)
  -- entries alike
  with_reducible refine W.loopS (α := Nat) (fun j => [(1, .ptr σ.bx.length 0), (11, i64 j)]) (fun _ => ⟨σ.bx ++ [encT t], σ.tk⟩) (fun j => j ≤ t.entries.length ∧ ∀ (i k : Nat) (x y : Ent), i < j → k < i → t.entries[i]? = some x → t.entries[k]? = some y → x.code ≠ y.code) (fun j => t.entries.length - j) 0 ?_ ?_ ?_ ?_
  · exact ⟨Nat.zero_le _, fun i k x y h => absurd h (Nat.not_lt_zero _)⟩
  · repeat (first | exact Sw.Sub.nil | refine Sw.Sub.cons (by simp) ?_)
  · rfl
  rintro j5 ⟨hj5, hd5⟩
  (try dsimp only)
  by_cases hjl5 : j5 < t.entries.length
  · obtain ⟨q, hq⟩ : ∃ q, t.entries[j5]? = some q := ⟨_, List.getElem?_eq_getElem hjl5⟩
    have hq' : t.entries[j5] = q := (List.getElem?_eq_some_iff.1 hq).2
    have hwj : IntKind.i64.wrap ((j5 : Int) + 1) = (j5 : Int) + 1 := wrap64 (by omega)
    repeat' (first
      | with_reducible refine W.seq ?_
      | with_reducible refine W.next ?_
      | with_reducible refine W.nil ?_
      | with_reducible refine W.skip ?_
      | with_reducible refine W.ret ?_
      | with_reducible refine W.ret_code ?_
      | with_reducible refine W.block ?_
      | with_reducible refine W.out ?_
      | with_reducible refine W.ret_blk ?_
      | with_reducible refine W.exit ?_
      | with_reducible refine W.exit_code ?_
      | with_reducible refine W.exit_here ?_
      | with_reducible refine W.leave_exit ?_
      | with_reducible refine W.leave_ret ?_
      | ((with_reducible refine W.exit_on ?h ?_); (case h => decide))
      | ((with_reducible apply W.reg); (case h => simp [T3, T4, T23, T24, T27, T28, T30, T35, T49, hjl5, hq']; exact ⟨rfl, rfl, rfl⟩))
      | ((with_reducible apply W.draw mixed); (case hB => kernel_rfl); (case hr => simp [T3, T4, T23, T24, T27, T28, T30, T35, T49, hjl5, hq']; rfl))
      | ((with_reducible apply W.cond); (case hc => simp; rfl); all_goals (intro hc_; try (cases hc_; done)))
      | ((with_reducible apply W.runX); (case _hc => rfl); (case h => simp [T3, T4, T23, T24, T27, T28, T30, T35, T49, hjl5, hq']; exact ⟨rfl, rfl, rfl⟩))
      | fail)
    with_reducible refine W.loopS (α := Nat) (fun k => [(1, .ptr σ.bx.length 0), (11, i64 j5), (12, i64 k)]) (fun _ => ⟨σ.bx ++ [encT t], σ.tk⟩) (fun k => k ≤ j5 ∧ ∀ (i : Nat) (y : Ent), i < k → t.entries[i]? = some y → q.code ≠ y.code) (fun k => j5 - k) 0 ?_ ?_ ?_ ?_
    · exact ⟨Nat.zero_le _, fun i y h => absurd h (Nat.not_lt_zero _)⟩
    · repeat (first | exact Sw.Sub.nil | refine Sw.Sub.cons (by simp) ?_)
    · rfl
    rintro k ⟨hk, hd⟩
    (try dsimp only)
    by_cases hkl : k < j5
    · have hkl2 : k < t.entries.length := by omega
      obtain ⟨p, hp⟩ : ∃ p, t.entries[k]? = some p := ⟨_, List.getElem?_eq_getElem hkl2⟩
      have hp' : t.entries[k] = p := (List.getElem?_eq_some_iff.1 hp).2
      have hwk : IntKind.i64.wrap ((k : Int) + 1) = (k : Int) + 1 := wrap64 (by omega)
      have hkj : (k : Int) < (j5 : Int) := by omega
      by_cases heq : q.code = p.code
      · have hdd : dupB t = true := by
          cases hb : dupB t with
          | true => rfl
          | false => exact absurd (hdup.1 hb).1 (not_nodup (x := q.code) hkl (by rw [List.getElem?_map, hq]; rfl) (by rw [List.getElem?_map, hp, heq]; rfl))
        rw [hv5 hdd]
        have hb : (q.code == p.code) = true := by simpa using heq
        repeat' (first
          | with_reducible refine W.seq ?_
          | with_reducible refine W.next ?_
          | with_reducible refine W.nil ?_
          | with_reducible refine W.skip ?_
          | with_reducible refine W.ret ?_
          | with_reducible refine W.ret_code ?_
          | with_reducible refine W.block ?_
          | with_reducible refine W.out ?_
          | with_reducible refine W.ret_blk ?_
          | with_reducible refine W.exit ?_
          | with_reducible refine W.exit_code ?_
          | with_reducible refine W.exit_here ?_
          | with_reducible refine W.leave_exit ?_
          | with_reducible refine W.leave_ret ?_
          | ((with_reducible refine W.exit_on ?h ?_); (case h => decide))
          | ((with_reducible apply W.reg); (case h => simp [T3, T4, T23, T24, T27, T28, T30, T35, T49, hjl5, hq', hp', hkl2, hkl, hkj, hb]; exact ⟨rfl, rfl, rfl⟩))
          | ((with_reducible apply W.draw mixed); (case hB => kernel_rfl); (case hr => simp [T3, T4, T23, T24, T27, T28, T30, T35, T49, hjl5, hq', hp', hkl2, hkl, hkj, hb]; rfl))
          | ((with_reducible apply W.cond); (case hc => simp; rfl); all_goals (intro hc_; try (cases hc_; done)))
          | ((with_reducible apply W.runX); (case _hc => rfl); (case h => simp [T3, T4, T23, T24, T27, T28, T30, T35, T49, hjl5, hq', hp', hkl2, hkl, hkj, hb]; exact ⟨rfl, rfl, rfl⟩))
          | fail)
        with_reducible apply W.fin
        case h1 => simp <;> rfl
        case h2 => exact Wk.rfl
        case h3 => simp
        case h4 => exact hσ.clB.app (Nat.le_refl _)
        exact ⟨rfl, by simp⟩
      · have hb : (q.code == p.code) = false := by simpa using heq
        repeat' (first
          | with_reducible refine W.seq ?_
          | with_reducible refine W.next ?_
          | with_reducible refine W.nil ?_
          | with_reducible refine W.skip ?_
          | with_reducible refine W.ret ?_
          | with_reducible refine W.ret_code ?_
          | with_reducible refine W.block ?_
          | with_reducible refine W.out ?_
          | with_reducible refine W.ret_blk ?_
          | with_reducible refine W.exit ?_
          | with_reducible refine W.exit_code ?_
          | with_reducible refine W.exit_here ?_
          | with_reducible refine W.leave_exit ?_
          | with_reducible refine W.leave_ret ?_
          | ((with_reducible refine W.exit_on ?h ?_); (case h => decide))
          | ((with_reducible apply W.reg); (case h => simp [T3, T4, T23, T24, T27, T28, T30, T35, T49, hjl5, hq', hp', hkl2, hkl, hkj, hb, hwk]; exact ⟨rfl, rfl, rfl⟩))
          | ((with_reducible apply W.draw mixed); (case hB => kernel_rfl); (case hr => simp [T3, T4, T23, T24, T27, T28, T30, T35, T49, hjl5, hq', hp', hkl2, hkl, hkj, hb, hwk]; rfl))
          | ((with_reducible apply W.cond); (case hc => simp; rfl); all_goals (intro hc_; try (cases hc_; done)))
          | ((with_reducible apply W.runX); (case _hc => rfl); (case h => simp [T3, T4, T23, T24, T27, T28, T30, T35, T49, hjl5, hq', hp', hkl2, hkl, hkj, hb, hwk]; exact ⟨rfl, rfl, rfl⟩))
          | fail)
        refine W.hand (k + 1) ?_ ?_ ?_ rfl
        · refine ⟨hkl, fun i y hi hy => ?_⟩
          by_cases hik : i < k
          · exact hd i y hik hy
          · have : i = k := by omega
            subst this
            rw [hp] at hy; cases hy; exact heq
        · omega
        · repeat (first | exact Sw.Sub.nil | refine Sw.Sub.cons (by simp) ?_)
    · have hkj : ¬ (k : Int) < (j5 : Int) := by omega
      repeat' (first
        | with_reducible refine W.seq ?_
        | with_reducible refine W.next ?_
        | with_reducible refine W.nil ?_
        | with_reducible refine W.skip ?_
        | with_reducible refine W.ret ?_
        | with_reducible refine W.ret_code ?_
        | with_reducible refine W.block ?_
        | with_reducible refine W.out ?_
        | with_reducible refine W.ret_blk ?_
        | with_reducible refine W.exit ?_
        | with_reducible refine W.exit_code ?_
        | with_reducible refine W.exit_here ?_
        | with_reducible refine W.leave_exit ?_
        | with_reducible refine W.leave_ret ?_
        | ((with_reducible refine W.exit_on ?h ?_); (case h => decide))
        | ((with_reducible apply W.reg); (case h => simp [T3, T4, T23, T24, T27, T28, T30, T35, T49, hkl, hkj, hwj]; exact ⟨rfl, rfl, rfl⟩))
        | ((with_reducible apply W.draw mixed); (case hB => kernel_rfl); (case hr => simp [T3, T4, T23, T24, T27, T28, T30, T35, T49, hkl, hkj, hwj]; rfl))
        | ((with_reducible apply W.cond); (case hc => simp; rfl); all_goals (intro hc_; try (cases hc_; done)))
        | ((with_reducible apply W.runX); (case _hc => rfl); (case h => simp [T3, T4, T23, T24, T27, T28, T30, T35, T49, hkl, hkj, hwj]; exact ⟨rfl, rfl, rfl⟩))
        | fail)
      refine W.hand (j5 + 1) ?_ ?_ ?_ rfl
      · refine ⟨hjl5, fun i k' x y hi hk' hx hy => ?_⟩
        by_cases hij : i < j5
        · exact hd5 i k' x y hij hk' hx hy
        · have : i = j5 := by omega
          subst this
          rw [hq] at hx; cases hx
          exact hd k' y (by omega) hy
      · omega
      · repeat (first | exact Sw.Sub.nil | refine Sw.Sub.cons (by simp) ?_)
  have hje5 : j5 = t.entries.length := by omega
  have hnd1 : (t.entries.map (·.code)).Nodup := nodup_of fun i k x y hk hx hy => by
    rw [List.getElem?_map] at hx hy
    obtain ⟨x', hx', rfl⟩ := Option.map_eq_some_iff.1 hx
    obtain ⟨y', hy', rfl⟩ := Option.map_eq_some_iff.1 hy
    exact hd5 i k x' y' (by rw [hje5]; exact (List.getElem?_eq_some_iff.1 hx').1) hk hx' hy'
  clear hd5 hj5
  repeat' (first
    | with_reducible refine W.seq ?_
    | with_reducible refine W.next ?_
    | with_reducible refine W.nil ?_
    | with_reducible refine W.skip ?_
    | with_reducible refine W.ret ?_
    | with_reducible refine W.ret_code ?_
    | with_reducible refine W.block ?_
    | with_reducible refine W.out ?_
    | with_reducible refine W.ret_blk ?_
    | with_reducible refine W.exit ?_
    | with_reducible refine W.exit_code ?_
    | with_reducible refine W.exit_here ?_
    | with_reducible refine W.leave_exit ?_
    | with_reducible refine W.leave_ret ?_
    | ((with_reducible refine W.exit_on ?h ?_); (case h => decide))
    | ((with_reducible apply W.reg); (case h => simp [T3, T4, T23, T24, T27, T28, T30, T35, T49, hjl5]; exact ⟨rfl, rfl, rfl⟩))
    | ((with_reducible apply W.draw mixed); (case hB => kernel_rfl); (case hr => simp [T3, T4, T23, T24, T27, T28, T30, T35, T49, hjl5]; rfl))
    | ((with_reducible apply W.cond); (case hc => simp; rfl); all_goals (intro hc_; try (cases hc_; done)))
    | ((with_reducible apply W.runX); (case _hc => rfl); (case h => simp [T3, T4, T23, T24, T27, T28, T30, T35, T49, hjl5]; exact ⟨rfl, rfl, rfl⟩))
    | fail)
  -- sequences alike
  with_reducible refine W.loopS (α := Nat) (fun j => [(1, .ptr σ.bx.length 0), (13, i64 j)]) (fun _ => ⟨σ.bx ++ [encT t], σ.tk⟩) (fun j => j ≤ t.seqs.length ∧ ∀ (i k : Nat) (x y : Sq), i < j → k < i → t.seqs[i]? = some x → t.seqs[k]? = some y → x.code ≠ y.code) (fun j => t.seqs.length - j) 0 ?_ ?_ ?_ ?_
  · exact ⟨Nat.zero_le _, fun i k x y h => absurd h (Nat.not_lt_zero _)⟩
  · repeat (first | exact Sw.Sub.nil | refine Sw.Sub.cons (by simp) ?_)
  · rfl
  rintro j6 ⟨hj6, hd6⟩
  (try dsimp only)
  by_cases hjl6 : j6 < t.seqs.length
  · obtain ⟨q, hq⟩ : ∃ q, t.seqs[j6]? = some q := ⟨_, List.getElem?_eq_getElem hjl6⟩
    have hq' : t.seqs[j6] = q := (List.getElem?_eq_some_iff.1 hq).2
    have hwj : IntKind.i64.wrap ((j6 : Int) + 1) = (j6 : Int) + 1 := wrap64 (by omega)
    repeat' (first
      | with_reducible refine W.seq ?_
      | with_reducible refine W.next ?_
      | with_reducible refine W.nil ?_
      | with_reducible refine W.skip ?_
      | with_reducible refine W.ret ?_
      | with_reducible refine W.ret_code ?_
      | with_reducible refine W.block ?_
      | with_reducible refine W.out ?_
      | with_reducible refine W.ret_blk ?_
      | with_reducible refine W.exit ?_
      | with_reducible refine W.exit_code ?_
      | with_reducible refine W.exit_here ?_
      | with_reducible refine W.leave_exit ?_
      | with_reducible refine W.leave_ret ?_
      | ((with_reducible refine W.exit_on ?h ?_); (case h => decide))
      | ((with_reducible apply W.reg); (case h => simp [T3, T4, T23, T24, T27, T28, T30, T35, T49, hjl6, hq']; exact ⟨rfl, rfl, rfl⟩))
      | ((with_reducible apply W.draw mixed); (case hB => kernel_rfl); (case hr => simp [T3, T4, T23, T24, T27, T28, T30, T35, T49, hjl6, hq']; rfl))
      | ((with_reducible apply W.cond); (case hc => simp; rfl); all_goals (intro hc_; try (cases hc_; done)))
      | ((with_reducible apply W.runX); (case _hc => rfl); (case h => simp [T3, T4, T23, T24, T27, T28, T30, T35, T49, hjl6, hq']; exact ⟨rfl, rfl, rfl⟩))
      | fail)
    with_reducible refine W.loopS (α := Nat) (fun k => [(1, .ptr σ.bx.length 0), (13, i64 j6), (14, i64 k)]) (fun _ => ⟨σ.bx ++ [encT t], σ.tk⟩) (fun k => k ≤ j6 ∧ ∀ (i : Nat) (y : Sq), i < k → t.seqs[i]? = some y → q.code ≠ y.code) (fun k => j6 - k) 0 ?_ ?_ ?_ ?_
    · exact ⟨Nat.zero_le _, fun i y h => absurd h (Nat.not_lt_zero _)⟩
    · repeat (first | exact Sw.Sub.nil | refine Sw.Sub.cons (by simp) ?_)
    · rfl
    rintro k ⟨hk, hd⟩
    (try dsimp only)
    by_cases hkl : k < j6
    · have hkl2 : k < t.seqs.length := by omega
      obtain ⟨p, hp⟩ : ∃ p, t.seqs[k]? = some p := ⟨_, List.getElem?_eq_getElem hkl2⟩
      have hp' : t.seqs[k] = p := (List.getElem?_eq_some_iff.1 hp).2
      have hwk : IntKind.i64.wrap ((k : Int) + 1) = (k : Int) + 1 := wrap64 (by omega)
      have hkj : (k : Int) < (j6 : Int) := by omega
      by_cases heq : q.code = p.code
      · have hdd : dupB t = true := by
          cases hb : dupB t with
          | true => rfl
          | false => exact absurd (hdup.1 hb).2 (not_nodup (x := q.code) hkl (by rw [List.getElem?_map, hq]; rfl) (by rw [List.getElem?_map, hp, heq]; rfl))
        rw [hv5 hdd]
        have hb : (q.code == p.code) = true := by simpa using heq
        repeat' (first
          | with_reducible refine W.seq ?_
          | with_reducible refine W.next ?_
          | with_reducible refine W.nil ?_
          | with_reducible refine W.skip ?_
          | with_reducible refine W.ret ?_
          | with_reducible refine W.ret_code ?_
          | with_reducible refine W.block ?_
          | with_reducible refine W.out ?_
          | with_reducible refine W.ret_blk ?_
          | with_reducible refine W.exit ?_
          | with_reducible refine W.exit_code ?_
          | with_reducible refine W.exit_here ?_
          | with_reducible refine W.leave_exit ?_
          | with_reducible refine W.leave_ret ?_
          | ((with_reducible refine W.exit_on ?h ?_); (case h => decide))
          | ((with_reducible apply W.reg); (case h => simp [T3, T4, T23, T24, T27, T28, T30, T35, T49, hjl6, hq', hp', hkl2, hkl, hkj, hb]; exact ⟨rfl, rfl, rfl⟩))
          | ((with_reducible apply W.draw mixed); (case hB => kernel_rfl); (case hr => simp [T3, T4, T23, T24, T27, T28, T30, T35, T49, hjl6, hq', hp', hkl2, hkl, hkj, hb]; rfl))
          | ((with_reducible apply W.cond); (case hc => simp; rfl); all_goals (intro hc_; try (cases hc_; done)))
          | ((with_reducible apply W.runX); (case _hc => rfl); (case h => simp [T3, T4, T23, T24, T27, T28, T30, T35, T49, hjl6, hq', hp', hkl2, hkl, hkj, hb]; exact ⟨rfl, rfl, rfl⟩))
          | fail)
        with_reducible apply W.fin
        case h1 => simp <;> rfl
        case h2 => exact Wk.rfl
        case h3 => simp
        case h4 => exact hσ.clB.app (Nat.le_refl _)
        exact ⟨rfl, by simp⟩
      · have hb : (q.code == p.code) = false := by simpa using heq
        repeat' (first
          | with_reducible refine W.seq ?_
          | with_reducible refine W.next ?_
          | with_reducible refine W.nil ?_
          | with_reducible refine W.skip ?_
          | with_reducible refine W.ret ?_
          | with_reducible refine W.ret_code ?_
          | with_reducible refine W.block ?_
          | with_reducible refine W.out ?_
          | with_reducible refine W.ret_blk ?_
          | with_reducible refine W.exit ?_
          | with_reducible refine W.exit_code ?_
          | with_reducible refine W.exit_here ?_
          | with_reducible refine W.leave_exit ?_
          | with_reducible refine W.leave_ret ?_
          | ((with_reducible refine W.exit_on ?h ?_); (case h => decide))
          | ((with_reducible apply W.reg); (case h => simp [T3, T4, T23, T24, T27, T28, T30, T35, T49, hjl6, hq', hp', hkl2, hkl, hkj, hb, hwk]; exact ⟨rfl, rfl, rfl⟩))
          | ((with_reducible apply W.draw mixed); (case hB => kernel_rfl); (case hr => simp [T3, T4, T23, T24, T27, T28, T30, T35, T49, hjl6, hq', hp', hkl2, hkl, hkj, hb, hwk]; rfl))
          | ((with_reducible apply W.cond); (case hc => simp; rfl); all_goals (intro hc_; try (cases hc_; done)))
          | ((with_reducible apply W.runX); (case _hc => rfl); (case h => simp [T3, T4, T23, T24, T27, T28, T30, T35, T49, hjl6, hq', hp', hkl2, hkl, hkj, hb, hwk]; exact ⟨rfl, rfl, rfl⟩))
          | fail)
        refine W.hand (k + 1) ?_ ?_ ?_ rfl
        · refine ⟨hkl, fun i y hi hy => ?_⟩
          by_cases hik : i < k
          · exact hd i y hik hy
          · have : i = k := by omega
            subst this
            rw [hp] at hy; cases hy; exact heq
        · omega
        · repeat (first | exact Sw.Sub.nil | refine Sw.Sub.cons (by simp) ?_)
    · have hkj : ¬ (k : Int) < (j6 : Int) := by omega
      repeat' (first
        | with_reducible refine W.seq ?_
        | with_reducible refine W.next ?_
        | with_reducible refine W.nil ?_
        | with_reducible refine W.skip ?_
        | with_reducible refine W.ret ?_
        | with_reducible refine W.ret_code ?_
        | with_reducible refine W.block ?_
        | with_reducible refine W.out ?_
        | with_reducible refine W.ret_blk ?_
        | with_reducible refine W.exit ?_
        | with_reducible refine W.exit_code ?_
        | with_reducible refine W.exit_here ?_
        | with_reducible refine W.leave_exit ?_
        | with_reducible refine W.leave_ret ?_
        | ((with_reducible refine W.exit_on ?h ?_); (case h => decide))
        | ((with_reducible apply W.reg); (case h => simp [T3, T4, T23, T24, T27, T28, T30, T35, T49, hkl, hkj, hwj]; exact ⟨rfl, rfl, rfl⟩))
        | ((with_reducible apply W.draw mixed); (case hB => kernel_rfl); (case hr => simp [T3, T4, T23, T24, T27, T28, T30, T35, T49, hkl, hkj, hwj]; rfl))
        | ((with_reducible apply W.cond); (case hc => simp; rfl); all_goals (intro hc_; try (cases hc_; done)))
        | ((with_reducible apply W.runX); (case _hc => rfl); (case h => simp [T3, T4, T23, T24, T27, T28, T30, T35, T49, hkl, hkj, hwj]; exact ⟨rfl, rfl, rfl⟩))
        | fail)
      refine W.hand (j6 + 1) ?_ ?_ ?_ rfl
      · refine ⟨hjl6, fun i k' x y hi hk' hx hy => ?_⟩
        by_cases hij : i < j6
        · exact hd6 i k' x y hij hk' hx hy
        · have : i = j6 := by omega
          subst this
          rw [hq] at hx; cases hx
          exact hd k' y (by omega) hy
      · omega
      · repeat (first | exact Sw.Sub.nil | refine Sw.Sub.cons (by simp) ?_)
  have hje6 : j6 = t.seqs.length := by omega
  have hnd2 : (t.seqs.map (·.code)).Nodup := nodup_of fun i k x y hk hx hy => by
    rw [List.getElem?_map] at hx hy
    obtain ⟨x', hx', rfl⟩ := Option.map_eq_some_iff.1 hx
    obtain ⟨y', hy', rfl⟩ := Option.map_eq_some_iff.1 hy
    exact hd6 i k x' y' (by rw [hje6]; exact (List.getElem?_eq_some_iff.1 hx').1) hk hx' hy'
  rw [hv6 (hdup.2 ⟨hnd1, hnd2⟩)]
  repeat' (first
    | with_reducible refine W.seq ?_
    | with_reducible refine W.next ?_
    | with_reducible refine W.nil ?_
    | with_reducible refine W.skip ?_
    | with_reducible refine W.ret ?_
    | with_reducible refine W.ret_code ?_
    | with_reducible refine W.block ?_
    | with_reducible refine W.out ?_
    | with_reducible refine W.ret_blk ?_
    | with_reducible refine W.exit ?_
    | with_reducible refine W.exit_code ?_
    | with_reducible refine W.exit_here ?_
    | with_reducible refine W.leave_exit ?_
    | with_reducible refine W.leave_ret ?_
    | ((with_reducible refine W.exit_on ?h ?_); (case h => decide))
    | ((with_reducible apply W.reg); (case h => simp [T3, T4, T23, T24, T27, T28, T30, T35, T49, hjl6]; exact ⟨rfl, rfl, rfl⟩))
    | ((with_reducible apply W.draw mixed); (case hB => kernel_rfl); (case hr => simp [T3, T4, T23, T24, T27, T28, T30, T35, T49, hjl6]; rfl))
    | ((with_reducible apply W.cond); (case hc => simp; rfl); all_goals (intro hc_; try (cases hc_; done)))
    | ((with_reducible apply W.runX); (case _hc => rfl); (case h => simp [T3, T4, T23, T24, T27, T28, T30, T35, T49, hjl6]; exact ⟨rfl, rfl, rfl⟩))
    | fail)
  with_reducible apply W.fin
  case h1 => simp <;> rfl
  case h2 => exact Wk.rfl
  case h3 => simp
  case h4 => exact hσ.clB.app (Nat.le_refl _)
  exact ⟨rfl, by simp⟩


end Go.Proofs.YtgabnlkkjmepnaaDoor

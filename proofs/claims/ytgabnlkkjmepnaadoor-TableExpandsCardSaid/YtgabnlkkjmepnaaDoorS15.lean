/- The table that the statements draw: its codes are mended. -/
import Derived.Test.YtgabnlkkjmepnaaDoorS14
import Derived.Test.YtgabnlkkjmepnaaDoorSwP
import Derived.Test.YtgabnlkkjmepnaaDoorSwQ
import Derived.IntWalk
namespace Go.Proofs.YtgabnlkkjmepnaaDoor
open Go.Sw
set_option linter.unusedSimpArgs false
set_option linter.unusedVariables false
attribute [local simp] runOps stepOp pureOp gd isCall inN setd Sw.get params ev evs binV unV convV loadA cellsPV storeA fieldAddrA fieldOff fieldA partA aggOf extractA indexAddrA indexA lenA minmaxA sliceA bnd partsA buildA placesA fillA buildSliceA zerosA chunkA TyD.agg Value.oneCell' Value.cells runPure appA appendA okRow_nil okRow_cons okRow_append resultA ressA resA List.getElem?_append List.set_append Cl_any Cl_val Cl_ptr Cl_agg Cl_tup Cl_fn Cl_rop Cl_sl Sw.take_set Sw.take_set_app Sw.take_app

attribute [local simp] encI encE encS encT okRow_encE okRow_encS
attribute [local simp] oneB_rowPV oneB_v oneB_p oneB_r oneB_s oneB_b

theorem good100 : good 100 := ⟨by decide, by decide, by decide⟩
theorem good_of {x : Int} (h : drawn x) (h1 : ¬ x < 1) (h2 : ¬ 30000 ≤ x) (h3 : x ≠ 20000) (h4 : x ≠ 20100) (h5 : x ≠ 20021) (h6 : x ≠ 22121) : good x := by
  obtain ⟨a1, a2, a3⟩ := h
  refine ⟨a1, a2, ?_⟩
  rcases a3 with a3 | a3 | a3 | a3 | a3 | a3 | a3
  · exact a3
  all_goals omega
theorem getset {B : List (List PV)} {i : Nat} {qs x : List PV} (h : B[i]? = some qs) : (B.set i x)[i]? = some x := by
  rw [List.getElem?_set_self (List.getElem?_eq_some_iff.1 h).1]
/-- What is kept while codes are mended. -/
structure Md (σ : AS) (b : Nat) (L : List Int) (tab : List PV) (rows gs : List Row) (n : Nat) (B : List (List PV)) : Prop where
  tb : TB σ b L tab B
  len : B.length = n
  all : ∀ r ∈ rows, RowOK drawn (σ.bx.length + 2) n B r.2
  good : ∀ r ∈ gs, RowOK good (σ.bx.length + 2) n B r.2
theorem drawn100 : drawn 100 := ⟨by decide, by decide, .inl (by decide)⟩
theorem Md.store {σ : AS} {b : Nat} {L : List Int} {tab : List PV} {rows gs : List Row} {n : Nat} {B : List (List PV)} (h : Md σ b L tab rows gs n B) (hbl : b < σ.bx.length) {i k : Nat} {qs : List PV} (hi : σ.bx.length + 2 ≤ i) (hq : B[i]? = some qs) (hk : k < qs.length) : Md σ b L tab rows gs n (B.set i (qs.set k (i64 100))) where
  tb := h.tb.setnew hbl hi _
  len := by rw [List.length_set]; exact h.len
  all := fun r hr => (h.all r hr).store drawn100 hq hk
  good := fun r hr => (h.good r hr).store good100 hq hk

set_option maxHeartbeats 2000000 in
/-- The codes of one sequence are mended. -/
theorem mend1_sw (n m : Nat) (σ : AS) (b : Nat) (L : List Int) (v : Int) (τ1 τ2 : Nat) (es : List Ent) (hbl : b < σ.bx.length) (rows gs : List Row) (tk : List (TypeId × Nat)) (Bl j : Nat) (B2 : List (List PV)) (code : Int) (i0 n0 c0 : Nat)
    (hj : j < rows.length) (hr3 : rows.length ≤ 3) (hrj : rows[j] = (code, some (i0, n0, c0))) (hM : Md σ b L (tabB v τ1 τ2 es (rows.map encR)) rows gs Bl B2) (Q : Post) (kk : List KI) :
    SW Cc ⟨134, n, m⟩ (cAt [2, 2, 2, 2, 1, 2, 3, 4, 2, 2, 1, 3, 2, 2, 3] c9) (Cont Cc ⟨134, n, m⟩ (thenP (MidP (fun _ : List (List PV) => [(0, .ptr b 0), (4, .ptr σ.bx.length 0), (5, .ptr (σ.bx.length + 1) 0), (85, i64 rows.length), (86, i64 j)]) (fun x => ⟨x, tk⟩)
      (fun x => Md σ b L (tabB v τ1 τ2 es (rows.map encR)) rows gs Bl x ∧ RowOK good (σ.bx.length + 2) Bl x (some (i0, n0, c0)))) (Cont Cc ⟨134, n, m⟩ Q kk)) [.blk 9])
      [(0, .ptr b 0), (4, .ptr σ.bx.length 0), (5, .ptr (σ.bx.length + 1) 0), (85, i64 rows.length), (86, i64 j), (13, i64 j), (94, .bs 3 i0 n0 c0), (95, i64 n0), (96, i64 0)] ⟨B2, tk⟩ := by
  change SW Cc ⟨134, n, m⟩ (Code.loop _) _ _ _
  have hrm : (code, some (i0, n0, c0)) ∈ rows := by rw [← hrj]; exact List.getElem_mem hj
  have hrj' : rows[j]? = some (code, some (i0, n0, c0)) := by rw [← hrj]; exact List.getElem?_eq_getElem hj
  obtain ⟨q1, q2, q3, xs0, junk0, q4, q5, q6, q7⟩ := hM.all _ hrm
  with_reducible refine W.loopS (α := Nat × List (List PV)) (fun x => [(0, .ptr b 0), (4, .ptr σ.bx.length 0), (5, .ptr (σ.bx.length + 1) 0), (85, i64 rows.length), (86, i64 j), (13, i64 j), (94, .bs 3 i0 n0 c0), (95, i64 n0), (96, i64 x.1)]) (fun x => ⟨x.2, tk⟩) (fun x => x.1 ≤ n0 ∧ Md σ b L (tabB v τ1 τ2 es (rows.map encR)) rows gs Bl x.2 ∧ ∃ (xs : List Int) (junk : List PV), x.2[i0]? = some (xs.map i64 ++ junk) ∧ xs.length = n0 ∧ (xs.map i64 ++ junk).length = c0 ∧ (∀ z ∈ xs, drawn z) ∧ ∀ z ∈ xs.take x.1, good z) (fun x => n0 - x.1) (0, B2) ?_ ?_ ?_ ?_
  · exact ⟨Nat.zero_le _, hM, xs0, junk0, q4, q5, q6, q7, by simp⟩
  · repeat (first | exact Sw.Sub.nil | refine Sw.Sub.cons (by simp) ?_)
  · rfl
  · rintro ⟨k, B3⟩ ⟨p1, p2, xs, junk, p6, p7, p8, p9, p10⟩
    dsimp only at p1 p2 p6 p10 ⊢
    have hTab3 := p2.tb.tab
    by_cases hk : k < n0
    · have hwk : IntKind.i64.wrap ((k : Int) + 1) = (k : Int) + 1 := wrap64 (by omega)
      obtain ⟨x, hx⟩ : ∃ x, xs[k]? = some x := ⟨xs[k], List.getElem?_eq_getElem (by omega)⟩
      have hqk : (xs.map i64 ++ junk)[k]? = some (i64 x) := by rw [List.getElem?_append_left (by simp; omega), List.getElem?_map, hx]; rfl
      have hxd : drawn x := p9 x (List.mem_of_getElem? hx)
      have htk : xs.take (k + 1) = xs.take k ++ [x] := by rw [List.take_add_one, hx]; rfl
      have hS : ∀ qs, qs = xs.map i64 ++ junk → ∃ (xs' : List Int) (junk : List PV), (B3.set i0 (qs.set k (i64 100)))[i0]? = some (xs'.map i64 ++ junk) ∧ xs'.length = n0 ∧ (xs'.map i64 ++ junk).length = c0 ∧ (∀ z ∈ xs', drawn z) ∧ ∀ z ∈ xs'.take (k + 1), good z := by
        rintro qs rfl
        refine ⟨xs.set k 100, junk, ?_, by simpa using p7, by simpa using p8, fun z hz => ?_, fun z hz => ?_⟩
        · rw [getset p6, List.set_append_left _ _ (by simp; omega)]; simp [List.map_set]
        · rcases List.mem_or_eq_of_mem_set hz with hz | hz
          · exact p9 z hz
          · rw [hz]; exact drawn100
        · have hlk : (xs.take k).length = k := by rw [List.length_take]; omega
          rw [List.take_set, htk, List.set_append_right _ _ (Nat.le_of_eq hlk), hlk, Nat.sub_self, List.mem_append] at hz
          rcases hz with hz | hz
          · exact p10 z hz
          · simp at hz; rw [hz]; exact good100
      generalize hqs : xs.map i64 ++ junk = qs at *
      have hql : k < qs.length := (List.getElem?_eq_some_iff.1 hqk).1
      have hqk' : qs[k] = i64 x := (List.getElem?_eq_some_iff.1 hqk).2
      have hql1 : k + 1 ≤ qs.length := hql
      have hset : qs.take k ++ i64 100 :: qs.drop (k + 1) = qs.set k (i64 100) := by rw [List.set_eq_take_append_cons_drop, if_pos hql]
      by_cases e1 : x < 1
      · repeat' (first
          | with_reducible refine W.seq ?_
          | with_reducible refine W.next ?_
          | with_reducible refine W.nil ?_
          | with_reducible refine W.skip ?_
          | with_reducible refine W.ret ?_
          | with_reducible refine W.ret_code ?_
          | with_reducible refine W.block ?_
          | with_reducible refine W.out ?_
          | with_reducible refine W.ret_blk ?_
          | with_reducible refine W.exit ?_
          | with_reducible refine W.exit_code ?_
          | with_reducible refine W.exit_here ?_
          | with_reducible refine W.leave_exit ?_
          | with_reducible refine W.leave_ret ?_
          | ((with_reducible refine W.exit_on ?h ?_); (case h => decide))
          | ((with_reducible apply W.reg); (case h => simp [T3, T24, T27, T28, T30, T49, hk, p6, hqk', hwk, hTab3, tabB, hj, hrj, encR, rowPV, hql, hql1, hset, e1]; exact ⟨rfl, rfl, rfl⟩))
          | ((with_reducible apply W.draw mixed); (case hB => kernel_rfl); (case hr => simp [T3, T24, T27, T28, T30, T49, hk, p6, hqk', hwk, hTab3, tabB, hj, hrj, encR, rowPV, hql, hql1, hset, e1]; rfl))
          | ((with_reducible apply W.cond); (case hc => simp; rfl); all_goals (intro hc_; try (cases hc_; done)))
          | ((with_reducible apply W.runX); (case _hc => rfl); (case h => simp [T3, T24, T27, T28, T30, T49, hk, p6, hqk', hwk, hTab3, tabB, hj, hrj, encR, rowPV, hql, hql1, hset, e1]; exact ⟨rfl, rfl, rfl⟩))
          | fail)
        refine W.hand (k + 1, B3.set i0 (qs.set k (i64 100))) ?_ ?_ ?_ ?_
        · exact ⟨hk, p2.store hbl q1 p6 hql, hS qs rfl⟩
        · dsimp only; omega
        · repeat (first | exact Sw.Sub.nil | refine Sw.Sub.cons (by simp) ?_)
        · simp [hset]
      by_cases e2 : 30000 ≤ x
      · repeat' (first
          | with_reducible refine W.seq ?_
          | with_reducible refine W.next ?_
          | with_reducible refine W.nil ?_
          | with_reducible refine W.skip ?_
          | with_reducible refine W.ret ?_
          | with_reducible refine W.ret_code ?_
          | with_reducible refine W.block ?_
          | with_reducible refine W.out ?_
          | with_reducible refine W.ret_blk ?_
          | with_reducible refine W.exit ?_
          | with_reducible refine W.exit_code ?_
          | with_reducible refine W.exit_here ?_
          | with_reducible refine W.leave_exit ?_
          | with_reducible refine W.leave_ret ?_
          | ((with_reducible refine W.exit_on ?h ?_); (case h => decide))
          | ((with_reducible apply W.reg); (case h => simp [T3, T24, T27, T28, T30, T49, hk, p6, hqk', hwk, hTab3, tabB, hj, hrj, encR, rowPV, hql, hql1, hset, e1, e2]; exact ⟨rfl, rfl, rfl⟩))
          | ((with_reducible apply W.draw mixed); (case hB => kernel_rfl); (case hr => simp [T3, T24, T27, T28, T30, T49, hk, p6, hqk', hwk, hTab3, tabB, hj, hrj, encR, rowPV, hql, hql1, hset, e1, e2]; rfl))
          | ((with_reducible apply W.cond); (case hc => simp; rfl); all_goals (intro hc_; try (cases hc_; done)))
          | ((with_reducible apply W.runX); (case _hc => rfl); (case h => simp [T3, T24, T27, T28, T30, T49, hk, p6, hqk', hwk, hTab3, tabB, hj, hrj, encR, rowPV, hql, hql1, hset, e1, e2]; exact ⟨rfl, rfl, rfl⟩))
          | fail)
        refine W.hand (k + 1, B3.set i0 (qs.set k (i64 100))) ?_ ?_ ?_ ?_
        · exact ⟨hk, p2.store hbl q1 p6 hql, hS qs rfl⟩
        · dsimp only; omega
        · repeat (first | exact Sw.Sub.nil | refine Sw.Sub.cons (by simp) ?_)
        · simp [hset]
      by_cases e3 : x = 20000
      · subst e3
        repeat' (first
          | with_reducible refine W.seq ?_
          | with_reducible refine W.next ?_
          | with_reducible refine W.nil ?_
          | with_reducible refine W.skip ?_
          | with_reducible refine W.ret ?_
          | with_reducible refine W.ret_code ?_
          | with_reducible refine W.block ?_
          | with_reducible refine W.out ?_
          | with_reducible refine W.ret_blk ?_
          | with_reducible refine W.exit ?_
          | with_reducible refine W.exit_code ?_
          | with_reducible refine W.exit_here ?_
          | with_reducible refine W.leave_exit ?_
          | with_reducible refine W.leave_ret ?_
          | ((with_reducible refine W.exit_on ?h ?_); (case h => decide))
          | ((with_reducible apply W.reg); (case h => simp [T3, T24, T27, T28, T30, T49, hk, p6, hqk', hwk, hTab3, tabB, hj, hrj, encR, rowPV, hql, hql1, hset]; exact ⟨rfl, rfl, rfl⟩))
          | ((with_reducible apply W.draw mixed); (case hB => kernel_rfl); (case hr => simp [T3, T24, T27, T28, T30, T49, hk, p6, hqk', hwk, hTab3, tabB, hj, hrj, encR, rowPV, hql, hql1, hset]; rfl))
          | ((with_reducible apply W.cond); (case hc => simp; rfl); all_goals (intro hc_; try (cases hc_; done)))
          | ((with_reducible apply W.runX); (case _hc => rfl); (case h => simp [T3, T24, T27, T28, T30, T49, hk, p6, hqk', hwk, hTab3, tabB, hj, hrj, encR, rowPV, hql, hql1, hset]; exact ⟨rfl, rfl, rfl⟩))
          | fail)
        refine W.hand (k + 1, B3.set i0 (qs.set k (i64 100))) ?_ ?_ ?_ ?_
        · exact ⟨hk, p2.store hbl q1 p6 hql, hS qs rfl⟩
        · dsimp only; omega
        · repeat (first | exact Sw.Sub.nil | refine Sw.Sub.cons (by simp) ?_)
        · simp [hset]
      by_cases e4 : x = 20100
      · subst e4
        repeat' (first
          | with_reducible refine W.seq ?_
          | with_reducible refine W.next ?_
          | with_reducible refine W.nil ?_
          | with_reducible refine W.skip ?_
          | with_reducible refine W.ret ?_
          | with_reducible refine W.ret_code ?_
          | with_reducible refine W.block ?_
          | with_reducible refine W.out ?_
          | with_reducible refine W.ret_blk ?_
          | with_reducible refine W.exit ?_
          | with_reducible refine W.exit_code ?_
          | with_reducible refine W.exit_here ?_
          | with_reducible refine W.leave_exit ?_
          | with_reducible refine W.leave_ret ?_
          | ((with_reducible refine W.exit_on ?h ?_); (case h => decide))
          | ((with_reducible apply W.reg); (case h => simp [T3, T24, T27, T28, T30, T49, hk, p6, hqk', hwk, hTab3, tabB, hj, hrj, encR, rowPV, hql, hql1, hset]; exact ⟨rfl, rfl, rfl⟩))
          | ((with_reducible apply W.draw mixed); (case hB => kernel_rfl); (case hr => simp [T3, T24, T27, T28, T30, T49, hk, p6, hqk', hwk, hTab3, tabB, hj, hrj, encR, rowPV, hql, hql1, hset]; rfl))
          | ((with_reducible apply W.cond); (case hc => simp; rfl); all_goals (intro hc_; try (cases hc_; done)))
          | ((with_reducible apply W.runX); (case _hc => rfl); (case h => simp [T3, T24, T27, T28, T30, T49, hk, p6, hqk', hwk, hTab3, tabB, hj, hrj, encR, rowPV, hql, hql1, hset]; exact ⟨rfl, rfl, rfl⟩))
          | fail)
        refine W.hand (k + 1, B3.set i0 (qs.set k (i64 100))) ?_ ?_ ?_ ?_
        · exact ⟨hk, p2.store hbl q1 p6 hql, hS qs rfl⟩
        · dsimp only; omega
        · repeat (first | exact Sw.Sub.nil | refine Sw.Sub.cons (by simp) ?_)
        · simp [hset]
      by_cases e5 : x = 20021
      · subst e5
        repeat' (first
          | with_reducible refine W.seq ?_
          | with_reducible refine W.next ?_
          | with_reducible refine W.nil ?_
          | with_reducible refine W.skip ?_
          | with_reducible refine W.ret ?_
          | with_reducible refine W.ret_code ?_
          | with_reducible refine W.block ?_
          | with_reducible refine W.out ?_
          | with_reducible refine W.ret_blk ?_
          | with_reducible refine W.exit ?_
          | with_reducible refine W.exit_code ?_
          | with_reducible refine W.exit_here ?_
          | with_reducible refine W.leave_exit ?_
          | with_reducible refine W.leave_ret ?_
          | ((with_reducible refine W.exit_on ?h ?_); (case h => decide))
          | ((with_reducible apply W.reg); (case h => simp [T3, T24, T27, T28, T30, T49, hk, p6, hqk', hwk, hTab3, tabB, hj, hrj, encR, rowPV, hql, hql1, hset]; exact ⟨rfl, rfl, rfl⟩))
          | ((with_reducible apply W.draw mixed); (case hB => kernel_rfl); (case hr => simp [T3, T24, T27, T28, T30, T49, hk, p6, hqk', hwk, hTab3, tabB, hj, hrj, encR, rowPV, hql, hql1, hset]; rfl))
          | ((with_reducible apply W.cond); (case hc => simp; rfl); all_goals (intro hc_; try (cases hc_; done)))
          | ((with_reducible apply W.runX); (case _hc => rfl); (case h => simp [T3, T24, T27, T28, T30, T49, hk, p6, hqk', hwk, hTab3, tabB, hj, hrj, encR, rowPV, hql, hql1, hset]; exact ⟨rfl, rfl, rfl⟩))
          | fail)
        refine W.hand (k + 1, B3.set i0 (qs.set k (i64 100))) ?_ ?_ ?_ ?_
        · exact ⟨hk, p2.store hbl q1 p6 hql, hS qs rfl⟩
        · dsimp only; omega
        · repeat (first | exact Sw.Sub.nil | refine Sw.Sub.cons (by simp) ?_)
        · simp [hset]
      by_cases e6 : x = 22121
      · subst e6
        repeat' (first
          | with_reducible refine W.seq ?_
          | with_reducible refine W.next ?_
          | with_reducible refine W.nil ?_
          | with_reducible refine W.skip ?_
          | with_reducible refine W.ret ?_
          | with_reducible refine W.ret_code ?_
          | with_reducible refine W.block ?_
          | with_reducible refine W.out ?_
          | with_reducible refine W.ret_blk ?_
          | with_reducible refine W.exit ?_
          | with_reducible refine W.exit_code ?_
          | with_reducible refine W.exit_here ?_
          | with_reducible refine W.leave_exit ?_
          | with_reducible refine W.leave_ret ?_
          | ((with_reducible refine W.exit_on ?h ?_); (case h => decide))
          | ((with_reducible apply W.reg); (case h => simp [T3, T24, T27, T28, T30, T49, hk, p6, hqk', hwk, hTab3, tabB, hj, hrj, encR, rowPV, hql, hql1, hset]; exact ⟨rfl, rfl, rfl⟩))
          | ((with_reducible apply W.draw mixed); (case hB => kernel_rfl); (case hr => simp [T3, T24, T27, T28, T30, T49, hk, p6, hqk', hwk, hTab3, tabB, hj, hrj, encR, rowPV, hql, hql1, hset]; rfl))
          | ((with_reducible apply W.cond); (case hc => simp; rfl); all_goals (intro hc_; try (cases hc_; done)))
          | ((with_reducible apply W.runX); (case _hc => rfl); (case h => simp [T3, T24, T27, T28, T30, T49, hk, p6, hqk', hwk, hTab3, tabB, hj, hrj, encR, rowPV, hql, hql1, hset]; exact ⟨rfl, rfl, rfl⟩))
          | fail)
        refine W.hand (k + 1, B3.set i0 (qs.set k (i64 100))) ?_ ?_ ?_ ?_
        · exact ⟨hk, p2.store hbl q1 p6 hql, hS qs rfl⟩
        · dsimp only; omega
        · repeat (first | exact Sw.Sub.nil | refine Sw.Sub.cons (by simp) ?_)
        · simp [hset]
      have f3 : (x == 20000) = false := by simpa using e3
      have f4 : (x == 20100) = false := by simpa using e4
      have f5 : (x == 20021) = false := by simpa using e5
      have f6 : (x == 22121) = false := by simpa using e6
      repeat' (first
        | with_reducible refine W.seq ?_
        | with_reducible refine W.next ?_
        | with_reducible refine W.nil ?_
        | with_reducible refine W.skip ?_
        | with_reducible refine W.ret ?_
        | with_reducible refine W.ret_code ?_
        | with_reducible refine W.block ?_
        | with_reducible refine W.out ?_
        | with_reducible refine W.ret_blk ?_
        | with_reducible refine W.exit ?_
        | with_reducible refine W.exit_code ?_
        | with_reducible refine W.exit_here ?_
        | with_reducible refine W.leave_exit ?_
        | with_reducible refine W.leave_ret ?_
        | ((with_reducible refine W.exit_on ?h ?_); (case h => decide))
        | ((with_reducible apply W.reg); (case h => simp [T3, T24, T27, T28, T30, T49, hk, p6, hqk', hql, hwk, e1, e2, f3, f4, f5, f6]; exact ⟨rfl, rfl, rfl⟩))
        | ((with_reducible apply W.draw mixed); (case hB => kernel_rfl); (case hr => simp [T3, T24, T27, T28, T30, T49, hk, p6, hqk', hql, hwk, e1, e2, f3, f4, f5, f6]; rfl))
        | ((with_reducible apply W.cond); (case hc => simp; rfl); all_goals (intro hc_; try (cases hc_; done)))
        | ((with_reducible apply W.runX); (case _hc => rfl); (case h => simp [T3, T24, T27, T28, T30, T49, hk, p6, hqk', hql, hwk, e1, e2, f3, f4, f5, f6]; exact ⟨rfl, rfl, rfl⟩))
        | fail)
      refine W.hand (k + 1, B3) ?_ ?_ ?_ rfl
      · refine ⟨hk, p2, xs, junk, by rw [hqs]; exact p6, p7, by rw [hqs]; exact p8, p9, fun z hz => ?_⟩
        dsimp only at hz
        rw [htk, List.mem_append, List.mem_singleton] at hz
        rcases hz with hz | hz
        · exact p10 z hz
        · rw [hz]; exact good_of hxd e1 e2 e3 e4 e5 e6
      · dsimp only; omega
      · repeat (first | exact Sw.Sub.nil | refine Sw.Sub.cons (by simp) ?_)
    · repeat' (first
        | with_reducible refine W.seq ?_
        | with_reducible refine W.next ?_
        | with_reducible refine W.nil ?_
        | with_reducible refine W.skip ?_
        | with_reducible refine W.ret ?_
        | with_reducible refine W.ret_code ?_
        | with_reducible refine W.block ?_
        | with_reducible refine W.out ?_
        | with_reducible refine W.ret_blk ?_
        | with_reducible refine W.exit ?_
        | with_reducible refine W.exit_code ?_
        | with_reducible refine W.exit_here ?_
        | with_reducible refine W.leave_exit ?_
        | with_reducible refine W.leave_ret ?_
        | ((with_reducible refine W.exit_on ?h ?_); (case h => decide))
        | ((with_reducible apply W.reg); (case h => simp [T3, T24, T27, T28, T30, T49, hk]; exact ⟨rfl, rfl, rfl⟩))
        | ((with_reducible apply W.draw mixed); (case hB => kernel_rfl); (case hr => simp [T3, T24, T27, T28, T30, T49, hk]; rfl))
        | ((with_reducible apply W.cond); (case hc => simp; rfl); all_goals (intro hc_; try (cases hc_; done)))
        | ((with_reducible apply W.runX); (case _hc => rfl); (case h => simp [T3, T24, T27, T28, T30, T49, hk]; exact ⟨rfl, rfl, rfl⟩))
        | fail)
      refine W.mid B3 ⟨p2, q1, by rw [← p2.len]; exact (List.getElem?_eq_some_iff.1 p6).1, q3, xs, junk, p6, p7, p8, fun z hz => p10 z (by rw [List.take_of_length_le (by omega)]; exact hz)⟩ ?_ rfl
      repeat (first | exact Sw.Sub.nil | refine Sw.Sub.cons (by simp) ?_)

set_option maxHeartbeats 1000000 in
/-- All codes are mended. -/
theorem mend_sw (n m : Nat) (σ : AS) (b : Nat) (L : List Int) (v : Int) (τ1 τ2 : Nat) (es : List Ent) (hbl : b < σ.bx.length) (rows : List Row) (tk : List (TypeId × Nat)) (Bl : Nat) (B : List (List PV))
    (hr3 : rows.length ≤ 3) (hM0 : Md σ b L (tabB v τ1 τ2 es (rows.map encR)) rows [] Bl B) (Q : Post) (kk : List KI) :
    SW Cc ⟨134, n, m⟩ (cAt [2, 2, 2, 2, 1, 2, 3] c9) (Cont Cc ⟨134, n, m⟩ (thenP (MidP (fun _ : List (List PV) => [(0, .ptr b 0), (4, .ptr σ.bx.length 0), (5, .ptr (σ.bx.length + 1) 0)]) (fun x => ⟨x, tk⟩)
      (fun x => Md σ b L (tabB v τ1 τ2 es (rows.map encR)) rows rows Bl x)) (Cont Cc ⟨134, n, m⟩ Q kk)) [.blk 7])
      [(0, .ptr b 0), (4, .ptr σ.bx.length 0), (5, .ptr (σ.bx.length + 1) 0), (85, i64 rows.length), (86, i64 0)] ⟨B, tk⟩ := by
  change SW Cc ⟨134, n, m⟩ (Code.loop _) _ _ _
  with_reducible refine W.loopS (α := Nat × List (List PV)) (fun x => [(0, .ptr b 0), (4, .ptr σ.bx.length 0), (5, .ptr (σ.bx.length + 1) 0), (85, i64 rows.length), (86, i64 x.1)]) (fun x => ⟨x.2, tk⟩) (fun x => x.1 ≤ rows.length ∧ Md σ b L (tabB v τ1 τ2 es (rows.map encR)) rows (rows.take x.1) Bl x.2) (fun x => rows.length - x.1) (0, B) ?_ ?_ ?_ ?_
  · exact ⟨Nat.zero_le _, by simpa using hM0⟩
  · repeat (first | exact Sw.Sub.nil | refine Sw.Sub.cons (by simp) ?_)
  · rfl
  · rintro ⟨j, B2⟩ ⟨m1, m2⟩
    dsimp only at m1 m2 ⊢
    have hTab2 := m2.tb.tab
    by_cases hj : j < rows.length
    · obtain ⟨⟨code, q⟩, hrj⟩ : ∃ r, rows[j]? = some r := ⟨rows[j], List.getElem?_eq_getElem hj⟩
      have hrm : (code, q) ∈ rows := List.mem_of_getElem? hrj
      have hwj : IntKind.i64.wrap ((j : Int) + 1) = (j : Int) + 1 := wrap64 (by omega)
      have htk : rows.take (j + 1) = rows.take j ++ [(code, q)] := by rw [List.take_add_one, hrj]; rfl
      have hrj' : rows[j] = (code, q) := (List.getElem?_eq_some_iff.1 hrj).2
      have hnew : ∀ B3, Md σ b L (tabB v τ1 τ2 es (rows.map encR)) rows (rows.take j) Bl B3 → RowOK good (σ.bx.length + 2) Bl B3 q → Md σ b L (tabB v τ1 τ2 es (rows.map encR)) rows (rows.take (j + 1)) Bl B3 := fun B3 h g => ⟨h.tb, h.len, h.all, fun r hr => by
        rw [htk] at hr
        rcases List.mem_append.1 hr with hr | hr
        · exact h.good r hr
        · rw [List.mem_singleton.1 hr]; exact g⟩
      cases q with
      | none =>
        repeat' (first
          | with_reducible refine W.seq ?_
          | with_reducible refine W.next ?_
          | with_reducible refine W.nil ?_
          | with_reducible refine W.skip ?_
          | with_reducible refine W.ret ?_
          | with_reducible refine W.ret_code ?_
          | with_reducible refine W.block ?_
          | with_reducible refine W.out ?_
          | with_reducible refine W.ret_blk ?_
          | with_reducible refine W.exit ?_
          | with_reducible refine W.exit_code ?_
          | with_reducible refine W.exit_here ?_
          | with_reducible refine W.leave_exit ?_
          | with_reducible refine W.leave_ret ?_
          | ((with_reducible refine W.exit_on ?h ?_); (case h => decide))
          | ((with_reducible apply W.reg); (case h => simp [T3, T24, T27, T28, T30, T49, hj, hTab2, tabB, hrj', encR, rowPV, hwj]; exact ⟨rfl, rfl, rfl⟩))
          | ((with_reducible apply W.draw mixed); (case hB => kernel_rfl); (case hr => simp [T3, T24, T27, T28, T30, T49, hj, hTab2, tabB, hrj', encR, rowPV, hwj]; rfl))
          | ((with_reducible apply W.cond); (case hc => simp; rfl); all_goals (intro hc_; try (cases hc_; done)))
          | ((with_reducible apply W.runX); (case _hc => rfl); (case h => simp [T3, T24, T27, T28, T30, T49, hj, hTab2, tabB, hrj', encR, rowPV, hwj]; exact ⟨rfl, rfl, rfl⟩))
          | fail)
        with_reducible refine W.loopS (α := Unit) (fun _ => [(0, .ptr b 0), (4, .ptr σ.bx.length 0), (5, .ptr (σ.bx.length + 1) 0), (85, i64 rows.length), (86, i64 j), (95, i64 0), (96, i64 0)]) (fun _ => ⟨B2, tk⟩) (fun _ => True) (fun _ => 0) () ?_ ?_ ?_ ?_
        · trivial
        · repeat (first | exact Sw.Sub.nil | refine Sw.Sub.cons (by simp) ?_)
        · rfl
        · rintro _ -
          repeat' (first
            | with_reducible refine W.seq ?_
            | with_reducible refine W.next ?_
            | with_reducible refine W.nil ?_
            | with_reducible refine W.skip ?_
            | with_reducible refine W.ret ?_
            | with_reducible refine W.ret_code ?_
            | with_reducible refine W.block ?_
            | with_reducible refine W.out ?_
            | with_reducible refine W.ret_blk ?_
            | with_reducible refine W.exit ?_
            | with_reducible refine W.exit_code ?_
            | with_reducible refine W.exit_here ?_
            | with_reducible refine W.leave_exit ?_
            | with_reducible refine W.leave_ret ?_
            | ((with_reducible refine W.exit_on ?h ?_); (case h => decide))
            | ((with_reducible apply W.reg); (case h => simp [T3, T24, T27, T28, T30, T49, hwj]; exact ⟨rfl, rfl, rfl⟩))
            | ((with_reducible apply W.draw mixed); (case hB => kernel_rfl); (case hr => simp [T3, T24, T27, T28, T30, T49, hwj]; rfl))
            | ((with_reducible apply W.cond); (case hc => simp; rfl); all_goals (intro hc_; try (cases hc_; done)))
            | ((with_reducible apply W.runX); (case _hc => rfl); (case h => simp [T3, T24, T27, T28, T30, T49, hwj]; exact ⟨rfl, rfl, rfl⟩))
            | fail)
          refine W.hand (j + 1, B2) ?_ ?_ ?_ rfl
          · exact ⟨hj, hnew B2 m2 trivial⟩
          · dsimp only; omega
          · repeat (first | exact Sw.Sub.nil | refine Sw.Sub.cons (by simp) ?_)
      | some q =>
        obtain ⟨i0, n0, c0⟩ := q
        repeat' (first
          | with_reducible refine W.seq ?_
          | with_reducible refine W.next ?_
          | with_reducible refine W.nil ?_
          | with_reducible refine W.skip ?_
          | with_reducible refine W.ret ?_
          | with_reducible refine W.ret_code ?_
          | with_reducible refine W.block ?_
          | with_reducible refine W.out ?_
          | with_reducible refine W.ret_blk ?_
          | with_reducible refine W.exit ?_
          | with_reducible refine W.exit_code ?_
          | with_reducible refine W.exit_here ?_
          | with_reducible refine W.leave_exit ?_
          | with_reducible refine W.leave_ret ?_
          | ((with_reducible refine W.exit_on ?h ?_); (case h => decide))
          | ((with_reducible apply W.reg); (case h => simp [T3, T24, T27, T28, T30, T49, hj, hTab2, tabB, hrj', encR, rowPV, hwj]; exact ⟨rfl, rfl, rfl⟩))
          | ((with_reducible apply W.draw mixed); (case hB => kernel_rfl); (case hr => simp [T3, T24, T27, T28, T30, T49, hj, hTab2, tabB, hrj', encR, rowPV, hwj]; rfl))
          | ((with_reducible apply W.cond); (case hc => simp; rfl); all_goals (intro hc_; try (cases hc_; done)))
          | ((with_reducible apply W.runX); (case _hc => rfl); (case h => simp [T3, T24, T27, T28, T30, T49, hj, hTab2, tabB, hrj', encR, rowPV, hwj]; exact ⟨rfl, rfl, rfl⟩))
          | fail)
        refine W.cutG (mend1_sw n m σ b L v τ1 τ2 es hbl rows (rows.take j) tk Bl j B2 code i0 n0 c0 hj hr3 hrj' m2 _ _) ?_ ?_
        · repeat (first | exact Sw.Sub.nil | refine Sw.Sub.cons (by simp) ?_)
        · rintro B3 pf ⟨w1, w2⟩ hs
          with_reducible refine W.out ?_
          with_reducible refine W.next ?_
          refine W.sub ?_ hs
          repeat' (first
            | with_reducible refine W.seq ?_
            | with_reducible refine W.next ?_
            | with_reducible refine W.nil ?_
            | with_reducible refine W.skip ?_
            | with_reducible refine W.ret ?_
            | with_reducible refine W.ret_code ?_
            | with_reducible refine W.block ?_
            | with_reducible refine W.out ?_
            | with_reducible refine W.ret_blk ?_
            | with_reducible refine W.exit ?_
            | with_reducible refine W.exit_code ?_
            | with_reducible refine W.exit_here ?_
            | with_reducible refine W.leave_exit ?_
            | with_reducible refine W.leave_ret ?_
            | ((with_reducible refine W.exit_on ?h ?_); (case h => decide))
            | ((with_reducible apply W.reg); (case h => simp [T3, T24, T27, T28, T30, T49, hwj]; exact ⟨rfl, rfl, rfl⟩))
            | ((with_reducible apply W.draw mixed); (case hB => kernel_rfl); (case hr => simp [T3, T24, T27, T28, T30, T49, hwj]; rfl))
            | ((with_reducible apply W.cond); (case hc => simp; rfl); all_goals (intro hc_; try (cases hc_; done)))
            | ((with_reducible apply W.runX); (case _hc => rfl); (case h => simp [T3, T24, T27, T28, T30, T49, hwj]; exact ⟨rfl, rfl, rfl⟩))
            | fail)
          refine W.hand (j + 1, B3) ?_ ?_ ?_ rfl
          · exact ⟨hj, hnew B3 w1 w2⟩
          · dsimp only; omega
          · repeat (first | exact Sw.Sub.nil | refine Sw.Sub.cons (by simp) ?_)
    · have hje : j = rows.length := by omega
      subst hje
      repeat' (first
        | with_reducible refine W.seq ?_
        | with_reducible refine W.next ?_
        | with_reducible refine W.nil ?_
        | with_reducible refine W.skip ?_
        | with_reducible refine W.ret ?_
        | with_reducible refine W.ret_code ?_
        | with_reducible refine W.block ?_
        | with_reducible refine W.out ?_
        | with_reducible refine W.ret_blk ?_
        | with_reducible refine W.exit ?_
        | with_reducible refine W.exit_code ?_
        | with_reducible refine W.exit_here ?_
        | with_reducible refine W.leave_exit ?_
        | with_reducible refine W.leave_ret ?_
        | ((with_reducible refine W.exit_on ?h ?_); (case h => decide))
        | ((with_reducible apply W.reg); (case h => simp [T3, T24, T27, T28, T30, T49]; exact ⟨rfl, rfl, rfl⟩))
        | ((with_reducible apply W.draw mixed); (case hB => kernel_rfl); (case hr => simp [T3, T24, T27, T28, T30, T49]; rfl))
        | ((with_reducible apply W.cond); (case hc => simp; rfl); all_goals (intro hc_; try (cases hc_; done)))
        | ((with_reducible apply W.runX); (case _hc => rfl); (case h => simp [T3, T24, T27, T28, T30, T49]; exact ⟨rfl, rfl, rfl⟩))
        | fail)
      refine W.mid B2 (by simpa using m2) ?_ rfl
      repeat (first | exact Sw.Sub.nil | refine Sw.Sub.cons (by simp) ?_)


end Go.Proofs.YtgabnlkkjmepnaaDoor

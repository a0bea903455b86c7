/- The law TableLimits: it returns true. -/
import Derived.Test.YtgabnlkkjmepnaaDoorX2
import Derived.Test.YtgabnlkkjmepnaaDoorSwS
import Derived.Test.YtgabnlkkjmepnaaDoorS18
import Derived.IntWalk
namespace Go.Proofs.YtgabnlkkjmepnaaDoor
open Go.Sw
set_option linter.unusedSimpArgs false
set_option linter.unusedVariables false
attribute [local simp] runOps stepOp pureOp gd isCall inN setd Sw.get params ev evs binV unV convV loadA cellsPV oneB storeA fieldAddrA fieldOff fieldA partA aggOf extractA indexAddrA indexA lenA minmaxA sliceA bnd partsA buildA placesA fillA buildSliceA zerosA chunkA TyD.agg Value.oneCell' Value.cells runPure appA appendA okRow_nil okRow_cons okRow_append resultA ressA resA List.getElem?_append List.set_append Cl_any Cl_val Cl_ptr Cl_agg Cl_tup Cl_fn Cl_rop Cl_sl Sw.take_set Sw.take_set_app Sw.take_app

attribute [local simp] encI encE encS encT okRow_encE okRow_encS okRow_encI
theorem Wk_sl {own : Option Nat} {xs ys : List (List PV)} (h : WkB Cc xs ys) : Wk Cc (.sl own xs) (.sl own ys) := by
  intro s v hr
  cases hr with
  | sl _ _ size b o c a u hl hm ha hx hs hc hr ho =>
    rw [h.length] at hl ha hs hc ho ⊢
    refine .sl own ys size b o c a u hl hm ha (fun y hy => ?_) hs hc (fun i j y q hy hq => ?_) ho
    · obtain ⟨j, hj, rfl⟩ := List.getElem_of_mem hy
      obtain ⟨p, h1, h2⟩ := h.at_ j _ (List.getElem?_eq_getElem hj)
      rw [← h2.length]
      exact hx p (List.mem_of_getElem? h1)
    · obtain ⟨x, h1, h2⟩ := h.at_ i y hy
      obtain ⟨p, h3, h4⟩ := h2.at_ j q hq
      exact h4 s _ (hr i j x p h1 h3)
theorem T0_call (codes : List Int) (hc : ∀ c ∈ codes, I64 c) (hl : codes.length ≤ 1000000) (e : Int) (h : expandF T0 codes = (e, [])) (σ : AS) : SC1 Cc 18 [.agg [i64 1, .val (.slice none 0 0), .sl none [[i64 10000, .sl none [[i64 20120], [i64 10001]]], [i64 10001, .sl none [[i64 20120], [i64 10002]]], [i64 10002, .sl none [[i64 20120], [i64 10003]]], [i64 10003, .val (.slice none 0 0)]]], .sl none (codes.map encI)] σ (.tup [.sl none [], i64 e]) σ := by
  have := Expand_sc T0 codes σ T0_ok hc hl
  rw [h] at this
  exact this.wk ⟨Wk.agg (show WkL Cc [i64 1, .val (.slice none 0 0), .sl none [[i64 10000, .sl none [[i64 20120], [i64 10001]]], [i64 10001, .sl none [[i64 20120], [i64 10002]]], [i64 10002, .sl none [[i64 20120], [i64 10003]]], [i64 10003, .val (.slice none 0 0)]]] [i64 1, .sl none [], .sl none [[i64 10000, .sl none [[i64 20120], [i64 10001]]], [i64 10001, .sl none [[i64 20120], [i64 10002]]], [i64 10002, .sl none [[i64 20120], [i64 10003]]], [i64 10003, .sl none []]]] from
    ⟨Wk.rfl, Wk.nil, Wk_sl ⟨WkL.rfl, WkL.rfl, WkL.rfl, ⟨Wk.rfl, Wk.nil, trivial⟩, trivial⟩, trivial⟩), Wk.rfl, trivial⟩
set_option maxHeartbeats 2000000 in
theorem TableLimits_sc (L : List Int) (σ : AS) : SC Cc 6 [.sl none (L.map encI)] σ (fun r σ' => r = bV true ∧ σ' = σ) := by
  refine W.body Tryd.func6 rfl 132 Tryd.ntmps6 _ Tryd.results6 (by simp) GEt_cl fun hσ => ?_
  repeat' (first
    | with_reducible refine W.seq ?_
    | with_reducible refine W.next ?_
    | with_reducible refine W.nil ?_
    | with_reducible refine W.skip ?_
    | with_reducible refine W.ret ?_
    | with_reducible refine W.ret_code ?_
    | with_reducible refine W.block ?_
    | with_reducible refine W.out ?_
    | with_reducible refine W.ret_blk ?_
    | with_reducible refine W.exit ?_
    | with_reducible refine W.exit_code ?_
    | with_reducible refine W.exit_here ?_
    | with_reducible refine W.leave_exit ?_
    | with_reducible refine W.leave_ret ?_
    | ((with_reducible refine W.exit_on ?h ?_); (case h => decide))
    | ((with_reducible apply W.reg); (case h => simp [T3, T23, T24, T25, T27, T30]; exact ⟨rfl, rfl, rfl⟩))
    | ((with_reducible apply W.draw mixed); (case hB => kernel_rfl); (case hr => simp [T3, T23, T24, T25, T27, T30]; rfl))
    | ((with_reducible apply W.cond); (case hc => simp; rfl); all_goals (intro hc_; try (cases hc_; done)))
    | ((with_reducible apply W.runX); (case _hc => rfl); (case h => simp [T3, T23, T24, T25, T27, T30]; exact ⟨rfl, rfl, rfl⟩))
    | ((with_reducible apply W.callR go8); (case ho => rfl); (case hc => rfl); (case hf => rfl); (case hg => first | rfl | simp [T3, T23, T24, T25, T27, T30]); (case hd => rfl); (case ha => simp [T3, T23, T24, T25, T27, T30]; rfl); (case hargs => rfl); (case hs => exact New_sc L _); rintro _ _ ⟨L', hL', rfl, rfl⟩)
    | ((with_reducible apply W.callR go9); (case ho => rfl); (case hc => rfl); (case hf => rfl); (case hg => first | rfl | simp [T3, T23, T24, T25, T27, T30]); (case hd => rfl); (case ha => simp [T3, T23, T24, T25, T27, T30]; rfl); (case hargs => rfl); (case hs => exact Table_sc σ.bx.length L' 0 1 _ (by simp) (Nat.zero_le _) hL'); rintro _ _ ⟨t, a1, ht, ha1, rfl, rfl⟩)
    | ((with_reducible apply W.callR go20); (case ho => rfl); (case hc => rfl); (case hf => rfl); (case hg => first | rfl | simp [T3, T23, T24, T25, T27, T30]); (case hd => rfl); (case ha => simp [T3, T23, T24, T25, T27, T30]; rfl); (case hargs => rfl); (case hs => exact Range_sc σ.bx.length L' a1 1 20 _ (by simp) ha1 hL' (by omega) (by omega) (by omega)); rintro _ _ ⟨x, a2, hx, ha2, rfl, rfl⟩)
    | fail)
  obtain ⟨y, hy⟩ : ∃ y, (60 : Int).tdiv x = y := ⟨_, rfl⟩
  have hx0 : ¬ x = 0 := by omega
  obtain ⟨t1, t2, t3⟩ := tdiv_bnd (a := 60) (s := x) (by decide) hx.1
  rw [hy] at t1 t2 t3
  have hy1 : 3 ≤ y := by
    rcases Int.lt_or_le 2 y with h | h
    · omega
    · have : x * (y + 1) ≤ x * 3 := Int.mul_le_mul_of_nonneg_left (by omega) (by omega)
      omega
  have hy60 : y ≤ 60 := by
    have : 1 * y ≤ x * y := Int.mul_le_mul_of_nonneg_right hx.1 t3
    omega
  have hwy : IntKind.i64.wrap y = y := wrap64 (by omega)
  repeat' (first
    | with_reducible refine W.seq ?_
    | with_reducible refine W.next ?_
    | with_reducible refine W.nil ?_
    | with_reducible refine W.skip ?_
    | with_reducible refine W.ret ?_
    | with_reducible refine W.ret_code ?_
    | with_reducible refine W.block ?_
    | with_reducible refine W.out ?_
    | with_reducible refine W.ret_blk ?_
    | with_reducible refine W.exit ?_
    | with_reducible refine W.exit_code ?_
    | with_reducible refine W.exit_here ?_
    | with_reducible refine W.leave_exit ?_
    | with_reducible refine W.leave_ret ?_
    | ((with_reducible refine W.exit_on ?h ?_); (case h => decide))
    | ((with_reducible apply W.reg); (case h => simp [T3, T23, T24, T25, T27, T30, hx0, hy, hwy]; exact ⟨rfl, rfl, rfl⟩))
    | ((with_reducible apply W.draw mixed); (case hB => kernel_rfl); (case hr => simp [T3, T23, T24, T25, T27, T30, hx0, hy, hwy]; rfl))
    | ((with_reducible apply W.cond); (case hc => simp; rfl); all_goals (intro hc_; try (cases hc_; done)))
    | ((with_reducible apply W.runX); (case _hc => rfl); (case h => simp [T3, T23, T24, T25, T27, T30, hx0, hy, hwy]; exact ⟨rfl, rfl, rfl⟩))
    | fail)
  refine W.token 3 7 (by simp) ?_
  with_reducible refine W.loopS (α := List Int × Nat) (fun s => [(3, .ptr σ.bx.length 0), (4, .ptr (σ.bx.length + 1) 0), (5, i64 x), (6, i64 y), (7, .sl (some σ.tk.length) (s.1.map encI)), (8, i64 s.1.length)]) (fun s => ⟨σ.bx ++ [srcB L' s.2, encT t], σ.tk ++ [(3, s.1.length)]⟩) (fun s => (s.1.length : Int) ≤ x ∧ (∀ c ∈ s.1, IsE c) ∧ s.2 ≤ L'.length) (fun s => x.toNat - s.1.length) ([], a2) ?_ ?_ ?_ ?_
  · exact ⟨by simp; omega, by simp, ha2⟩
  · repeat (first | exact Sw.Sub.nil | refine Sw.Sub.cons (by simp) ?_)
  · simp
  rintro ⟨cs, a3⟩ ⟨hcl, hce, ha3⟩
  dsimp only at hcl hce ha3 ⊢
  by_cases hlt : (cs.length : Int) < x
  · have hwl : IntKind.i64.wrap ((cs.length : Int) + 1) = (cs.length : Int) + 1 := wrap64 (by omega)
    have hbt : (cs.length + 1) * 8 ≤ 140737488355328 := by omega
    repeat' (first
      | with_reducible refine W.seq ?_
      | with_reducible refine W.next ?_
      | with_reducible refine W.nil ?_
      | with_reducible refine W.skip ?_
      | with_reducible refine W.ret ?_
      | with_reducible refine W.ret_code ?_
      | with_reducible refine W.block ?_
      | with_reducible refine W.out ?_
      | with_reducible refine W.ret_blk ?_
      | with_reducible refine W.exit ?_
      | with_reducible refine W.exit_code ?_
      | with_reducible refine W.exit_here ?_
      | with_reducible refine W.leave_exit ?_
      | with_reducible refine W.leave_ret ?_
      | ((with_reducible refine W.exit_on ?h ?_); (case h => decide))
      | ((with_reducible apply W.reg); (case h => simp [T3, T23, T24, T25, T27, T30, hlt, hwl, hbt]; exact ⟨rfl, rfl, rfl⟩))
      | ((with_reducible apply W.draw mixed); (case hB => kernel_rfl); (case hr => simp [T3, T23, T24, T25, T27, T30, hlt, hwl, hbt]; rfl))
      | ((with_reducible apply W.cond); (case hc => simp; rfl); all_goals (intro hc_; try (cases hc_; done)))
      | ((with_reducible apply W.runX); (case _hc => rfl); (case h => simp [T3, T23, T24, T25, T27, T30, hlt, hwl, hbt]; exact ⟨rfl, rfl, rfl⟩))
      | ((with_reducible apply W.callR go20); (case ho => rfl); (case hc => rfl); (case hf => rfl); (case hg => first | rfl | simp [T3, T23, T24, T25, T27, T30, hlt, hwl, hbt]); (case hd => rfl); (case ha => simp [T3, T23, T24, T25, T27, T30, hlt, hwl, hbt]; rfl); (case hargs => rfl); (case hs => exact Range_sc σ.bx.length L' a3 1 11 _ (by simp) ha3 hL' (by omega) (by omega) (by omega)); rintro _ _ ⟨z, a4, hz, ha4, rfl, rfl⟩)
      | fail)
    have hwz : IntKind.i64.wrap (100 * z) = 100 * z := wrap64 (by omega)
    refine W.hand (cs ++ [100 * z], a4) ?_ ?_ ?_ ?_
    · refine ⟨by simp; omega, fun c hc => ?_, ha4⟩
      rcases List.mem_append.1 hc with hc | hc
      · exact hce c hc
      · rw [List.mem_singleton.1 hc]
        exact ⟨(z - 1).toNat, by omega, by omega⟩
    · simp; omega
    · repeat (first | exact Sw.Sub.nil | refine Sw.Sub.cons (by simp [hwz]) ?_)
    · simp
  · have hcx : (cs.length : Int) = x := by omega
    by_cases hg : 20 < y ∨ 19 < x
    · by_cases hg1 : 20 < y
      · repeat' (first
          | with_reducible refine W.seq ?_
          | with_reducible refine W.next ?_
          | with_reducible refine W.nil ?_
          | with_reducible refine W.skip ?_
          | with_reducible refine W.ret ?_
          | with_reducible refine W.ret_code ?_
          | with_reducible refine W.block ?_
          | with_reducible refine W.out ?_
          | with_reducible refine W.ret_blk ?_
          | with_reducible refine W.exit ?_
          | with_reducible refine W.exit_code ?_
          | with_reducible refine W.exit_here ?_
          | with_reducible refine W.leave_exit ?_
          | with_reducible refine W.leave_ret ?_
          | ((with_reducible refine W.exit_on ?h ?_); (case h => decide))
          | ((with_reducible apply W.reg); (case h => simp [T3, T23, T24, T25, T27, T30, hlt, hg1]; exact ⟨rfl, rfl, rfl⟩))
          | ((with_reducible apply W.draw mixed); (case hB => kernel_rfl); (case hr => simp [T3, T23, T24, T25, T27, T30, hlt, hg1]; rfl))
          | ((with_reducible apply W.cond); (case hc => simp; rfl); all_goals (intro hc_; try (cases hc_; done)))
          | ((with_reducible apply W.runX); (case _hc => rfl); (case h => simp [T3, T23, T24, T25, T27, T30, hlt, hg1]; exact ⟨rfl, rfl, rfl⟩))
          | ((with_reducible apply W.call1 go16); (case ho => rfl); (case hc => rfl); (case hf => rfl); (case hg => first | rfl | simp [T3, T23, T24, T25, T27, T30, hlt, hg1]); (case hd => rfl); (case ha => simp [T3, T23, T24, T25, T27, T30, hlt, hg1]; rfl); (case hargs => rfl); (case hs => exact awake_sc _))
          | fail)
        with_reducible apply W.fin
        case h1 => simp <;> rfl
        case h2 => exact Wk.rfl
        case h3 => simp
        case h4 => exact hσ.clB.app (Nat.le_refl _)
        exact ⟨rfl, by simp⟩
      · have hg3 : 19 < x := by omega
        repeat' (first
          | with_reducible refine W.seq ?_
          | with_reducible refine W.next ?_
          | with_reducible refine W.nil ?_
          | with_reducible refine W.skip ?_
          | with_reducible refine W.ret ?_
          | with_reducible refine W.ret_code ?_
          | with_reducible refine W.block ?_
          | with_reducible refine W.out ?_
          | with_reducible refine W.ret_blk ?_
          | with_reducible refine W.exit ?_
          | with_reducible refine W.exit_code ?_
          | with_reducible refine W.exit_here ?_
          | with_reducible refine W.leave_exit ?_
          | with_reducible refine W.leave_ret ?_
          | ((with_reducible refine W.exit_on ?h ?_); (case h => decide))
          | ((with_reducible apply W.reg); (case h => simp [T3, T23, T24, T25, T27, T30, hlt, hg1, hg3]; exact ⟨rfl, rfl, rfl⟩))
          | ((with_reducible apply W.draw mixed); (case hB => kernel_rfl); (case hr => simp [T3, T23, T24, T25, T27, T30, hlt, hg1, hg3]; rfl))
          | ((with_reducible apply W.cond); (case hc => simp; rfl); all_goals (intro hc_; try (cases hc_; done)))
          | ((with_reducible apply W.runX); (case _hc => rfl); (case h => simp [T3, T23, T24, T25, T27, T30, hlt, hg1, hg3]; exact ⟨rfl, rfl, rfl⟩))
          | ((with_reducible apply W.call1 go16); (case ho => rfl); (case hc => rfl); (case hf => rfl); (case hg => first | rfl | simp [T3, T23, T24, T25, T27, T30, hlt, hg1, hg3]); (case hd => rfl); (case ha => simp [T3, T23, T24, T25, T27, T30, hlt, hg1, hg3]; rfl); (case hargs => rfl); (case hs => exact awake_sc _))
          | fail)
        with_reducible apply W.fin
        case h1 => simp <;> rfl
        case h2 => exact Wk.rfl
        case h3 => simp
        case h4 => exact hσ.clB.app (Nat.le_refl _)
        exact ⟨rfl, by simp⟩
    · have hg1 : ¬ 20 < y := by omega
      have hg3 : ¬ 19 < x := by omega
      have hxl : 1 ≤ cs.length ∧ cs.length ≤ 19 := by omega
      obtain ⟨yn, rfl⟩ := Int.eq_ofNat_of_zero_le t3
      subst hcx
      have hyb : 1 ≤ yn ∧ yn ≤ 20 := by omega
      have hm : IntKind.i64.wrap (100 * (cs.length : Int)) = 100 * (cs.length : Int) := wrap64 (by omega)
      have ha : IntKind.i64.wrap (20000 + 100 * (cs.length : Int)) = 20000 + 100 * (cs.length : Int) := wrap64 (by omega)
      have hb : IntKind.i64.wrap (20000 + 100 * (cs.length : Int) + (yn : Int)) = 20000 + 100 * (cs.length : Int) + (yn : Int) := wrap64 (by omega)
      have hbt : (1 + cs.length) * 8 ≤ 140737488355328 := by omega
      have hmul : cs.length * yn ≤ 60 := by
        have : ((cs.length * yn : Nat) : Int) ≤ 60 := by rw [Int.natCast_mul]; exact t1
        omega
      have htok := ht.ok (show I64 1 by unfold I64; decide)
      have hexp : ∀ (q : Nat), 1 ≤ q ∧ q ≤ 20 → ∀ (σ : AS) (τ : Nat), SC1 Cc 18 [.agg (encT t), .sl (some τ) (((20000 + 100 * (cs.length : Int) + (q : Int)) :: cs).map encI)] σ (.tup [.sl none ((expandF t ((20000 + 100 * (cs.length : Int) + (q : Int)) :: cs)).2.map encE), i64 (expandF t ((20000 + 100 * (cs.length : Int) + (q : Int)) :: cs)).1]) σ := by
        intro q hq σ τ
        refine SC1.wk (Expand_sc t ((20000 + 100 * (cs.length : Int) + (q : Int)) :: cs) σ htok (fun c hc => ?_) (by simp; omega)) ⟨Wk.rfl, Wk.unown, trivial⟩
        rcases List.mem_cons.1 hc with rfl | hc
        · exact ⟨by omega, by omega⟩
        · obtain ⟨k, hk, rfl⟩ := hce c hc
          exact ⟨by omega, by omega⟩
      obtain ⟨o1, ho1, he1⟩ := (expand_rep ht cs hce yn hxl hyb).1 hmul
      have hexp1 := hexp yn hyb
      rw [he1] at hexp1
      dsimp only at hexp1
      repeat' (first
        | with_reducible refine W.seq ?_
        | with_reducible refine W.next ?_
        | with_reducible refine W.nil ?_
        | with_reducible refine W.skip ?_
        | with_reducible refine W.ret ?_
        | with_reducible refine W.ret_code ?_
        | with_reducible refine W.block ?_
        | with_reducible refine W.out ?_
        | with_reducible refine W.ret_blk ?_
        | with_reducible refine W.exit ?_
        | with_reducible refine W.exit_code ?_
        | with_reducible refine W.exit_here ?_
        | with_reducible refine W.leave_exit ?_
        | with_reducible refine W.leave_ret ?_
        | ((with_reducible refine W.exit_on ?h ?_); (case h => decide))
        | ((with_reducible apply W.reg); (case h => simp [T3, T23, T24, T25, T27, T30, hlt, hg1, hg3]; exact ⟨rfl, rfl, rfl⟩))
        | ((with_reducible apply W.draw mixed); (case hB => kernel_rfl); (case hr => simp [T3, T23, T24, T25, T27, T30, hlt, hg1, hg3]; rfl))
        | ((with_reducible apply W.cond); (case hc => simp; rfl); all_goals (intro hc_; try (cases hc_; done)))
        | ((with_reducible apply W.runX); (case _hc => rfl); (case h => simp [T3, T23, T24, T25, T27, T30, hlt, hg1, hg3]; exact ⟨rfl, rfl, rfl⟩))
        | fail)
      refine W.cutC (α := Unit) (fun _ => [(3, .ptr σ.bx.length 0), (4, .ptr (σ.bx.length + 1) 0), (5, i64 cs.length), (6, i64 yn), (7, .sl (some σ.tk.length) (cs.map encI)), (9, .sl none (o1.map encE)), (10, i64 0)]) (fun _ => ⟨σ.bx ++ [srcB L' a3, encT t], σ.tk ++ [(3, cs.length), (3, 1 + cs.length)]⟩) (fun _ => True) ?_ ?_
      · with_reducible apply W.held0 mixed 15 [0, 1, 2, 3, 4, 5, 7]
        case hn => rfl
        with_reducible apply SH.takes [0, 1, 2, 3, 4, 5, 7] 8
        case hfu => rfl
        case hs => kernel_rfl
        case hB => kernel_rfl
        case hQ => first | exact fun _ _ _ h => h | exact fun _ _ _ h => hNP _ _ _ h
        case hs0 => exact Sub0.rfl
        case hr => simp [T3, T23, T24, T27, T30, hm, ha, hb, hbt, runTakes, takeOp, effA, effOp, down, down1, hideB, keep]; exact ⟨rfl, rfl⟩
        with_reducible apply SH.one 6
        case hr => kernel_rfl
        with_reducible apply SHo.ownX
        case he => simp [T3, T23, T24, T27, T30, hm, ha, hb, hbt, runTakes, takeOp, effA, effOp, down, down1, hideB, keep, ownA]; exact ⟨rfl, rfl, rfl⟩
        with_reducible apply SH.one 8
        case hr => kernel_rfl
        with_reducible apply SHo.effX
        case hh => exact (Sub0.rfl).hid.mono (by simp)
        case he => simp [T3, T23, T24, T27, T30, hm, ha, hb, hbt, runTakes, takeOp, effA, effOp, down, down1, hideB, keep]; exact ⟨rfl, rfl, rfl⟩
        with_reducible apply SH.one 9
        case hr => kernel_rfl
        with_reducible apply SHo.callX go18
        case hi => rfl
        case ho => rfl
        case hc => rfl
        case hf => rfl
        case hg => first | rfl | simp [T3, T23, T24, T27, T30, hm, ha, hb, hbt, runTakes, takeOp, effA, effOp, down, down1, hideB, keep]
        case hd => rfl
        case ha => simp [T3, T23, T24, T27, T30, hm, ha, hb, hbt, runTakes, takeOp, effA, effOp, down, down1, hideB, keep]; rfl
        case hargs => rfl
        case hs => exact FSC.quiet fun σs => hexp1 σs _
        rintro _ _ ⟨rfl, rfl⟩
        with_reducible apply SH.one 10
        case hr => kernel_rfl
        with_reducible apply SHo.lastX
        case hnd => kernel_rfl
        case he => simp [T3, T23, T24, T27, T30, hm, ha, hb, hbt, runTakes, takeOp, effA, effOp, down, down1, hideB, keep, lastA]; exact ⟨rfl, rfl, rfl⟩
        with_reducible apply SH.two 11 12
        case hr => kernel_rfl
        · skip
          with_reducible apply SHo.lastX
          case hnd => kernel_rfl
          case he => simp [T3, T23, T24, T27, T30, runTakes, takeOp, effA, effOp, down, down1, hideB, keep, lastA]; exact ⟨rfl, rfl, rfl⟩
          with_reducible apply SH.two 12 13
          case hr => kernel_rfl
          · skip
            with_reducible apply SHo.lastX
            case hnd => kernel_rfl
            case he => simp [T3, T23, T24, T27, T30, runTakes, takeOp, effA, effOp, down, down1, hideB, keep, lastA]; exact ⟨rfl, rfl, rfl⟩
            with_reducible apply SH.one 13
            case hr => kernel_rfl
            with_reducible apply SHo.lastX
            case hnd => kernel_rfl
            case he => simp [T3, T23, T24, T27, T30, runTakes, takeOp, effA, effOp, down, down1, hideB, keep, lastA]; exact ⟨rfl, rfl, rfl⟩
            with_reducible apply SH.one 14
            case hr => kernel_rfl
            with_reducible apply SHo.lastX
            case hnd => kernel_rfl
            case he => simp [T3, T23, T24, T27, T30, runTakes, takeOp, effA, effOp, down, down1, hideB, keep, lastA]; exact ⟨rfl, rfl, rfl⟩
            refine SH.done (by kernel_rfl) ?_
            refine W.mid () trivial ?_ (by simp)
            repeat (first | exact Sw.Sub.nil | refine Sw.Sub.cons (by simp) ?_)
          · skip
            with_reducible apply SHo.lastX
            case hnd => kernel_rfl
            case he => simp [T3, T23, T24, T27, T30, runTakes, takeOp, effA, effOp, down, down1, hideB, keep, lastA]; exact ⟨rfl, rfl, rfl⟩
            with_reducible apply SH.one 12
            case hr => kernel_rfl
            with_reducible apply SHo.lastX
            case hnd => kernel_rfl
            case he => simp [T3, T23, T24, T27, T30, runTakes, takeOp, effA, effOp, down, down1, hideB, keep, lastA]; exact ⟨rfl, rfl, rfl⟩
            with_reducible apply SH.one 14
            case hr => kernel_rfl
            with_reducible apply SHo.lastX
            case hnd => kernel_rfl
            case he => simp [T3, T23, T24, T27, T30, runTakes, takeOp, effA, effOp, down, down1, hideB, keep, lastA]; exact ⟨rfl, rfl, rfl⟩
            refine SH.done (by kernel_rfl) ?_
            refine W.mid () trivial ?_ (by simp)
            repeat (first | exact Sw.Sub.nil | refine Sw.Sub.cons (by simp) ?_)
        · skip
          with_reducible apply SHo.lastX
          case hnd => kernel_rfl
          case he => simp [T3, T23, T24, T27, T30, runTakes, takeOp, effA, effOp, down, down1, hideB, keep, lastA]; exact ⟨rfl, rfl, rfl⟩
          with_reducible apply SH.one 11
          case hr => kernel_rfl
          with_reducible apply SHo.lastX
          case hnd => kernel_rfl
          case he => simp [T3, T23, T24, T27, T30, runTakes, takeOp, effA, effOp, down, down1, hideB, keep, lastA]; exact ⟨rfl, rfl, rfl⟩
          with_reducible apply SH.one 13
          case hr => kernel_rfl
          with_reducible apply SHo.lastX
          case hnd => kernel_rfl
          case he => simp [T3, T23, T24, T27, T30, runTakes, takeOp, effA, effOp, down, down1, hideB, keep, lastA]; exact ⟨rfl, rfl, rfl⟩
          with_reducible apply SH.one 14
          case hr => kernel_rfl
          with_reducible apply SHo.lastX
          case hnd => kernel_rfl
          case he => simp [T3, T23, T24, T27, T30, runTakes, takeOp, effA, effOp, down, down1, hideB, keep, lastA]; exact ⟨rfl, rfl, rfl⟩
          refine SH.done (by kernel_rfl) ?_
          refine W.mid () trivial ?_ (by simp)
          repeat (first | exact Sw.Sub.nil | refine Sw.Sub.cons (by simp) ?_)
      · intro _ _
        with_reducible refine W.seq ?_
        obtain ⟨q, hq, hqb⟩ : ∃ q : Nat, (if (yn : Int) + 1 < 20 then (yn : Int) + 1 else 20) = q ∧ (1 ≤ q ∧ q ≤ 20) := ⟨min 20 (yn + 1), by split <;> omega, by omega⟩
        have hw1 : IntKind.i64.wrap ((yn : Int) + 1) = (yn : Int) + 1 := wrap64 (by omega)
        have hwq : IntKind.i64.wrap (20000 + 100 * (cs.length : Int) + (q : Int)) = 20000 + 100 * (cs.length : Int) + (q : Int) := wrap64 (by omega)
        obtain ⟨es2, e2, hes2, hlim⟩ : ∃ (es2 : List Ent) (e2 : Int), expandF t ((20000 + 100 * (cs.length : Int) + (q : Int)) :: cs) = (e2, es2) ∧ (60 < cs.length * q → e2 = 2 ∧ es2 = []) := by
          refine ⟨_, _, rfl, fun h60 => ?_⟩
          have := (expand_rep ht cs hce q hxl hqb).2 h60
          exact ⟨congrArg Prod.fst this, congrArg Prod.snd this⟩
        have hexp2 := hexp q hqb
        rw [hes2] at hexp2
        dsimp only at hexp2
        refine W.cutC (α := Unit) (fun _ => [(3, .ptr σ.bx.length 0), (4, .ptr (σ.bx.length + 1) 0), (5, i64 cs.length), (6, i64 yn), (9, .sl none (o1.map encE)), (10, i64 0), (11, .sl none (es2.map encE)), (12, i64 e2)]) (fun _ => ⟨σ.bx ++ [srcB L' a3, encT t], σ.tk ++ [(3, cs.length), (3, 1 + cs.length), (3, 1 + cs.length)]⟩) (fun _ => True) ?_ ?_
        · with_reducible apply W.held0 mixed 17 [0, 1, 2, 3, 4, 5, 6, 7, 9]
          case hn => rfl
          with_reducible apply SH.takes [0, 1, 2, 3, 4, 5, 6, 7, 9] 8
          case hfu => rfl
          case hs => kernel_rfl
          case hB => kernel_rfl
          case hQ => first | exact fun _ _ _ h => h | exact fun _ _ _ h => hNP _ _ _ h
          case hs0 => exact Sub0.rfl
          case hr => simp [T3, T23, T24, T27, T30, hm, ha, hw1, hq, hwq, hbt, runTakes, takeOp, effA, effOp, down, down1, hideB, keep]; exact ⟨rfl, rfl⟩
          with_reducible apply SH.one 8
          case hr => kernel_rfl
          with_reducible apply SHo.ownX
          case he => simp [T3, T23, T24, T27, T30, hm, ha, hw1, hq, hwq, hbt, runTakes, takeOp, effA, effOp, down, down1, hideB, keep, ownA]; exact ⟨rfl, rfl, rfl⟩
          with_reducible apply SH.one 10
          case hr => kernel_rfl
          with_reducible apply SHo.effX
          case hh => exact (Sub0.rfl).hid.mono (by simp)
          case he => simp [T3, T23, T24, T27, T30, hm, ha, hw1, hq, hwq, hbt, runTakes, takeOp, effA, effOp, down, down1, hideB, keep]; exact ⟨rfl, rfl, rfl⟩
          with_reducible apply SH.one 11
          case hr => kernel_rfl
          with_reducible apply SHo.callX go18
          case hi => rfl
          case ho => rfl
          case hc => rfl
          case hf => rfl
          case hg => first | rfl | simp [T3, T23, T24, T27, T30, hm, ha, hb, hbt, runTakes, takeOp, effA, effOp, down, down1, hideB, keep]
          case hd => rfl
          case ha => simp [T3, T23, T24, T27, T30, hm, ha, hb, hbt, runTakes, takeOp, effA, effOp, down, down1, hideB, keep]; rfl
          case hargs => rfl
          case hs => exact FSC.quiet fun σs => hexp2 σs _
          rintro _ _ ⟨rfl, rfl⟩
          with_reducible apply SH.one 12
          case hr => kernel_rfl
          with_reducible apply SHo.lastX
          case hnd => kernel_rfl
          case he => simp [T3, T23, T24, T27, T30, hm, ha, hb, hbt, runTakes, takeOp, effA, effOp, down, down1, hideB, keep, lastA]; exact ⟨rfl, rfl, rfl⟩
          with_reducible apply SH.two 13 14
          case hr => kernel_rfl
          · skip
            with_reducible apply SHo.lastX
            case hnd => kernel_rfl
            case he => simp [T3, T23, T24, T27, T30, runTakes, takeOp, effA, effOp, down, down1, hideB, keep, lastA]; exact ⟨rfl, rfl, rfl⟩
            with_reducible apply SH.two 14 15
            case hr => kernel_rfl
            · skip
              with_reducible apply SHo.lastX
              case hnd => kernel_rfl
              case he => simp [T3, T23, T24, T27, T30, runTakes, takeOp, effA, effOp, down, down1, hideB, keep, lastA]; exact ⟨rfl, rfl, rfl⟩
              with_reducible apply SH.one 15
              case hr => kernel_rfl
              with_reducible apply SHo.lastX
              case hnd => kernel_rfl
              case he => simp [T3, T23, T24, T27, T30, runTakes, takeOp, effA, effOp, down, down1, hideB, keep, lastA]; exact ⟨rfl, rfl, rfl⟩
              with_reducible apply SH.one 16
              case hr => kernel_rfl
              with_reducible apply SHo.lastX
              case hnd => kernel_rfl
              case he => simp [T3, T23, T24, T27, T30, runTakes, takeOp, effA, effOp, down, down1, hideB, keep, lastA]; exact ⟨rfl, rfl, rfl⟩
              refine SH.done (by kernel_rfl) ?_
              refine W.mid () trivial ?_ (by simp)
              repeat (first | exact Sw.Sub.nil | refine Sw.Sub.cons (by simp) ?_)
            · skip
              with_reducible apply SHo.lastX
              case hnd => kernel_rfl
              case he => simp [T3, T23, T24, T27, T30, runTakes, takeOp, effA, effOp, down, down1, hideB, keep, lastA]; exact ⟨rfl, rfl, rfl⟩
              with_reducible apply SH.one 14
              case hr => kernel_rfl
              with_reducible apply SHo.lastX
              case hnd => kernel_rfl
              case he => simp [T3, T23, T24, T27, T30, runTakes, takeOp, effA, effOp, down, down1, hideB, keep, lastA]; exact ⟨rfl, rfl, rfl⟩
              with_reducible apply SH.one 16
              case hr => kernel_rfl
              with_reducible apply SHo.lastX
              case hnd => kernel_rfl
              case he => simp [T3, T23, T24, T27, T30, runTakes, takeOp, effA, effOp, down, down1, hideB, keep, lastA]; exact ⟨rfl, rfl, rfl⟩
              refine SH.done (by kernel_rfl) ?_
              refine W.mid () trivial ?_ (by simp)
              repeat (first | exact Sw.Sub.nil | refine Sw.Sub.cons (by simp) ?_)
          · skip
            with_reducible apply SHo.lastX
            case hnd => kernel_rfl
            case he => simp [T3, T23, T24, T27, T30, runTakes, takeOp, effA, effOp, down, down1, hideB, keep, lastA]; exact ⟨rfl, rfl, rfl⟩
            with_reducible apply SH.one 13
            case hr => kernel_rfl
            with_reducible apply SHo.lastX
            case hnd => kernel_rfl
            case he => simp [T3, T23, T24, T27, T30, runTakes, takeOp, effA, effOp, down, down1, hideB, keep, lastA]; exact ⟨rfl, rfl, rfl⟩
            with_reducible apply SH.one 15
            case hr => kernel_rfl
            with_reducible apply SHo.lastX
            case hnd => kernel_rfl
            case he => simp [T3, T23, T24, T27, T30, runTakes, takeOp, effA, effOp, down, down1, hideB, keep, lastA]; exact ⟨rfl, rfl, rfl⟩
            with_reducible apply SH.one 16
            case hr => kernel_rfl
            with_reducible apply SHo.lastX
            case hnd => kernel_rfl
            case he => simp [T3, T23, T24, T27, T30, runTakes, takeOp, effA, effOp, down, down1, hideB, keep, lastA]; exact ⟨rfl, rfl, rfl⟩
            refine SH.done (by kernel_rfl) ?_
            refine W.mid () trivial ?_ (by simp)
            repeat (first | exact Sw.Sub.nil | refine Sw.Sub.cons (by simp) ?_)
        · intro _ _
          have hlo : (o1.length : Int) = (cs.length : Int) * (yn : Int) := by rw [ho1, Int.natCast_mul]
          have hwp : IntKind.i64.wrap ((cs.length : Int) * (yn : Int)) = (cs.length : Int) * (yn : Int) := wrap64 (by rw [← hlo]; omega)
          have hq20 : (cs.length : Int) * (q : Int) ≤ 19 * 20 := by
            have := Nat.mul_le_mul hxl.2 hqb.2
            rw [← Int.natCast_mul]; omega
          have hq0 : 0 ≤ (cs.length : Int) * (q : Int) := by rw [← Int.natCast_mul]; omega
          have hwpq : IntKind.i64.wrap ((cs.length : Int) * (q : Int)) = (cs.length : Int) * (q : Int) := wrap64 (by omega)
          have hbad : (decide (60 < (cs.length : Int) * (q : Int)) = true → e2 = 2 ∧ es2 = []) := by
            intro h
            refine hlim ?_
            have : (60 : Int) < ((cs.length * q : Nat) : Int) := by rw [Int.natCast_mul]; simpa using h
            omega
          by_cases h60 : 60 < (cs.length : Int) * (q : Int)
          · obtain ⟨rfl, rfl⟩ := hbad (by simpa using h60)
            repeat' (first
              | with_reducible refine W.seq ?_
              | with_reducible refine W.next ?_
              | with_reducible refine W.nil ?_
              | with_reducible refine W.skip ?_
              | with_reducible refine W.ret ?_
              | with_reducible refine W.ret_code ?_
              | with_reducible refine W.block ?_
              | with_reducible refine W.out ?_
              | with_reducible refine W.ret_blk ?_
              | with_reducible refine W.exit ?_
              | with_reducible refine W.exit_code ?_
              | with_reducible refine W.exit_here ?_
              | with_reducible refine W.leave_exit ?_
              | with_reducible refine W.leave_ret ?_
              | ((with_reducible refine W.exit_on ?h ?_); (case h => decide))
              | ((with_reducible apply W.reg); (case h => simp [T3, T24, T27, T28, T30, T35, T49, hlo, hwp, hwpq, hw1, hq, h60]; exact ⟨rfl, rfl, rfl⟩))
              | ((with_reducible apply W.draw mixed); (case hB => kernel_rfl); (case hr => simp [T3, T24, T27, T28, T30, T35, T49, hlo, hwp, hwpq, hw1, hq, h60]; rfl))
              | ((with_reducible apply W.cond); (case hc => simp; rfl); all_goals (intro hc_; try (cases hc_; done)))
              | ((with_reducible apply W.runX); (case _hc => rfl); (case h => simp [T3, T24, T27, T28, T30, T35, T49, hlo, hwp, hwpq, hw1, hq, h60]; exact ⟨rfl, rfl, rfl⟩))
              | ((with_reducible apply W.call1 go18); (case ho => rfl); (case hc => rfl); (case hf => rfl); (case hg => first | rfl | simp [T3, T24, T27, T28, T30, T35, T49, hlo, hwp, hwpq, hw1, hq, h60]); (case hd => rfl); (case ha => simp [T3, T24, T27, T28, T30, T35, T49, hlo, hwp, hwpq, hw1, hq, h60]; rfl); (case hargs => rfl); (case hs => exact T0_call [10000] (by unfold I64; simp) (by decide) 2 exp0 _))
              | ((with_reducible apply W.call1 go18); (case ho => rfl); (case hc => rfl); (case hf => rfl); (case hg => first | rfl | simp [T3, T24, T27, T28, T30, T35, T49, hlo, hwp, hwpq, hw1, hq, h60]); (case hd => rfl); (case ha => simp [T3, T24, T27, T28, T30, T35, T49, hlo, hwp, hwpq, hw1, hq, h60]; rfl); (case hargs => rfl); (case hs => exact T0_call [10002] (by unfold I64; simp) (by decide) 0 exp0' _))
              | ((with_reducible apply W.call1 go16); (case ho => rfl); (case hc => rfl); (case hf => rfl); (case hg => first | rfl | simp [T3, T24, T27, T28, T30, T35, T49, hlo, hwp, hwpq, hw1, hq, h60]); (case hd => rfl); (case ha => simp [T3, T24, T27, T28, T30, T35, T49, hlo, hwp, hwpq, hw1, hq, h60]; rfl); (case hargs => rfl); (case hs => exact awake_sc _))
              | fail)
            with_reducible apply W.fin
            case h1 => simp <;> rfl
            case h2 => exact Wk.rfl
            case h3 => simp
            case h4 => exact hσ.clB.app (Nat.le_refl _)
            exact ⟨rfl, by simp⟩
          · repeat' (first
              | with_reducible refine W.seq ?_
              | with_reducible refine W.next ?_
              | with_reducible refine W.nil ?_
              | with_reducible refine W.skip ?_
              | with_reducible refine W.ret ?_
              | with_reducible refine W.ret_code ?_
              | with_reducible refine W.block ?_
              | with_reducible refine W.out ?_
              | with_reducible refine W.ret_blk ?_
              | with_reducible refine W.exit ?_
              | with_reducible refine W.exit_code ?_
              | with_reducible refine W.exit_here ?_
              | with_reducible refine W.leave_exit ?_
              | with_reducible refine W.leave_ret ?_
              | ((with_reducible refine W.exit_on ?h ?_); (case h => decide))
              | ((with_reducible apply W.reg); (case h => simp [T3, T24, T27, T28, T30, T35, T49, hlo, hwp, hwpq, hw1, hq, h60]; exact ⟨rfl, rfl, rfl⟩))
              | ((with_reducible apply W.draw mixed); (case hB => kernel_rfl); (case hr => simp [T3, T24, T27, T28, T30, T35, T49, hlo, hwp, hwpq, hw1, hq, h60]; rfl))
              | ((with_reducible apply W.cond); (case hc => simp; rfl); all_goals (intro hc_; try (cases hc_; done)))
              | ((with_reducible apply W.runX); (case _hc => rfl); (case h => simp [T3, T24, T27, T28, T30, T35, T49, hlo, hwp, hwpq, hw1, hq, h60]; exact ⟨rfl, rfl, rfl⟩))
              | ((with_reducible apply W.call1 go18); (case ho => rfl); (case hc => rfl); (case hf => rfl); (case hg => first | rfl | simp [T3, T24, T27, T28, T30, T35, T49, hlo, hwp, hwpq, hw1, hq, h60]); (case hd => rfl); (case ha => simp [T3, T24, T27, T28, T30, T35, T49, hlo, hwp, hwpq, hw1, hq, h60]; rfl); (case hargs => rfl); (case hs => exact T0_call [10000] (by unfold I64; simp) (by decide) 2 exp0 _))
              | ((with_reducible apply W.call1 go18); (case ho => rfl); (case hc => rfl); (case hf => rfl); (case hg => first | rfl | simp [T3, T24, T27, T28, T30, T35, T49, hlo, hwp, hwpq, hw1, hq, h60]); (case hd => rfl); (case ha => simp [T3, T24, T27, T28, T30, T35, T49, hlo, hwp, hwpq, hw1, hq, h60]; rfl); (case hargs => rfl); (case hs => exact T0_call [10002] (by unfold I64; simp) (by decide) 0 exp0' _))
              | ((with_reducible apply W.call1 go16); (case ho => rfl); (case hc => rfl); (case hf => rfl); (case hg => first | rfl | simp [T3, T24, T27, T28, T30, T35, T49, hlo, hwp, hwpq, hw1, hq, h60]); (case hd => rfl); (case ha => simp [T3, T24, T27, T28, T30, T35, T49, hlo, hwp, hwpq, hw1, hq, h60]; rfl); (case hargs => rfl); (case hs => exact awake_sc _))
              | fail)
            with_reducible apply W.fin
            case h1 => simp <;> rfl
            case h2 => exact Wk.rfl
            case h3 => simp
            case h4 => exact hσ.clB.app (Nat.le_refl _)
            exact ⟨rfl, by simp⟩


end Go.Proofs.YtgabnlkkjmepnaaDoor

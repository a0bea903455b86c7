/- The search for a table with a version: table.Choose and the reference's Choose. -/
import Derived.Test.YtgabnlkkjmepnaaDoorS23
import Derived.Test.YtgabnlkkjmepnaaDoorSwM
import Derived.IntWalk
namespace Go.Proofs.YtgabnlkkjmepnaaDoor
open Go.Sw
set_option linter.unusedSimpArgs false
set_option linter.unusedVariables false
attribute [local simp] runOps stepOp pureOp gd isCall inN setd Sw.get params ev evs binV unV convV loadA cellsPV oneB storeA fieldAddrA fieldOff fieldA partA aggOf extractA indexAddrA indexA lenA minmaxA sliceA bnd partsA buildA placesA fillA buildSliceA zerosA chunkA TyD.agg Value.oneCell' Value.cells runPure appA appendA okRow_nil okRow_cons okRow_append resultA ressA resA List.getElem?_append List.set_append Cl_any Cl_val Cl_ptr Cl_agg Cl_tup Cl_fn Cl_rop Cl_sl Sw.take_set Sw.take_set_app Sw.take_app

attribute [local simp] encI encE encS encT okRow_encE okRow_encS okRow_encI
theorem agree_pushs {σh σ σs : AS} (ha : Agree σh σ σs) (hh : Hid σh σ) (x : List (List PV)) : Back σh σ σs ⟨σ.bx ++ x, σ.tk⟩ ⟨σs.bx ++ x, σs.tk⟩ where
  tk := ha.tk
  len := by simp [ha.len]
  hid := fun k hk => by
    by_cases h : k < σ.bx.length
    · rw [List.getElem?_append_left h, List.getElem?_append_left (by rw [ha.len]; exact h), ha.hid k hk]
    · have e := ha.len
      rw [List.getElem?_append_right (by omega), List.getElem?_append_right (by omega), ha.len]
  kept := fun k hk => by
    have := hh k hk
    have e := ha.len
    rw [List.getElem?_append_left this, List.getElem?_append_left (by omega)]
    exact ⟨rfl, rfl⟩
/-- Contracts that hand back new variables. -/
theorem FSC.pushs {σh σ : AS} {f : FuncId} {ps : List PV} {R : PV → List (List PV) → Prop} (hh : Hid σh σ) (h : ∀ σs : AS, σs.bx.length = σ.bx.length → SC Cc f ps σs fun r σ' => ∃ y, R r y ∧ σ' = ⟨σs.bx ++ y, σs.tk⟩) : FSC Cc f ps σh σ fun r σ' => ∃ y, R r y ∧ σ' = ⟨σ.bx ++ y, σ.tk⟩ := fun σs ha =>
  (h σs ha.len).mono fun r σ' ⟨y, h1, h2⟩ => ⟨_, ⟨y, h1, rfl⟩, by rw [h2]; exact agree_pushs ha hh y⟩
theorem Clone53_f {σh σ : AS} (es : List Sq) (hl : es.length ≤ 1000000) (h0 : es ≠ []) (hh : Hid σh σ) : FSC Cc 53 [.sl none (es.map encS)] σh σ fun r σ' => ∃ y, (∃ c, es.length ≤ c ∧ r = .bs 49 (σ.bx.length + 1) es.length c ∧ y = [[], cellsZ 2 0 c [] (es.map encS)]) ∧ σ' = ⟨σ.bx ++ y, σ.tk⟩ :=
  FSC.pushs hh fun σs hlen => (Clone53_sc es none σs hl h0).mono fun r σ' ⟨c, h1, h2, h3⟩ => ⟨_, ⟨c, h1, by rw [h2, hlen], rfl⟩, h3⟩
def chooseF (l : List Tab) (v : Int) : Tab × Int := if idxF (fun t => t.version == v) l < 0 then (⟨0, [], []⟩, 9) else (l.getD (idxF (fun t => t.version == v) l).toNat default, 0)
theorem Choose_sc (l : List Tab) (v : Int) (own : Option Nat) (σ : AS) (hl : l.length ≤ 1000000) (hok : ∀ t ∈ l, TabOK t) : SC1 Cc 26 [.sl own (l.map encT), i64 v] σ (.tup [.agg (encT (chooseF l v).1), i64 (chooseF l v).2]) σ := by
  refine W.body Tryd.func26 rfl 47 Tryd.ntmps26 _ Tryd.results26 (by simp) GEt_cl fun hσ => ?_
  by_cases hi : idxF (fun t : Tab => t.version == v) l < 0
  · have hr : chooseF l v = (⟨0, [], []⟩, 9) := if_pos hi
    rw [hr]
    repeat' (first
      | with_reducible refine W.seq ?_
      | with_reducible refine W.next ?_
      | with_reducible refine W.nil ?_
      | with_reducible refine W.skip ?_
      | with_reducible refine W.ret ?_
      | with_reducible refine W.ret_code ?_
      | with_reducible refine W.block ?_
      | with_reducible refine W.out ?_
      | with_reducible refine W.ret_blk ?_
      | with_reducible refine W.exit ?_
      | with_reducible refine W.exit_code ?_
      | with_reducible refine W.exit_here ?_
      | with_reducible refine W.leave_exit ?_
      | with_reducible refine W.leave_ret ?_
      | ((with_reducible refine W.exit_on ?h ?_); (case h => decide))
      | ((with_reducible apply W.reg); (case h => simp [T3, T27, T28, T30, T53, hi]; exact ⟨rfl, rfl, rfl⟩))
      | ((with_reducible apply W.draw mixed); (case hB => kernel_rfl); (case hr => simp [T3, T27, T28, T30, T53, hi]; rfl))
      | ((with_reducible apply W.cond); (case hc => simp; rfl); all_goals (intro hc_; try (cases hc_; done)))
      | ((with_reducible apply W.runX); (case _hc => rfl); (case h => simp [T3, T27, T28, T30, T53, hi]; exact ⟨rfl, rfl, rfl⟩))
      | ((with_reducible apply W.call1 go50); (case ho => rfl); (case hc => rfl); (case hf => rfl); (case hg => first | rfl | simp [T3, T27, T28, T30, T53, hi]); (case hd => rfl); (case ha => simp [T3, T27, T28, T30, T53, hi]; rfl); (case hargs => rfl); (case hs => exact IndexTab_sc l own 51 [.ptr σ.bx.length 0] (fun t => t.version == v) _ (by rfl) hl (fun t _ => choose1_sc t v _ _ (by simp))))
      | fail)
    exact W.fin (.tup [.agg [i64 0, .val (.slice none 0 0), .val (.slice none 0 0)], i64 9]) (.tup [.agg [i64 0, .sl none [], .sl none []], i64 9]) (by simp [T30]) (Wk.tup ⟨Wk.agg ⟨Wk.rfl, Wk.nil, Wk.nil, trivial⟩, Wk.rfl, trivial⟩) (by simp) (hσ.clB.app (Nat.le_refl _)) ⟨by simp, by simp⟩
  · have hr : chooseF l v = (l.getD (idxF (fun t => t.version == v) l).toNat default, 0) := if_neg hi
    obtain ⟨k, hk, hki⟩ : ∃ k, k < l.length ∧ idxF (fun t : Tab => t.version == v) l = (k : Int) := by
      unfold idxF at hi ⊢
      split
      · rename_i h; exact ⟨_, h, rfl⟩
      · rename_i h; rw [if_neg h] at hi; omega
    rw [hki] at hr
    have hg : l.getD k default = l[k] := by simp [hk]
    simp only [Int.toNat_natCast, hg] at hr
    obtain ⟨t, ht⟩ : ∃ t, t = l[k] := ⟨_, rfl⟩
    rw [hr, ← ht]
    have hto : TabOK t := by rw [ht]; exact hok _ (List.getElem_mem hk)
    have hk' : (k : Int) < l.length := by omega
    repeat' (first
      | with_reducible refine W.seq ?_
      | with_reducible refine W.next ?_
      | with_reducible refine W.nil ?_
      | with_reducible refine W.skip ?_
      | with_reducible refine W.ret ?_
      | with_reducible refine W.ret_code ?_
      | with_reducible refine W.block ?_
      | with_reducible refine W.out ?_
      | with_reducible refine W.ret_blk ?_
      | with_reducible refine W.exit ?_
      | with_reducible refine W.exit_code ?_
      | with_reducible refine W.exit_here ?_
      | with_reducible refine W.leave_exit ?_
      | with_reducible refine W.leave_ret ?_
      | ((with_reducible refine W.exit_on ?h ?_); (case h => decide))
      | ((with_reducible apply W.reg); (case h => simp [T3, T27, T28, T30, T53, hki, hk, hk', ← ht]; exact ⟨rfl, rfl, rfl⟩))
      | ((with_reducible apply W.draw mixed); (case hB => kernel_rfl); (case hr => simp [T3, T27, T28, T30, T53, hki, hk, hk', ← ht]; rfl))
      | ((with_reducible apply W.cond); (case hc => simp; rfl); all_goals (intro hc_; try (cases hc_; done)))
      | ((with_reducible apply W.runX); (case _hc => rfl); (case h => simp [T3, T27, T28, T30, T53, hki, hk, hk', ← ht]; exact ⟨rfl, rfl, rfl⟩))
      | ((with_reducible apply W.call1 go50); (case ho => rfl); (case hc => rfl); (case hf => rfl); (case hg => first | rfl | simp [T3, T27, T28, T30, T53, hki, hk, hk', ← ht]); (case hd => rfl); (case ha => simp [T3, T27, T28, T30, T53, hki, hk, hk', ← ht]; rfl); (case hargs => rfl); (case hs => exact IndexTab_sc l own 51 [.ptr σ.bx.length 0] (fun t => t.version == v) _ (by rfl) hl (fun t _ => choose1_sc t v _ _ (by simp))))
      | fail)
    with_reducible apply W.held0 mixed 10 [0, 1, 3, 4, 6]
    case hn => rfl
    with_reducible apply SH.takes [0, 1, 3, 4] 6
    case hfu => rfl
    case hs => kernel_rfl
    case hB => kernel_rfl
    case hQ => first | exact fun _ _ _ h => h | exact fun _ _ _ h => hNP _ _ _ h
    case hs0 => exact Sub0.rfl
    case hr => simp [T3, T27, T28, T30, T49, runTakes, takeOp, effA, effOp, down, down1, hideB, keep]; exact ⟨rfl, rfl⟩
    with_reducible apply SH.one 2
    case hr => kernel_rfl
    with_reducible apply SHo.callX go52
    case hi => rfl
    case ho => rfl
    case hc => rfl
    case hf => rfl
    case hg => first | rfl | simp [T3, T27, T28, T30, T49, runTakes, takeOp, effA, effOp, down, down1, hideB, keep]
    case hd => rfl
    case ha => simp [T3, T27, T28, T30, T49, runTakes, takeOp, effA, effOp, down, down1, hideB, keep]; rfl
    case hargs => rfl
    case hs => exact FSC.quiet fun σs => Clone52_sc t.entries none σs hto.elen
    rintro _ _ ⟨rfl, rfl⟩
    with_reducible apply SH.takes [6] 4
    case hfu => rfl
    case hs => kernel_rfl
    case hB => kernel_rfl
    case hQ => first | exact fun _ _ _ h => h | exact fun _ _ _ h => hNP _ _ _ h
    case hs0 => exact Sub0.rfl
    case hr => simp [T3, T27, T28, T30, T49, runTakes, takeOp, effA, effOp, down, down1, hideB, keep]; exact ⟨rfl, rfl⟩
    by_cases h0 : t.seqs = []
    · skip
      with_reducible apply SH.one 5
      case hr => kernel_rfl
      with_reducible apply SHo.callX go53
      case hi => rfl
      case ho => rfl
      case hc => rfl
      case hf => rfl
      case hg => first | rfl | simp [T3, T27, T28, T30, T49, runTakes, takeOp, effA, effOp, down, down1, hideB, keep]
      case hd => rfl
      case ha => simp [T3, T27, T28, T30, T49, runTakes, takeOp, effA, effOp, down, down1, hideB, keep]; rfl
      case hargs => rfl
      case hs => exact FSC.quiet fun σs => Clone53r_sc t.seqs none σs hto.slen
      rintro _ _ ⟨rfl, rfl⟩
      with_reducible apply SH.one 7
      case hr => kernel_rfl
      with_reducible apply SHo.lastX
      case hnd => kernel_rfl
      case he => simp [T3, T27, T28, T30, T49, runTakes, takeOp, effA, effOp, down, down1, hideB, keep, lastA]; exact ⟨rfl, rfl, rfl⟩
      with_reducible apply SH.one 8
      case hr => kernel_rfl
      with_reducible apply SHo.lastX
      case hnd => kernel_rfl
      case he => simp [T3, T27, T28, T30, T49, runTakes, takeOp, effA, effOp, down, down1, hideB, keep, lastA]; exact ⟨rfl, rfl, rfl⟩
      with_reducible apply SH.one 9
      case hr => kernel_rfl
      with_reducible apply SHo.lastX
      case hnd => kernel_rfl
      case he => simp [T3, T27, T28, T30, T49, runTakes, takeOp, effA, effOp, down, down1, hideB, keep, lastA]; exact ⟨rfl, rfl, rfl⟩
      refine SH.done (by kernel_rfl) ?_
      repeat' (first
        | with_reducible refine W.seq ?_
        | with_reducible refine W.next ?_
        | with_reducible refine W.nil ?_
        | with_reducible refine W.skip ?_
        | with_reducible refine W.ret ?_
        | with_reducible refine W.ret_code ?_
        | with_reducible refine W.block ?_
        | with_reducible refine W.out ?_
        | with_reducible refine W.ret_blk ?_
        | with_reducible refine W.exit ?_
        | with_reducible refine W.exit_code ?_
        | with_reducible refine W.exit_here ?_
        | with_reducible refine W.leave_exit ?_
        | with_reducible refine W.leave_ret ?_
        | ((with_reducible refine W.exit_on ?h ?_); (case h => decide))
        | ((with_reducible apply W.reg); (case h => simp [T3, T24, T27, T28, T30, T49, h0]; exact ⟨rfl, rfl, rfl⟩))
        | ((with_reducible apply W.draw mixed); (case hB => kernel_rfl); (case hr => simp [T3, T24, T27, T28, T30, T49, h0]; rfl))
        | ((with_reducible apply W.cond); (case hc => simp; rfl); all_goals (intro hc_; try (cases hc_; done)))
        | ((with_reducible apply W.runX); (case _hc => rfl); (case h => simp [T3, T24, T27, T28, T30, T49, h0]; exact ⟨rfl, rfl, rfl⟩))
        | fail)
      with_reducible refine W.loopS (α := Unit) (fun _ => [(4, .ptr (σ.bx.length + 1) 0), (7, .ptr (σ.bx.length + 2) 0), (29, i64 0), (30, i64 0)]) (fun _ => ⟨σ.bx ++ [[i64 v], [i64 0, .val (.slice none 0 0), .val (.slice none 0 0)], [i64 t.version, .sl none (t.entries.map encE), .sl none []]], σ.tk⟩) (fun _ => True) (fun _ => 0) () trivial ?_ ?_ ?_
      · repeat (first | exact Sw.Sub.nil | refine Sw.Sub.cons (by simp) ?_)
      · rfl
      · rintro - -
        repeat' (first
          | with_reducible refine W.seq ?_
          | with_reducible refine W.next ?_
          | with_reducible refine W.nil ?_
          | with_reducible refine W.skip ?_
          | with_reducible refine W.ret ?_
          | with_reducible refine W.ret_code ?_
          | with_reducible refine W.block ?_
          | with_reducible refine W.out ?_
          | with_reducible refine W.ret_blk ?_
          | with_reducible refine W.exit ?_
          | with_reducible refine W.exit_code ?_
          | with_reducible refine W.exit_here ?_
          | with_reducible refine W.leave_exit ?_
          | with_reducible refine W.leave_ret ?_
          | ((with_reducible refine W.exit_on ?h ?_); (case h => decide))
          | ((with_reducible apply W.reg); (case h => simp [T3, T24, T27, T28, T30, T49, h0]; exact ⟨rfl, rfl, rfl⟩))
          | ((with_reducible apply W.draw mixed); (case hB => kernel_rfl); (case hr => simp [T3, T24, T27, T28, T30, T49, h0]; rfl))
          | ((with_reducible apply W.cond); (case hc => simp; rfl); all_goals (intro hc_; try (cases hc_; done)))
          | ((with_reducible apply W.runX); (case _hc => rfl); (case h => simp [T3, T24, T27, T28, T30, T49, h0]; exact ⟨rfl, rfl, rfl⟩))
          | fail)
        with_reducible apply W.fin
        case h1 => simp <;> rfl
        case h2 => exact Wk.rfl
        case h3 => simp
        case h4 => exact hσ.clB.app (Nat.le_refl _)
        exact ⟨by simp [h0], by simp⟩
    · skip
      with_reducible apply SH.one 5
      case hr => kernel_rfl
      with_reducible apply SHo.callX go53
      case hi => rfl
      case ho => rfl
      case hc => rfl
      case hf => rfl
      case hg => first | rfl | simp [T3, T27, T28, T30, T49, runTakes, takeOp, effA, effOp, down, down1, hideB, keep]
      case hd => rfl
      case ha => simp [T3, T27, T28, T30, T49, runTakes, takeOp, effA, effOp, down, down1, hideB, keep]; rfl
      case hargs => rfl
      case hs => exact Clone53_f t.seqs hto.slen h0 Sub0.rfl.hid
      rintro _ _ ⟨_, ⟨c, hc, rfl, rfl⟩, rfl⟩
      with_reducible apply SH.one 7
      case hr => kernel_rfl
      with_reducible apply SHo.lastX
      case hnd => kernel_rfl
      case he => simp [T3, T27, T28, T30, T49, runTakes, takeOp, effA, effOp, down, down1, hideB, keep, lastA]; exact ⟨rfl, rfl, rfl⟩
      with_reducible apply SH.one 8
      case hr => kernel_rfl
      with_reducible apply SHo.lastX
      case hnd => kernel_rfl
      case he => simp [T3, T27, T28, T30, T49, runTakes, takeOp, effA, effOp, down, down1, hideB, keep, lastA]; exact ⟨rfl, rfl, rfl⟩
      with_reducible apply SH.one 9
      case hr => kernel_rfl
      with_reducible apply SHo.lastX
      case hnd => kernel_rfl
      case he => simp [T3, T27, T28, T30, T49, runTakes, takeOp, effA, effOp, down, down1, hideB, keep, lastA]; exact ⟨rfl, rfl, rfl⟩
      refine SH.done (by kernel_rfl) ?_
      have hX : RowsIn 2 (cellsZ 2 0 c [] (t.seqs.map encS)) (t.seqs.map encS) := by simpa using RowsIn.app (c := c) (RowsIn.nil 2 []) rfl (okRow_len (okRow_encS t.seqs)) (by simp)
      have hXl : (cellsZ 2 0 c [] (t.seqs.map encS)).length = c * 2 := cellsZ_len (okRow_len (okRow_encS t.seqs)) (by simp) (by simpa using hc)
      have hXc : ∀ p ∈ cellsZ 2 0 c [] (t.seqs.map encS), Cl (σ.bx.length + 5) σ.tk.length p := cl_cellsZ (by simp) (encSs_in _ _ t.seqs)
      generalize cellsZ 2 0 c [] (t.seqs.map encS) = qs at *
      repeat' (first
        | with_reducible refine W.seq ?_
        | with_reducible refine W.next ?_
        | with_reducible refine W.nil ?_
        | with_reducible refine W.skip ?_
        | with_reducible refine W.ret ?_
        | with_reducible refine W.ret_code ?_
        | with_reducible refine W.block ?_
        | with_reducible refine W.out ?_
        | with_reducible refine W.ret_blk ?_
        | with_reducible refine W.exit ?_
        | with_reducible refine W.exit_code ?_
        | with_reducible refine W.exit_here ?_
        | with_reducible refine W.leave_exit ?_
        | with_reducible refine W.leave_ret ?_
        | ((with_reducible refine W.exit_on ?h ?_); (case h => decide))
        | ((with_reducible apply W.reg); (case h => simp [T3, T24, T27, T28, T30, T49]; exact ⟨rfl, rfl, rfl⟩))
        | ((with_reducible apply W.draw mixed); (case hB => kernel_rfl); (case hr => simp [T3, T24, T27, T28, T30, T49]; rfl))
        | ((with_reducible apply W.cond); (case hc => simp; rfl); all_goals (intro hc_; try (cases hc_; done)))
        | ((with_reducible apply W.runX); (case _hc => rfl); (case h => simp [T3, T24, T27, T28, T30, T49]; exact ⟨rfl, rfl, rfl⟩))
        | fail)
      with_reducible refine W.loopS (α := Nat) (fun k => [(4, .ptr (σ.bx.length + 1) 0), (7, .ptr (σ.bx.length + 2) 0), (29, i64 t.seqs.length), (30, i64 k)]) (fun _ => ⟨σ.bx ++ [[i64 v], [i64 0, .val (.slice none 0 0), .val (.slice none 0 0)], [i64 t.version, .sl none (t.entries.map encE), .bs 49 (σ.bx.length + 4) t.seqs.length c], [], qs], σ.tk⟩) (fun k => k ≤ t.seqs.length) (fun k => t.seqs.length - k) 0 (Nat.zero_le _) ?_ ?_ ?_
      · repeat (first | exact Sw.Sub.nil | refine Sw.Sub.cons (by simp) ?_)
      · first | rfl | simp
      · intro i hi2
        dsimp only
        by_cases hlt : i < t.seqs.length
        · have hlt' : (i : Int) < t.seqs.length := by omega
          have hwi : IntKind.i64.wrap ((i : Int) + 1) = (i : Int) + 1 := wrap64 (by have := hto.slen; omega)
          obtain ⟨q, hq⟩ : ∃ q, t.seqs[i]? = some q := ⟨_, List.getElem?_eq_getElem hlt⟩
          have hqo : SqOK q := hto.seqs q (List.mem_of_getElem? hq)
          have hqi : qs[i * 2 + 1]? = some (.sl none (q.codes.map encI)) := by
            rw [(hX i (encS q) (by rw [List.getElem?_map, hq]; rfl)).2 1 (by omega)]; simp
          have hql : i * 2 + 1 < qs.length := (List.getElem?_eq_some_iff.1 hqi).1
          have hql1 : i * 2 + 1 + 1 ≤ qs.length := hql
          have hqi' : qs[i * 2 + 1] = .sl none (q.codes.map encI) := (List.getElem?_eq_some_iff.1 hqi).2
          have hset : qs.take (i * 2 + 1) ++ PV.sl none (q.codes.map encI) :: qs.drop (i * 2 + 1 + 1) = qs := by
            have := set_same hqi
            rwa [List.set_eq_take_append_cons_drop, if_pos hql] at this
          repeat' (first
            | with_reducible refine W.seq ?_
            | with_reducible refine W.next ?_
            | with_reducible refine W.nil ?_
            | with_reducible refine W.skip ?_
            | with_reducible refine W.ret ?_
            | with_reducible refine W.ret_code ?_
            | with_reducible refine W.block ?_
            | with_reducible refine W.out ?_
            | with_reducible refine W.ret_blk ?_
            | with_reducible refine W.exit ?_
            | with_reducible refine W.exit_code ?_
            | with_reducible refine W.exit_here ?_
            | with_reducible refine W.leave_exit ?_
            | with_reducible refine W.leave_ret ?_
            | ((with_reducible refine W.exit_on ?h ?_); (case h => decide))
            | ((with_reducible apply W.reg); (case h => simp [T3, T24, T27, T28, T30, T49, hlt', hlt]; exact ⟨rfl, rfl, rfl⟩))
            | ((with_reducible apply W.draw mixed); (case hB => kernel_rfl); (case hr => simp [T3, T24, T27, T28, T30, T49, hlt', hlt]; rfl))
            | ((with_reducible apply W.cond); (case hc => simp; rfl); all_goals (intro hc_; try (cases hc_; done)))
            | ((with_reducible apply W.runX); (case _hc => rfl); (case h => simp [T3, T24, T27, T28, T30, T49, hlt', hlt]; exact ⟨rfl, rfl, rfl⟩))
            | fail)
          with_reducible apply W.held0 mixed 13 [0, 1, 2, 3, 4, 5, 6, 7, 8]
          case hn => rfl
          with_reducible apply SH.takes [0, 1, 2, 3, 4, 5, 6, 7, 8] 4
          case hfu => rfl
          case hs => kernel_rfl
          case hB => kernel_rfl
          case hQ => first | exact fun _ _ _ h => h | exact fun _ _ _ h => hNP _ _ _ h
          case hs0 => exact Sub0.rfl
          case hr => simp [T3, T24, T28, T30, T49, hlt', hlt, hql, hql1, hqi', runTakes, takeOp, effA, effOp, down, down1, hideB, keep]; exact ⟨rfl, rfl⟩
          with_reducible apply SH.one 9
          case hr => kernel_rfl
          with_reducible apply SHo.callX go54
          case hi => rfl
          case ho => rfl
          case hc => rfl
          case hf => rfl
          case hg => first | rfl | simp [T3, T24, T28, T30, T49, hlt', hlt, hql, hql1, hqi', runTakes, takeOp, effA, effOp, down, down1, hideB, keep]
          case hd => rfl
          case ha => simp [T3, T24, T28, T30, T49, hlt', hlt, hql, hql1, hqi', runTakes, takeOp, effA, effOp, down, down1, hideB, keep]; rfl
          case hargs => rfl
          case hs => exact FSC.quiet fun σs => Clone54_sc q.codes none σs hqo.len
          rintro _ _ ⟨rfl, rfl⟩
          with_reducible apply SH.one 10
          case hr => kernel_rfl
          with_reducible apply SHo.lastX
          case hnd => kernel_rfl
          case he => simp [T3, T24, T28, T30, T49, hlt', hlt, hql, hql1, hqi', runTakes, takeOp, effA, effOp, down, down1, hideB, keep, lastA]; exact ⟨rfl, rfl, rfl⟩
          with_reducible apply SH.one 11
          case hr => kernel_rfl
          with_reducible apply SHo.lastX
          case hnd => kernel_rfl
          case he => simp [T3, T24, T28, T30, T49, hlt', hlt, hql, hql1, hqi', runTakes, takeOp, effA, effOp, down, down1, hideB, keep, lastA]; exact ⟨rfl, rfl, rfl⟩
          with_reducible apply SH.one 12
          case hr => kernel_rfl
          with_reducible apply SHo.lastX
          case hnd => kernel_rfl
          case he => simp [T3, T24, T28, T30, T49, hlt', hlt, hql, hql1, hqi', runTakes, takeOp, effA, effOp, down, down1, hideB, keep, lastA]; exact ⟨rfl, rfl, rfl⟩
          refine SH.done (by kernel_rfl) ?_
          repeat' (first
            | with_reducible refine W.seq ?_
            | with_reducible refine W.next ?_
            | with_reducible refine W.nil ?_
            | with_reducible refine W.skip ?_
            | with_reducible refine W.ret ?_
            | with_reducible refine W.ret_code ?_
            | with_reducible refine W.block ?_
            | with_reducible refine W.out ?_
            | with_reducible refine W.ret_blk ?_
            | with_reducible refine W.exit ?_
            | with_reducible refine W.exit_code ?_
            | with_reducible refine W.exit_here ?_
            | with_reducible refine W.leave_exit ?_
            | with_reducible refine W.leave_ret ?_
            | ((with_reducible refine W.exit_on ?h ?_); (case h => decide))
            | ((with_reducible apply W.reg); (case h => simp [T3, T24, T27, T28, T30, T49, hwi]; exact ⟨rfl, rfl, rfl⟩))
            | ((with_reducible apply W.draw mixed); (case hB => kernel_rfl); (case hr => simp [T3, T24, T27, T28, T30, T49, hwi]; rfl))
            | ((with_reducible apply W.cond); (case hc => simp; rfl); all_goals (intro hc_; try (cases hc_; done)))
            | ((with_reducible apply W.runX); (case _hc => rfl); (case h => simp [T3, T24, T27, T28, T30, T49, hwi]; exact ⟨rfl, rfl, rfl⟩))
            | fail)
          refine W.hand (i + 1) (by omega) (by omega) ?_ ?_
          · repeat (first | exact Sw.Sub.nil | refine Sw.Sub.cons (by simp) ?_)
          · simp [hset]
        · have hlt' : ¬ (i : Int) < t.seqs.length := by omega
          repeat' (first
            | with_reducible refine W.seq ?_
            | with_reducible refine W.next ?_
            | with_reducible refine W.nil ?_
            | with_reducible refine W.skip ?_
            | with_reducible refine W.ret ?_
            | with_reducible refine W.ret_code ?_
            | with_reducible refine W.block ?_
            | with_reducible refine W.out ?_
            | with_reducible refine W.ret_blk ?_
            | with_reducible refine W.exit ?_
            | with_reducible refine W.exit_code ?_
            | with_reducible refine W.exit_here ?_
            | with_reducible refine W.leave_exit ?_
            | with_reducible refine W.leave_ret ?_
            | ((with_reducible refine W.exit_on ?h ?_); (case h => decide))
            | ((with_reducible apply W.reg); (case h => simp [T3, T24, T27, T28, T30, T49, hlt']; exact ⟨rfl, rfl, rfl⟩))
            | ((with_reducible apply W.draw mixed); (case hB => kernel_rfl); (case hr => simp [T3, T24, T27, T28, T30, T49, hlt']; rfl))
            | ((with_reducible apply W.cond); (case hc => simp; rfl); all_goals (intro hc_; try (cases hc_; done)))
            | ((with_reducible apply W.runX); (case _hc => rfl); (case h => simp [T3, T24, T27, T28, T30, T49, hlt']; exact ⟨rfl, rfl, rfl⟩))
            | fail)
          refine W.finZ (.tup [.agg [i64 t.version, .sl none (t.entries.map encE), .bs 49 (σ.bx.length + 4) t.seqs.length c], i64 0]) (.tup [.agg (encT t), i64 0]) (by simp [T30]) ?_ (hσ.clB.app (Nat.le_refl _)) ⟨rfl, by simp⟩
          refine Frz.tup ⟨Frz.agg ⟨Frz.cl (.val _), Frz.cl (encEs_cl _ _ _ (by simp) _), ?_, trivial⟩, Frz.cl (.val _), trivial⟩
          exact Frz.bz (z := _) T49 (by omega) (ps := qs) (by simp) hX (by simp) (frzB_refl (encSs_in _ _ _))

/-- The reference's Choose. -/
theorem refChoose_sc (l : List Tab) (v : Int) (own : Option Nat) (σ : AS) (hl : l.length ≤ 1000000) : SC1 Cc 27 [.sl own (l.map encT), i64 v] σ (.tup [.agg (encT (chooseF l v).1), i64 (chooseF l v).2]) σ := by
  refine W.body Tryd.func27 rfl 25 Tryd.ntmps27 _ Tryd.results27 (by simp) GEt_cl fun hσ => ?_
  repeat' (first
    | with_reducible refine W.seq ?_
    | with_reducible refine W.next ?_
    | with_reducible refine W.nil ?_
    | with_reducible refine W.skip ?_
    | with_reducible refine W.ret ?_
    | with_reducible refine W.ret_code ?_
    | with_reducible refine W.block ?_
    | with_reducible refine W.out ?_
    | with_reducible refine W.ret_blk ?_
    | with_reducible refine W.exit ?_
    | with_reducible refine W.exit_code ?_
    | with_reducible refine W.exit_here ?_
    | with_reducible refine W.leave_exit ?_
    | with_reducible refine W.leave_ret ?_
    | ((with_reducible refine W.exit_on ?h ?_); (case h => decide))
    | ((with_reducible apply W.reg); (case h => simp [T3, T30, T53]; exact ⟨rfl, rfl, rfl⟩))
    | ((with_reducible apply W.draw mixed); (case hB => kernel_rfl); (case hr => simp [T3, T30, T53]; rfl))
    | ((with_reducible apply W.cond); (case hc => simp; rfl); all_goals (intro hc_; try (cases hc_; done)))
    | ((with_reducible apply W.runX); (case _hc => rfl); (case h => simp [T3, T30, T53]; exact ⟨rfl, rfl, rfl⟩))
    | fail)
  with_reducible refine W.loopS (α := Nat) (fun k => [(0, .sl own (l.map encT)), (1, i64 v), (4, .ptr σ.bx.length 0), (5, i64 0), (6, i64 k)]) (fun _ => ⟨σ.bx ++ [[i64 0, .val (.slice none 0 0), .val (.slice none 0 0)]], σ.tk⟩) (fun k => k ≤ l.length ∧ ∀ j (_ : j < k) (hjl : j < l.length), (l[j].version == v) = false) (fun k => l.length - k) 0 ?_ ?_ ?_ ?_
  · exact ⟨Nat.zero_le _, fun j hj => absurd hj (Nat.not_lt_zero _)⟩
  · repeat (first | exact Sw.Sub.nil | refine Sw.Sub.cons (by simp) ?_)
  · first | rfl | simp
  · rintro k ⟨hk, hno⟩
    dsimp only
    by_cases hlt : k < l.length
    · have hlt' : (k : Int) < l.length := by omega
      have hwi : IntKind.i64.wrap ((k : Int) + 1) = (k : Int) + 1 := wrap64 (by omega)
      by_cases hv : l[k].version = v
      · have hr : chooseF l v = (l[k], 0) := by
          have := idxF_here (p := fun t : Tab => t.version == v) hlt (by simpa using hv) (fun j hj => hno j hj (by omega))
          unfold chooseF
          rw [this, if_neg (by omega)]
          simp [hlt]
        rw [hr]
        subst hv
        repeat' (first
          | with_reducible refine W.seq ?_
          | with_reducible refine W.next ?_
          | with_reducible refine W.nil ?_
          | with_reducible refine W.skip ?_
          | with_reducible refine W.ret ?_
          | with_reducible refine W.ret_code ?_
          | with_reducible refine W.block ?_
          | with_reducible refine W.out ?_
          | with_reducible refine W.ret_blk ?_
          | with_reducible refine W.exit ?_
          | with_reducible refine W.exit_code ?_
          | with_reducible refine W.exit_here ?_
          | with_reducible refine W.leave_exit ?_
          | with_reducible refine W.leave_ret ?_
          | ((with_reducible refine W.exit_on ?h ?_); (case h => decide))
          | ((with_reducible apply W.reg); (case h => simp [T3, T30, T53, hlt, hlt']; exact ⟨rfl, rfl, rfl⟩))
          | ((with_reducible apply W.draw mixed); (case hB => kernel_rfl); (case hr => simp [T3, T30, T53, hlt, hlt']; rfl))
          | ((with_reducible apply W.cond); (case hc => simp; rfl); all_goals (intro hc_; try (cases hc_; done)))
          | ((with_reducible apply W.runX); (case _hc => rfl); (case h => simp [T3, T30, T53, hlt, hlt']; exact ⟨rfl, rfl, rfl⟩))
          | fail)
        exact W.fin (.tup [.agg (encT l[k]), i64 0]) (.tup [.agg (encT l[k]), i64 0]) (by simp [T30]) Wk.rfl (by simp) (hσ.clB.app (Nat.le_refl _)) ⟨rfl, by simp⟩
      · have hv' : (l[k].version == v) = false := by simpa using hv
        repeat' (first
          | with_reducible refine W.seq ?_
          | with_reducible refine W.next ?_
          | with_reducible refine W.nil ?_
          | with_reducible refine W.skip ?_
          | with_reducible refine W.ret ?_
          | with_reducible refine W.ret_code ?_
          | with_reducible refine W.block ?_
          | with_reducible refine W.out ?_
          | with_reducible refine W.ret_blk ?_
          | with_reducible refine W.exit ?_
          | with_reducible refine W.exit_code ?_
          | with_reducible refine W.exit_here ?_
          | with_reducible refine W.leave_exit ?_
          | with_reducible refine W.leave_ret ?_
          | ((with_reducible refine W.exit_on ?h ?_); (case h => decide))
          | ((with_reducible apply W.reg); (case h => simp [T3, T30, T53, hlt, hlt', hv', hwi]; exact ⟨rfl, rfl, rfl⟩))
          | ((with_reducible apply W.draw mixed); (case hB => kernel_rfl); (case hr => simp [T3, T30, T53, hlt, hlt', hv', hwi]; rfl))
          | ((with_reducible apply W.cond); (case hc => simp; rfl); all_goals (intro hc_; try (cases hc_; done)))
          | ((with_reducible apply W.runX); (case _hc => rfl); (case h => simp [T3, T30, T53, hlt, hlt', hv', hwi]; exact ⟨rfl, rfl, rfl⟩))
          | fail)
        refine W.hand (k + 1) ⟨by omega, fun j hj hjl => ?_⟩ (by omega) ?_ rfl
        · rcases Nat.lt_succ_iff_lt_or_eq.1 hj with h | rfl
          · exact hno j h hjl
          · exact hv'
        · repeat (first | exact Sw.Sub.nil | refine Sw.Sub.cons (by simp) ?_)
    · have hlt' : ¬ (k : Int) < l.length := by omega
      have hr : chooseF l v = (⟨0, [], []⟩, 9) := by
        have := idxF_none (p := fun t : Tab => t.version == v) (fun j hj => hno j (by omega) hj)
        unfold chooseF
        rw [this, if_pos (by omega)]
      rw [hr]
      repeat' (first
        | with_reducible refine W.seq ?_
        | with_reducible refine W.next ?_
        | with_reducible refine W.nil ?_
        | with_reducible refine W.skip ?_
        | with_reducible refine W.ret ?_
        | with_reducible refine W.ret_code ?_
        | with_reducible refine W.block ?_
        | with_reducible refine W.out ?_
        | with_reducible refine W.ret_blk ?_
        | with_reducible refine W.exit ?_
        | with_reducible refine W.exit_code ?_
        | with_reducible refine W.exit_here ?_
        | with_reducible refine W.leave_exit ?_
        | with_reducible refine W.leave_ret ?_
        | ((with_reducible refine W.exit_on ?h ?_); (case h => decide))
        | ((with_reducible apply W.reg); (case h => simp [T3, T27, T28, T30, T53, hlt']; exact ⟨rfl, rfl, rfl⟩))
        | ((with_reducible apply W.draw mixed); (case hB => kernel_rfl); (case hr => simp [T3, T27, T28, T30, T53, hlt']; rfl))
        | ((with_reducible apply W.cond); (case hc => simp; rfl); all_goals (intro hc_; try (cases hc_; done)))
        | ((with_reducible apply W.runX); (case _hc => rfl); (case h => simp [T3, T27, T28, T30, T53, hlt']; exact ⟨rfl, rfl, rfl⟩))
        | fail)
      exact W.fin (.tup [.agg [i64 0, .val (.slice none 0 0), .val (.slice none 0 0)], i64 9]) (.tup [.agg [i64 0, .sl none [], .sl none []], i64 9]) (by simp [T30]) (Wk.tup ⟨Wk.agg ⟨Wk.rfl, Wk.nil, Wk.nil, trivial⟩, Wk.rfl, trivial⟩) (by simp) (hσ.clB.app (Nat.le_refl _)) ⟨by simp, by simp⟩


end Go.Proofs.YtgabnlkkjmepnaaDoor

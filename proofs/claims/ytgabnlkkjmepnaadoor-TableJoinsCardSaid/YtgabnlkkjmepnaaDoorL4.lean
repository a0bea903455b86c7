/- The law TableJoins: it returns true. -/
import Derived.Test.YtgabnlkkjmepnaaDoorX4
import Derived.Test.YtgabnlkkjmepnaaDoorS22
import Derived.Test.YtgabnlkkjmepnaaDoorSwS
import Derived.Test.YtgabnlkkjmepnaaDoorS18
import Derived.IntWalk
namespace Go.Proofs.YtgabnlkkjmepnaaDoor
open Go.Sw
set_option linter.unusedSimpArgs false
set_option linter.unusedVariables false
attribute [local simp] runOps stepOp pureOp gd isCall inN setd Sw.get params ev evs binV unV convV loadA cellsPV oneB storeA fieldAddrA fieldOff fieldA partA aggOf extractA indexAddrA indexA lenA minmaxA sliceA bnd partsA buildA placesA fillA buildSliceA zerosA chunkA TyD.agg Value.oneCell' Value.cells runPure appA appendA okRow_nil okRow_cons okRow_append resultA ressA resA List.getElem?_append List.set_append Cl_any Cl_val Cl_ptr Cl_agg Cl_tup Cl_fn Cl_rop Cl_sl Sw.take_set Sw.take_set_app Sw.take_app

attribute [local simp] encI encE encS encT okRow_encE okRow_encS okRow_encI
theorem drawn_64 {c : Int} (h : drawn c) : I64 c := ⟨by have := h.1; omega, by have := h.2.1; omega⟩
theorem Expand_own {t : Tab} (ht : TabOK t) (codes : List Int) (hc : ∀ c ∈ codes, I64 c) (hl : codes.length ≤ 1000000) (own : Option Nat) (σ : AS) : SC1 Cc 18 [.agg (encT t), .sl own (codes.map encI)] σ (.tup [.sl none ((expandF t codes).2.map encE), i64 (expandF t codes).1]) σ :=
  (Expand_sc t codes σ ht hc hl).wk ⟨Wk.rfl, Wk.unown, trivial⟩
theorem Same_own (a b : List Ent) (ha : a.length ≤ 1000000) (hb : b.length ≤ 1000000) (own : Option Nat) (σ : AS) : SC1 Cc 19 [.sl none (a.map encE), .sl own (b.map encE)] σ (bV (decide (a = b))) σ :=
  (SameEntries_sc a b σ ha hb).wk ⟨Wk.rfl, Wk.unown, trivial⟩
set_option maxHeartbeats 2000000 in
theorem TableJoins_sc (L : List Int) (σ : AS) : SC Cc 4 [.sl none (L.map encI)] σ (fun r σ' => r = bV true ∧ σ' = σ) := by
  refine W.body Tryd.func4 rfl 150 Tryd.ntmps4 _ Tryd.results4 (by simp) GEt_cl fun hσ => ?_
  repeat' (first
    | with_reducible refine W.seq ?_
    | with_reducible refine W.next ?_
    | with_reducible refine W.nil ?_
    | with_reducible refine W.skip ?_
    | with_reducible refine W.ret ?_
    | with_reducible refine W.ret_code ?_
    | with_reducible refine W.block ?_
    | with_reducible refine W.out ?_
    | with_reducible refine W.ret_blk ?_
    | with_reducible refine W.exit ?_
    | with_reducible refine W.exit_code ?_
    | with_reducible refine W.exit_here ?_
    | with_reducible refine W.leave_exit ?_
    | with_reducible refine W.leave_ret ?_
    | ((with_reducible refine W.exit_on ?h ?_); (case h => decide))
    | ((with_reducible apply W.reg); (case h => simp [T3, T4, T23, T24, T25, T27, T28, T30, T35, T49]; exact ⟨rfl, rfl, rfl⟩))
    | ((with_reducible apply W.draw mixed); (case hB => kernel_rfl); (case hr => simp [T3, T4, T23, T24, T25, T27, T28, T30, T35, T49]; rfl))
    | ((with_reducible apply W.cond); (case hc => simp; rfl); all_goals (intro hc_; try (cases hc_; done)))
    | ((with_reducible apply W.runX); (case _hc => rfl); (case h => simp [T3, T4, T23, T24, T25, T27, T28, T30, T35, T49]; exact ⟨rfl, rfl, rfl⟩))
    | ((with_reducible apply W.callR go8); (case ho => rfl); (case hc => rfl); (case hf => rfl); (case hg => first | rfl | simp [T3, T4, T23, T24, T25, T27, T28, T30, T35, T49]); (case hd => rfl); (case ha => simp [T3, T4, T23, T24, T25, T27, T28, T30, T35, T49]; rfl); (case hargs => rfl); (case hs => exact New_sc L _); rintro _ _ ⟨L', hL', rfl, rfl⟩)
    | ((with_reducible apply W.callR go9); (case ho => rfl); (case hc => rfl); (case hf => rfl); (case hg => first | rfl | simp [T3, T4, T23, T24, T25, T27, T28, T30, T35, T49]); (case hd => rfl); (case ha => simp [T3, T4, T23, T24, T25, T27, T28, T30, T35, T49]; rfl); (case hargs => rfl); (case hs => exact Table_sc σ.bx.length L' 0 1 _ (by simp) (Nat.zero_le _) hL'); rintro _ _ ⟨t, a1, ht, ha1, rfl, rfl⟩)
    | ((with_reducible apply W.callR go17); (case ho => rfl); (case hc => rfl); (case hf => rfl); (case hg => first | rfl | simp [T3, T4, T23, T24, T25, T27, T28, T30, T35, T49]); (case hd => rfl); (case ha => simp [T3, T4, T23, T24, T25, T27, T28, T30, T35, T49]; rfl); (case hargs => rfl); (case hs => exact codes_sc σ.bx.length L' a2 4 _ (by simp) ha2 hL' (by omega)); rintro _ _ ⟨xb, a3, hbl, hbd, ha3, rfl, rfl⟩)
    | ((with_reducible apply W.callR go17); (case ho => rfl); (case hc => rfl); (case hf => rfl); (case hg => first | rfl | simp [T3, T4, T23, T24, T25, T27, T28, T30, T35, T49]); (case hd => rfl); (case ha => simp [T3, T4, T23, T24, T25, T27, T28, T30, T35, T49]; rfl); (case hargs => rfl); (case hs => exact codes_sc σ.bx.length L' a1 4 _ (by simp) ha1 hL' (by omega)); rintro _ _ ⟨xa, a2, hal, had, ha2, rfl, rfl⟩)
    | fail)
  have htok := ht.ok (show I64 1 by unfold I64; decide)
  have hv := ht.valid
  have hia : ∀ c ∈ xa, I64 c := fun c hc => drawn_64 (had c hc)
  have hib : ∀ c ∈ xb, I64 c := fun c hc => drawn_64 (hbd c hc)
  have hiab : ∀ c ∈ xa ++ xb, I64 c := fun c hc => by
    rcases List.mem_append.1 hc with h | h
    · exact hia c h
    · exact hib c h
  have hx1 := fun σ => Expand_own htok xa hia (by omega) none σ
  have hx2 := fun σ => Expand_own htok xb hib (by omega) none σ
  have hx3 := fun own σ => Expand_own htok (xa ++ xb) hiab (by simp; omega) own σ
  have hj1 := joins1 hv xa xb (by omega)
  have hX := expand_len t xa
  have hY := expand_len t xb
  have hZ := expand_len t (xa ++ xb)
  generalize expandF t xa = rX at *
  generalize expandF t xb = rY at *
  generalize expandF t (xa ++ xb) = rZ at *
  obtain ⟨e, X⟩ := rX
  obtain ⟨f, Y⟩ := rY
  obtain ⟨g, Z⟩ := rZ
  dsimp only at *
  simp only [List.map_append] at hx3
  repeat' (first
    | with_reducible refine W.seq ?_
    | with_reducible refine W.next ?_
    | with_reducible refine W.nil ?_
    | with_reducible refine W.skip ?_
    | with_reducible refine W.ret ?_
    | with_reducible refine W.ret_code ?_
    | with_reducible refine W.block ?_
    | with_reducible refine W.out ?_
    | with_reducible refine W.ret_blk ?_
    | with_reducible refine W.exit ?_
    | with_reducible refine W.exit_code ?_
    | with_reducible refine W.exit_here ?_
    | with_reducible refine W.leave_exit ?_
    | with_reducible refine W.leave_ret ?_
    | ((with_reducible refine W.exit_on ?h ?_); (case h => decide))
    | ((with_reducible apply W.reg); (case h => simp [T3, T4, T23, T24, T25, T27, T28, T30, T35, T49]; exact ⟨rfl, rfl, rfl⟩))
    | ((with_reducible apply W.draw mixed); (case hB => kernel_rfl); (case hr => simp [T3, T4, T23, T24, T25, T27, T28, T30, T35, T49]; rfl))
    | ((with_reducible apply W.cond); (case hc => simp; rfl); all_goals (intro hc_; try (cases hc_; done)))
    | ((with_reducible apply W.runX); (case _hc => rfl); (case h => simp [T3, T4, T23, T24, T25, T27, T28, T30, T35, T49]; exact ⟨rfl, rfl, rfl⟩))
    | ((with_reducible apply W.call1 go18); (case ho => rfl); (case hc => rfl); (case hf => rfl); (case hg => first | rfl | simp [T3, T4, T23, T24, T25, T27, T28, T30, T35, T49]); (case hd => rfl); (case ha => simp [T3, T4, T23, T24, T25, T27, T28, T30, T35, T49]; rfl); (case hargs => rfl); (case hs => exact hx1 _))
    | ((with_reducible apply W.call1 go18); (case ho => rfl); (case hc => rfl); (case hf => rfl); (case hg => first | rfl | simp [T3, T4, T23, T24, T25, T27, T28, T30, T35, T49]); (case hd => rfl); (case ha => simp [T3, T4, T23, T24, T25, T27, T28, T30, T35, T49]; rfl); (case hargs => rfl); (case hs => exact hx2 _))
    | fail)
  have hbt1 : xa.length * 8 ≤ 140737488355328 := by omega
  have hbt2 : (xa.length + xb.length) * 8 ≤ 140737488355328 := by omega
  refine W.cutC (α := Unit) (fun _ => [(3, .ptr σ.bx.length 0), (4, .ptr (σ.bx.length + 1) 0), (7, .sl none (X.map encE)), (8, i64 e), (9, .sl none (Y.map encE)), (10, i64 f), (11, .sl none (Z.map encE)), (12, i64 g)]) (fun _ => ⟨σ.bx ++ [srcB L' a3, encT t], σ.tk ++ [(3, xa.length + xb.length)]⟩) (fun _ => True) ?_ ?_
  · with_reducible apply W.held0 mixed 12 [0, 2, 4]
    case hn => rfl
    with_reducible apply SH.takes [0, 2, 4] 9
    case hfu => rfl
    case hs => kernel_rfl
    case hB => kernel_rfl
    case hQ => first | exact fun _ _ _ h => h | exact fun _ _ _ h => hNP _ _ _ h
    case hs0 => exact Sub0.rfl
    case hr => simp [T3, T4, T23, T24, T25, T27, T28, T30, T35, T49, hbt1, hbt2, runTakes, takeOp, effA, effOp, down, down1, hideB, keep]; exact ⟨rfl, rfl⟩
    with_reducible apply SH.one 1
    case hr => kernel_rfl
    with_reducible apply SHo.ownX
    case he => simp [T3, T4, T23, T24, T25, T27, T28, T30, T35, T49, hbt1, hbt2, runTakes, takeOp, effA, effOp, down, down1, hideB, keep, ownA]; exact ⟨rfl, rfl, rfl⟩
    with_reducible apply SH.one 3
    case hr => kernel_rfl
    with_reducible apply SHo.effX
    case hh => exact (Sub0.rfl).hid.mono (by simp)
    case he => simp [T3, T4, T23, T24, T25, T27, T28, T30, T35, T49, hbt1, hbt2, runTakes, takeOp, effA, effOp, down, down1, hideB, keep]; exact ⟨rfl, rfl, rfl⟩
    with_reducible apply SH.one 5
    case hr => kernel_rfl
    with_reducible apply SHo.effX
    case hh => exact (Sub0.rfl).hid.mono (by simp)
    case he => simp [T3, T4, T23, T24, T25, T27, T28, T30, T35, T49, hbt1, hbt2, runTakes, takeOp, effA, effOp, down, down1, hideB, keep]; exact ⟨rfl, rfl, rfl⟩
    with_reducible apply SH.one 6
    case hr => kernel_rfl
    with_reducible apply SHo.callX go18
    case hi => rfl
    case ho => rfl
    case hc => rfl
    case hf => rfl
    case hg => first | rfl | simp [T3, T4, T23, T24, T25, T27, T28, T30, T35, T49, runTakes, takeOp, effA, effOp, down, down1, hideB, keep]
    case hd => rfl
    case ha => simp [T3, T4, T23, T24, T25, T27, T28, T30, T35, T49, runTakes, takeOp, effA, effOp, down, down1, hideB, keep]; rfl
    case hargs => rfl
    case hs => exact FSC.quiet fun σs => hx3 _ σs
    rintro _ _ ⟨rfl, rfl⟩
    with_reducible apply SH.one 7
    case hr => kernel_rfl
    with_reducible apply SHo.lastX
    case hnd => kernel_rfl
    case he => simp [T3, T4, T23, T24, T25, T27, T28, T30, T35, T49, runTakes, takeOp, effA, effOp, down, down1, hideB, keep, lastA]; exact ⟨rfl, rfl, rfl⟩
    with_reducible apply SH.two 8 9
    case hr => kernel_rfl
    · skip
      with_reducible apply SHo.lastX
      case hnd => kernel_rfl
      case he => simp [T3, T4, T23, T24, T25, T27, T28, T30, T35, T49, runTakes, takeOp, effA, effOp, down, down1, hideB, keep, lastA]; exact ⟨rfl, rfl, rfl⟩
      with_reducible apply SH.two 9 10
      case hr => kernel_rfl
      · skip
        with_reducible apply SHo.lastX
        case hnd => kernel_rfl
        case he => simp [T3, T4, T23, T24, T25, T27, T28, T30, T35, T49, runTakes, takeOp, effA, effOp, down, down1, hideB, keep, lastA]; exact ⟨rfl, rfl, rfl⟩
        with_reducible apply SH.one 10
        case hr => kernel_rfl
        with_reducible apply SHo.lastX
        case hnd => kernel_rfl
        case he => simp [T3, T4, T23, T24, T25, T27, T28, T30, T35, T49, runTakes, takeOp, effA, effOp, down, down1, hideB, keep, lastA]; exact ⟨rfl, rfl, rfl⟩
        with_reducible apply SH.one 11
        case hr => kernel_rfl
        with_reducible apply SHo.lastX
        case hnd => kernel_rfl
        case he => simp [T3, T4, T23, T24, T25, T27, T28, T30, T35, T49, runTakes, takeOp, effA, effOp, down, down1, hideB, keep, lastA]; exact ⟨rfl, rfl, rfl⟩
        refine SH.done (by kernel_rfl) ?_
        refine W.mid () trivial ?_ (by simp)
        repeat (first | exact Sw.Sub.nil | refine Sw.Sub.cons (by simp) ?_)
      · skip
        with_reducible apply SHo.lastX
        case hnd => kernel_rfl
        case he => simp [T3, T4, T23, T24, T25, T27, T28, T30, T35, T49, runTakes, takeOp, effA, effOp, down, down1, hideB, keep, lastA]; exact ⟨rfl, rfl, rfl⟩
        with_reducible apply SH.one 9
        case hr => kernel_rfl
        with_reducible apply SHo.lastX
        case hnd => kernel_rfl
        case he => simp [T3, T4, T23, T24, T25, T27, T28, T30, T35, T49, runTakes, takeOp, effA, effOp, down, down1, hideB, keep, lastA]; exact ⟨rfl, rfl, rfl⟩
        with_reducible apply SH.one 11
        case hr => kernel_rfl
        with_reducible apply SHo.lastX
        case hnd => kernel_rfl
        case he => simp [T3, T4, T23, T24, T25, T27, T28, T30, T35, T49, runTakes, takeOp, effA, effOp, down, down1, hideB, keep, lastA]; exact ⟨rfl, rfl, rfl⟩
        refine SH.done (by kernel_rfl) ?_
        refine W.mid () trivial ?_ (by simp)
        repeat (first | exact Sw.Sub.nil | refine Sw.Sub.cons (by simp) ?_)
    · skip
      with_reducible apply SHo.lastX
      case hnd => kernel_rfl
      case he => simp [T3, T4, T23, T24, T25, T27, T28, T30, T35, T49, runTakes, takeOp, effA, effOp, down, down1, hideB, keep, lastA]; exact ⟨rfl, rfl, rfl⟩
      with_reducible apply SH.one 8
      case hr => kernel_rfl
      with_reducible apply SHo.lastX
      case hnd => kernel_rfl
      case he => simp [T3, T4, T23, T24, T25, T27, T28, T30, T35, T49, runTakes, takeOp, effA, effOp, down, down1, hideB, keep, lastA]; exact ⟨rfl, rfl, rfl⟩
      with_reducible apply SH.one 10
      case hr => kernel_rfl
      with_reducible apply SHo.lastX
      case hnd => kernel_rfl
      case he => simp [T3, T4, T23, T24, T25, T27, T28, T30, T35, T49, runTakes, takeOp, effA, effOp, down, down1, hideB, keep, lastA]; exact ⟨rfl, rfl, rfl⟩
      with_reducible apply SH.one 11
      case hr => kernel_rfl
      with_reducible apply SHo.lastX
      case hnd => kernel_rfl
      case he => simp [T3, T4, T23, T24, T25, T27, T28, T30, T35, T49, runTakes, takeOp, effA, effOp, down, down1, hideB, keep, lastA]; exact ⟨rfl, rfl, rfl⟩
      refine SH.done (by kernel_rfl) ?_
      refine W.mid () trivial ?_ (by simp)
      repeat (first | exact Sw.Sub.nil | refine Sw.Sub.cons (by simp) ?_)
  rintro _ -
  (try dsimp only)
  with_reducible refine W.seq ?_
  refine W.cutC (α := List (TypeId × Nat)) (fun _ => [(3, .ptr σ.bx.length 0), (4, .ptr (σ.bx.length + 1) 0), (8, i64 e), (10, i64 f), (12, i64 g)]) (fun tk => ⟨σ.bx ++ [srcB L' a3, encT t], σ.tk ++ tk⟩) (fun _ => True) ?_ ?_
  · by_cases he : e = 0
    · subst he
      obtain ⟨hj2, hj3⟩ := hj1 rfl
      by_cases hf : f = 0
      · subst hf
        by_cases hg : g = 0
        · subst hg
          have hZe := hj2 rfl rfl
          have hse := fun own σ => Same_own Z (X ++ Y) (by omega) (by simp; omega) own σ
          simp only [List.map_append] at hse
          have hdd : decide (Z = X ++ Y) = true := by simp [hZe]
          simp only [hdd] at hse
          have hbt3 : X.length * 40 ≤ 140737488355328 := by omega
          have hbt4 : (X.length + Y.length) * 40 ≤ 140737488355328 := by omega
          with_reducible refine W.seq ?_
          with_reducible apply W.regN 12
          case h => simp [T3, T4, T23, T24, T25, T27, T28, T30, T35, T49]; exact ⟨rfl, rfl⟩
          refine W.list (by simp only [List.drop_succ_cons, List.drop_zero]; rfl) ?_
          with_reducible apply W.ownL
          case ho => rfl
          case hp => rfl
          case hb => simp [T27, T23]; exact ⟨rfl, rfl⟩
          case hg => simp
          case hd => rfl
          repeat' (first
            | with_reducible refine W.seq ?_
            | with_reducible refine W.next ?_
            | with_reducible refine W.nil ?_
            | with_reducible refine W.skip ?_
            | with_reducible refine W.ret ?_
            | with_reducible refine W.ret_code ?_
            | with_reducible refine W.block ?_
            | with_reducible refine W.out ?_
            | with_reducible refine W.ret_blk ?_
            | with_reducible refine W.exit ?_
            | with_reducible refine W.exit_code ?_
            | with_reducible refine W.exit_here ?_
            | with_reducible refine W.leave_exit ?_
            | with_reducible refine W.leave_ret ?_
            | ((with_reducible refine W.exit_on ?h ?_); (case h => decide))
            | ((with_reducible apply W.reg); (case h => simp [T3, T4, T23, T24, T25, T27, T28, T30, T35, T49, hbt3, hbt4]; exact ⟨rfl, rfl, rfl⟩))
            | ((with_reducible apply W.draw mixed); (case hB => kernel_rfl); (case hr => simp [T3, T4, T23, T24, T25, T27, T28, T30, T35, T49, hbt3, hbt4]; rfl))
            | ((with_reducible apply W.cond); (case hc => simp; rfl); all_goals (intro hc_; try (cases hc_; done)))
            | ((with_reducible apply W.runX); (case _hc => rfl); (case h => simp [T3, T4, T23, T24, T25, T27, T28, T30, T35, T49, hbt3, hbt4]; exact ⟨rfl, rfl, rfl⟩))
            | ((with_reducible apply W.call1 go19); (case ho => rfl); (case hc => rfl); (case hf => rfl); (case hg => first | rfl | simp [T3, T4, T23, T24, T25, T27, T28, T30, T35, T49, hbt3, hbt4]); (case hd => rfl); (case ha => simp [T3, T4, T23, T24, T25, T27, T28, T30, T35, T49, hbt3, hbt4]; rfl); (case hargs => rfl); (case hs => exact hse _ _))
            | fail)
          refine W.mid [(3, xa.length + xb.length), (23, X.length + Y.length)] trivial ?_ (by simp)
          repeat (first | exact Sw.Sub.nil | refine Sw.Sub.cons (by simp) ?_)
        · have hg2 : (g == 0) = false := by simpa using hg
          repeat' (first
            | with_reducible refine W.seq ?_
            | with_reducible refine W.next ?_
            | with_reducible refine W.nil ?_
            | with_reducible refine W.skip ?_
            | with_reducible refine W.ret ?_
            | with_reducible refine W.ret_code ?_
            | with_reducible refine W.block ?_
            | with_reducible refine W.out ?_
            | with_reducible refine W.ret_blk ?_
            | with_reducible refine W.exit ?_
            | with_reducible refine W.exit_code ?_
            | with_reducible refine W.exit_here ?_
            | with_reducible refine W.leave_exit ?_
            | with_reducible refine W.leave_ret ?_
            | ((with_reducible refine W.exit_on ?h ?_); (case h => decide))
            | ((with_reducible apply W.reg); (case h => simp [T3, T4, T23, T24, T25, T27, T28, T30, T35, T49, hg, hg2]; exact ⟨rfl, rfl, rfl⟩))
            | ((with_reducible apply W.draw mixed); (case hB => kernel_rfl); (case hr => simp [T3, T4, T23, T24, T25, T27, T28, T30, T35, T49, hg, hg2]; rfl))
            | ((with_reducible apply W.cond); (case hc => simp; rfl); all_goals (intro hc_; try (cases hc_; done)))
            | ((with_reducible apply W.runX); (case _hc => rfl); (case h => simp [T3, T4, T23, T24, T25, T27, T28, T30, T35, T49, hg, hg2]; exact ⟨rfl, rfl, rfl⟩))
            | fail)
          refine W.mid [(3, xa.length + xb.length)] trivial ?_ rfl
          repeat (first | exact Sw.Sub.nil | refine Sw.Sub.cons (by simp) ?_)
      · have hf2 : (f == 0) = false := by simpa using hf
        repeat' (first
          | with_reducible refine W.seq ?_
          | with_reducible refine W.next ?_
          | with_reducible refine W.nil ?_
          | with_reducible refine W.skip ?_
          | with_reducible refine W.ret ?_
          | with_reducible refine W.ret_code ?_
          | with_reducible refine W.block ?_
          | with_reducible refine W.out ?_
          | with_reducible refine W.ret_blk ?_
          | with_reducible refine W.exit ?_
          | with_reducible refine W.exit_code ?_
          | with_reducible refine W.exit_here ?_
          | with_reducible refine W.leave_exit ?_
          | with_reducible refine W.leave_ret ?_
          | ((with_reducible refine W.exit_on ?h ?_); (case h => decide))
          | ((with_reducible apply W.reg); (case h => simp [T3, T4, T23, T24, T25, T27, T28, T30, T35, T49, hf, hf2]; exact ⟨rfl, rfl, rfl⟩))
          | ((with_reducible apply W.draw mixed); (case hB => kernel_rfl); (case hr => simp [T3, T4, T23, T24, T25, T27, T28, T30, T35, T49, hf, hf2]; rfl))
          | ((with_reducible apply W.cond); (case hc => simp; rfl); all_goals (intro hc_; try (cases hc_; done)))
          | ((with_reducible apply W.runX); (case _hc => rfl); (case h => simp [T3, T4, T23, T24, T25, T27, T28, T30, T35, T49, hf, hf2]; exact ⟨rfl, rfl, rfl⟩))
          | fail)
        refine W.mid [(3, xa.length + xb.length)] trivial ?_ rfl
        repeat (first | exact Sw.Sub.nil | refine Sw.Sub.cons (by simp) ?_)
    · have he2 : (e == 0) = false := by simpa using he
      repeat' (first
        | with_reducible refine W.seq ?_
        | with_reducible refine W.next ?_
        | with_reducible refine W.nil ?_
        | with_reducible refine W.skip ?_
        | with_reducible refine W.ret ?_
        | with_reducible refine W.ret_code ?_
        | with_reducible refine W.block ?_
        | with_reducible refine W.out ?_
        | with_reducible refine W.ret_blk ?_
        | with_reducible refine W.exit ?_
        | with_reducible refine W.exit_code ?_
        | with_reducible refine W.exit_here ?_
        | with_reducible refine W.leave_exit ?_
        | with_reducible refine W.leave_ret ?_
        | ((with_reducible refine W.exit_on ?h ?_); (case h => decide))
        | ((with_reducible apply W.reg); (case h => simp [T3, T4, T23, T24, T25, T27, T28, T30, T35, T49, he, he2]; exact ⟨rfl, rfl, rfl⟩))
        | ((with_reducible apply W.draw mixed); (case hB => kernel_rfl); (case hr => simp [T3, T4, T23, T24, T25, T27, T28, T30, T35, T49, he, he2]; rfl))
        | ((with_reducible apply W.cond); (case hc => simp; rfl); all_goals (intro hc_; try (cases hc_; done)))
        | ((with_reducible apply W.runX); (case _hc => rfl); (case h => simp [T3, T4, T23, T24, T25, T27, T28, T30, T35, T49, he, he2]; exact ⟨rfl, rfl, rfl⟩))
        | fail)
      refine W.mid [(3, xa.length + xb.length)] trivial ?_ rfl
      repeat (first | exact Sw.Sub.nil | refine Sw.Sub.cons (by simp) ?_)
  intro tk0 _
  (try dsimp only)
  obtain ⟨tk, htk⟩ : ∃ tk, tk = σ.tk ++ tk0 := ⟨_, rfl⟩
  rw [← htk]
  have htl : σ.tk.length ≤ tk.length := by rw [htk]; simp
  have htt : tk.take σ.tk.length = σ.tk := by rw [htk]; simp
  with_reducible refine W.seq ?_
  refine W.cutC (α := Unit) (fun _ => [(3, .ptr σ.bx.length 0), (4, .ptr (σ.bx.length + 1) 0)]) (fun _ => ⟨σ.bx ++ [srcB L' a3, encT t], tk⟩) (fun _ => True) ?_ ?_
  · by_cases he : e = 0
    · subst he
      obtain ⟨hj2, hj3⟩ := hj1 rfl
      by_cases hf : f = 0
      · subst hf
        repeat' (first
          | with_reducible refine W.seq ?_
          | with_reducible refine W.next ?_
          | with_reducible refine W.nil ?_
          | with_reducible refine W.skip ?_
          | with_reducible refine W.ret ?_
          | with_reducible refine W.ret_code ?_
          | with_reducible refine W.block ?_
          | with_reducible refine W.out ?_
          | with_reducible refine W.ret_blk ?_
          | with_reducible refine W.exit ?_
          | with_reducible refine W.exit_code ?_
          | with_reducible refine W.exit_here ?_
          | with_reducible refine W.leave_exit ?_
          | with_reducible refine W.leave_ret ?_
          | ((with_reducible refine W.exit_on ?h ?_); (case h => decide))
          | ((with_reducible apply W.reg); (case h => simp [T3, T4, T23, T24, T25, T27, T28, T30, T35, T49]; exact ⟨rfl, rfl, rfl⟩))
          | ((with_reducible apply W.draw mixed); (case hB => kernel_rfl); (case hr => simp [T3, T4, T23, T24, T25, T27, T28, T30, T35, T49]; rfl))
          | ((with_reducible apply W.cond); (case hc => simp; rfl); all_goals (intro hc_; try (cases hc_; done)))
          | ((with_reducible apply W.runX); (case _hc => rfl); (case h => simp [T3, T4, T23, T24, T25, T27, T28, T30, T35, T49]; exact ⟨rfl, rfl, rfl⟩))
          | fail)
        refine W.mid () trivial ?_ rfl
        repeat (first | exact Sw.Sub.nil | refine Sw.Sub.cons (by simp) ?_)
      · have hf2 : (f == 0) = false := by simpa using hf
        have hf3 : (f != 0) = true := by simpa using hf
        have hg := hj3 hf
        have hg2 : (g == 0) = false := by simpa using hg
        repeat' (first
          | with_reducible refine W.seq ?_
          | with_reducible refine W.next ?_
          | with_reducible refine W.nil ?_
          | with_reducible refine W.skip ?_
          | with_reducible refine W.ret ?_
          | with_reducible refine W.ret_code ?_
          | with_reducible refine W.block ?_
          | with_reducible refine W.out ?_
          | with_reducible refine W.ret_blk ?_
          | with_reducible refine W.exit ?_
          | with_reducible refine W.exit_code ?_
          | with_reducible refine W.exit_here ?_
          | with_reducible refine W.leave_exit ?_
          | with_reducible refine W.leave_ret ?_
          | ((with_reducible refine W.exit_on ?h ?_); (case h => decide))
          | ((with_reducible apply W.reg); (case h => simp [T3, T4, T23, T24, T25, T27, T28, T30, T35, T49, hf, hf2, hf3, hg, hg2]; exact ⟨rfl, rfl, rfl⟩))
          | ((with_reducible apply W.draw mixed); (case hB => kernel_rfl); (case hr => simp [T3, T4, T23, T24, T25, T27, T28, T30, T35, T49, hf, hf2, hf3, hg, hg2]; rfl))
          | ((with_reducible apply W.cond); (case hc => simp; rfl); all_goals (intro hc_; try (cases hc_; done)))
          | ((with_reducible apply W.runX); (case _hc => rfl); (case h => simp [T3, T4, T23, T24, T25, T27, T28, T30, T35, T49, hf, hf2, hf3, hg, hg2]; exact ⟨rfl, rfl, rfl⟩))
          | fail)
        refine W.mid () trivial ?_ rfl
        repeat (first | exact Sw.Sub.nil | refine Sw.Sub.cons (by simp) ?_)
    · have he2 : (e == 0) = false := by simpa using he
      repeat' (first
        | with_reducible refine W.seq ?_
        | with_reducible refine W.next ?_
        | with_reducible refine W.nil ?_
        | with_reducible refine W.skip ?_
        | with_reducible refine W.ret ?_
        | with_reducible refine W.ret_code ?_
        | with_reducible refine W.block ?_
        | with_reducible refine W.out ?_
        | with_reducible refine W.ret_blk ?_
        | with_reducible refine W.exit ?_
        | with_reducible refine W.exit_code ?_
        | with_reducible refine W.exit_here ?_
        | with_reducible refine W.leave_exit ?_
        | with_reducible refine W.leave_ret ?_
        | ((with_reducible refine W.exit_on ?h ?_); (case h => decide))
        | ((with_reducible apply W.reg); (case h => simp [T3, T4, T23, T24, T25, T27, T28, T30, T35, T49, he, he2]; exact ⟨rfl, rfl, rfl⟩))
        | ((with_reducible apply W.draw mixed); (case hB => kernel_rfl); (case hr => simp [T3, T4, T23, T24, T25, T27, T28, T30, T35, T49, he, he2]; rfl))
        | ((with_reducible apply W.cond); (case hc => simp; rfl); all_goals (intro hc_; try (cases hc_; done)))
        | ((with_reducible apply W.runX); (case _hc => rfl); (case h => simp [T3, T4, T23, T24, T25, T27, T28, T30, T35, T49, he, he2]; exact ⟨rfl, rfl, rfl⟩))
        | fail)
      refine W.mid () trivial ?_ rfl
      repeat (first | exact Sw.Sub.nil | refine Sw.Sub.cons (by simp) ?_)
  rintro _ -
  (try dsimp only)
  clear hj1 hx1 hx2 hx3
  repeat' (first
    | with_reducible refine W.seq ?_
    | with_reducible refine W.next ?_
    | with_reducible refine W.nil ?_
    | with_reducible refine W.skip ?_
    | with_reducible refine W.ret ?_
    | with_reducible refine W.ret_code ?_
    | with_reducible refine W.block ?_
    | with_reducible refine W.out ?_
    | with_reducible refine W.ret_blk ?_
    | with_reducible refine W.exit ?_
    | with_reducible refine W.exit_code ?_
    | with_reducible refine W.exit_here ?_
    | with_reducible refine W.leave_exit ?_
    | with_reducible refine W.leave_ret ?_
    | ((with_reducible refine W.exit_on ?h ?_); (case h => decide))
    | ((with_reducible apply W.reg); (case h => simp [T3, T4, T23, T24, T25, T27, T28, T30, T35, T49]; exact ⟨rfl, rfl, rfl⟩))
    | ((with_reducible apply W.draw mixed); (case hB => kernel_rfl); (case hr => simp [T3, T4, T23, T24, T25, T27, T28, T30, T35, T49]; rfl))
    | ((with_reducible apply W.cond); (case hc => simp; rfl); all_goals (intro hc_; try (cases hc_; done)))
    | ((with_reducible apply W.runX); (case _hc => rfl); (case h => simp [T3, T4, T23, T24, T25, T27, T28, T30, T35, T49]; exact ⟨rfl, rfl, rfl⟩))
    | ((with_reducible apply W.callR go17); (case ho => rfl); (case hc => rfl); (case hf => rfl); (case hg => first | rfl | simp [T3, T4, T23, T24, T25, T27, T28, T30, T35, T49]); (case hd => rfl); (case ha => simp [T3, T4, T23, T24, T25, T27, T28, T30, T35, T49]; rfl); (case hargs => rfl); (case hs => exact codes_sc σ.bx.length L' a3 3 _ (by simp) ha3 hL' (by omega)); rintro _ _ ⟨xc, a4, hcl, hcd, ha4, rfl, rfl⟩)
    | fail)
  have hic : ∀ c ∈ xc, I64 c := fun c hc => drawn_64 (hcd c hc)
  by_cases hc0 : xc.length = 0
  · have hc1 : (xc.length == 0) = true := by simpa using hc0
    have hc2 : ((xc.length : Int) == 0) = true := by simp [hc0]
    repeat' (first
      | with_reducible refine W.seq ?_
      | with_reducible refine W.next ?_
      | with_reducible refine W.nil ?_
      | with_reducible refine W.skip ?_
      | with_reducible refine W.ret ?_
      | with_reducible refine W.ret_code ?_
      | with_reducible refine W.block ?_
      | with_reducible refine W.out ?_
      | with_reducible refine W.ret_blk ?_
      | with_reducible refine W.exit ?_
      | with_reducible refine W.exit_code ?_
      | with_reducible refine W.exit_here ?_
      | with_reducible refine W.leave_exit ?_
      | with_reducible refine W.leave_ret ?_
      | ((with_reducible refine W.exit_on ?h ?_); (case h => decide))
      | ((with_reducible apply W.reg); (case h => simp [T3, T4, T23, T24, T25, T27, T28, T30, T35, T49, hc0, hc1, hc2]; exact ⟨rfl, rfl, rfl⟩))
      | ((with_reducible apply W.draw mixed); (case hB => kernel_rfl); (case hr => simp [T3, T4, T23, T24, T25, T27, T28, T30, T35, T49, hc0, hc1, hc2]; rfl))
      | ((with_reducible apply W.cond); (case hc => simp; rfl); all_goals (intro hc_; try (cases hc_; done)))
      | ((with_reducible apply W.runX); (case _hc => rfl); (case h => simp [T3, T4, T23, T24, T25, T27, T28, T30, T35, T49, hc0, hc1, hc2]; exact ⟨rfl, rfl, rfl⟩))
      | ((with_reducible apply W.callR go20); (case ho => rfl); (case hc => rfl); (case hf => rfl); (case hg => first | rfl | simp [T3, T4, T23, T24, T25, T27, T28, T30, T35, T49, hc0, hc1, hc2]); (case hd => rfl); (case ha => simp [T3, T4, T23, T24, T25, T27, T28, T30, T35, T49, hc0, hc1, hc2]; rfl); (case hargs => rfl); (case hs => exact Range_sc σ.bx.length L' a4 1 3 _ (by simp) ha4 hL' (by omega) (by omega) (by omega)); rintro _ _ ⟨n, a5, hn, ha5, rfl, rfl⟩)
      | ((with_reducible apply W.call1 go16); (case ho => rfl); (case hc => rfl); (case hf => rfl); (case hg => first | rfl | simp [T3, T4, T23, T24, T25, T27, T28, T30, T35, T49, hc0, hc1, hc2]); (case hd => rfl); (case ha => simp [T3, T4, T23, T24, T25, T27, T28, T30, T35, T49, hc0, hc1, hc2]; rfl); (case hargs => rfl); (case hs => exact awake_sc _))
      | fail)
    with_reducible apply W.fin
    case h1 => simp <;> rfl
    case h2 => exact Wk.rfl
    case h3 => simp
    case h4 => exact hσ.clB.app (Nat.le_refl _)
    exact ⟨rfl, by simp [htt]⟩
  have hc1 : (xc.length == 0) = false := by simpa using hc0
  have hc2 : ((xc.length : Int) == 0) = false := by simp; intro h; exact hc0 (by rw [h]; rfl)
  have hxc : 1 ≤ xc.length ∧ xc.length ≤ 3 := by omega
  repeat' (first
    | with_reducible refine W.seq ?_
    | with_reducible refine W.next ?_
    | with_reducible refine W.nil ?_
    | with_reducible refine W.skip ?_
    | with_reducible refine W.ret ?_
    | with_reducible refine W.ret_code ?_
    | with_reducible refine W.block ?_
    | with_reducible refine W.out ?_
    | with_reducible refine W.ret_blk ?_
    | with_reducible refine W.exit ?_
    | with_reducible refine W.exit_code ?_
    | with_reducible refine W.exit_here ?_
    | with_reducible refine W.leave_exit ?_
    | with_reducible refine W.leave_ret ?_
    | ((with_reducible refine W.exit_on ?h ?_); (case h => decide))
    | ((with_reducible apply W.reg); (case h => simp [T3, T4, T23, T24, T25, T27, T28, T30, T35, T49, hc0, hc1, hc2]; exact ⟨rfl, rfl, rfl⟩))
    | ((with_reducible apply W.draw mixed); (case hB => kernel_rfl); (case hr => simp [T3, T4, T23, T24, T25, T27, T28, T30, T35, T49, hc0, hc1, hc2]; rfl))
    | ((with_reducible apply W.cond); (case hc => simp; rfl); all_goals (intro hc_; try (cases hc_; done)))
    | ((with_reducible apply W.runX); (case _hc => rfl); (case h => simp [T3, T4, T23, T24, T25, T27, T28, T30, T35, T49, hc0, hc1, hc2]; exact ⟨rfl, rfl, rfl⟩))
    | ((with_reducible apply W.callR go20); (case ho => rfl); (case hc => rfl); (case hf => rfl); (case hg => first | rfl | simp [T3, T4, T23, T24, T25, T27, T28, T30, T35, T49, hc0, hc1, hc2]); (case hd => rfl); (case ha => simp [T3, T4, T23, T24, T25, T27, T28, T30, T35, T49, hc0, hc1, hc2]; rfl); (case hargs => rfl); (case hs => exact Range_sc σ.bx.length L' a4 1 3 _ (by simp) ha4 hL' (by omega) (by omega) (by omega)); rintro _ _ ⟨n, a5, hn, ha5, rfl, rfl⟩)
    | fail)
  obtain ⟨nn, rfl⟩ := Int.eq_ofNat_of_zero_le (show 0 ≤ n by omega)
  have hnn : 1 ≤ nn ∧ nn ≤ 3 := by omega
  obtain ⟨hl1, hl2⟩ := joins2 hv xc nn hxc hnn
  refine W.token 3 15 (by simp) ?_
  with_reducible refine W.loopS (α := Nat) (fun i => [(4, .ptr (σ.bx.length + 1) 0), (13, .sl none (xc.map encI)), (14, i64 nn), (15, .sl (some tk.length) ((rpt i xc).map encI)), (16, i64 i)]) (fun i => ⟨σ.bx ++ [srcB L' a5, encT t], tk ++ [(3, (rpt i xc).length)]⟩) (fun i => i ≤ nn) (fun i => nn - i) 0 ?_ ?_ ?_ ?_
  · exact Nat.zero_le _
  · repeat (first | exact Sw.Sub.nil | refine Sw.Sub.cons (by simp [rpt]) ?_)
  · simp [rpt]
  intro i hi
  (try dsimp only)
  by_cases hil : (i : Int) < (nn : Int)
  · have hwi : IntKind.i64.wrap ((i : Int) + 1) = (i : Int) + 1 := wrap64 (by omega)
    have hrl : (rpt i xc).length ≤ 9 := by
      rw [rpt_len]
      have : i * xc.length ≤ 3 * 3 := Nat.mul_le_mul (by omega) hxc.2
      omega
    have hbt5 : ((rpt i xc).length + xc.length) * 8 ≤ 140737488355328 := by omega
    have hr1 : (rpt (i + 1) xc).map encI = (rpt i xc).map encI ++ xc.map encI := by rw [rpt_succ', List.map_append]
    have hr2 : (rpt (i + 1) xc).length = (rpt i xc).length + xc.length := by rw [rpt_succ', List.length_append]
    repeat' (first
      | with_reducible refine W.seq ?_
      | with_reducible refine W.next ?_
      | with_reducible refine W.nil ?_
      | with_reducible refine W.skip ?_
      | with_reducible refine W.ret ?_
      | with_reducible refine W.ret_code ?_
      | with_reducible refine W.block ?_
      | with_reducible refine W.out ?_
      | with_reducible refine W.ret_blk ?_
      | with_reducible refine W.exit ?_
      | with_reducible refine W.exit_code ?_
      | with_reducible refine W.exit_here ?_
      | with_reducible refine W.leave_exit ?_
      | with_reducible refine W.leave_ret ?_
      | ((with_reducible refine W.exit_on ?h ?_); (case h => decide))
      | ((with_reducible apply W.reg); (case h => simp [T3, T4, T23, T24, T25, T27, T28, T30, T35, T49, hil, hwi, hbt5]; exact ⟨rfl, rfl, rfl⟩))
      | ((with_reducible apply W.draw mixed); (case hB => kernel_rfl); (case hr => simp [T3, T4, T23, T24, T25, T27, T28, T30, T35, T49, hil, hwi, hbt5]; rfl))
      | ((with_reducible apply W.cond); (case hc => simp; rfl); all_goals (intro hc_; try (cases hc_; done)))
      | ((with_reducible apply W.runX); (case _hc => rfl); (case h => simp [T3, T4, T23, T24, T25, T27, T28, T30, T35, T49, hil, hwi, hbt5]; exact ⟨rfl, rfl, rfl⟩))
      | fail)
    refine W.hand (i + 1) ?_ ?_ ?_ ?_
    · omega
    · omega
    · rw [hr1]
      repeat (first | exact Sw.Sub.nil | refine Sw.Sub.cons (by simp) ?_)
    · rw [hr2]; simp
  have hie : i = nn := by omega
  subst hie
  have hm : IntKind.i64.wrap (100 * (xc.length : Int)) = 100 * (xc.length : Int) := wrap64 (by omega)
  have ha : IntKind.i64.wrap (20000 + 100 * (xc.length : Int)) = 20000 + 100 * (xc.length : Int) := wrap64 (by omega)
  have hb : IntKind.i64.wrap (20000 + 100 * (xc.length : Int) + (i : Int)) = 20000 + 100 * (xc.length : Int) + (i : Int) := wrap64 (by omega)
  have hbt6 : (1 + xc.length) * 8 ≤ 140737488355328 := by omega
  have hrl : (rpt i xc).length ≤ 9 := by
    rw [rpt_len]
    have : i * xc.length ≤ 3 * 3 := Nat.mul_le_mul hnn.2 hxc.2
    omega
  have hy1 := fun own σ => Expand_own htok ((20000 + 100 * (xc.length : Int) + (i : Int)) :: xc) (fun c hc => by
    rcases List.mem_cons.1 hc with rfl | hc
    · exact ⟨by omega, by omega⟩
    · exact hic c hc) (by simp; omega) own σ
  have hy2 := fun own σ => Expand_own htok (rpt i xc) (fun c hc => hic c (mem_rpt hc)) (by omega) own σ
  have hy3 := fun σ => refExpand_sc t xc σ htok hic (by omega)
  have hP := expand_len t ((20000 + 100 * (xc.length : Int) + (i : Int)) :: xc)
  have hQ := expand_len t (rpt i xc)
  generalize expandF t ((20000 + 100 * (xc.length : Int) + (i : Int)) :: xc) = rP at *
  generalize expandF t (rpt i xc) = rQ at *
  generalize expandF t xc = rC at *
  obtain ⟨h, P⟩ := rP
  obtain ⟨q, QQ⟩ := rQ
  obtain ⟨j, J⟩ := rC
  dsimp only at *
  repeat' (first
    | with_reducible refine W.seq ?_
    | with_reducible refine W.next ?_
    | with_reducible refine W.nil ?_
    | with_reducible refine W.skip ?_
    | with_reducible refine W.ret ?_
    | with_reducible refine W.ret_code ?_
    | with_reducible refine W.block ?_
    | with_reducible refine W.out ?_
    | with_reducible refine W.ret_blk ?_
    | with_reducible refine W.exit ?_
    | with_reducible refine W.exit_code ?_
    | with_reducible refine W.exit_here ?_
    | with_reducible refine W.leave_exit ?_
    | with_reducible refine W.leave_ret ?_
    | ((with_reducible refine W.exit_on ?h ?_); (case h => decide))
    | ((with_reducible apply W.reg); (case h => simp [T3, T4, T23, T24, T25, T27, T28, T30, T35, T49, hil]; exact ⟨rfl, rfl, rfl⟩))
    | ((with_reducible apply W.draw mixed); (case hB => kernel_rfl); (case hr => simp [T3, T4, T23, T24, T25, T27, T28, T30, T35, T49, hil]; rfl))
    | ((with_reducible apply W.cond); (case hc => simp; rfl); all_goals (intro hc_; try (cases hc_; done)))
    | ((with_reducible apply W.runX); (case _hc => rfl); (case h => simp [T3, T4, T23, T24, T25, T27, T28, T30, T35, T49, hil]; exact ⟨rfl, rfl, rfl⟩))
    | fail)
  refine W.cutC (α := Unit) (fun _ => [(4, .ptr (σ.bx.length + 1) 0), (13, .sl none (xc.map encI)), (15, .sl (some tk.length) ((rpt i xc).map encI)), (17, .sl none (P.map encE)), (18, i64 h)]) (fun _ => ⟨σ.bx ++ [srcB L' a5, encT t], tk ++ [(3, (rpt i xc).length), (3, 1 + xc.length)]⟩) (fun _ => True) ?_ ?_
  · with_reducible apply W.held0 mixed 16 [0, 1, 2, 3, 4, 5, 6, 8]
    case hn => rfl
    with_reducible apply SH.takes [0, 1, 2, 3, 4, 5, 6, 8] 8
    case hfu => rfl
    case hs => kernel_rfl
    case hB => kernel_rfl
    case hQ => first | exact fun _ _ _ h => h | exact fun _ _ _ h => hNP _ _ _ h
    case hs0 => exact Sub0.rfl
    case hr => simp [T3, T4, T23, T24, T25, T27, T28, T30, T35, T49, hm, ha, hb, hbt6, runTakes, takeOp, effA, effOp, down, down1, hideB, keep]; exact ⟨rfl, rfl⟩
    with_reducible apply SH.one 7
    case hr => kernel_rfl
    with_reducible apply SHo.ownX
    case he => simp [T3, T4, T23, T24, T25, T27, T28, T30, T35, T49, hm, ha, hb, hbt6, runTakes, takeOp, effA, effOp, down, down1, hideB, keep, ownA]; exact ⟨rfl, rfl, rfl⟩
    with_reducible apply SH.one 9
    case hr => kernel_rfl
    with_reducible apply SHo.effX
    case hh => exact (Sub0.rfl).hid.mono (by simp)
    case he => simp [T3, T4, T23, T24, T25, T27, T28, T30, T35, T49, hm, ha, hb, hbt6, runTakes, takeOp, effA, effOp, down, down1, hideB, keep]; exact ⟨rfl, rfl, rfl⟩
    with_reducible apply SH.one 10
    case hr => kernel_rfl
    with_reducible apply SHo.callX go18
    case hi => rfl
    case ho => rfl
    case hc => rfl
    case hf => rfl
    case hg => first | rfl | simp [T3, T4, T23, T24, T25, T27, T28, T30, T35, T49, runTakes, takeOp, effA, effOp, down, down1, hideB, keep]
    case hd => rfl
    case ha => simp [T3, T4, T23, T24, T25, T27, T28, T30, T35, T49, runTakes, takeOp, effA, effOp, down, down1, hideB, keep]; rfl
    case hargs => rfl
    case hs => exact FSC.quiet fun σs => hy1 _ σs
    rintro _ _ ⟨rfl, rfl⟩
    with_reducible apply SH.one 11
    case hr => kernel_rfl
    with_reducible apply SHo.lastX
    case hnd => kernel_rfl
    case he => simp [T3, T4, T23, T24, T25, T27, T28, T30, T35, T49, runTakes, takeOp, effA, effOp, down, down1, hideB, keep, lastA]; exact ⟨rfl, rfl, rfl⟩
    with_reducible apply SH.two 12 13
    case hr => kernel_rfl
    · skip
      with_reducible apply SHo.lastX
      case hnd => kernel_rfl
      case he => simp [T3, T4, T23, T24, T25, T27, T28, T30, T35, T49, runTakes, takeOp, effA, effOp, down, down1, hideB, keep, lastA]; exact ⟨rfl, rfl, rfl⟩
      with_reducible apply SH.two 13 14
      case hr => kernel_rfl
      · skip
        with_reducible apply SHo.lastX
        case hnd => kernel_rfl
        case he => simp [T3, T4, T23, T24, T25, T27, T28, T30, T35, T49, runTakes, takeOp, effA, effOp, down, down1, hideB, keep, lastA]; exact ⟨rfl, rfl, rfl⟩
        with_reducible apply SH.one 14
        case hr => kernel_rfl
        with_reducible apply SHo.lastX
        case hnd => kernel_rfl
        case he => simp [T3, T4, T23, T24, T25, T27, T28, T30, T35, T49, runTakes, takeOp, effA, effOp, down, down1, hideB, keep, lastA]; exact ⟨rfl, rfl, rfl⟩
        with_reducible apply SH.one 15
        case hr => kernel_rfl
        with_reducible apply SHo.lastX
        case hnd => kernel_rfl
        case he => simp [T3, T4, T23, T24, T25, T27, T28, T30, T35, T49, runTakes, takeOp, effA, effOp, down, down1, hideB, keep, lastA]; exact ⟨rfl, rfl, rfl⟩
        refine SH.done (by kernel_rfl) ?_
        refine W.mid () trivial ?_ (by simp)
        repeat (first | exact Sw.Sub.nil | refine Sw.Sub.cons (by simp) ?_)
      · skip
        with_reducible apply SHo.lastX
        case hnd => kernel_rfl
        case he => simp [T3, T4, T23, T24, T25, T27, T28, T30, T35, T49, runTakes, takeOp, effA, effOp, down, down1, hideB, keep, lastA]; exact ⟨rfl, rfl, rfl⟩
        with_reducible apply SH.one 13
        case hr => kernel_rfl
        with_reducible apply SHo.lastX
        case hnd => kernel_rfl
        case he => simp [T3, T4, T23, T24, T25, T27, T28, T30, T35, T49, runTakes, takeOp, effA, effOp, down, down1, hideB, keep, lastA]; exact ⟨rfl, rfl, rfl⟩
        with_reducible apply SH.one 15
        case hr => kernel_rfl
        with_reducible apply SHo.lastX
        case hnd => kernel_rfl
        case he => simp [T3, T4, T23, T24, T25, T27, T28, T30, T35, T49, runTakes, takeOp, effA, effOp, down, down1, hideB, keep, lastA]; exact ⟨rfl, rfl, rfl⟩
        refine SH.done (by kernel_rfl) ?_
        refine W.mid () trivial ?_ (by simp)
        repeat (first | exact Sw.Sub.nil | refine Sw.Sub.cons (by simp) ?_)
    · skip
      with_reducible apply SHo.lastX
      case hnd => kernel_rfl
      case he => simp [T3, T4, T23, T24, T25, T27, T28, T30, T35, T49, runTakes, takeOp, effA, effOp, down, down1, hideB, keep, lastA]; exact ⟨rfl, rfl, rfl⟩
      with_reducible apply SH.one 12
      case hr => kernel_rfl
      with_reducible apply SHo.lastX
      case hnd => kernel_rfl
      case he => simp [T3, T4, T23, T24, T25, T27, T28, T30, T35, T49, runTakes, takeOp, effA, effOp, down, down1, hideB, keep, lastA]; exact ⟨rfl, rfl, rfl⟩
      with_reducible apply SH.one 14
      case hr => kernel_rfl
      with_reducible apply SHo.lastX
      case hnd => kernel_rfl
      case he => simp [T3, T4, T23, T24, T25, T27, T28, T30, T35, T49, runTakes, takeOp, effA, effOp, down, down1, hideB, keep, lastA]; exact ⟨rfl, rfl, rfl⟩
      with_reducible apply SH.one 15
      case hr => kernel_rfl
      with_reducible apply SHo.lastX
      case hnd => kernel_rfl
      case he => simp [T3, T4, T23, T24, T25, T27, T28, T30, T35, T49, runTakes, takeOp, effA, effOp, down, down1, hideB, keep, lastA]; exact ⟨rfl, rfl, rfl⟩
      refine SH.done (by kernel_rfl) ?_
      refine W.mid () trivial ?_ (by simp)
      repeat (first | exact Sw.Sub.nil | refine Sw.Sub.cons (by simp) ?_)
  rintro _ -
  (try dsimp only)
  by_cases hj : j = 0
  · subst hj
    by_cases hh : h = 2
    · subst hh
      repeat' (first
        | with_reducible refine W.seq ?_
        | with_reducible refine W.next ?_
        | with_reducible refine W.nil ?_
        | with_reducible refine W.skip ?_
        | with_reducible refine W.ret ?_
        | with_reducible refine W.ret_code ?_
        | with_reducible refine W.block ?_
        | with_reducible refine W.out ?_
        | with_reducible refine W.ret_blk ?_
        | with_reducible refine W.exit ?_
        | with_reducible refine W.exit_code ?_
        | with_reducible refine W.exit_here ?_
        | with_reducible refine W.leave_exit ?_
        | with_reducible refine W.leave_ret ?_
        | ((with_reducible refine W.exit_on ?h ?_); (case h => decide))
        | ((with_reducible apply W.reg); (case h => simp [T3, T4, T23, T24, T25, T27, T28, T30, T35, T49]; exact ⟨rfl, rfl, rfl⟩))
        | ((with_reducible apply W.draw mixed); (case hB => kernel_rfl); (case hr => simp [T3, T4, T23, T24, T25, T27, T28, T30, T35, T49]; rfl))
        | ((with_reducible apply W.cond); (case hc => simp; rfl); all_goals (intro hc_; try (cases hc_; done)))
        | ((with_reducible apply W.runX); (case _hc => rfl); (case h => simp [T3, T4, T23, T24, T25, T27, T28, T30, T35, T49]; exact ⟨rfl, rfl, rfl⟩))
        | ((with_reducible apply W.call1 go18); (case ho => rfl); (case hc => rfl); (case hf => rfl); (case hg => first | rfl | simp [T3, T4, T23, T24, T25, T27, T28, T30, T35, T49]); (case hd => rfl); (case ha => simp [T3, T4, T23, T24, T25, T27, T28, T30, T35, T49]; rfl); (case hargs => rfl); (case hs => exact hy2 _ _))
        | ((with_reducible apply W.call1 go21); (case ho => rfl); (case hc => rfl); (case hf => rfl); (case hg => first | rfl | simp [T3, T4, T23, T24, T25, T27, T28, T30, T35, T49]); (case hd => rfl); (case ha => simp [T3, T4, T23, T24, T25, T27, T28, T30, T35, T49]; rfl); (case hargs => rfl); (case hs => exact hy3 _))
        | ((with_reducible apply W.call1 go16); (case ho => rfl); (case hc => rfl); (case hf => rfl); (case hg => first | rfl | simp [T3, T4, T23, T24, T25, T27, T28, T30, T35, T49]); (case hd => rfl); (case ha => simp [T3, T4, T23, T24, T25, T27, T28, T30, T35, T49]; rfl); (case hargs => rfl); (case hs => exact awake_sc _))
        | fail)
      with_reducible apply W.fin
      case h1 => simp <;> rfl
      case h2 => exact Wk.rfl
      case h3 => simp
      case h4 => exact hσ.clB.app (Nat.le_refl _)
      exact ⟨rfl, by simp [htt, List.take_append_of_le_length htl]⟩
    · have hh2 : (h == 2) = false := by simpa using hh
      by_cases hq : q = 2
      · subst hq
        repeat' (first
          | with_reducible refine W.seq ?_
          | with_reducible refine W.next ?_
          | with_reducible refine W.nil ?_
          | with_reducible refine W.skip ?_
          | with_reducible refine W.ret ?_
          | with_reducible refine W.ret_code ?_
          | with_reducible refine W.block ?_
          | with_reducible refine W.out ?_
          | with_reducible refine W.ret_blk ?_
          | with_reducible refine W.exit ?_
          | with_reducible refine W.exit_code ?_
          | with_reducible refine W.exit_here ?_
          | with_reducible refine W.leave_exit ?_
          | with_reducible refine W.leave_ret ?_
          | ((with_reducible refine W.exit_on ?h ?_); (case h => decide))
          | ((with_reducible apply W.reg); (case h => simp [T3, T4, T23, T24, T25, T27, T28, T30, T35, T49, hh, hh2]; exact ⟨rfl, rfl, rfl⟩))
          | ((with_reducible apply W.draw mixed); (case hB => kernel_rfl); (case hr => simp [T3, T4, T23, T24, T25, T27, T28, T30, T35, T49, hh, hh2]; rfl))
          | ((with_reducible apply W.cond); (case hc => simp; rfl); all_goals (intro hc_; try (cases hc_; done)))
          | ((with_reducible apply W.runX); (case _hc => rfl); (case h => simp [T3, T4, T23, T24, T25, T27, T28, T30, T35, T49, hh, hh2]; exact ⟨rfl, rfl, rfl⟩))
          | ((with_reducible apply W.call1 go18); (case ho => rfl); (case hc => rfl); (case hf => rfl); (case hg => first | rfl | simp [T3, T4, T23, T24, T25, T27, T28, T30, T35, T49, hh, hh2]); (case hd => rfl); (case ha => simp [T3, T4, T23, T24, T25, T27, T28, T30, T35, T49, hh, hh2]; rfl); (case hargs => rfl); (case hs => exact hy2 _ _))
          | ((with_reducible apply W.call1 go21); (case ho => rfl); (case hc => rfl); (case hf => rfl); (case hg => first | rfl | simp [T3, T4, T23, T24, T25, T27, T28, T30, T35, T49, hh, hh2]); (case hd => rfl); (case ha => simp [T3, T4, T23, T24, T25, T27, T28, T30, T35, T49, hh, hh2]; rfl); (case hargs => rfl); (case hs => exact hy3 _))
          | ((with_reducible apply W.call1 go16); (case ho => rfl); (case hc => rfl); (case hf => rfl); (case hg => first | rfl | simp [T3, T4, T23, T24, T25, T27, T28, T30, T35, T49, hh, hh2]); (case hd => rfl); (case ha => simp [T3, T4, T23, T24, T25, T27, T28, T30, T35, T49, hh, hh2]; rfl); (case hargs => rfl); (case hs => exact awake_sc _))
          | fail)
        with_reducible apply W.fin
        case h1 => simp <;> rfl
        case h2 => exact Wk.rfl
        case h3 => simp
        case h4 => exact hσ.clB.app (Nat.le_refl _)
        exact ⟨rfl, by simp [htt, List.take_append_of_le_length htl]⟩
      · obtain ⟨rfl, rfl, rfl⟩ : h = 0 ∧ q = 0 ∧ P = QQ := by
          rcases hl2 rfl with h1 | h1 | h1
          · exact absurd h1 hh
          · exact absurd h1 hq
          · exact h1
        have hse := fun σ => SameEntries_sc P P σ (by omega) (by omega)
        have hdd : decide (P = P) = true := by simp
        simp only [hdd] at hse
        repeat' (first
          | with_reducible refine W.seq ?_
          | with_reducible refine W.next ?_
          | with_reducible refine W.nil ?_
          | with_reducible refine W.skip ?_
          | with_reducible refine W.ret ?_
          | with_reducible refine W.ret_code ?_
          | with_reducible refine W.block ?_
          | with_reducible refine W.out ?_
          | with_reducible refine W.ret_blk ?_
          | with_reducible refine W.exit ?_
          | with_reducible refine W.exit_code ?_
          | with_reducible refine W.exit_here ?_
          | with_reducible refine W.leave_exit ?_
          | with_reducible refine W.leave_ret ?_
          | ((with_reducible refine W.exit_on ?h ?_); (case h => decide))
          | ((with_reducible apply W.reg); (case h => simp [T3, T4, T23, T24, T25, T27, T28, T30, T35, T49]; exact ⟨rfl, rfl, rfl⟩))
          | ((with_reducible apply W.draw mixed); (case hB => kernel_rfl); (case hr => simp [T3, T4, T23, T24, T25, T27, T28, T30, T35, T49]; rfl))
          | ((with_reducible apply W.cond); (case hc => simp; rfl); all_goals (intro hc_; try (cases hc_; done)))
          | ((with_reducible apply W.runX); (case _hc => rfl); (case h => simp [T3, T4, T23, T24, T25, T27, T28, T30, T35, T49]; exact ⟨rfl, rfl, rfl⟩))
          | ((with_reducible apply W.call1 go18); (case ho => rfl); (case hc => rfl); (case hf => rfl); (case hg => first | rfl | simp [T3, T4, T23, T24, T25, T27, T28, T30, T35, T49]); (case hd => rfl); (case ha => simp [T3, T4, T23, T24, T25, T27, T28, T30, T35, T49]; rfl); (case hargs => rfl); (case hs => exact hy2 _ _))
          | ((with_reducible apply W.call1 go21); (case ho => rfl); (case hc => rfl); (case hf => rfl); (case hg => first | rfl | simp [T3, T4, T23, T24, T25, T27, T28, T30, T35, T49]); (case hd => rfl); (case ha => simp [T3, T4, T23, T24, T25, T27, T28, T30, T35, T49]; rfl); (case hargs => rfl); (case hs => exact hy3 _))
          | ((with_reducible apply W.call1 go19); (case ho => rfl); (case hc => rfl); (case hf => rfl); (case hg => first | rfl | simp [T3, T4, T23, T24, T25, T27, T28, T30, T35, T49]); (case hd => rfl); (case ha => simp [T3, T4, T23, T24, T25, T27, T28, T30, T35, T49]; rfl); (case hargs => rfl); (case hs => exact hse _))
          | ((with_reducible apply W.call1 go16); (case ho => rfl); (case hc => rfl); (case hf => rfl); (case hg => first | rfl | simp [T3, T4, T23, T24, T25, T27, T28, T30, T35, T49]); (case hd => rfl); (case ha => simp [T3, T4, T23, T24, T25, T27, T28, T30, T35, T49]; rfl); (case hargs => rfl); (case hs => exact awake_sc _))
          | fail)
        with_reducible apply W.fin
        case h1 => simp <;> rfl
        case h2 => exact Wk.rfl
        case h3 => simp
        case h4 => exact hσ.clB.app (Nat.le_refl _)
        exact ⟨rfl, by simp [htt, List.take_append_of_le_length htl]⟩
  · have hh := hl1 hj
    have hh2 : (h == 0) = false := by simpa using hh
    have hh3 : (h != 0) = true := by simpa using hh
    have hj2 : (j == 0) = false := by simpa using hj
    have hj3 : (j != 0) = true := by simpa using hj
    repeat' (first
      | with_reducible refine W.seq ?_
      | with_reducible refine W.next ?_
      | with_reducible refine W.nil ?_
      | with_reducible refine W.skip ?_
      | with_reducible refine W.ret ?_
      | with_reducible refine W.ret_code ?_
      | with_reducible refine W.block ?_
      | with_reducible refine W.out ?_
      | with_reducible refine W.ret_blk ?_
      | with_reducible refine W.exit ?_
      | with_reducible refine W.exit_code ?_
      | with_reducible refine W.exit_here ?_
      | with_reducible refine W.leave_exit ?_
      | with_reducible refine W.leave_ret ?_
      | ((with_reducible refine W.exit_on ?h ?_); (case h => decide))
      | ((with_reducible apply W.reg); (case h => simp [T3, T4, T23, T24, T25, T27, T28, T30, T35, T49, hh, hh2, hh3, hj, hj2, hj3]; exact ⟨rfl, rfl, rfl⟩))
      | ((with_reducible apply W.draw mixed); (case hB => kernel_rfl); (case hr => simp [T3, T4, T23, T24, T25, T27, T28, T30, T35, T49, hh, hh2, hh3, hj, hj2, hj3]; rfl))
      | ((with_reducible apply W.cond); (case hc => simp; rfl); all_goals (intro hc_; try (cases hc_; done)))
      | ((with_reducible apply W.runX); (case _hc => rfl); (case h => simp [T3, T4, T23, T24, T25, T27, T28, T30, T35, T49, hh, hh2, hh3, hj, hj2, hj3]; exact ⟨rfl, rfl, rfl⟩))
      | ((with_reducible apply W.call1 go18); (case ho => rfl); (case hc => rfl); (case hf => rfl); (case hg => first | rfl | simp [T3, T4, T23, T24, T25, T27, T28, T30, T35, T49, hh, hh2, hh3, hj, hj2, hj3]); (case hd => rfl); (case ha => simp [T3, T4, T23, T24, T25, T27, T28, T30, T35, T49, hh, hh2, hh3, hj, hj2, hj3]; rfl); (case hargs => rfl); (case hs => exact hy2 _ _))
      | ((with_reducible apply W.call1 go21); (case ho => rfl); (case hc => rfl); (case hf => rfl); (case hg => first | rfl | simp [T3, T4, T23, T24, T25, T27, T28, T30, T35, T49, hh, hh2, hh3, hj, hj2, hj3]); (case hd => rfl); (case ha => simp [T3, T4, T23, T24, T25, T27, T28, T30, T35, T49, hh, hh2, hh3, hj, hj2, hj3]; rfl); (case hargs => rfl); (case hs => exact hy3 _))
      | ((with_reducible apply W.call1 go16); (case ho => rfl); (case hc => rfl); (case hf => rfl); (case hg => first | rfl | simp [T3, T4, T23, T24, T25, T27, T28, T30, T35, T49, hh, hh2, hh3, hj, hj2, hj3]); (case hd => rfl); (case ha => simp [T3, T4, T23, T24, T25, T27, T28, T30, T35, T49, hh, hh2, hh3, hj, hj2, hj3]; rfl); (case hargs => rfl); (case hs => exact awake_sc _))
      | fail)
    with_reducible apply W.fin
    case h1 => simp <;> rfl
    case h2 => exact Wk.rfl
    case h3 => simp
    case h4 => exact hσ.clB.app (Nat.le_refl _)
    exact ⟨rfl, by simp [htt, List.take_append_of_le_length htl]⟩


end Go.Proofs.YtgabnlkkjmepnaaDoor

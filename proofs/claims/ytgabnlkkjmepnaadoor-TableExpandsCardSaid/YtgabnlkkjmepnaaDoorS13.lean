/- Expand, SameEntries and awake: what they give. -/
import Derived.Test.YtgabnlkkjmepnaaDoorS12
import Derived.Test.YtgabnlkkjmepnaaDoorSwO
import Derived.IntWalk
namespace Go.Proofs.YtgabnlkkjmepnaaDoor
open Go.Sw
set_option linter.unusedSimpArgs false
set_option linter.unusedVariables false
attribute [local simp] runOps stepOp pureOp gd isCall inN setd Sw.get params ev evs binV unV convV loadA cellsPV oneB storeA fieldAddrA fieldOff fieldA partA aggOf extractA indexAddrA indexA lenA minmaxA sliceA bnd partsA buildA placesA fillA buildSliceA zerosA chunkA TyD.agg Value.oneCell' Value.cells runPure appA appendA okRow_nil okRow_cons okRow_append resultA ressA resA List.getElem?_append List.set_append Cl_any Cl_val Cl_ptr Cl_agg Cl_tup Cl_fn Cl_rop Cl_sl Sw.take_set Sw.take_set_app Sw.take_app

attribute [local simp] encI encE encS encT okRow_encE okRow_encS

def expandF (t : Tab) (codes : List Int) : Int × List Ent :=
  if validateF t ≠ 0 then (validateF t, [])
  else if (20 : Int) < (codes.length : Int) then (2, [])
  else if (allF t 501 codes 0 ⟨[], 0⟩).1 ≠ 0 then ((allF t 501 codes 0 ⟨[], 0⟩).1, [])
  else (0, (allF t 501 codes 0 ⟨[], 0⟩).2.out)

theorem Expand_sc (t : Tab) (codes : List Int) (σ : AS) (ht : TabOK t) (hc : ∀ c ∈ codes, I64 c) (hl : codes.length ≤ 1000000) : SC1 Cc 18 [.agg (encT t), .sl none (codes.map encI)] σ (.tup [.sl none ((expandF t codes).2.map encE), i64 (expandF t codes).1]) σ := by
  refine W.body Tryd.func18 rfl 30 Tryd.ntmps18 _ Tryd.results18 (by simp) GEt_cl fun hσ => ?_
  repeat' (first
    | with_reducible refine W.seq ?_
    | with_reducible refine W.next ?_
    | with_reducible refine W.nil ?_
    | with_reducible refine W.skip ?_
    | with_reducible refine W.ret ?_
    | with_reducible refine W.ret_code ?_
    | with_reducible refine W.block ?_
    | with_reducible refine W.out ?_
    | with_reducible refine W.ret_blk ?_
    | with_reducible refine W.exit ?_
    | with_reducible refine W.exit_code ?_
    | with_reducible refine W.exit_here ?_
    | with_reducible refine W.leave_exit ?_
    | with_reducible refine W.leave_ret ?_
    | ((with_reducible refine W.exit_on ?h ?_); (case h => decide))
    | ((with_reducible apply W.reg); (case h => simp [T3, T24, T27, T28, T30, T35, T70, T72]; exact ⟨rfl, rfl, rfl⟩))
    | ((with_reducible apply W.draw mixed); (case hB => kernel_rfl); (case hr => simp [T3, T24, T27, T28, T30, T35, T70, T72]; rfl))
    | ((with_reducible apply W.cond); (case hc => simp; rfl); all_goals (intro hc_; try (cases hc_; done)))
    | ((with_reducible apply W.runX); (case _hc => rfl); (case h => simp [T3, T24, T27, T28, T30, T35, T70, T72]; exact ⟨rfl, rfl, rfl⟩))
    | ((with_reducible apply W.call1 go25); (case ho => rfl); (case hc => rfl); (case hf => rfl); (case hg => first | rfl | simp [T3, T24, T27, T28, T30, T35, T70, T72]); (case hd => rfl); (case ha => simp [T3, T24, T27, T28, T30, T35, T70, T72]; rfl); (case hargs => rfl); (case hs => exact Validate_sc t _ ht))
    | fail)
  · have h1 : validateF t ≠ 0 := by simpa using hc_
    have hr : expandF t codes = (validateF t, []) := by simp only [expandF]; rw [if_pos h1]
    rw [hr]
    with_reducible apply W.fin
    case h1 => simp <;> rfl
    case h2 => exact wkErr _
    case h3 => simp
    case h4 => exact hσ.clB.app (Nat.le_refl _)
    exact ⟨rfl, by simp⟩
  · have h1 : ¬ validateF t ≠ 0 := by rename_i h; simpa using h
    have h2 : (20 : Int) < (codes.length : Int) := by simpa using hc_
    have hr : expandF t codes = (2, []) := by simp only [expandF]; rw [if_neg h1, if_pos h2]
    rw [hr]
    with_reducible apply W.fin
    case h1 => simp <;> rfl
    case h2 => exact wkErr _
    case h3 => simp
    case h4 => exact hσ.clB.app (Nat.le_refl _)
    exact ⟨rfl, by simp⟩
  · have h1 : ¬ validateF t ≠ 0 := by rename_i h; simpa using h
    have h2 : ¬ (20 : Int) < (codes.length : Int) := by simpa using hc_
    have hall := all_sc t ht 501 codes 0 ⟨[], 0⟩ ⟨σ.bx ++ [encT t, encX t σ.tk.length ⟨[], 0⟩], σ.tk ++ [(23, 0)]⟩ (σ.bx.length + 1) σ.tk.length hc hl (by omega) (by simp) (by simp) (by simp) (by simp) (by simp)
    have hr : expandF t codes = if (allF t 501 codes 0 ⟨[], 0⟩).1 ≠ 0 then ((allF t 501 codes 0 ⟨[], 0⟩).1, []) else (0, (allF t 501 codes 0 ⟨[], 0⟩).2.out) := by simp only [expandF]; rw [if_neg h1, if_neg h2]
    rw [hr]
    clear hr
    generalize allF t 501 codes 0 ⟨[], 0⟩ = r at *
    obtain ⟨e, s'⟩ := r
    dsimp only at hall ⊢
    have hget : (setX ⟨σ.bx ++ [encT t, encX t σ.tk.length ⟨[], 0⟩], σ.tk ++ [(23, 0)]⟩ (σ.bx.length + 1) σ.tk.length t s').bx[σ.bx.length + 1]? = some (encX t σ.tk.length s') := by simp [setX]
    have hcl : ClB σ.bx.length σ.tk.length (setX ⟨σ.bx ++ [encT t, encX t σ.tk.length ⟨[], 0⟩], σ.tk ++ [(23, 0)]⟩ (σ.bx.length + 1) σ.tk.length t s').bx := by
      have := hσ.clB.app (r := [encT t, encX t σ.tk.length s']) (Nat.le_refl _)
      simpa [setX] using this
    have htk : (⟨(setX ⟨σ.bx ++ [encT t, encX t σ.tk.length ⟨[], 0⟩], σ.tk ++ [(23, 0)]⟩ (σ.bx.length + 1) σ.tk.length t s').bx.take σ.bx.length, (setX ⟨σ.bx ++ [encT t, encX t σ.tk.length ⟨[], 0⟩], σ.tk ++ [(23, 0)]⟩ (σ.bx.length + 1) σ.tk.length t s').tk.take σ.tk.length⟩ : AS) = σ := by simp [setX]
    refine W.tokenboxL 23 (σ.bx.length + 1) 3 [i64 t.version, .sl none (t.entries.map encE), .sl none (t.seqs.map encS), .val (.slice none 0 0), i64 0] (by simp) (by simp) ?_
    refine W.objsL (σ' := ⟨σ.bx ++ [encT t, encX t σ.tk.length ⟨[], 0⟩], σ.tk ++ [(23, 0)]⟩) (by simp [encX]) ?_
    generalize setX ⟨σ.bx ++ [encT t, encX t σ.tk.length ⟨[], 0⟩], σ.tk ++ [(23, 0)]⟩ (σ.bx.length + 1) σ.tk.length t s' = S2 at *
    generalize (⟨σ.bx ++ [encT t, encX t σ.tk.length ⟨[], 0⟩], σ.tk ++ [(23, 0)]⟩ : AS) = S1 at *
    repeat' (first
      | with_reducible refine W.seq ?_
      | with_reducible refine W.next ?_
      | with_reducible refine W.nil ?_
      | with_reducible refine W.skip ?_
      | with_reducible refine W.ret ?_
      | with_reducible refine W.ret_code ?_
      | with_reducible refine W.block ?_
      | with_reducible refine W.out ?_
      | with_reducible refine W.ret_blk ?_
      | with_reducible refine W.exit ?_
      | with_reducible refine W.exit_code ?_
      | with_reducible refine W.exit_here ?_
      | with_reducible refine W.leave_exit ?_
      | with_reducible refine W.leave_ret ?_
      | ((with_reducible refine W.exit_on ?h ?_); (case h => decide))
      | ((with_reducible apply W.reg); (case h => simp [T3, T24, T27, T28, T30, T35, T70, T72, hget, encX]; exact ⟨rfl, rfl, rfl⟩))
      | ((with_reducible apply W.draw mixed); (case hB => kernel_rfl); (case hr => simp [T3, T24, T27, T28, T30, T35, T70, T72, hget, encX]; rfl))
      | ((with_reducible apply W.cond); (case hc => simp; rfl); all_goals (intro hc_; try (cases hc_; done)))
      | ((with_reducible apply W.runX); (case _hc => rfl); (case h => simp [T3, T24, T27, T28, T30, T35, T70, T72, hget, encX]; exact ⟨rfl, rfl, rfl⟩))
      | ((with_reducible apply W.call1 go37); (case ho => rfl); (case hc => rfl); (case hf => rfl); (case hg => first | rfl | simp [T3, T24, T27, T28, T30, T35, T70, T72, hget, encX]); (case hd => rfl); (case ha => simp [T3, T24, T27, T28, T30, T35, T70, T72, hget, encX]; rfl); (case hargs => rfl); (case hs => exact hall))
      | fail)
    · have h3 : e ≠ 0 := by simpa using hc_
      rw [if_pos h3]
      with_reducible apply W.fin
      case h1 => simp <;> rfl
      case h2 => exact wkErr _
      case h3 => simp
      case h4 => exact hcl
      exact ⟨rfl, htk⟩
    · have h3 : ¬ e ≠ 0 := by simpa using hc_
      rw [if_neg h3]
      with_reducible apply W.fin
      case h1 => simp <;> rfl
      case h2 => exact Wk.tup (show WkL Cc [.sl (some σ.tk.length) (s'.out.map encE), i64 0] [.sl none (s'.out.map encE), i64 0] from ⟨Wk.unown, Wk.rfl, trivial⟩)
      case h3 => simp
      case h4 => exact hcl
      exact ⟨rfl, htk⟩

theorem ent_eq {x y : Ent} (h : (!x.code == y.code || (!x.element == y.element || (!x.width == y.width || (!x.scale == y.scale || !x.least == y.least)))) = false) : x = y := by
  cases x; cases y
  simp at h
  simp [h]
theorem SameEntries_sc (a b : List Ent) (σ : AS) (ha : a.length ≤ 1000000) (hb : b.length ≤ 1000000) : SC1 Cc 19 [.sl none (a.map encE), .sl none (b.map encE)] σ (bV (decide (a = b))) σ := by
  refine W.body Tryd.func19 rfl 26 Tryd.ntmps19 _ Tryd.results19 (by simp) GEt_cl fun hσ => ?_
  repeat' (first
    | with_reducible refine W.seq ?_
    | with_reducible refine W.next ?_
    | with_reducible refine W.nil ?_
    | with_reducible refine W.skip ?_
    | with_reducible refine W.ret ?_
    | with_reducible refine W.ret_code ?_
    | with_reducible refine W.block ?_
    | with_reducible refine W.out ?_
    | with_reducible refine W.ret_blk ?_
    | with_reducible refine W.exit ?_
    | with_reducible refine W.exit_code ?_
    | with_reducible refine W.exit_here ?_
    | with_reducible refine W.leave_exit ?_
    | with_reducible refine W.leave_ret ?_
    | ((with_reducible refine W.exit_on ?h ?_); (case h => decide))
    | ((with_reducible apply W.reg); (case h => simp [T3, T4, T23, T27]; exact ⟨rfl, rfl, rfl⟩))
    | ((with_reducible apply W.draw mixed); (case hB => kernel_rfl); (case hr => simp [T3, T4, T23, T27]; rfl))
    | ((with_reducible apply W.cond); (case hc => simp; rfl); all_goals (intro hc_; try (cases hc_; done)))
    | ((with_reducible apply W.runX); (case _hc => rfl); (case h => simp [T3, T4, T23, T27]; exact ⟨rfl, rfl, rfl⟩))
    | fail)
  · have h : ¬ a = b := by rintro rfl; simp at hc_
    with_reducible apply W.fin
    case h1 => simp <;> rfl
    case h2 => exact Wk.rfl
    case h3 => simp
    case h4 => exact hσ.clB
    exact ⟨by simp [h], by simp⟩
  · have hlen : a.length = b.length := by simp at hc_; omega
    with_reducible refine W.loopS (α := Nat) (fun k => [(0, .sl none (a.map encE)), (1, .sl none (b.map encE)), (5, i64 k)]) (fun _ => σ) (fun k => k ≤ a.length ∧ ∀ j (h1 : j < k) (h2 : j < a.length), a[j] = b[j]'(by omega)) (fun k => a.length - k) 0 ?_ ?_ ?_ ?_
    · exact ⟨Nat.zero_le _, fun j h => absurd h (Nat.not_lt_zero _)⟩
    · repeat (first | exact Sw.Sub.nil | refine Sw.Sub.cons (by simp) ?_)
    · rfl
    · rintro k ⟨hk, hsame⟩
      dsimp only
      by_cases hlt : k < a.length
      · have hltb : k < b.length := by omega
        have hwi : IntKind.i64.wrap ((k : Int) + 1) = (k : Int) + 1 := wrap64 (by omega)
        have hlt' : (k : Int) < a.length := by omega
        repeat' (first
          | with_reducible refine W.seq ?_
          | with_reducible refine W.next ?_
          | with_reducible refine W.nil ?_
          | with_reducible refine W.skip ?_
          | with_reducible refine W.ret ?_
          | with_reducible refine W.ret_code ?_
          | with_reducible refine W.block ?_
          | with_reducible refine W.out ?_
          | with_reducible refine W.ret_blk ?_
          | with_reducible refine W.exit ?_
          | with_reducible refine W.exit_code ?_
          | with_reducible refine W.exit_here ?_
          | with_reducible refine W.leave_exit ?_
          | with_reducible refine W.leave_ret ?_
          | ((with_reducible refine W.exit_on ?h ?_); (case h => decide))
          | ((with_reducible apply W.reg); (case h => simp [T3, T4, T23, T27, hlt, hltb, hwi]; exact ⟨rfl, rfl, rfl⟩))
          | ((with_reducible apply W.draw mixed); (case hB => kernel_rfl); (case hr => simp [T3, T4, T23, T27, hlt, hltb, hwi]; rfl))
          | ((with_reducible apply W.cond); (case hc => simp; rfl); all_goals (intro hc_; try (cases hc_; done)))
          | ((with_reducible apply W.runX); (case _hc => rfl); (case h => simp [T3, T4, T23, T27, hlt, hltb, hwi]; exact ⟨rfl, rfl, rfl⟩))
          | fail)
        · have h : ¬ a = b := by rintro rfl; simp at hc_
          with_reducible apply W.fin
          case h1 => simp <;> rfl
          case h2 => exact Wk.rfl
          case h3 => simp
          case h4 => exact hσ.clB
          exact ⟨by simp [h], by simp⟩
        · have heq : a[k] = b[k] := ent_eq hc_
          refine W.hand (k + 1) ⟨by omega, fun j h1 h2 => ?_⟩ (by omega) ?_ rfl
          · rcases Nat.lt_succ_iff_lt_or_eq.1 h1 with h | rfl
            · exact hsame j h h2
            · exact heq
          · repeat (first | exact Sw.Sub.nil | refine Sw.Sub.cons (by simp) ?_)
      · have h : a = b := List.ext_getElem hlen fun j h1 h2 => hsame j (by omega) h1
        have hlt' : ¬ (k : Int) < a.length := by omega
        repeat' (first
          | with_reducible refine W.seq ?_
          | with_reducible refine W.next ?_
          | with_reducible refine W.nil ?_
          | with_reducible refine W.skip ?_
          | with_reducible refine W.ret ?_
          | with_reducible refine W.ret_code ?_
          | with_reducible refine W.block ?_
          | with_reducible refine W.out ?_
          | with_reducible refine W.ret_blk ?_
          | with_reducible refine W.exit ?_
          | with_reducible refine W.exit_code ?_
          | with_reducible refine W.exit_here ?_
          | with_reducible refine W.leave_exit ?_
          | with_reducible refine W.leave_ret ?_
          | ((with_reducible refine W.exit_on ?h ?_); (case h => decide))
          | ((with_reducible apply W.reg); (case h => simp [T3, T4, T23, T27, hlt]; exact ⟨rfl, rfl, rfl⟩))
          | ((with_reducible apply W.draw mixed); (case hB => kernel_rfl); (case hr => simp [T3, T4, T23, T27, hlt]; rfl))
          | ((with_reducible apply W.cond); (case hc => simp; rfl); all_goals (intro hc_; try (cases hc_; done)))
          | ((with_reducible apply W.runX); (case _hc => rfl); (case h => simp [T3, T4, T23, T27, hlt]; exact ⟨rfl, rfl, rfl⟩))
          | fail)
        with_reducible apply W.fin
        case h1 => simp <;> rfl
        case h2 => exact Wk.rfl
        case h3 => simp
        case h4 => exact hσ.clB
        exact ⟨by simp [h], by simp⟩

def e7 : Ent := ⟨7, 1, 10, 5, 8000⟩
def T7 : Tab := ⟨1, [e7], []⟩
theorem e7_ok : EntOK e7 := by constructor <;> (unfold I64 e7; decide)
theorem T7_ok : TabOK T7 := ⟨by unfold I64 T7; decide, fun e he => by simp [T7] at he; subst he; exact e7_ok, fun q hq => by simp [T7] at hq, by decide, by decide⟩
theorem val7 : validateF T7 = 0 := by
  have h : dupB T7 = false := by unfold dupB; rw [keyCount_eq]; decide
  unfold validateF
  rw [h]
  decide
theorem exp7 : expandF T7 [20102, 7] = (0, [e7, e7]) := by
  unfold expandF
  rw [val7]
  decide
theorem exp7' : expandF T7 [20202, 7] = (11, []) := by
  unfold expandF
  rw [val7]
  decide
theorem enc7 : encF e7 8023 = (4, 0) := by decide
theorem dec7 : decF e7 4 = (8020, true) := by decide

theorem awake_sc (σ : AS) : SC1 Cc 16 [] σ (bV true) σ := by
  have hx1 : ∀ σ, SC1 Cc 18 [.agg [i64 1, .sl none [encE e7], .val (.slice none 0 0)], .sl none [encI 20102, encI 7]] σ (.tup [.sl none [encE e7, encE e7], i64 0]) σ := fun σ => by
    have := Expand_sc T7 [20102, 7] σ T7_ok (by intro c hc; simp at hc; rcases hc with rfl | rfl <;> (unfold I64; decide)) (by decide)
    rw [exp7] at this
    exact this.wk ⟨Wk.agg (show WkL Cc [i64 1, .sl none [encE e7], .val (.slice none 0 0)] [i64 1, .sl none [encE e7], .sl none []] from ⟨Wk.rfl, Wk.rfl, Wk.nil, trivial⟩), Wk.rfl, trivial⟩
  have hx2 : ∀ σ, SC1 Cc 18 [.agg [i64 1, .sl none [encE e7], .val (.slice none 0 0)], .sl none [encI 20202, encI 7]] σ (.tup [.sl none [], i64 11]) σ := fun σ => by
    have := Expand_sc T7 [20202, 7] σ T7_ok (by intro c hc; simp at hc; rcases hc with rfl | rfl <;> (unfold I64; decide)) (by decide)
    rw [exp7'] at this
    exact this.wk ⟨Wk.agg (show WkL Cc [i64 1, .sl none [encE e7], .val (.slice none 0 0)] [i64 1, .sl none [encE e7], .sl none []] from ⟨Wk.rfl, Wk.rfl, Wk.nil, trivial⟩), Wk.rfl, trivial⟩
  have hen : ∀ σ, SC1 Cc 12 [.agg (encE e7), i64 8023] σ (.tup [i64 4, i64 0]) σ := fun σ => by
    have := Encode_sc e7 8023 σ e7_ok (by unfold I64; decide)
    rwa [enc7] at this
  have hde : ∀ σ, SC1 Cc 14 [.agg (encE e7), i64 4] σ (.tup [i64 8020, bV true]) σ := fun σ => by
    have := Decode_sc e7 4 σ e7_ok (by unfold I64; decide)
    rwa [dec7] at this
  have hsm : ∀ σ, SC1 Cc 19 [.sl none [encE e7, encE e7], .sl none [encE e7, encE e7]] σ (bV true) σ := fun σ => by
    have := SameEntries_sc [e7, e7] [e7, e7] σ (by decide) (by decide)
    simpa using this
  refine W.body Tryd.func16 rfl 64 Tryd.ntmps16 _ Tryd.results16 (by simp) GEt_cl fun hσ => ?_
  repeat' (first
    | with_reducible refine W.seq ?_
    | with_reducible refine W.next ?_
    | with_reducible refine W.nil ?_
    | with_reducible refine W.skip ?_
    | with_reducible refine W.ret ?_
    | with_reducible refine W.ret_code ?_
    | with_reducible refine W.block ?_
    | with_reducible refine W.out ?_
    | with_reducible refine W.ret_blk ?_
    | with_reducible refine W.exit ?_
    | with_reducible refine W.exit_code ?_
    | with_reducible refine W.exit_here ?_
    | with_reducible refine W.leave_exit ?_
    | with_reducible refine W.leave_ret ?_
    | ((with_reducible refine W.exit_on ?h ?_); (case h => decide))
    | ((with_reducible apply W.reg); (case h => simp [T3, T4, T23, T24, T27, T28, T30, T35, e7]; exact ⟨rfl, rfl, rfl⟩))
    | ((with_reducible apply W.draw mixed); (case hB => kernel_rfl); (case hr => simp [T3, T4, T23, T24, T27, T28, T30, T35, e7]; rfl))
    | ((with_reducible apply W.cond); (case hc => simp; rfl); all_goals (intro hc_; try (cases hc_; done)))
    | ((with_reducible apply W.runX); (case _hc => rfl); (case h => simp [T3, T4, T23, T24, T27, T28, T30, T35, e7]; exact ⟨rfl, rfl, rfl⟩))
    | ((with_reducible apply W.call1 go11); (case ho => rfl); (case hc => rfl); (case hf => rfl); (case hg => first | rfl | simp [T3, T4, T23, T24, T27, T28, T30, T35, e7]); (case hd => rfl); (case ha => simp [T3, T4, T23, T24, T27, T28, T30, T35, e7]; rfl); (case hargs => rfl); (case hs => exact seven_sc _))
    | fail)
  repeat' (first
    | with_reducible refine W.seq ?_
    | with_reducible refine W.next ?_
    | with_reducible refine W.nil ?_
    | with_reducible refine W.skip ?_
    | with_reducible refine W.ret ?_
    | with_reducible refine W.ret_code ?_
    | with_reducible refine W.block ?_
    | with_reducible refine W.out ?_
    | with_reducible refine W.ret_blk ?_
    | with_reducible refine W.exit ?_
    | with_reducible refine W.exit_code ?_
    | with_reducible refine W.exit_here ?_
    | with_reducible refine W.leave_exit ?_
    | with_reducible refine W.leave_ret ?_
    | ((with_reducible refine W.exit_on ?h ?_); (case h => decide))
    | ((with_reducible apply W.reg); (case h => simp [T3, T4, T23, T24, T27, T28, T30, T35, e7]; exact ⟨rfl, rfl, rfl⟩))
    | ((with_reducible apply W.draw mixed); (case hB => kernel_rfl); (case hr => simp [T3, T4, T23, T24, T27, T28, T30, T35, e7]; rfl))
    | ((with_reducible apply W.cond); (case hc => simp; rfl); all_goals (intro hc_; try (cases hc_; done)))
    | ((with_reducible apply W.runX); (case _hc => rfl); (case h => simp [T3, T4, T23, T24, T27, T28, T30, T35, e7]; exact ⟨rfl, rfl, rfl⟩))
    | ((with_reducible apply W.call1 go11); (case ho => rfl); (case hc => rfl); (case hf => rfl); (case hg => first | rfl | simp [T3, T4, T23, T24, T27, T28, T30, T35, e7]); (case hd => rfl); (case ha => simp [T3, T4, T23, T24, T27, T28, T30, T35, e7]; rfl); (case hargs => rfl); (case hs => exact seven_sc _))
    | ((with_reducible apply W.call1 go18); (case ho => rfl); (case hc => rfl); (case hf => rfl); (case hg => first | rfl | simp [T3, T4, T23, T24, T27, T28, T30, T35, e7]); (case hd => rfl); (case ha => simp [T3, T4, T23, T24, T27, T28, T30, T35, e7]; rfl); (case hargs => rfl); (case hs => exact hx1 _))
    | ((with_reducible apply W.call1 go18); (case ho => rfl); (case hc => rfl); (case hf => rfl); (case hg => first | rfl | simp [T3, T4, T23, T24, T27, T28, T30, T35, e7]); (case hd => rfl); (case ha => simp [T3, T4, T23, T24, T27, T28, T30, T35, e7]; rfl); (case hargs => rfl); (case hs => exact hx2 _))
    | ((with_reducible apply W.call1 go12); (case ho => rfl); (case hc => rfl); (case hf => rfl); (case hg => first | rfl | simp [T3, T4, T23, T24, T27, T28, T30, T35, e7]); (case hd => rfl); (case ha => simp [T3, T4, T23, T24, T27, T28, T30, T35, e7]; rfl); (case hargs => rfl); (case hs => exact hen _))
    | ((with_reducible apply W.call1 go14); (case ho => rfl); (case hc => rfl); (case hf => rfl); (case hg => first | rfl | simp [T3, T4, T23, T24, T27, T28, T30, T35, e7]); (case hd => rfl); (case ha => simp [T3, T4, T23, T24, T27, T28, T30, T35, e7]; rfl); (case hargs => rfl); (case hs => exact hde _))
    | ((with_reducible apply W.call1 go19); (case ho => rfl); (case hc => rfl); (case hf => rfl); (case hg => first | rfl | simp [T3, T4, T23, T24, T27, T28, T30, T35, e7]); (case hd => rfl); (case ha => simp [T3, T4, T23, T24, T27, T28, T30, T35, e7]; rfl); (case hargs => rfl); (case hs => exact hsm _))
    | fail)
  with_reducible apply W.fin
  case h1 => simp <;> rfl
  case h2 => exact Wk.rfl
  case h3 => simp
  case h4 => exact hσ.clB.app (Nat.le_refl _)
  exact ⟨by simp, by simp⟩


end Go.Proofs.YtgabnlkkjmepnaaDoor

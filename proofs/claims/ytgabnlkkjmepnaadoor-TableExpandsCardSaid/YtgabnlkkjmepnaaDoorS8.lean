/- Searching in lists: what IndexFunc and ContainsFunc give, for any test that has a contract. -/
import Derived.Test.YtgabnlkkjmepnaaDoorS7
import Derived.IntWalk
namespace Go.Proofs.YtgabnlkkjmepnaaDoor
open Go.Sw
set_option linter.unusedSimpArgs false
set_option linter.unusedVariables false
attribute [local simp] runOps stepOp pureOp gd isCall inN setd Sw.get params ev evs binV unV convV loadA cellsPV oneB storeA fieldAddrA fieldOff fieldA partA aggOf extractA indexAddrA indexA lenA minmaxA sliceA bnd partsA buildA placesA fillA buildSliceA zerosA chunkA TyD.agg Value.oneCell' Value.cells runPure appA appendA okRow_nil okRow_cons okRow_append resultA ressA resA List.getElem?_append List.set_append Cl_any Cl_val Cl_ptr Cl_agg Cl_tup Cl_fn Cl_rop Cl_sl Sw.take_set Sw.take_set_app Sw.take_app

attribute [local simp] encI encE
structure Sq where
  code : Int
  codes : List Int
  deriving Inhabited, DecidableEq
def encS (q : Sq) : List PV := [i64 q.code, .sl none (q.codes.map encI)]
attribute [local simp] encS

/-- The first place where p holds, or -1. -/
def idxF {α : Type} (p : α → Bool) (l : List α) : Int := if l.findIdx p < l.length then (l.findIdx p : Nat) else -1
theorem idxF_here {α : Type} {p : α → Bool} {l : List α} {k : Nat} (hk : k < l.length) (h : p l[k] = true) (hb : ∀ j (hj : j < k), p l[j] = false) : idxF p l = k := by
  have : l.findIdx p = k := (List.findIdx_eq hk).2 ⟨h, fun j hj => by simpa using hb j hj⟩
  simp [idxF, this, hk]
theorem idxF_none {α : Type} {p : α → Bool} {l : List α} (h : ∀ j (hj : j < l.length), p l[j] = false) : idxF p l = -1 := by
  have : l.findIdx p = l.length := List.findIdx_eq_length.2 fun x hx => by
    obtain ⟨j, hj, rfl⟩ := List.getElem_of_mem hx
    exact h j hj
  simp [idxF, this]
theorem idxF_any {α : Type} (p : α → Bool) (l : List α) : (decide (0 ≤ idxF p l)) = l.any p := by
  unfold idxF
  by_cases h : l.findIdx p < l.length
  · have h1 := List.findIdx_getElem (w := h)
    rw [if_pos h]
    have : l.any p = true := List.any_eq_true.2 ⟨_, List.getElem_mem h, h1⟩
    simp [this]
  · rw [if_neg h]
    have h1 : l.findIdx p = l.length := by have := List.findIdx_le_length (p := p) (xs := l); omega
    have h2 := List.findIdx_eq_length.1 h1
    have : l.any p = false := by rw [List.any_eq_false]; intro x hx; simp [h2 x hx]
    rw [this]; decide

theorem IndexEntry_sc (l : List Ent) (own : Option Nat) (f : FuncId) (caps : List PV) (p : Ent → Bool) (σ : AS) (hgo : isGo Cc.P f = true) (hl : l.length ≤ 1000000) (hf : ∀ e ∈ l, SC1 Cc f (PV.agg (encE e) :: caps) σ (bV (p e)) σ) :
    SC1 Cc 58 [.sl own (l.map encE), .fn f caps] σ (i64 (idxF p l)) σ := by
  refine W.body Tryd.func58 rfl 19 Tryd.ntmps58 _ Tryd.results58 (by simp) GEt_cl fun hσ => ?_
  repeat' (first
    | with_reducible refine W.seq ?_
    | with_reducible refine W.next ?_
    | with_reducible refine W.nil ?_
    | with_reducible refine W.skip ?_
    | with_reducible refine W.ret ?_
    | with_reducible refine W.ret_code ?_
    | with_reducible refine W.block ?_
    | with_reducible refine W.out ?_
    | with_reducible refine W.ret_blk ?_
    | with_reducible refine W.exit ?_
    | with_reducible refine W.exit_code ?_
    | with_reducible refine W.exit_here ?_
    | with_reducible refine W.leave_exit ?_
    | with_reducible refine W.leave_ret ?_
    | ((with_reducible refine W.exit_on ?h ?_); (case h => decide))
    | ((with_reducible apply W.reg); (case h => simp [T3, T23, T27]; exact ⟨rfl, rfl, rfl⟩))
    | ((with_reducible apply W.draw mixed); (case hB => kernel_rfl); (case hr => simp [T3, T23, T27]; rfl))
    | ((with_reducible apply W.cond); (case hc => simp; rfl); all_goals (intro hc_; try (cases hc_; done)))
    | ((with_reducible apply W.runX); (case _hc => rfl); (case h => simp [T3, T23, T27]; exact ⟨rfl, rfl, rfl⟩))
    | fail)
  with_reducible refine W.loopS (α := Nat) (fun k => [(0, .sl own (l.map encE)), (1, .fn f caps), (7, i64 l.length), (8, i64 k)]) (fun _ => σ) (fun k => k ≤ l.length ∧ ∀ j (hj : j < k) (hjl : j < l.length), p l[j] = false) (fun k => l.length - k) 0 ?_ ?_ ?_ ?_
  · exact ⟨Nat.zero_le _, fun j hj => absurd hj (Nat.not_lt_zero _)⟩
  · repeat (first | exact Sw.Sub.nil | refine Sw.Sub.cons (by simp) ?_)
  · rfl
  · rintro k ⟨hk, hno⟩
    dsimp only
    by_cases hlt : k < l.length
    · have hwi : IntKind.i64.wrap ((k : Int) + 1) = (k : Int) + 1 := wrap64 (by omega)
      have hlt' : (k : Int) < l.length := by omega
      have hh := hf l[k] (List.getElem_mem hlt)
      cases hb : p l[k]
      · rw [hb] at hh
        repeat' (first
          | with_reducible refine W.seq ?_
          | with_reducible refine W.next ?_
          | with_reducible refine W.nil ?_
          | with_reducible refine W.skip ?_
          | with_reducible refine W.ret ?_
          | with_reducible refine W.ret_code ?_
          | with_reducible refine W.block ?_
          | with_reducible refine W.out ?_
          | with_reducible refine W.ret_blk ?_
          | with_reducible refine W.exit ?_
          | with_reducible refine W.exit_code ?_
          | with_reducible refine W.exit_here ?_
          | with_reducible refine W.leave_exit ?_
          | with_reducible refine W.leave_ret ?_
          | ((with_reducible refine W.exit_on ?h ?_); (case h => decide))
          | ((with_reducible apply W.reg); (case h => simp [T3, T23, T27, hlt, hwi]; exact ⟨rfl, rfl, rfl⟩))
          | ((with_reducible apply W.draw mixed); (case hB => kernel_rfl); (case hr => simp [T3, T23, T27, hlt, hwi]; rfl))
          | ((with_reducible apply W.cond); (case hc => simp; rfl); all_goals (intro hc_; try (cases hc_; done)))
          | ((with_reducible apply W.runX); (case _hc => rfl); (case h => simp [T3, T23, T27, hlt, hwi]; exact ⟨rfl, rfl, rfl⟩))
          | fail)
        ((with_reducible apply W.call1 hgo); (case ho => rfl); (case hc => rfl); (case hf => rfl); (case hg => rfl); (case hd => rfl); (case ha => simp [hlt]; rfl); (case hargs => rfl); (case hs => exact hh))
        repeat' (first
          | with_reducible refine W.seq ?_
          | with_reducible refine W.next ?_
          | with_reducible refine W.nil ?_
          | with_reducible refine W.skip ?_
          | with_reducible refine W.ret ?_
          | with_reducible refine W.ret_code ?_
          | with_reducible refine W.block ?_
          | with_reducible refine W.out ?_
          | with_reducible refine W.ret_blk ?_
          | with_reducible refine W.exit ?_
          | with_reducible refine W.exit_code ?_
          | with_reducible refine W.exit_here ?_
          | with_reducible refine W.leave_exit ?_
          | with_reducible refine W.leave_ret ?_
          | ((with_reducible refine W.exit_on ?h ?_); (case h => decide))
          | ((with_reducible apply W.reg); (case h => simp [T3, T23, T27, hlt, hwi]; exact ⟨rfl, rfl, rfl⟩))
          | ((with_reducible apply W.draw mixed); (case hB => kernel_rfl); (case hr => simp [T3, T23, T27, hlt, hwi]; rfl))
          | ((with_reducible apply W.cond); (case hc => simp; rfl); all_goals (intro hc_; try (cases hc_; done)))
          | ((with_reducible apply W.runX); (case _hc => rfl); (case h => simp [T3, T23, T27, hlt, hwi]; exact ⟨rfl, rfl, rfl⟩))
          | fail)
        refine W.hand (k + 1) ⟨by omega, fun j hj hjl => ?_⟩ (by omega) ?_ rfl
        · rcases Nat.lt_succ_iff_lt_or_eq.1 hj with h | rfl
          · exact hno j h hjl
          · exact hb
        · repeat (first | exact Sw.Sub.nil | refine Sw.Sub.cons (by simp) ?_)
      · rw [hb] at hh
        repeat' (first
          | with_reducible refine W.seq ?_
          | with_reducible refine W.next ?_
          | with_reducible refine W.nil ?_
          | with_reducible refine W.skip ?_
          | with_reducible refine W.ret ?_
          | with_reducible refine W.ret_code ?_
          | with_reducible refine W.block ?_
          | with_reducible refine W.out ?_
          | with_reducible refine W.ret_blk ?_
          | with_reducible refine W.exit ?_
          | with_reducible refine W.exit_code ?_
          | with_reducible refine W.exit_here ?_
          | with_reducible refine W.leave_exit ?_
          | with_reducible refine W.leave_ret ?_
          | ((with_reducible refine W.exit_on ?h ?_); (case h => decide))
          | ((with_reducible apply W.reg); (case h => simp [T3, T23, T27, hlt, hwi]; exact ⟨rfl, rfl, rfl⟩))
          | ((with_reducible apply W.draw mixed); (case hB => kernel_rfl); (case hr => simp [T3, T23, T27, hlt, hwi]; rfl))
          | ((with_reducible apply W.cond); (case hc => simp; rfl); all_goals (intro hc_; try (cases hc_; done)))
          | ((with_reducible apply W.runX); (case _hc => rfl); (case h => simp [T3, T23, T27, hlt, hwi]; exact ⟨rfl, rfl, rfl⟩))
          | fail)
        ((with_reducible apply W.call1 hgo); (case ho => rfl); (case hc => rfl); (case hf => rfl); (case hg => rfl); (case hd => rfl); (case ha => simp [hlt]; rfl); (case hargs => rfl); (case hs => exact hh))
        repeat' (first
          | with_reducible refine W.seq ?_
          | with_reducible refine W.next ?_
          | with_reducible refine W.nil ?_
          | with_reducible refine W.skip ?_
          | with_reducible refine W.ret ?_
          | with_reducible refine W.ret_code ?_
          | with_reducible refine W.block ?_
          | with_reducible refine W.out ?_
          | with_reducible refine W.ret_blk ?_
          | with_reducible refine W.exit ?_
          | with_reducible refine W.exit_code ?_
          | with_reducible refine W.exit_here ?_
          | with_reducible refine W.leave_exit ?_
          | with_reducible refine W.leave_ret ?_
          | ((with_reducible refine W.exit_on ?h ?_); (case h => decide))
          | ((with_reducible apply W.reg); (case h => simp [T3, T23, T27, hlt, hwi]; exact ⟨rfl, rfl, rfl⟩))
          | ((with_reducible apply W.draw mixed); (case hB => kernel_rfl); (case hr => simp [T3, T23, T27, hlt, hwi]; rfl))
          | ((with_reducible apply W.cond); (case hc => simp; rfl); all_goals (intro hc_; try (cases hc_; done)))
          | ((with_reducible apply W.runX); (case _hc => rfl); (case h => simp [T3, T23, T27, hlt, hwi]; exact ⟨rfl, rfl, rfl⟩))
          | fail)
        with_reducible apply W.fin
        case h1 => simp <;> rfl
        case h2 => exact Wk.rfl
        case h3 => simp
        case h4 => exact hσ.clB
        exact ⟨by simp [idxF_here hlt hb (fun j hj => hno j hj (by omega))], by simp⟩
    · have hlt' : ¬ (k : Int) < l.length := by omega
      repeat' (first
        | with_reducible refine W.seq ?_
        | with_reducible refine W.next ?_
        | with_reducible refine W.nil ?_
        | with_reducible refine W.skip ?_
        | with_reducible refine W.ret ?_
        | with_reducible refine W.ret_code ?_
        | with_reducible refine W.block ?_
        | with_reducible refine W.out ?_
        | with_reducible refine W.ret_blk ?_
        | with_reducible refine W.exit ?_
        | with_reducible refine W.exit_code ?_
        | with_reducible refine W.exit_here ?_
        | with_reducible refine W.leave_exit ?_
        | with_reducible refine W.leave_ret ?_
        | ((with_reducible refine W.exit_on ?h ?_); (case h => decide))
        | ((with_reducible apply W.reg); (case h => simp [T3, T23, T27, hlt]; exact ⟨rfl, rfl, rfl⟩))
        | ((with_reducible apply W.draw mixed); (case hB => kernel_rfl); (case hr => simp [T3, T23, T27, hlt]; rfl))
        | ((with_reducible apply W.cond); (case hc => simp; rfl); all_goals (intro hc_; try (cases hc_; done)))
        | ((with_reducible apply W.runX); (case _hc => rfl); (case h => simp [T3, T23, T27, hlt]; exact ⟨rfl, rfl, rfl⟩))
        | fail)
      with_reducible apply W.fin
      case h1 => simp <;> rfl
      case h2 => exact Wk.rfl
      case h3 => simp
      case h4 => exact hσ.clB
      exact ⟨by rw [idxF_none (fun j hj => hno j (by omega) hj)], by simp⟩

theorem ContainsEntry_sc (l : List Ent) (own : Option Nat) (f : FuncId) (caps : List PV) (p : Ent → Bool) (σ : AS) (hgo : isGo Cc.P f = true) (hl : l.length ≤ 1000000) (hf : ∀ e ∈ l, SC1 Cc f (PV.agg (encE e) :: caps) σ (bV (p e)) σ) :
    SC1 Cc 43 [.sl own (l.map encE), .fn f caps] σ (bV (l.any p)) σ := by
  refine W.body Tryd.func43 rfl 9 Tryd.ntmps43 _ Tryd.results43 (by simp) GEt_cl fun hσ => ?_
  repeat' (first
    | with_reducible refine W.seq ?_
    | with_reducible refine W.next ?_
    | with_reducible refine W.nil ?_
    | with_reducible refine W.skip ?_
    | with_reducible refine W.ret ?_
    | with_reducible refine W.ret_code ?_
    | with_reducible refine W.block ?_
    | with_reducible refine W.out ?_
    | with_reducible refine W.ret_blk ?_
    | with_reducible refine W.exit ?_
    | with_reducible refine W.exit_code ?_
    | with_reducible refine W.exit_here ?_
    | with_reducible refine W.leave_exit ?_
    | with_reducible refine W.leave_ret ?_
    | ((with_reducible refine W.exit_on ?h ?_); (case h => decide))
    | ((with_reducible apply W.reg); (case h => simp [T3, T4]; exact ⟨rfl, rfl, rfl⟩))
    | ((with_reducible apply W.draw mixed); (case hB => kernel_rfl); (case hr => simp [T3, T4]; rfl))
    | ((with_reducible apply W.cond); (case hc => simp; rfl); all_goals (intro hc_; try (cases hc_; done)))
    | ((with_reducible apply W.runX); (case _hc => rfl); (case h => simp [T3, T4]; exact ⟨rfl, rfl, rfl⟩))
    | ((with_reducible apply W.call1 go58); (case ho => rfl); (case hc => rfl); (case hf => rfl); (case hg => first | rfl | simp [T3, T4]); (case hd => rfl); (case ha => simp [T3, T4]; rfl); (case hargs => rfl); (case hs => exact IndexEntry_sc l own f caps p σ hgo hl hf))
    | fail)
  with_reducible apply W.fin
  case h1 => simp <;> rfl
  case h2 => exact Wk.rfl
  case h3 => simp
  case h4 => exact hσ.clB
  refine ⟨?_, by simp⟩
  rw [← idxF_any p l]

theorem IndexSeq_sc (l : List Sq) (own : Option Nat) (f : FuncId) (caps : List PV) (p : Sq → Bool) (σ : AS) (hgo : isGo Cc.P f = true) (hl : l.length ≤ 1000000) (hf : ∀ e ∈ l, SC1 Cc f (PV.agg (encS e) :: caps) σ (bV (p e)) σ) :
    SC1 Cc 57 [.sl own (l.map encS), .fn f caps] σ (i64 (idxF p l)) σ := by
  refine W.body Tryd.func57 rfl 19 Tryd.ntmps57 _ Tryd.results57 (by simp) GEt_cl fun hσ => ?_
  repeat' (first
    | with_reducible refine W.seq ?_
    | with_reducible refine W.next ?_
    | with_reducible refine W.nil ?_
    | with_reducible refine W.skip ?_
    | with_reducible refine W.ret ?_
    | with_reducible refine W.ret_code ?_
    | with_reducible refine W.block ?_
    | with_reducible refine W.out ?_
    | with_reducible refine W.ret_blk ?_
    | with_reducible refine W.exit ?_
    | with_reducible refine W.exit_code ?_
    | with_reducible refine W.exit_here ?_
    | with_reducible refine W.leave_exit ?_
    | with_reducible refine W.leave_ret ?_
    | ((with_reducible refine W.exit_on ?h ?_); (case h => decide))
    | ((with_reducible apply W.reg); (case h => simp [T3, T49, T28]; exact ⟨rfl, rfl, rfl⟩))
    | ((with_reducible apply W.draw mixed); (case hB => kernel_rfl); (case hr => simp [T3, T49, T28]; rfl))
    | ((with_reducible apply W.cond); (case hc => simp; rfl); all_goals (intro hc_; try (cases hc_; done)))
    | ((with_reducible apply W.runX); (case _hc => rfl); (case h => simp [T3, T49, T28]; exact ⟨rfl, rfl, rfl⟩))
    | fail)
  with_reducible refine W.loopS (α := Nat) (fun k => [(0, .sl own (l.map encS)), (1, .fn f caps), (7, i64 l.length), (8, i64 k)]) (fun _ => σ) (fun k => k ≤ l.length ∧ ∀ j (hj : j < k) (hjl : j < l.length), p l[j] = false) (fun k => l.length - k) 0 ?_ ?_ ?_ ?_
  · exact ⟨Nat.zero_le _, fun j hj => absurd hj (Nat.not_lt_zero _)⟩
  · repeat (first | exact Sw.Sub.nil | refine Sw.Sub.cons (by simp) ?_)
  · rfl
  · rintro k ⟨hk, hno⟩
    dsimp only
    by_cases hlt : k < l.length
    · have hwi : IntKind.i64.wrap ((k : Int) + 1) = (k : Int) + 1 := wrap64 (by omega)
      have hlt' : (k : Int) < l.length := by omega
      have hh := hf l[k] (List.getElem_mem hlt)
      cases hb : p l[k]
      · rw [hb] at hh
        repeat' (first
          | with_reducible refine W.seq ?_
          | with_reducible refine W.next ?_
          | with_reducible refine W.nil ?_
          | with_reducible refine W.skip ?_
          | with_reducible refine W.ret ?_
          | with_reducible refine W.ret_code ?_
          | with_reducible refine W.block ?_
          | with_reducible refine W.out ?_
          | with_reducible refine W.ret_blk ?_
          | with_reducible refine W.exit ?_
          | with_reducible refine W.exit_code ?_
          | with_reducible refine W.exit_here ?_
          | with_reducible refine W.leave_exit ?_
          | with_reducible refine W.leave_ret ?_
          | ((with_reducible refine W.exit_on ?h ?_); (case h => decide))
          | ((with_reducible apply W.reg); (case h => simp [T3, T49, T28, hlt, hwi]; exact ⟨rfl, rfl, rfl⟩))
          | ((with_reducible apply W.draw mixed); (case hB => kernel_rfl); (case hr => simp [T3, T49, T28, hlt, hwi]; rfl))
          | ((with_reducible apply W.cond); (case hc => simp; rfl); all_goals (intro hc_; try (cases hc_; done)))
          | ((with_reducible apply W.runX); (case _hc => rfl); (case h => simp [T3, T49, T28, hlt, hwi]; exact ⟨rfl, rfl, rfl⟩))
          | fail)
        ((with_reducible apply W.call1 hgo); (case ho => rfl); (case hc => rfl); (case hf => rfl); (case hg => rfl); (case hd => rfl); (case ha => simp [hlt]; rfl); (case hargs => rfl); (case hs => exact hh))
        repeat' (first
          | with_reducible refine W.seq ?_
          | with_reducible refine W.next ?_
          | with_reducible refine W.nil ?_
          | with_reducible refine W.skip ?_
          | with_reducible refine W.ret ?_
          | with_reducible refine W.ret_code ?_
          | with_reducible refine W.block ?_
          | with_reducible refine W.out ?_
          | with_reducible refine W.ret_blk ?_
          | with_reducible refine W.exit ?_
          | with_reducible refine W.exit_code ?_
          | with_reducible refine W.exit_here ?_
          | with_reducible refine W.leave_exit ?_
          | with_reducible refine W.leave_ret ?_
          | ((with_reducible refine W.exit_on ?h ?_); (case h => decide))
          | ((with_reducible apply W.reg); (case h => simp [T3, T49, T28, hlt, hwi]; exact ⟨rfl, rfl, rfl⟩))
          | ((with_reducible apply W.draw mixed); (case hB => kernel_rfl); (case hr => simp [T3, T49, T28, hlt, hwi]; rfl))
          | ((with_reducible apply W.cond); (case hc => simp; rfl); all_goals (intro hc_; try (cases hc_; done)))
          | ((with_reducible apply W.runX); (case _hc => rfl); (case h => simp [T3, T49, T28, hlt, hwi]; exact ⟨rfl, rfl, rfl⟩))
          | fail)
        refine W.hand (k + 1) ⟨by omega, fun j hj hjl => ?_⟩ (by omega) ?_ rfl
        · rcases Nat.lt_succ_iff_lt_or_eq.1 hj with h | rfl
          · exact hno j h hjl
          · exact hb
        · repeat (first | exact Sw.Sub.nil | refine Sw.Sub.cons (by simp) ?_)
      · rw [hb] at hh
        repeat' (first
          | with_reducible refine W.seq ?_
          | with_reducible refine W.next ?_
          | with_reducible refine W.nil ?_
          | with_reducible refine W.skip ?_
          | with_reducible refine W.ret ?_
          | with_reducible refine W.ret_code ?_
          | with_reducible refine W.block ?_
          | with_reducible refine W.out ?_
          | with_reducible refine W.ret_blk ?_
          | with_reducible refine W.exit ?_
          | with_reducible refine W.exit_code ?_
          | with_reducible refine W.exit_here ?_
          | with_reducible refine W.leave_exit ?_
          | with_reducible refine W.leave_ret ?_
          | ((with_reducible refine W.exit_on ?h ?_); (case h => decide))
          | ((with_reducible apply W.reg); (case h => simp [T3, T49, T28, hlt, hwi]; exact ⟨rfl, rfl, rfl⟩))
          | ((with_reducible apply W.draw mixed); (case hB => kernel_rfl); (case hr => simp [T3, T49, T28, hlt, hwi]; rfl))
          | ((with_reducible apply W.cond); (case hc => simp; rfl); all_goals (intro hc_; try (cases hc_; done)))
          | ((with_reducible apply W.runX); (case _hc => rfl); (case h => simp [T3, T49, T28, hlt, hwi]; exact ⟨rfl, rfl, rfl⟩))
          | fail)
        ((with_reducible apply W.call1 hgo); (case ho => rfl); (case hc => rfl); (case hf => rfl); (case hg => rfl); (case hd => rfl); (case ha => simp [hlt]; rfl); (case hargs => rfl); (case hs => exact hh))
        repeat' (first
          | with_reducible refine W.seq ?_
          | with_reducible refine W.next ?_
          | with_reducible refine W.nil ?_
          | with_reducible refine W.skip ?_
          | with_reducible refine W.ret ?_
          | with_reducible refine W.ret_code ?_
          | with_reducible refine W.block ?_
          | with_reducible refine W.out ?_
          | with_reducible refine W.ret_blk ?_
          | with_reducible refine W.exit ?_
          | with_reducible refine W.exit_code ?_
          | with_reducible refine W.exit_here ?_
          | with_reducible refine W.leave_exit ?_
          | with_reducible refine W.leave_ret ?_
          | ((with_reducible refine W.exit_on ?h ?_); (case h => decide))
          | ((with_reducible apply W.reg); (case h => simp [T3, T49, T28, hlt, hwi]; exact ⟨rfl, rfl, rfl⟩))
          | ((with_reducible apply W.draw mixed); (case hB => kernel_rfl); (case hr => simp [T3, T49, T28, hlt, hwi]; rfl))
          | ((with_reducible apply W.cond); (case hc => simp; rfl); all_goals (intro hc_; try (cases hc_; done)))
          | ((with_reducible apply W.runX); (case _hc => rfl); (case h => simp [T3, T49, T28, hlt, hwi]; exact ⟨rfl, rfl, rfl⟩))
          | fail)
        with_reducible apply W.fin
        case h1 => simp <;> rfl
        case h2 => exact Wk.rfl
        case h3 => simp
        case h4 => exact hσ.clB
        exact ⟨by simp [idxF_here hlt hb (fun j hj => hno j hj (by omega))], by simp⟩
    · have hlt' : ¬ (k : Int) < l.length := by omega
      repeat' (first
        | with_reducible refine W.seq ?_
        | with_reducible refine W.next ?_
        | with_reducible refine W.nil ?_
        | with_reducible refine W.skip ?_
        | with_reducible refine W.ret ?_
        | with_reducible refine W.ret_code ?_
        | with_reducible refine W.block ?_
        | with_reducible refine W.out ?_
        | with_reducible refine W.ret_blk ?_
        | with_reducible refine W.exit ?_
        | with_reducible refine W.exit_code ?_
        | with_reducible refine W.exit_here ?_
        | with_reducible refine W.leave_exit ?_
        | with_reducible refine W.leave_ret ?_
        | ((with_reducible refine W.exit_on ?h ?_); (case h => decide))
        | ((with_reducible apply W.reg); (case h => simp [T3, T49, T28, hlt]; exact ⟨rfl, rfl, rfl⟩))
        | ((with_reducible apply W.draw mixed); (case hB => kernel_rfl); (case hr => simp [T3, T49, T28, hlt]; rfl))
        | ((with_reducible apply W.cond); (case hc => simp; rfl); all_goals (intro hc_; try (cases hc_; done)))
        | ((with_reducible apply W.runX); (case _hc => rfl); (case h => simp [T3, T49, T28, hlt]; exact ⟨rfl, rfl, rfl⟩))
        | fail)
      with_reducible apply W.fin
      case h1 => simp <;> rfl
      case h2 => exact Wk.rfl
      case h3 => simp
      case h4 => exact hσ.clB
      exact ⟨by rw [idxF_none (fun j hj => hno j (by omega) hj)], by simp⟩

theorem ContainsSeq_sc (l : List Sq) (own : Option Nat) (f : FuncId) (caps : List PV) (p : Sq → Bool) (σ : AS) (hgo : isGo Cc.P f = true) (hl : l.length ≤ 1000000) (hf : ∀ e ∈ l, SC1 Cc f (PV.agg (encS e) :: caps) σ (bV (p e)) σ) :
    SC1 Cc 41 [.sl own (l.map encS), .fn f caps] σ (bV (l.any p)) σ := by
  refine W.body Tryd.func41 rfl 9 Tryd.ntmps41 _ Tryd.results41 (by simp) GEt_cl fun hσ => ?_
  repeat' (first
    | with_reducible refine W.seq ?_
    | with_reducible refine W.next ?_
    | with_reducible refine W.nil ?_
    | with_reducible refine W.skip ?_
    | with_reducible refine W.ret ?_
    | with_reducible refine W.ret_code ?_
    | with_reducible refine W.block ?_
    | with_reducible refine W.out ?_
    | with_reducible refine W.ret_blk ?_
    | with_reducible refine W.exit ?_
    | with_reducible refine W.exit_code ?_
    | with_reducible refine W.exit_here ?_
    | with_reducible refine W.leave_exit ?_
    | with_reducible refine W.leave_ret ?_
    | ((with_reducible refine W.exit_on ?h ?_); (case h => decide))
    | ((with_reducible apply W.reg); (case h => simp [T3, T4]; exact ⟨rfl, rfl, rfl⟩))
    | ((with_reducible apply W.draw mixed); (case hB => kernel_rfl); (case hr => simp [T3, T4]; rfl))
    | ((with_reducible apply W.cond); (case hc => simp; rfl); all_goals (intro hc_; try (cases hc_; done)))
    | ((with_reducible apply W.runX); (case _hc => rfl); (case h => simp [T3, T4]; exact ⟨rfl, rfl, rfl⟩))
    | ((with_reducible apply W.call1 go57); (case ho => rfl); (case hc => rfl); (case hf => rfl); (case hg => first | rfl | simp [T3, T4]); (case hd => rfl); (case ha => simp [T3, T4]; rfl); (case hargs => rfl); (case hs => exact IndexSeq_sc l own f caps p σ hgo hl hf))
    | fail)
  with_reducible apply W.fin
  case h1 => simp <;> rfl
  case h2 => exact Wk.rfl
  case h3 => simp
  case h4 => exact hσ.clB
  refine ⟨?_, by simp⟩
  rw [← idxF_any p l]

theorem IndexInt_sc (l : List Int) (own : Option Nat) (f : FuncId) (caps : List PV) (p : Int → Bool) (σ : AS) (hgo : isGo Cc.P f = true) (hl : l.length ≤ 1000000) (hf : ∀ e ∈ l, SC1 Cc f (i64 e :: caps) σ (bV (p e)) σ) :
    SC1 Cc 65 [.sl own (l.map encI), .fn f caps] σ (i64 (idxF p l)) σ := by
  refine W.body Tryd.func65 rfl 19 Tryd.ntmps65 _ Tryd.results65 (by simp) GEt_cl fun hσ => ?_
  repeat' (first
    | with_reducible refine W.seq ?_
    | with_reducible refine W.next ?_
    | with_reducible refine W.nil ?_
    | with_reducible refine W.skip ?_
    | with_reducible refine W.ret ?_
    | with_reducible refine W.ret_code ?_
    | with_reducible refine W.block ?_
    | with_reducible refine W.out ?_
    | with_reducible refine W.ret_blk ?_
    | with_reducible refine W.exit ?_
    | with_reducible refine W.exit_code ?_
    | with_reducible refine W.exit_here ?_
    | with_reducible refine W.leave_exit ?_
    | with_reducible refine W.leave_ret ?_
    | ((with_reducible refine W.exit_on ?h ?_); (case h => decide))
    | ((with_reducible apply W.reg); (case h => simp [T3, T3, T24]; exact ⟨rfl, rfl, rfl⟩))
    | ((with_reducible apply W.draw mixed); (case hB => kernel_rfl); (case hr => simp [T3, T3, T24]; rfl))
    | ((with_reducible apply W.cond); (case hc => simp; rfl); all_goals (intro hc_; try (cases hc_; done)))
    | ((with_reducible apply W.runX); (case _hc => rfl); (case h => simp [T3, T3, T24]; exact ⟨rfl, rfl, rfl⟩))
    | fail)
  with_reducible refine W.loopS (α := Nat) (fun k => [(0, .sl own (l.map encI)), (1, .fn f caps), (7, i64 l.length), (8, i64 k)]) (fun _ => σ) (fun k => k ≤ l.length ∧ ∀ j (hj : j < k) (hjl : j < l.length), p l[j] = false) (fun k => l.length - k) 0 ?_ ?_ ?_ ?_
  · exact ⟨Nat.zero_le _, fun j hj => absurd hj (Nat.not_lt_zero _)⟩
  · repeat (first | exact Sw.Sub.nil | refine Sw.Sub.cons (by simp) ?_)
  · rfl
  · rintro k ⟨hk, hno⟩
    dsimp only
    by_cases hlt : k < l.length
    · have hwi : IntKind.i64.wrap ((k : Int) + 1) = (k : Int) + 1 := wrap64 (by omega)
      have hlt' : (k : Int) < l.length := by omega
      have hh := hf l[k] (List.getElem_mem hlt)
      cases hb : p l[k]
      · rw [hb] at hh
        repeat' (first
          | with_reducible refine W.seq ?_
          | with_reducible refine W.next ?_
          | with_reducible refine W.nil ?_
          | with_reducible refine W.skip ?_
          | with_reducible refine W.ret ?_
          | with_reducible refine W.ret_code ?_
          | with_reducible refine W.block ?_
          | with_reducible refine W.out ?_
          | with_reducible refine W.ret_blk ?_
          | with_reducible refine W.exit ?_
          | with_reducible refine W.exit_code ?_
          | with_reducible refine W.exit_here ?_
          | with_reducible refine W.leave_exit ?_
          | with_reducible refine W.leave_ret ?_
          | ((with_reducible refine W.exit_on ?h ?_); (case h => decide))
          | ((with_reducible apply W.reg); (case h => simp [T3, T3, T24, hlt, hwi]; exact ⟨rfl, rfl, rfl⟩))
          | ((with_reducible apply W.draw mixed); (case hB => kernel_rfl); (case hr => simp [T3, T3, T24, hlt, hwi]; rfl))
          | ((with_reducible apply W.cond); (case hc => simp; rfl); all_goals (intro hc_; try (cases hc_; done)))
          | ((with_reducible apply W.runX); (case _hc => rfl); (case h => simp [T3, T3, T24, hlt, hwi]; exact ⟨rfl, rfl, rfl⟩))
          | fail)
        ((with_reducible apply W.call1 hgo); (case ho => rfl); (case hc => rfl); (case hf => rfl); (case hg => rfl); (case hd => rfl); (case ha => simp [hlt]; rfl); (case hargs => rfl); (case hs => exact hh))
        repeat' (first
          | with_reducible refine W.seq ?_
          | with_reducible refine W.next ?_
          | with_reducible refine W.nil ?_
          | with_reducible refine W.skip ?_
          | with_reducible refine W.ret ?_
          | with_reducible refine W.ret_code ?_
          | with_reducible refine W.block ?_
          | with_reducible refine W.out ?_
          | with_reducible refine W.ret_blk ?_
          | with_reducible refine W.exit ?_
          | with_reducible refine W.exit_code ?_
          | with_reducible refine W.exit_here ?_
          | with_reducible refine W.leave_exit ?_
          | with_reducible refine W.leave_ret ?_
          | ((with_reducible refine W.exit_on ?h ?_); (case h => decide))
          | ((with_reducible apply W.reg); (case h => simp [T3, T3, T24, hlt, hwi]; exact ⟨rfl, rfl, rfl⟩))
          | ((with_reducible apply W.draw mixed); (case hB => kernel_rfl); (case hr => simp [T3, T3, T24, hlt, hwi]; rfl))
          | ((with_reducible apply W.cond); (case hc => simp; rfl); all_goals (intro hc_; try (cases hc_; done)))
          | ((with_reducible apply W.runX); (case _hc => rfl); (case h => simp [T3, T3, T24, hlt, hwi]; exact ⟨rfl, rfl, rfl⟩))
          | fail)
        refine W.hand (k + 1) ⟨by omega, fun j hj hjl => ?_⟩ (by omega) ?_ rfl
        · rcases Nat.lt_succ_iff_lt_or_eq.1 hj with h | rfl
          · exact hno j h hjl
          · exact hb
        · repeat (first | exact Sw.Sub.nil | refine Sw.Sub.cons (by simp) ?_)
      · rw [hb] at hh
        repeat' (first
          | with_reducible refine W.seq ?_
          | with_reducible refine W.next ?_
          | with_reducible refine W.nil ?_
          | with_reducible refine W.skip ?_
          | with_reducible refine W.ret ?_
          | with_reducible refine W.ret_code ?_
          | with_reducible refine W.block ?_
          | with_reducible refine W.out ?_
          | with_reducible refine W.ret_blk ?_
          | with_reducible refine W.exit ?_
          | with_reducible refine W.exit_code ?_
          | with_reducible refine W.exit_here ?_
          | with_reducible refine W.leave_exit ?_
          | with_reducible refine W.leave_ret ?_
          | ((with_reducible refine W.exit_on ?h ?_); (case h => decide))
          | ((with_reducible apply W.reg); (case h => simp [T3, T3, T24, hlt, hwi]; exact ⟨rfl, rfl, rfl⟩))
          | ((with_reducible apply W.draw mixed); (case hB => kernel_rfl); (case hr => simp [T3, T3, T24, hlt, hwi]; rfl))
          | ((with_reducible apply W.cond); (case hc => simp; rfl); all_goals (intro hc_; try (cases hc_; done)))
          | ((with_reducible apply W.runX); (case _hc => rfl); (case h => simp [T3, T3, T24, hlt, hwi]; exact ⟨rfl, rfl, rfl⟩))
          | fail)
        ((with_reducible apply W.call1 hgo); (case ho => rfl); (case hc => rfl); (case hf => rfl); (case hg => rfl); (case hd => rfl); (case ha => simp [hlt]; rfl); (case hargs => rfl); (case hs => exact hh))
        repeat' (first
          | with_reducible refine W.seq ?_
          | with_reducible refine W.next ?_
          | with_reducible refine W.nil ?_
          | with_reducible refine W.skip ?_
          | with_reducible refine W.ret ?_
          | with_reducible refine W.ret_code ?_
          | with_reducible refine W.block ?_
          | with_reducible refine W.out ?_
          | with_reducible refine W.ret_blk ?_
          | with_reducible refine W.exit ?_
          | with_reducible refine W.exit_code ?_
          | with_reducible refine W.exit_here ?_
          | with_reducible refine W.leave_exit ?_
          | with_reducible refine W.leave_ret ?_
          | ((with_reducible refine W.exit_on ?h ?_); (case h => decide))
          | ((with_reducible apply W.reg); (case h => simp [T3, T3, T24, hlt, hwi]; exact ⟨rfl, rfl, rfl⟩))
          | ((with_reducible apply W.draw mixed); (case hB => kernel_rfl); (case hr => simp [T3, T3, T24, hlt, hwi]; rfl))
          | ((with_reducible apply W.cond); (case hc => simp; rfl); all_goals (intro hc_; try (cases hc_; done)))
          | ((with_reducible apply W.runX); (case _hc => rfl); (case h => simp [T3, T3, T24, hlt, hwi]; exact ⟨rfl, rfl, rfl⟩))
          | fail)
        with_reducible apply W.fin
        case h1 => simp <;> rfl
        case h2 => exact Wk.rfl
        case h3 => simp
        case h4 => exact hσ.clB
        exact ⟨by simp [idxF_here hlt hb (fun j hj => hno j hj (by omega))], by simp⟩
    · have hlt' : ¬ (k : Int) < l.length := by omega
      repeat' (first
        | with_reducible refine W.seq ?_
        | with_reducible refine W.next ?_
        | with_reducible refine W.nil ?_
        | with_reducible refine W.skip ?_
        | with_reducible refine W.ret ?_
        | with_reducible refine W.ret_code ?_
        | with_reducible refine W.block ?_
        | with_reducible refine W.out ?_
        | with_reducible refine W.ret_blk ?_
        | with_reducible refine W.exit ?_
        | with_reducible refine W.exit_code ?_
        | with_reducible refine W.exit_here ?_
        | with_reducible refine W.leave_exit ?_
        | with_reducible refine W.leave_ret ?_
        | ((with_reducible refine W.exit_on ?h ?_); (case h => decide))
        | ((with_reducible apply W.reg); (case h => simp [T3, T3, T24, hlt]; exact ⟨rfl, rfl, rfl⟩))
        | ((with_reducible apply W.draw mixed); (case hB => kernel_rfl); (case hr => simp [T3, T3, T24, hlt]; rfl))
        | ((with_reducible apply W.cond); (case hc => simp; rfl); all_goals (intro hc_; try (cases hc_; done)))
        | ((with_reducible apply W.runX); (case _hc => rfl); (case h => simp [T3, T3, T24, hlt]; exact ⟨rfl, rfl, rfl⟩))
        | fail)
      with_reducible apply W.fin
      case h1 => simp <;> rfl
      case h2 => exact Wk.rfl
      case h3 => simp
      case h4 => exact hσ.clB
      exact ⟨by rw [idxF_none (fun j hj => hno j (by omega) hj)], by simp⟩

theorem ContainsInt_sc (l : List Int) (own : Option Nat) (f : FuncId) (caps : List PV) (p : Int → Bool) (σ : AS) (hgo : isGo Cc.P f = true) (hl : l.length ≤ 1000000) (hf : ∀ e ∈ l, SC1 Cc f (i64 e :: caps) σ (bV (p e)) σ) :
    SC1 Cc 60 [.sl own (l.map encI), .fn f caps] σ (bV (l.any p)) σ := by
  refine W.body Tryd.func60 rfl 9 Tryd.ntmps60 _ Tryd.results60 (by simp) GEt_cl fun hσ => ?_
  repeat' (first
    | with_reducible refine W.seq ?_
    | with_reducible refine W.next ?_
    | with_reducible refine W.nil ?_
    | with_reducible refine W.skip ?_
    | with_reducible refine W.ret ?_
    | with_reducible refine W.ret_code ?_
    | with_reducible refine W.block ?_
    | with_reducible refine W.out ?_
    | with_reducible refine W.ret_blk ?_
    | with_reducible refine W.exit ?_
    | with_reducible refine W.exit_code ?_
    | with_reducible refine W.exit_here ?_
    | with_reducible refine W.leave_exit ?_
    | with_reducible refine W.leave_ret ?_
    | ((with_reducible refine W.exit_on ?h ?_); (case h => decide))
    | ((with_reducible apply W.reg); (case h => simp [T3, T4]; exact ⟨rfl, rfl, rfl⟩))
    | ((with_reducible apply W.draw mixed); (case hB => kernel_rfl); (case hr => simp [T3, T4]; rfl))
    | ((with_reducible apply W.cond); (case hc => simp; rfl); all_goals (intro hc_; try (cases hc_; done)))
    | ((with_reducible apply W.runX); (case _hc => rfl); (case h => simp [T3, T4]; exact ⟨rfl, rfl, rfl⟩))
    | ((with_reducible apply W.call1 go65); (case ho => rfl); (case hc => rfl); (case hf => rfl); (case hg => first | rfl | simp [T3, T4]); (case hd => rfl); (case ha => simp [T3, T4]; rfl); (case hargs => rfl); (case hs => exact IndexInt_sc l own f caps p σ hgo hl hf))
    | fail)
  with_reducible apply W.fin
  case h1 => simp <;> rfl
  case h2 => exact Wk.rfl
  case h3 => simp
  case h4 => exact hσ.clB
  refine ⟨?_, by simp⟩
  rw [← idxF_any p l]


end Go.Proofs.YtgabnlkkjmepnaaDoor

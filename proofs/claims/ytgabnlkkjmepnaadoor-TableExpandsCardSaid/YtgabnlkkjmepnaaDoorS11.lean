/- Expansion by the program: what sequence, first and all give. -/
import Derived.Test.YtgabnlkkjmepnaaDoorS10
import Derived.Test.YtgabnlkkjmepnaaDoorSwN
import Derived.IntWalk
namespace Go.Proofs.YtgabnlkkjmepnaaDoor
open Go.Sw
set_option linter.unusedSimpArgs false
set_option linter.unusedVariables false
attribute [local simp] runOps stepOp pureOp gd isCall inN setd Sw.get params ev evs binV unV convV loadA cellsPV oneB storeA fieldAddrA fieldOff fieldA partA aggOf extractA indexAddrA indexA lenA minmaxA sliceA bnd partsA buildA placesA fillA buildSliceA zerosA chunkA TyD.agg Value.oneCell' Value.cells runPure appA appendA okRow_nil okRow_cons okRow_append resultA ressA resA List.getElem?_append List.set_append Cl_any Cl_val Cl_ptr Cl_agg Cl_tup Cl_fn Cl_rop Cl_sl Sw.take_set Sw.take_set_app Sw.take_app

attribute [local simp] encI encE encS encX okRow_encE okRow_encS

theorem setX_push {σ : AS} {b τ : Nat} {t : Tab} {s : St} (hb : b < σ.bx.length) (x : List (List PV)) : setX ⟨σ.bx ++ x, σ.tk⟩ b τ t s = ⟨(setX σ b τ t s).bx ++ x, (setX σ b τ t s).tk⟩ := by
  simp only [setX, List.set_append_left _ _ hb]
theorem setX_clB {σ : AS} {b τ : Nat} {t : Tab} {s : St} (hσ : ClA σ) (hτ : τ < σ.tk.length) : ClB σ.bx.length σ.tk.length (setX σ b τ t s).bx := hσ.clB.set (encX_cl _ _ t τ s hτ)
theorem setX_len {σ : AS} {b τ : Nat} {t : Tab} {s : St} : (setX σ b τ t s).bx.length = σ.bx.length := by simp [setX]
theorem setX_tk {σ : AS} {b τ : Nat} {t : Tab} {s : St} : (setX σ b τ t s).tk.length = σ.tk.length := by simp [setX]
theorem setX_take {σ : AS} {b τ : Nat} {t : Tab} {s : St} (x : List (List PV)) (n m : Nat) (hn : n = σ.bx.length) (hm : m = σ.tk.length) : (⟨((setX σ b τ t s).bx ++ x).take n, (setX σ b τ t s).tk.take m⟩ : AS) = setX σ b τ t s := by
  subst hn; subst hm
  rw [← setX_len (σ := σ) (b := b) (τ := τ) (t := t) (s := s), take_app, ← setX_tk (σ := σ) (b := b) (τ := τ) (t := t) (s := s), take_self]

def AllC (t : Tab) (n : Nat) : Prop := ∀ (codes : List Int) (d : Int) (s : St) (σ : AS) (b τ : Nat), (∀ c ∈ codes, I64 c) → codes.length ≤ 1000000 → 0 ≤ d ∧ d ≤ 21 →
  σ.bx[b]? = some (encX t τ s) → σ.tk[τ]? = some (23, s.out.length) → s.out.length ≤ 60 → s.taken ≤ 500 → 501 ≤ n + s.taken →
  SC1 Cc 37 [.ptr b 0, .sl none (codes.map encI), i64 d] σ (i64 (allF t n codes d s).1) (setX σ b τ t (allF t n codes d s).2)

theorem sequence_sc (t : Tab) (n : Nat) (A : AllC t n) (b τ : Nat) (c d : Int) (s : St) (σ : AS) (ht : TabOK t) (hb : σ.bx[b]? = some (encX t τ s)) (hτ : σ.tk[τ]? = some (23, s.out.length)) (hs : s.out.length ≤ 60) (hd : 0 ≤ d ∧ d ≤ 21) (h500 : s.taken ≤ 500) (hn : 501 ≤ n + s.taken) :
    SC1 Cc 64 [.ptr b 0, i64 c, i64 d] σ (i64 (seqF t (allF t n) c d s).1) (setX σ b τ t (seqF t (allF t n) c d s).2) := by
  have hb2 : ∀ r, (σ.bx ++ r)[b]? = some (encX t τ s) := fun r => get_app_of hb r
  have hbl := (List.getElem?_eq_some_iff.1 hb).1
  have hτl := (List.getElem?_eq_some_iff.1 hτ).1
  have hsame : setX σ b τ t s = σ := by unfold setX; rw [set_same hb, set_same hτ]
  have hwd : IntKind.i64.wrap (d + 1) = d + 1 := wrap64 (by omega)
  refine W.body Tryd.func64 rfl 32 Tryd.ntmps64 _ Tryd.results64 (by simp) GEt_cl fun hσ => ?_
  repeat' (first
    | with_reducible refine W.seq ?_
    | with_reducible refine W.next ?_
    | with_reducible refine W.nil ?_
    | with_reducible refine W.skip ?_
    | with_reducible refine W.ret ?_
    | with_reducible refine W.ret_code ?_
    | with_reducible refine W.block ?_
    | with_reducible refine W.out ?_
    | with_reducible refine W.ret_blk ?_
    | with_reducible refine W.exit ?_
    | with_reducible refine W.exit_code ?_
    | with_reducible refine W.exit_here ?_
    | with_reducible refine W.leave_exit ?_
    | with_reducible refine W.leave_ret ?_
    | ((with_reducible refine W.exit_on ?h ?_); (case h => decide))
    | ((with_reducible apply W.reg); (case h => simp [T3, T24, T28, T30, T49, T70, T72, hb2]; exact ⟨rfl, rfl, rfl⟩))
    | ((with_reducible apply W.draw mixed); (case hB => kernel_rfl); (case hr => simp [T3, T24, T28, T30, T49, T70, T72, hb2]; rfl))
    | ((with_reducible apply W.cond); (case hc => simp; rfl); all_goals (intro hc_; try (cases hc_; done)))
    | ((with_reducible apply W.runX); (case _hc => rfl); (case h => simp [T3, T24, T28, T30, T49, T70, T72, hb2]; exact ⟨rfl, rfl, rfl⟩))
    | ((with_reducible apply W.call1 go57); (case ho => rfl); (case hc => rfl); (case hf => rfl); (case hg => first | rfl | simp [T3, T24, T28, T30, T49, T70, T72, hb2]); (case hd => rfl); (case ha => simp [T3, T24, T28, T30, T49, T70, T72, hb2]; rfl); (case hargs => rfl); (case hs => exact IndexSeq_sc t.seqs none 67 [.ptr σ.bx.length 0] (fun q => q.code == c) _ go67 ht.slen (fun q _ => seq1_sc q c _ _ (by simp))))
    | fail)
  · have h1 : idxF (fun q => q.code == c) t.seqs < 0 := by simpa using hc_
    with_reducible apply W.fin
    case h1 => simp <;> rfl
    case h2 => exact Wk.rfl
    case h3 => simp
    case h4 => exact hσ.clB.app (Nat.le_refl _)
    exact ⟨by simp only [seqF, if_pos h1], by simp only [seqF, if_pos h1, hsame]; simp⟩
  · have h1 : ¬ idxF (fun q => q.code == c) t.seqs < 0 := by rename_i h; simpa using h
    have h2 : 20 < d := by simpa using hc_
    with_reducible apply W.fin
    case h1 => simp <;> rfl
    case h2 => exact Wk.rfl
    case h3 => simp
    case h4 => exact hσ.clB.app (Nat.le_refl _)
    exact ⟨by simp only [seqF, if_neg h1, if_pos h2], by simp only [seqF, if_neg h1, if_pos h2, hsame]; simp⟩
  · have h1 : ¬ idxF (fun q => q.code == c) t.seqs < 0 := by rename_i h; simpa using h
    have h2 : ¬ 20 < d := by simpa using hc_
    obtain ⟨k, e, hk⟩ := idx_lt h1
    have hout : t.seqs.getD (idxF (fun q => q.code == c) t.seqs).toNat default = t.seqs[k] := by rw [e]; simp [hk]
    have hr : seqF t (allF t n) c d s = allF t n t.seqs[k].codes (d + 1) s := by simp only [seqF, if_neg h1, if_neg h2, hout]
    rw [hr]
    with_reducible apply W.reg
    case h => simp [T3, T24, T28, T30, T49, T70, T72, hb2, e, hk, hwd]; exact ⟨rfl, rfl, rfl⟩
    repeat' (first
      | with_reducible refine W.seq ?_
      | with_reducible refine W.next ?_
      | with_reducible refine W.nil ?_
      | with_reducible refine W.skip ?_
      | with_reducible refine W.ret ?_
      | with_reducible refine W.ret_code ?_
      | with_reducible refine W.block ?_
      | with_reducible refine W.out ?_
      | with_reducible refine W.ret_blk ?_
      | with_reducible refine W.exit ?_
      | with_reducible refine W.exit_code ?_
      | with_reducible refine W.exit_here ?_
      | with_reducible refine W.leave_exit ?_
      | with_reducible refine W.leave_ret ?_
      | ((with_reducible refine W.exit_on ?h ?_); (case h => decide))
      | ((with_reducible apply W.reg); (case h => simp [T3, T24, T28, T30, T49, T70, T72, hb2, e, hk, hwd]; exact ⟨rfl, rfl, rfl⟩))
      | ((with_reducible apply W.draw mixed); (case hB => kernel_rfl); (case hr => simp [T3, T24, T28, T30, T49, T70, T72, hb2, e, hk, hwd]; rfl))
      | ((with_reducible apply W.cond); (case hc => simp; rfl); all_goals (intro hc_; try (cases hc_; done)))
      | ((with_reducible apply W.runX); (case _hc => rfl); (case h => simp [T3, T24, T28, T30, T49, T70, T72, hb2, e, hk, hwd]; exact ⟨rfl, rfl, rfl⟩))
      | ((with_reducible apply W.call1 go37); (case ho => rfl); (case hc => rfl); (case hf => rfl); (case hg => first | rfl | simp [T3, T24, T28, T30, T49, T70, T72, hb2, e, hk, hwd]); (case hd => rfl); (case ha => simp [T3, T24, T28, T30, T49, T70, T72, hb2, e, hk, hwd]; rfl); (case hargs => rfl); (case hs => exact (setX_push hbl [[i64 c]] ▸ A t.seqs[k].codes (d + 1) s ⟨σ.bx ++ [[i64 c]], σ.tk⟩ b τ (ht.seqs _ (List.getElem_mem hk)).codes (ht.seqs _ (List.getElem_mem hk)).len (by omega) (hb2 _) hτ hs h500 hn)))
      | fail)
    with_reducible apply W.fin
    case h1 => simp <;> rfl
    case h2 => exact Wk.rfl
    case h3 => simp
    case h4 => exact (setX_clB hσ hτl).app (by simp [setX_len])
    exact ⟨by simp, setX_take _ _ _ rfl rfl⟩


end Go.Proofs.YtgabnlkkjmepnaaDoor

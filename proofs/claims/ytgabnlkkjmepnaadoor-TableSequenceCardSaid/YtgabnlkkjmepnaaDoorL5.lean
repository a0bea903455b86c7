/- The law TableSequence: it returns true. -/
import Derived.Test.YtgabnlkkjmepnaaDoorX3
import Derived.Test.YtgabnlkkjmepnaaDoorS19
import Derived.Test.YtgabnlkkjmepnaaDoorS20
import Derived.Test.YtgabnlkkjmepnaaDoorL6
import Derived.IntWalk
namespace Go.Proofs.YtgabnlkkjmepnaaDoor
open Go.Sw
set_option linter.unusedSimpArgs false
set_option linter.unusedVariables false
attribute [local simp] runOps stepOp pureOp gd isCall inN setd Sw.get params ev evs binV unV convV loadA cellsPV oneB storeA fieldAddrA fieldOff fieldA partA aggOf extractA indexAddrA indexA lenA minmaxA sliceA bnd partsA buildA placesA fillA buildSliceA zerosA chunkA TyD.agg Value.oneCell' Value.cells runPure appA appendA okRow_nil okRow_cons okRow_append resultA ressA resA List.getElem?_append List.set_append Cl_any Cl_val Cl_ptr Cl_agg Cl_tup Cl_fn Cl_rop Cl_sl Sw.take_set Sw.take_set_app Sw.take_app

attribute [local simp] encI encE encS encT okRow_encE okRow_encS okRow_encI
theorem drawn_i64 {c : Int} (h : drawn c) : I64 c := ⟨by have := h.1; omega, by have := h.2.1; omega⟩
theorem withSeq_ok {t : Tab} (h : drawnT 1 t) {xs : List Int} (hx : ∀ x ∈ xs, drawn x) (hl : xs.length ≤ 4) : TabOK (withSeq t xs) where
  version := by show I64 t.version; rw [h.version]; unfold I64; decide
  entries := (h.ok (by unfold I64; decide)).entries
  seqs := fun q hq => by
    rcases List.mem_append.1 hq with hq | hq
    · exact (h.ok (by unfold I64; decide)).seqs q hq
    · rw [List.mem_singleton.1 hq]
      exact ⟨show I64 12345 by unfold I64; decide, fun c hc => drawn_i64 (hx c hc), by dsimp only; omega⟩
  elen := (h.ok (by unfold I64; decide)).elen
  slen := by have := h.slen; simp [withSeq]; omega
set_option maxHeartbeats 2000000 in
theorem TableSequence_sc (L : List Int) (σ : AS) : SC Cc 5 [.sl none (L.map encI)] σ (fun r σ' => r = bV true ∧ σ' = σ) := by
  refine W.body Tryd.func5 rfl 84 Tryd.ntmps5 _ Tryd.results5 (by simp) GEt_cl fun hσ => ?_
  repeat' (first
    | with_reducible refine W.seq ?_
    | with_reducible refine W.next ?_
    | with_reducible refine W.nil ?_
    | with_reducible refine W.skip ?_
    | with_reducible refine W.ret ?_
    | with_reducible refine W.ret_code ?_
    | with_reducible refine W.block ?_
    | with_reducible refine W.out ?_
    | with_reducible refine W.ret_blk ?_
    | with_reducible refine W.exit ?_
    | with_reducible refine W.exit_code ?_
    | with_reducible refine W.exit_here ?_
    | with_reducible refine W.leave_exit ?_
    | with_reducible refine W.leave_ret ?_
    | ((with_reducible refine W.exit_on ?h ?_); (case h => decide))
    | ((with_reducible apply W.reg); (case h => simp [T3, T23, T24, T25, T27, T28, T30, T49]; exact ⟨rfl, rfl, rfl⟩))
    | ((with_reducible apply W.draw mixed); (case hB => kernel_rfl); (case hr => simp [T3, T23, T24, T25, T27, T28, T30, T49]; rfl))
    | ((with_reducible apply W.cond); (case hc => simp; rfl); all_goals (intro hc_; try (cases hc_; done)))
    | ((with_reducible apply W.runX); (case _hc => rfl); (case h => simp [T3, T23, T24, T25, T27, T28, T30, T49]; exact ⟨rfl, rfl, rfl⟩))
    | ((with_reducible apply W.callR go8); (case ho => rfl); (case hc => rfl); (case hf => rfl); (case hg => first | rfl | simp [T3, T23, T24, T25, T27, T28, T30, T49]); (case hd => rfl); (case ha => simp [T3, T23, T24, T25, T27, T28, T30, T49]; rfl); (case hargs => rfl); (case hs => exact New_sc L _); rintro _ _ ⟨L', hL', rfl, rfl⟩)
    | ((with_reducible apply W.callR go9); (case ho => rfl); (case hc => rfl); (case hf => rfl); (case hg => first | rfl | simp [T3, T23, T24, T25, T27, T28, T30, T49]); (case hd => rfl); (case ha => simp [T3, T23, T24, T25, T27, T28, T30, T49]; rfl); (case hargs => rfl); (case hs => exact Table2_sc σ.bx.length L' 0 1 _ (by simp) (Nat.zero_le _) hL'); rintro _ _ ⟨t, a1, ht, ha1, rfl, rfl⟩)
    | ((with_reducible apply W.callR go17); (case ho => rfl); (case hc => rfl); (case hf => rfl); (case hg => first | rfl | simp [T3, T23, T24, T25, T27, T28, T30, T49]); (case hd => rfl); (case ha => simp [T3, T23, T24, T25, T27, T28, T30, T49]; rfl); (case hargs => rfl); (case hs => exact codes_sc σ.bx.length L' a1 4 _ (by simp) ha1 hL' (by omega)); rintro _ _ ⟨xs, a2, hxl, hxd, ha2, rfl, rfl⟩)
    | fail)
  have hbt : (t.seqs.length + 1) * 32 ≤ 140737488355328 := by have := ht.slen; omega
  have hsl := ht.slen
  have hτ : ∀ (x y : TypeId × Nat), (σ.tk ++ [x, y])[σ.tk.length + 1]? = some y := by intro x y; simp
  have hok := withSeq_ok ht hxd hxl
  have hseqs : (withSeq t xs).seqs.map encS = t.seqs.map encS ++ [encS ⟨12345, xs⟩] := by simp [withSeq]
  have hwk : WkL Cc [i64 t.version, .sl none (t.entries.map encE), .sl (some (σ.tk.length + 1)) (t.seqs.map encS ++ [encS ⟨12345, xs⟩])] (encT (withSeq t xs)) := by
    refine ⟨Wk.rfl, Wk.rfl, ?_, trivial⟩
    show Wk Cc _ (.sl none ((withSeq t xs).seqs.map encS))
    rw [hseqs]; exact Wk.unown
  have hex : ∀ (codes : List Int), (∀ c ∈ codes, I64 c) → codes.length ≤ 1000000 → ∀ σ', SC1 Cc 18 [.agg [i64 t.version, .sl none (t.entries.map encE), .sl (some (σ.tk.length + 1)) (t.seqs.map encS ++ [encS ⟨12345, xs⟩])], .sl none (codes.map encI)] σ' (.tup [.sl none ((expandF (withSeq t xs) codes).2.map encE), i64 (expandF (withSeq t xs) codes).1]) σ' :=
    fun codes hc hl σ' => (Expand_sc (withSeq t xs) codes σ' hok hc hl).wk ⟨Wk.agg hwk, Wk.rfl, trivial⟩
  have hvc : ∀ σ', SC1 Cc 22 [.agg [i64 t.version, .sl none (t.entries.map encE), .sl (some (σ.tk.length + 1)) (t.seqs.map encS ++ [encS ⟨12345, xs⟩])]] σ' (i64 (validateF (withSeq t xs))) σ' := fun σ' => (refValidate_sc (withSeq t xs) σ' hok).wk ⟨Wk.agg hwk, trivial⟩
  by_cases hv : validateF (withSeq t xs) = 0
  · obtain ⟨q1, q2⟩ := seq_law ht xs hv (by omega)
    have x1 := hex [12345] (by unfold I64; simp) (by simp)
    have x2 := hex xs (fun c hc => drawn_i64 (hxd c hc)) (by omega)
    have x3 := hex [12345, 100] (by unfold I64; simp) (by simp)
    rw [hv] at hvc
    have hlen1 : (expandF (withSeq t xs) [12345]).2.length ≤ 1000000 := Nat.le_trans (expand_len _ _) (by decide)
    have hlen2 : (expandF (withSeq t xs) xs).2.length ≤ 1000000 := Nat.le_trans (expand_len _ _) (by decide)
    generalize expandF (withSeq t xs) [12345] = r1 at *
    generalize expandF (withSeq t xs) xs = r2 at *
    generalize expandF (withSeq t xs) [12345, 100] = r3 at *
    obtain ⟨e, ae⟩ := r1
    obtain ⟨f, bs⟩ := r2
    obtain ⟨g, ds⟩ := r3
    dsimp only at *
    by_cases he : e = 0
    · subst he
      obtain ⟨rfl, rfl, hg⟩ := q2 rfl
      have hse := fun σ' => SameEntries_sc ae ae σ' hlen1 hlen1
      have hdd : decide (ae = ae) = true := by simp
      simp only [hdd] at hse
      rcases hg with ⟨rfl, hg⟩ | rfl
      · have hw : IntKind.i64.wrap ((ae.length : Int) + 1) = (ae.length : Int) + 1 := wrap64 (by omega)
        have hgl : (ds.length : Int) = (ae.length : Int) + 1 := by omega
        repeat' (first
          | with_reducible refine W.seq ?_
          | with_reducible refine W.next ?_
          | with_reducible refine W.nil ?_
          | with_reducible refine W.skip ?_
          | with_reducible refine W.ret ?_
          | with_reducible refine W.ret_code ?_
          | with_reducible refine W.block ?_
          | with_reducible refine W.out ?_
          | with_reducible refine W.ret_blk ?_
          | with_reducible refine W.exit ?_
          | with_reducible refine W.exit_code ?_
          | with_reducible refine W.exit_here ?_
          | with_reducible refine W.leave_exit ?_
          | with_reducible refine W.leave_ret ?_
          | ((with_reducible refine W.exit_on ?h ?_); (case h => decide))
          | ((with_reducible apply W.reg); (case h => simp [T3, T4, T23, T24, T25, T27, T28, T30, T35, T49, hbt, hτ, hw, hgl]; exact ⟨rfl, rfl, rfl⟩))
          | ((with_reducible apply W.draw mixed); (case hB => kernel_rfl); (case hr => simp [T3, T4, T23, T24, T25, T27, T28, T30, T35, T49, hbt, hτ, hw, hgl]; rfl))
          | ((with_reducible apply W.cond); (case hc => simp; rfl); all_goals (intro hc_; try (cases hc_; done)))
          | ((with_reducible apply W.runX); (case _hc => rfl); (case h => simp [T3, T4, T23, T24, T25, T27, T28, T30, T35, T49, hbt, hτ, hw, hgl]; exact ⟨rfl, rfl, rfl⟩))
          | ((with_reducible apply W.call1 go22); (case ho => rfl); (case hc => rfl); (case hf => rfl); (case hg => first | rfl | simp [T3, T4, T23, T24, T25, T27, T28, T30, T35, T49, hbt, hτ, hw, hgl]); (case hd => rfl); (case ha => simp [T3, T4, T23, T24, T25, T27, T28, T30, T35, T49, hbt, hτ, hw, hgl]; rfl); (case hargs => rfl); (case hs => exact hvc _))
          | ((with_reducible apply W.call1 go18); (case ho => rfl); (case hc => rfl); (case hf => rfl); (case hg => first | rfl | simp [T3, T4, T23, T24, T25, T27, T28, T30, T35, T49, hbt, hτ, hw, hgl]); (case hd => rfl); (case ha => simp [T3, T4, T23, T24, T25, T27, T28, T30, T35, T49, hbt, hτ, hw, hgl]; rfl); (case hargs => rfl); (case hs => exact x1 _))
          | ((with_reducible apply W.call1 go18); (case ho => rfl); (case hc => rfl); (case hf => rfl); (case hg => first | rfl | simp [T3, T4, T23, T24, T25, T27, T28, T30, T35, T49, hbt, hτ, hw, hgl]); (case hd => rfl); (case ha => simp [T3, T4, T23, T24, T25, T27, T28, T30, T35, T49, hbt, hτ, hw, hgl]; rfl); (case hargs => rfl); (case hs => exact x2 _))
          | ((with_reducible apply W.call1 go18); (case ho => rfl); (case hc => rfl); (case hf => rfl); (case hg => first | rfl | simp [T3, T4, T23, T24, T25, T27, T28, T30, T35, T49, hbt, hτ, hw, hgl]); (case hd => rfl); (case ha => simp [T3, T4, T23, T24, T25, T27, T28, T30, T35, T49, hbt, hτ, hw, hgl]; rfl); (case hargs => rfl); (case hs => exact x3 _))
          | ((with_reducible apply W.call1 go19); (case ho => rfl); (case hc => rfl); (case hf => rfl); (case hg => first | rfl | simp [T3, T4, T23, T24, T25, T27, T28, T30, T35, T49, hbt, hτ, hw, hgl]); (case hd => rfl); (case ha => simp [T3, T4, T23, T24, T25, T27, T28, T30, T35, T49, hbt, hτ, hw, hgl]; rfl); (case hargs => rfl); (case hs => exact hse _))
          | ((with_reducible apply W.call1 go16); (case ho => rfl); (case hc => rfl); (case hf => rfl); (case hg => first | rfl | simp [T3, T4, T23, T24, T25, T27, T28, T30, T35, T49, hbt, hτ, hw, hgl]); (case hd => rfl); (case ha => simp [T3, T4, T23, T24, T25, T27, T28, T30, T35, T49, hbt, hτ, hw, hgl]; rfl); (case hargs => rfl); (case hs => exact awake_sc _))
          | fail)
        with_reducible apply W.fin
        case h1 => simp <;> rfl
        case h2 => exact Wk.rfl
        case h3 => simp
        case h4 => exact hσ.clB.app (Nat.le_refl _)
        exact ⟨rfl, by simp⟩
      · repeat' (first
          | with_reducible refine W.seq ?_
          | with_reducible refine W.next ?_
          | with_reducible refine W.nil ?_
          | with_reducible refine W.skip ?_
          | with_reducible refine W.ret ?_
          | with_reducible refine W.ret_code ?_
          | with_reducible refine W.block ?_
          | with_reducible refine W.out ?_
          | with_reducible refine W.ret_blk ?_
          | with_reducible refine W.exit ?_
          | with_reducible refine W.exit_code ?_
          | with_reducible refine W.exit_here ?_
          | with_reducible refine W.leave_exit ?_
          | with_reducible refine W.leave_ret ?_
          | ((with_reducible refine W.exit_on ?h ?_); (case h => decide))
          | ((with_reducible apply W.reg); (case h => simp [T3, T4, T23, T24, T25, T27, T28, T30, T35, T49, hbt, hτ]; exact ⟨rfl, rfl, rfl⟩))
          | ((with_reducible apply W.draw mixed); (case hB => kernel_rfl); (case hr => simp [T3, T4, T23, T24, T25, T27, T28, T30, T35, T49, hbt, hτ]; rfl))
          | ((with_reducible apply W.cond); (case hc => simp; rfl); all_goals (intro hc_; try (cases hc_; done)))
          | ((with_reducible apply W.runX); (case _hc => rfl); (case h => simp [T3, T4, T23, T24, T25, T27, T28, T30, T35, T49, hbt, hτ]; exact ⟨rfl, rfl, rfl⟩))
          | ((with_reducible apply W.call1 go22); (case ho => rfl); (case hc => rfl); (case hf => rfl); (case hg => first | rfl | simp [T3, T4, T23, T24, T25, T27, T28, T30, T35, T49, hbt, hτ]); (case hd => rfl); (case ha => simp [T3, T4, T23, T24, T25, T27, T28, T30, T35, T49, hbt, hτ]; rfl); (case hargs => rfl); (case hs => exact hvc _))
          | ((with_reducible apply W.call1 go18); (case ho => rfl); (case hc => rfl); (case hf => rfl); (case hg => first | rfl | simp [T3, T4, T23, T24, T25, T27, T28, T30, T35, T49, hbt, hτ]); (case hd => rfl); (case ha => simp [T3, T4, T23, T24, T25, T27, T28, T30, T35, T49, hbt, hτ]; rfl); (case hargs => rfl); (case hs => exact x1 _))
          | ((with_reducible apply W.call1 go18); (case ho => rfl); (case hc => rfl); (case hf => rfl); (case hg => first | rfl | simp [T3, T4, T23, T24, T25, T27, T28, T30, T35, T49, hbt, hτ]); (case hd => rfl); (case ha => simp [T3, T4, T23, T24, T25, T27, T28, T30, T35, T49, hbt, hτ]; rfl); (case hargs => rfl); (case hs => exact x2 _))
          | ((with_reducible apply W.call1 go18); (case ho => rfl); (case hc => rfl); (case hf => rfl); (case hg => first | rfl | simp [T3, T4, T23, T24, T25, T27, T28, T30, T35, T49, hbt, hτ]); (case hd => rfl); (case ha => simp [T3, T4, T23, T24, T25, T27, T28, T30, T35, T49, hbt, hτ]; rfl); (case hargs => rfl); (case hs => exact x3 _))
          | ((with_reducible apply W.call1 go19); (case ho => rfl); (case hc => rfl); (case hf => rfl); (case hg => first | rfl | simp [T3, T4, T23, T24, T25, T27, T28, T30, T35, T49, hbt, hτ]); (case hd => rfl); (case ha => simp [T3, T4, T23, T24, T25, T27, T28, T30, T35, T49, hbt, hτ]; rfl); (case hargs => rfl); (case hs => exact hse _))
          | ((with_reducible apply W.call1 go16); (case ho => rfl); (case hc => rfl); (case hf => rfl); (case hg => first | rfl | simp [T3, T4, T23, T24, T25, T27, T28, T30, T35, T49, hbt, hτ]); (case hd => rfl); (case ha => simp [T3, T4, T23, T24, T25, T27, T28, T30, T35, T49, hbt, hτ]; rfl); (case hargs => rfl); (case hs => exact awake_sc _))
          | fail)
        with_reducible apply W.fin
        case h1 => simp <;> rfl
        case h2 => exact Wk.rfl
        case h3 => simp
        case h4 => exact hσ.clB.app (Nat.le_refl _)
        exact ⟨rfl, by simp⟩
    · have he' : (e == 0) = false := by simpa using he
      by_cases hf : f = 0
      · subst hf
        rcases q1 he with h | rfl
        · exact absurd rfl h
        · repeat' (first
            | with_reducible refine W.seq ?_
            | with_reducible refine W.next ?_
            | with_reducible refine W.nil ?_
            | with_reducible refine W.skip ?_
            | with_reducible refine W.ret ?_
            | with_reducible refine W.ret_code ?_
            | with_reducible refine W.block ?_
            | with_reducible refine W.out ?_
            | with_reducible refine W.ret_blk ?_
            | with_reducible refine W.exit ?_
            | with_reducible refine W.exit_code ?_
            | with_reducible refine W.exit_here ?_
            | with_reducible refine W.leave_exit ?_
            | with_reducible refine W.leave_ret ?_
            | ((with_reducible refine W.exit_on ?h ?_); (case h => decide))
            | ((with_reducible apply W.reg); (case h => simp [T3, T4, T23, T24, T25, T27, T28, T30, T35, T49, hbt, hτ]; exact ⟨rfl, rfl, rfl⟩))
            | ((with_reducible apply W.draw mixed); (case hB => kernel_rfl); (case hr => simp [T3, T4, T23, T24, T25, T27, T28, T30, T35, T49, hbt, hτ]; rfl))
            | ((with_reducible apply W.cond); (case hc => simp; rfl); all_goals (intro hc_; try (cases hc_; done)))
            | ((with_reducible apply W.runX); (case _hc => rfl); (case h => simp [T3, T4, T23, T24, T25, T27, T28, T30, T35, T49, hbt, hτ]; exact ⟨rfl, rfl, rfl⟩))
            | ((with_reducible apply W.call1 go22); (case ho => rfl); (case hc => rfl); (case hf => rfl); (case hg => first | rfl | simp [T3, T4, T23, T24, T25, T27, T28, T30, T35, T49, hbt, hτ]); (case hd => rfl); (case ha => simp [T3, T4, T23, T24, T25, T27, T28, T30, T35, T49, hbt, hτ]; rfl); (case hargs => rfl); (case hs => exact hvc _))
            | ((with_reducible apply W.call1 go18); (case ho => rfl); (case hc => rfl); (case hf => rfl); (case hg => first | rfl | simp [T3, T4, T23, T24, T25, T27, T28, T30, T35, T49, hbt, hτ]); (case hd => rfl); (case ha => simp [T3, T4, T23, T24, T25, T27, T28, T30, T35, T49, hbt, hτ]; rfl); (case hargs => rfl); (case hs => exact x1 _))
            | ((with_reducible apply W.call1 go18); (case ho => rfl); (case hc => rfl); (case hf => rfl); (case hg => first | rfl | simp [T3, T4, T23, T24, T25, T27, T28, T30, T35, T49, hbt, hτ]); (case hd => rfl); (case ha => simp [T3, T4, T23, T24, T25, T27, T28, T30, T35, T49, hbt, hτ]; rfl); (case hargs => rfl); (case hs => exact x2 _))
            | ((with_reducible apply W.call1 go18); (case ho => rfl); (case hc => rfl); (case hf => rfl); (case hg => first | rfl | simp [T3, T4, T23, T24, T25, T27, T28, T30, T35, T49, hbt, hτ]); (case hd => rfl); (case ha => simp [T3, T4, T23, T24, T25, T27, T28, T30, T35, T49, hbt, hτ]; rfl); (case hargs => rfl); (case hs => exact x3 _))
            | ((with_reducible apply W.call1 go19); (case ho => rfl); (case hc => rfl); (case hf => rfl); (case hg => first | rfl | simp [T3, T4, T23, T24, T25, T27, T28, T30, T35, T49, hbt, hτ]); (case hd => rfl); (case ha => simp [T3, T4, T23, T24, T25, T27, T28, T30, T35, T49, hbt, hτ]; rfl); (case hargs => rfl); (case hs => exact hse _))
            | ((with_reducible apply W.call1 go16); (case ho => rfl); (case hc => rfl); (case hf => rfl); (case hg => first | rfl | simp [T3, T4, T23, T24, T25, T27, T28, T30, T35, T49, hbt, hτ]); (case hd => rfl); (case ha => simp [T3, T4, T23, T24, T25, T27, T28, T30, T35, T49, hbt, hτ]; rfl); (case hargs => rfl); (case hs => exact awake_sc _))
            | fail)
          with_reducible apply W.fin
          case h1 => simp <;> rfl
          case h2 => exact Wk.rfl
          case h3 => simp
          case h4 => exact hσ.clB.app (Nat.le_refl _)
          exact ⟨rfl, by simp⟩
      · have hf' : (f == 0) = false := by simpa using hf
        have hf2 : (f != 0) = true := by simpa using hf
        have he2 : (e != 0) = true := by simpa using he
        repeat' (first
          | with_reducible refine W.seq ?_
          | with_reducible refine W.next ?_
          | with_reducible refine W.nil ?_
          | with_reducible refine W.skip ?_
          | with_reducible refine W.ret ?_
          | with_reducible refine W.ret_code ?_
          | with_reducible refine W.block ?_
          | with_reducible refine W.out ?_
          | with_reducible refine W.ret_blk ?_
          | with_reducible refine W.exit ?_
          | with_reducible refine W.exit_code ?_
          | with_reducible refine W.exit_here ?_
          | with_reducible refine W.leave_exit ?_
          | with_reducible refine W.leave_ret ?_
          | ((with_reducible refine W.exit_on ?h ?_); (case h => decide))
          | ((with_reducible apply W.reg); (case h => simp [T3, T4, T23, T24, T25, T27, T28, T30, T35, T49, hbt, hτ, he', hf', he2, hf2]; exact ⟨rfl, rfl, rfl⟩))
          | ((with_reducible apply W.draw mixed); (case hB => kernel_rfl); (case hr => simp [T3, T4, T23, T24, T25, T27, T28, T30, T35, T49, hbt, hτ, he', hf', he2, hf2]; rfl))
          | ((with_reducible apply W.cond); (case hc => simp; rfl); all_goals (intro hc_; try (cases hc_; done)))
          | ((with_reducible apply W.runX); (case _hc => rfl); (case h => simp [T3, T4, T23, T24, T25, T27, T28, T30, T35, T49, hbt, hτ, he', hf', he2, hf2]; exact ⟨rfl, rfl, rfl⟩))
          | ((with_reducible apply W.call1 go22); (case ho => rfl); (case hc => rfl); (case hf => rfl); (case hg => first | rfl | simp [T3, T4, T23, T24, T25, T27, T28, T30, T35, T49, hbt, hτ, he', hf', he2, hf2]); (case hd => rfl); (case ha => simp [T3, T4, T23, T24, T25, T27, T28, T30, T35, T49, hbt, hτ, he', hf', he2, hf2]; rfl); (case hargs => rfl); (case hs => exact hvc _))
          | ((with_reducible apply W.call1 go18); (case ho => rfl); (case hc => rfl); (case hf => rfl); (case hg => first | rfl | simp [T3, T4, T23, T24, T25, T27, T28, T30, T35, T49, hbt, hτ, he', hf', he2, hf2]); (case hd => rfl); (case ha => simp [T3, T4, T23, T24, T25, T27, T28, T30, T35, T49, hbt, hτ, he', hf', he2, hf2]; rfl); (case hargs => rfl); (case hs => exact x1 _))
          | ((with_reducible apply W.call1 go18); (case ho => rfl); (case hc => rfl); (case hf => rfl); (case hg => first | rfl | simp [T3, T4, T23, T24, T25, T27, T28, T30, T35, T49, hbt, hτ, he', hf', he2, hf2]); (case hd => rfl); (case ha => simp [T3, T4, T23, T24, T25, T27, T28, T30, T35, T49, hbt, hτ, he', hf', he2, hf2]; rfl); (case hargs => rfl); (case hs => exact x2 _))
          | ((with_reducible apply W.call1 go18); (case ho => rfl); (case hc => rfl); (case hf => rfl); (case hg => first | rfl | simp [T3, T4, T23, T24, T25, T27, T28, T30, T35, T49, hbt, hτ, he', hf', he2, hf2]); (case hd => rfl); (case ha => simp [T3, T4, T23, T24, T25, T27, T28, T30, T35, T49, hbt, hτ, he', hf', he2, hf2]; rfl); (case hargs => rfl); (case hs => exact x3 _))
          | ((with_reducible apply W.call1 go19); (case ho => rfl); (case hc => rfl); (case hf => rfl); (case hg => first | rfl | simp [T3, T4, T23, T24, T25, T27, T28, T30, T35, T49, hbt, hτ, he', hf', he2, hf2]); (case hd => rfl); (case ha => simp [T3, T4, T23, T24, T25, T27, T28, T30, T35, T49, hbt, hτ, he', hf', he2, hf2]; rfl); (case hargs => rfl); (case hs => exact hse _))
          | ((with_reducible apply W.call1 go16); (case ho => rfl); (case hc => rfl); (case hf => rfl); (case hg => first | rfl | simp [T3, T4, T23, T24, T25, T27, T28, T30, T35, T49, hbt, hτ, he', hf', he2, hf2]); (case hd => rfl); (case ha => simp [T3, T4, T23, T24, T25, T27, T28, T30, T35, T49, hbt, hτ, he', hf', he2, hf2]; rfl); (case hargs => rfl); (case hs => exact awake_sc _))
          | fail)
        with_reducible apply W.fin
        case h1 => simp <;> rfl
        case h2 => exact Wk.rfl
        case h3 => simp
        case h4 => exact hσ.clB.app (Nat.le_refl _)
        exact ⟨rfl, by simp⟩
  · have hb : (validateF (withSeq t xs) == 0) = false := by simpa using hv
    have hb2 : (validateF (withSeq t xs) != 0) = true := by simpa using hv
    generalize validateF (withSeq t xs) = vv at *
    repeat' (first
      | with_reducible refine W.seq ?_
      | with_reducible refine W.next ?_
      | with_reducible refine W.nil ?_
      | with_reducible refine W.skip ?_
      | with_reducible refine W.ret ?_
      | with_reducible refine W.ret_code ?_
      | with_reducible refine W.block ?_
      | with_reducible refine W.out ?_
      | with_reducible refine W.ret_blk ?_
      | with_reducible refine W.exit ?_
      | with_reducible refine W.exit_code ?_
      | with_reducible refine W.exit_here ?_
      | with_reducible refine W.leave_exit ?_
      | with_reducible refine W.leave_ret ?_
      | ((with_reducible refine W.exit_on ?h ?_); (case h => decide))
      | ((with_reducible apply W.reg); (case h => simp [T3, T23, T24, T25, T27, T28, T30, T35, T49, hbt, hτ, hb, hb2]; exact ⟨rfl, rfl, rfl⟩))
      | ((with_reducible apply W.draw mixed); (case hB => kernel_rfl); (case hr => simp [T3, T23, T24, T25, T27, T28, T30, T35, T49, hbt, hτ, hb, hb2]; rfl))
      | ((with_reducible apply W.cond); (case hc => simp; rfl); all_goals (intro hc_; try (cases hc_; done)))
      | ((with_reducible apply W.runX); (case _hc => rfl); (case h => simp [T3, T23, T24, T25, T27, T28, T30, T35, T49, hbt, hτ, hb, hb2]; exact ⟨rfl, rfl, rfl⟩))
      | ((with_reducible apply W.call1 go22); (case ho => rfl); (case hc => rfl); (case hf => rfl); (case hg => first | rfl | simp [T3, T23, T24, T25, T27, T28, T30, T35, T49, hbt, hτ, hb, hb2]); (case hd => rfl); (case ha => simp [T3, T23, T24, T25, T27, T28, T30, T35, T49, hbt, hτ, hb, hb2]; rfl); (case hargs => rfl); (case hs => exact hvc _))
      | ((with_reducible apply W.call1 go16); (case ho => rfl); (case hc => rfl); (case hf => rfl); (case hg => first | rfl | simp [T3, T23, T24, T25, T27, T28, T30, T35, T49, hbt, hτ, hb, hb2]); (case hd => rfl); (case ha => simp [T3, T23, T24, T25, T27, T28, T30, T35, T49, hbt, hτ, hb, hb2]; rfl); (case hargs => rfl); (case hs => exact awake_sc _))
      | fail)
    with_reducible apply W.fin
    case h1 => simp <;> rfl
    case h2 => exact Wk.rfl
    case h3 => simp
    case h4 => exact hσ.clB.app (Nat.le_refl _)
    exact ⟨rfl, by simp⟩


end Go.Proofs.YtgabnlkkjmepnaaDoor

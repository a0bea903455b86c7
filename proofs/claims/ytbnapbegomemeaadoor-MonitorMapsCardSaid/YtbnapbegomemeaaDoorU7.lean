/- The plain law of a map: its lines have ten words, the last one the rest; and the sanity check. -/
import Derived.Test.YtbnapbegomemeaaDoorU6
import Derived.IntWalk
namespace Go.Proofs.YtbnapbegomemeaaDoor
open Go.Sw
set_option linter.unusedSimpArgs false
set_option linter.unusedVariables false
attribute [local simp] evu unp appStr appendS isZ8 Cl_pt runOps stepOp pureOp gd isCall inN setd Sw.get params ev evs binV unV convV loadA cellsPV oneB storeA fieldAddrA fieldOff fieldA partA aggOf extractA indexAddrA indexA lenA minmaxA sliceA bnd partsA buildA placesA fillA buildSliceA zerosA chunkA TyD.agg Value.oneCell' Value.cells runPure appA appendA okRow_nil okRow_cons okRow_append resultA ressA resA List.getElem?_append List.set_append Cl_any Cl_val Cl_ptr Cl_agg Cl_tup Cl_fn Cl_rop Cl_sl Sw.take_set Sw.take_set_app Sw.take_app

attribute [local simp] strR_length encIs_length okRow_strR bytesR_len' okRow_b
theorem decDigits_ge (u : Nat) : ∀ b ∈ Lib.decDigits u, b ≠ 32 := by
  rw [Lib.decDigits_eq]
  intro b hb
  obtain ⟨t, _, rfl⟩ := List.mem_map.1 hb
  unfold Lib.dg
  intro h
  have := congrArg UInt8.toNat h
  simp only [UInt8.toNat_ofNat'] at this
  have h2 : u / 10 ^ (Lib.nDigits u - 1 - t) % 10 < 10 := Nat.mod_lt _ (by omega)
  have h3 : (32 : UInt8).toNat = 32 := rfl
  omega
theorem itoa_no32 (n : Int) : ∀ b ∈ Lib.itoa n, b ≠ 32 := by
  unfold Lib.itoa
  split
  · intro b hb
    rcases List.mem_cons.1 hb with rfl | h
    · decide
    · exact decDigits_ge _ b h
  · exact decDigits_ge _
theorem count_no {l : List UInt8} (h : ∀ b ∈ l, b ≠ 32) : l.count 32 = 0 := List.count_eq_zero.2 (fun hm => h 32 hm rfl)
theorem count_words : ∀ (ss : List (List UInt8)) (acc : List UInt8), (∀ s ∈ ss, s ≠ [] ∧ ∀ b ∈ s, b ≠ 32) → (wordsF acc ss).count 32 = acc.count 32 + (if acc.length = 0 then ss.length - 1 else ss.length)
  | [], acc, _ => by simp [wordsF]
  | s :: r, acc, h => by
    obtain ⟨h1, h2⟩ := h s (List.mem_cons_self ..)
    have ih := count_words r (word1 acc s) (fun x hx => h x (List.mem_cons_of_mem _ hx))
    have e : wordsF acc (s :: r) = wordsF (word1 acc s) r := rfl
    have hne : (word1 acc s).length ≠ 0 := by
      have := word1_ne acc s h1
      simpa using this
    have hc := count_no h2
    rw [e, ih, if_neg hne]
    unfold word1
    by_cases h0 : acc.length = 0
    · have : acc = [] := List.eq_nil_of_length_eq_zero h0
      subst this
      simp [hc]
    · rw [if_neg h0, if_neg h0]
      have h3 : (acc ++ [32] ++ s).count 32 = acc.count 32 + 1 := by
        rw [List.count_append, List.count_append, hc]
        rfl
      rw [h3]
      simp
      omega
theorem lineF_count {c : List Int} (h : c ≠ []) : (lineF c).count 32 + 1 = c.length := by
  unfold lineF
  rw [count_words _ _ (fun s hs => by obtain ⟨v, _, rfl⟩ := List.mem_map.1 hs; exact ⟨itoa_ne _, itoa_no32 _⟩)]
  have : c.length ≠ 0 := by simpa using h
  simp [wordsOf]
  omega
theorem mapF_length (xs : List Int) : (mapF xs).length = Tryd.chunks xs.length := by
  unfold mapF; rw [linesP_length]; simp
theorem mapF_at (xs : List Int) {k : Nat} (h : k < Tryd.chunks xs.length) : (mapF xs)[k]? = some (lineF (chunkF xs k)) := by
  unfold mapF linesP
  rw [List.getElem?_map, List.getElem?_eq_getElem (by simpa using h)]
  simp

theorem frac34 : fracF 3 4 = [51, 47, 52] := by
  have h3 : Lib.decDigits 3 = [UInt8.ofNat (48 + 3)] := Lib.decDigits_one (by omega)
  have h4 : Lib.decDigits 4 = [UInt8.ofNat (48 + 4)] := Lib.decDigits_one (by omega)
  simp [fracF, Lib.itoa, h3, h4]
theorem awake_sc (σ : AS) : SC1 Cc 4 [] σ (bV true) σ := by
  have h12 : (mapF [0, 0, 0, 0, 0, 0, 0, 0, 0, 0, 0, 0]).length = 2 := by rw [mapF_length]; rfl
  refine W.body Tryd.func4 rfl 10 Tryd.ntmps4 _ Tryd.results4 (by simp) Cc_dl GEt_cl fun hσ => ?_
  repeat' (first
    | with_reducible refine W.seq ?_
    | with_reducible refine W.next ?_
    | with_reducible refine W.nil ?_
    | with_reducible refine W.skip ?_
    | with_reducible refine W.ret ?_
    | with_reducible refine W.ret_code ?_
    | with_reducible refine W.block ?_
    | with_reducible refine W.out ?_
    | with_reducible refine W.ret_blk ?_
    | with_reducible refine W.exit ?_
    | with_reducible refine W.exit_code ?_
    | with_reducible refine W.exit_here ?_
    | with_reducible refine W.leave_exit ?_
    | with_reducible refine W.leave_ret ?_
    | ((with_reducible refine W.exit_on ?h ?_); (case h => decide))
    | ((with_reducible apply W.reg); (case h => simp [T3, T4, T9, T29, frac34]; exact ⟨rfl, rfl, rfl⟩))
    | ((with_reducible apply W.draw (hm := mixed)); (case hnd => kernel_rfl); (case hno => exact fun _ _ h => h); (case hB => kernel_rfl); (case hr => simp [T3, T4, T9, T29, frac34]; rfl))
    | ((with_reducible apply W.cond); (case hc => simp; rfl); all_goals (intro hc_; try (cases hc_; done)))
    | ((with_reducible apply W.runX); (case _hc => rfl); (case h => simp [T3, T4, T9, T29, frac34]; exact ⟨rfl, rfl, rfl⟩))
    | ((with_reducible apply W.call1 go6); (case ho => rfl); (case hc => rfl); (case hf => rfl); (case hg => first | rfl | simp [T3, T4, T9, T29, frac34]); (case hd => rfl); (case ha => simp [T3, T4, T9, T29, frac34]; rfl); (case hargs => rfl); (case hs => exact Fraction_sc 3 4 _ (by unfold I64; omega) (by unfold I64; omega)))
    | fail)
  with_reducible apply W.runN 2
  case h => simp [T3, T9, frac34]; exact ⟨rfl, rfl⟩
  refine W.list (by simp only [List.drop_succ_cons, List.drop_zero]; rfl) ?_
  refine W.makeL (t := 22) (e := 3) (x := .const (.int .i64 12)) (y := .const (.int .i64 12)) (k1 := .i64) (k2 := .i64) (n := 12) rfl (by simp) rfl rfl rfl T22 rfl T3 rfl rfl (by decide) (by decide) ?_
  repeat' (first
    | with_reducible refine W.seq ?_
    | with_reducible refine W.next ?_
    | with_reducible refine W.nil ?_
    | with_reducible refine W.skip ?_
    | with_reducible refine W.ret ?_
    | with_reducible refine W.ret_code ?_
    | with_reducible refine W.block ?_
    | with_reducible refine W.out ?_
    | with_reducible refine W.ret_blk ?_
    | with_reducible refine W.exit ?_
    | with_reducible refine W.exit_code ?_
    | with_reducible refine W.exit_here ?_
    | with_reducible refine W.leave_exit ?_
    | with_reducible refine W.leave_ret ?_
    | ((with_reducible refine W.exit_on ?h ?_); (case h => decide))
    | ((with_reducible apply W.reg); (case h => simp [T3, T4, T22, T24, h12]; exact ⟨rfl, rfl, rfl⟩))
    | ((with_reducible apply W.draw (hm := mixed)); (case hnd => kernel_rfl); (case hno => exact fun _ _ h => h); (case hB => kernel_rfl); (case hr => simp [T3, T4, T22, T24, h12]; rfl))
    | ((with_reducible apply W.cond); (case hc => simp; rfl); all_goals (intro hc_; try (cases hc_; done)))
    | ((with_reducible apply W.runX); (case _hc => rfl); (case h => simp [T3, T4, T22, T24, h12]; exact ⟨rfl, rfl, rfl⟩))
    | ((with_reducible apply W.call1 go5); (case ho => rfl); (case hc => rfl); (case hf => rfl); (case hg => first | rfl | simp [T3, T4, T22, T24, h12]); (case hd => rfl); (case ha => simp [T3, T4, T22, T24, h12]; rfl); (case hargs => rfl); (case hs => exact Map_sc (List.replicate 12 0) _ (fun x hx => by rw [List.mem_replicate] at hx; unfold I64; omega) (by simp)))
    | fail)
  with_reducible apply W.fin
  case h1 => simp <;> rfl
  case h2 => exact Wk.rfl
  case h3 => simp
  case h4 => exact hσ.clB
  exact ⟨by simp, by simp⟩


end Go.Proofs.YtbnapbegomemeaaDoor

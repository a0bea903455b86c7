/- Division, fractions, and slices.Chunk. -/
import Derived.Test.YtbnapbegomemeaaDoorU3
import Derived.Test.YtbnapbegomemeaaDoorSwM
import Derived.Test.YtbnapbegomemeaaDoorSwP
import Derived.Test.YtbnapbegomemeaaDoorSwT
import Derived.Lib.ItoaLen
import Derived.IntWalk
namespace Go.Proofs.YtbnapbegomemeaaDoor
open Go.Sw
set_option linter.unusedSimpArgs false
set_option linter.unusedVariables false
attribute [local simp] evu unp appStr appendS isZ8 Cl_pt runOps stepOp pureOp gd isCall inN setd Sw.get params ev evs binV unV convV loadA cellsPV oneB storeA fieldAddrA fieldOff fieldA partA aggOf extractA indexAddrA indexA lenA minmaxA sliceA bnd partsA buildA placesA fillA buildSliceA zerosA chunkA TyD.agg Value.oneCell' Value.cells runPure appA appendA okRow_nil okRow_cons okRow_append resultA ressA resA List.getElem?_append List.set_append Cl_any Cl_val Cl_ptr Cl_agg Cl_tup Cl_fn Cl_rop Cl_sl Sw.take_set Sw.take_set_app Sw.take_app

/-- Rounded down. -/
def dvF (n : Int) : Int := n.tdiv 256 - (if n.tmod 256 < 0 then 1 else 0)
theorem t256 (n : Int) : 256 * n.tdiv 256 + n.tmod 256 = n ∧ -256 < n.tmod 256 ∧ n.tmod 256 < 256 :=
  ⟨Int.mul_tdiv_add_tmod n 256, Int.lt_tmod_of_pos n (by omega), Int.tmod_lt_of_pos n (by omega)⟩
theorem dvF_I64 {n : Int} (h : I64 n) : I64 (dvF n) := by
  have := t256 n
  unfold dvF I64 at *
  split <;> omega
theorem divided_sc (n : Int) (σ : AS) (h : I64 n) : SC1 Cc 10 [i64 n, i64 256] σ (i64 (dvF n)) σ := by
  have hd : I64 (dvF n) := dvF_I64 h
  have h3 := t256 n
  have w1 : IntKind.i64.wrap (n.tdiv 256) = n.tdiv 256 := wrap64 (by unfold I64 at h; omega)
  refine W.body Tryd.func10 rfl 16 Tryd.ntmps10 _ Tryd.results10 (by simp) Cc_dl GEt_cl fun hσ => ?_
  by_cases h0 : n.tmod 256 < 0
  · have w2 : IntKind.i64.wrap (n.tdiv 256 - 1) = n.tdiv 256 - 1 := wrap64 (by unfold I64 at h; omega)
    repeat' (first
      | with_reducible refine W.seq ?_
      | with_reducible refine W.next ?_
      | with_reducible refine W.nil ?_
      | with_reducible refine W.skip ?_
      | with_reducible refine W.ret ?_
      | with_reducible refine W.ret_code ?_
      | with_reducible refine W.block ?_
      | with_reducible refine W.out ?_
      | with_reducible refine W.ret_blk ?_
      | with_reducible refine W.exit ?_
      | with_reducible refine W.exit_code ?_
      | with_reducible refine W.exit_here ?_
      | with_reducible refine W.leave_exit ?_
      | with_reducible refine W.leave_ret ?_
      | ((with_reducible refine W.exit_on ?h ?_); (case h => decide))
      | ((with_reducible apply W.reg); (case h => simp [T3, T4, h0, w1, w2]; exact ⟨rfl, rfl, rfl⟩))
      | ((with_reducible apply W.draw (hm := mixed)); (case hnd => kernel_rfl); (case hno => exact fun _ _ h => h); (case hB => kernel_rfl); (case hr => simp [T3, T4, h0, w1, w2]; rfl))
      | ((with_reducible apply W.cond); (case hc => simp; rfl); all_goals (intro hc_; try (cases hc_; done)))
      | ((with_reducible apply W.runX); (case _hc => rfl); (case h => simp [T3, T4, h0, w1, w2]; exact ⟨rfl, rfl, rfl⟩))
      | fail)
    with_reducible apply W.fin
    case h1 => simp <;> rfl
    case h2 => exact Wk.rfl
    case h3 => simp
    case h4 => exact hσ.clB
    exact ⟨by simp [dvF, h0], by simp⟩
  · repeat' (first
      | with_reducible refine W.seq ?_
      | with_reducible refine W.next ?_
      | with_reducible refine W.nil ?_
      | with_reducible refine W.skip ?_
      | with_reducible refine W.ret ?_
      | with_reducible refine W.ret_code ?_
      | with_reducible refine W.block ?_
      | with_reducible refine W.out ?_
      | with_reducible refine W.ret_blk ?_
      | with_reducible refine W.exit ?_
      | with_reducible refine W.exit_code ?_
      | with_reducible refine W.exit_here ?_
      | with_reducible refine W.leave_exit ?_
      | with_reducible refine W.leave_ret ?_
      | ((with_reducible refine W.exit_on ?h ?_); (case h => decide))
      | ((with_reducible apply W.reg); (case h => simp [T3, T4, h0, w1]; exact ⟨rfl, rfl, rfl⟩))
      | ((with_reducible apply W.draw (hm := mixed)); (case hnd => kernel_rfl); (case hno => exact fun _ _ h => h); (case hB => kernel_rfl); (case hr => simp [T3, T4, h0, w1]; rfl))
      | ((with_reducible apply W.cond); (case hc => simp; rfl); all_goals (intro hc_; try (cases hc_; done)))
      | ((with_reducible apply W.runX); (case _hc => rfl); (case h => simp [T3, T4, h0, w1]; exact ⟨rfl, rfl, rfl⟩))
      | fail)
    with_reducible apply W.fin
    case h1 => simp <;> rfl
    case h2 => exact Wk.rfl
    case h3 => simp
    case h4 => exact hσ.clB
    exact ⟨by simp [dvF, h0], by simp⟩

/-- The text of a fraction. -/
def fracF (n d : Int) : List UInt8 := if d = 1 then Lib.itoa n else Lib.itoa n ++ [47] ++ Lib.itoa d
theorem str_app (a b : List UInt8) : (ByteArray.mk a.toArray) ++ (ByteArray.mk b.toArray) = ByteArray.mk (a ++ b).toArray := by
  apply ByteArray.ext
  rw [ByteArray.data_append]
  simp
theorem str_size (a : List UInt8) : (ByteArray.mk a.toArray).size = a.length := rfl
theorem itoa_len (n : Int) (h : I64 n) : (Lib.itoa n).length ≤ 21 := Lib.itoa_length_le n h.1 h.2
theorem Fraction_sc (n d : Int) (σ : AS) (hn : I64 n) (hd : I64 d) : SC1 Cc 6 [.agg [i64 n, i64 d]] σ (strV (fracF n d)) σ := by
  refine W.body Tryd.func6 rfl 17 Tryd.ntmps6 _ Tryd.results6 (by simp) Cc_dl GEt_cl fun hσ => ?_
  by_cases h0 : d = 1
  · repeat' (first
      | with_reducible refine W.seq ?_
      | with_reducible refine W.next ?_
      | with_reducible refine W.nil ?_
      | with_reducible refine W.skip ?_
      | with_reducible refine W.ret ?_
      | with_reducible refine W.ret_code ?_
      | with_reducible refine W.block ?_
      | with_reducible refine W.out ?_
      | with_reducible refine W.ret_blk ?_
      | with_reducible refine W.exit ?_
      | with_reducible refine W.exit_code ?_
      | with_reducible refine W.exit_here ?_
      | with_reducible refine W.leave_exit ?_
      | with_reducible refine W.leave_ret ?_
      | ((with_reducible refine W.exit_on ?h ?_); (case h => decide))
      | ((with_reducible apply W.reg); (case h => simp [T3, T4, T9, T29, h0]; exact ⟨rfl, rfl, rfl⟩))
      | ((with_reducible apply W.draw (hm := mixed)); (case hnd => kernel_rfl); (case hno => exact fun _ _ h => h); (case hB => kernel_rfl); (case hr => simp [T3, T4, T9, T29, h0]; rfl))
      | ((with_reducible apply W.cond); (case hc => simp; rfl); all_goals (intro hc_; try (cases hc_; done)))
      | ((with_reducible apply W.runX); (case _hc => rfl); (case h => simp [T3, T4, T9, T29, h0]; exact ⟨rfl, rfl, rfl⟩))
      | ((with_reducible apply W.call1 go9); (case ho => rfl); (case hc => rfl); (case hf => rfl); (case hg => first | rfl | simp [T3, T4, T9, T29, h0]); (case hd => rfl); (case ha => simp [T3, T4, T9, T29, h0]; rfl); (case hargs => rfl); (case hs => exact Itoa_sc n _ hn))
      | fail)
    with_reducible apply W.fin
    case h1 => simp <;> rfl
    case h2 => exact Wk.rfl
    case h3 => simp
    case h4 => exact hσ.clB.app (Nat.le_refl _)
    exact ⟨by simp [fracF, h0], by simp⟩
  · have h0b : (d == 1) = false := by simpa using h0
    have l1 := itoa_len n hn
    have l2 := itoa_len d hd
    have c1 : (Lib.itoa n).length + 1 ≤ 9223372036854775807 := by omega
    have c2 : (Lib.itoa n).length + 1 + (Lib.itoa d).length ≤ 9223372036854775807 := by omega
    have s1 : (ByteArray.mk #[47]).size = 1 := rfl
    have e1 : (ByteArray.mk #[47]) = ByteArray.mk [47].toArray := rfl
    repeat' (first
      | with_reducible refine W.seq ?_
      | with_reducible refine W.next ?_
      | with_reducible refine W.nil ?_
      | with_reducible refine W.skip ?_
      | with_reducible refine W.ret ?_
      | with_reducible refine W.ret_code ?_
      | with_reducible refine W.block ?_
      | with_reducible refine W.out ?_
      | with_reducible refine W.ret_blk ?_
      | with_reducible refine W.exit ?_
      | with_reducible refine W.exit_code ?_
      | with_reducible refine W.exit_here ?_
      | with_reducible refine W.leave_exit ?_
      | with_reducible refine W.leave_ret ?_
      | ((with_reducible refine W.exit_on ?h ?_); (case h => decide))
      | ((with_reducible apply W.reg); (case h => simp [T3, T4, T9, T29, h0b]; exact ⟨rfl, rfl, rfl⟩))
      | ((with_reducible apply W.draw (hm := mixed)); (case hnd => kernel_rfl); (case hno => exact fun _ _ h => h); (case hB => kernel_rfl); (case hr => simp [T3, T4, T9, T29, h0b]; rfl))
      | ((with_reducible apply W.cond); (case hc => simp; rfl); all_goals (intro hc_; try (cases hc_; done)))
      | ((with_reducible apply W.runX); (case _hc => rfl); (case h => simp [T3, T4, T9, T29, h0b]; exact ⟨rfl, rfl, rfl⟩))
      | fail)
    with_reducible apply W.held0 (hm := mixed) (n := 9) (T := [0, 1, 3, 4, 5, 7, 8])
    case hnd => kernel_rfl
    case hno => exact fun _ _ h => h
    case hn => rfl
    with_reducible apply SH.takes [0, 1, 4, 5] 5
    case hfu => rfl
    case hs => kernel_rfl
    case hB => kernel_rfl
    case hQ => first | exact fun _ _ _ h => h | exact fun _ _ _ h => hNP _ _ _ h
    case hs0 => exact Sub0.rfl
    case hr => simp [T3, T9, T29, str_size, s1, c1, c2, e1, str_app, runTakes, takeOp, effA, effOp, down, down1, hideB, keep]; exact ⟨rfl, rfl⟩
    with_reducible apply SH.one 2
    case hr => kernel_rfl
    with_reducible apply SHo.callX go9
    case hi => rfl
    case ho => rfl
    case hc => rfl
    case hf => rfl
    case hg => first | rfl | simp [T3, T9, T29, str_size, s1, c1, c2, e1, str_app, runTakes, takeOp, effA, effOp, down, down1, hideB, keep]
    case hd => rfl
    case ha => simp [T3, T9, T29, str_size, s1, c1, c2, e1, str_app, runTakes, takeOp, effA, effOp, down, down1, hideB, keep]; rfl
    case hargs => rfl
    case hs => exact FSC.quiet fun σs => Itoa_sc n σs hn
    rintro _ _ ⟨rfl, rfl⟩
    with_reducible apply SH.takes [3] 3
    case hfu => rfl
    case hs => kernel_rfl
    case hB => kernel_rfl
    case hQ => first | exact fun _ _ _ h => h | exact fun _ _ _ h => hNP _ _ _ h
    case hs0 => exact Sub0.rfl
    case hr => simp [T3, T9, T29, str_size, s1, c1, c2, e1, str_app, runTakes, takeOp, effA, effOp, down, down1, hideB, keep]; exact ⟨rfl, rfl⟩
    with_reducible apply SH.one 6
    case hr => kernel_rfl
    with_reducible apply SHo.callX go9
    case hi => rfl
    case ho => rfl
    case hc => rfl
    case hf => rfl
    case hg => first | rfl | simp [T3, T9, T29, str_size, s1, c1, c2, e1, str_app, runTakes, takeOp, effA, effOp, down, down1, hideB, keep]
    case hd => rfl
    case ha => simp [T3, T9, T29, str_size, s1, c1, c2, e1, str_app, runTakes, takeOp, effA, effOp, down, down1, hideB, keep]; rfl
    case hargs => rfl
    case hs => exact FSC.quiet fun σs => Itoa_sc d σs hd
    rintro _ _ ⟨rfl, rfl⟩
    with_reducible apply SH.takes [7, 8] 0
    case hfu => rfl
    case hs => kernel_rfl
    case hB => kernel_rfl
    case hQ => first | exact fun _ _ _ h => h | exact fun _ _ _ h => hNP _ _ _ h
    case hs0 => exact Sub0.rfl
    case hr => simp [T3, T9, T29, str_size, s1, c1, c2, e1, str_app, runTakes, takeOp, effA, effOp, down, down1, hideB, keep]; exact ⟨rfl, rfl⟩
    refine SH.done (by kernel_rfl) ?_
    repeat' (first
      | with_reducible refine W.seq ?_
      | with_reducible refine W.next ?_
      | with_reducible refine W.nil ?_
      | with_reducible refine W.skip ?_
      | with_reducible refine W.ret ?_
      | with_reducible refine W.ret_code ?_
      | with_reducible refine W.block ?_
      | with_reducible refine W.out ?_
      | with_reducible refine W.ret_blk ?_
      | with_reducible refine W.exit ?_
      | with_reducible refine W.exit_code ?_
      | with_reducible refine W.exit_here ?_
      | with_reducible refine W.leave_exit ?_
      | with_reducible refine W.leave_ret ?_
      | ((with_reducible refine W.exit_on ?h ?_); (case h => decide))
      | ((with_reducible apply W.reg); (case h => simp [T3, T4, T9, T29, h0]; exact ⟨rfl, rfl, rfl⟩))
      | ((with_reducible apply W.draw (hm := mixed)); (case hnd => kernel_rfl); (case hno => exact fun _ _ h => h); (case hB => kernel_rfl); (case hr => simp [T3, T4, T9, T29, h0]; rfl))
      | ((with_reducible apply W.cond); (case hc => simp; rfl); all_goals (intro hc_; try (cases hc_; done)))
      | ((with_reducible apply W.runX); (case _hc => rfl); (case h => simp [T3, T4, T9, T29, h0]; exact ⟨rfl, rfl, rfl⟩))
      | fail)
    with_reducible apply W.fin
    case h1 => simp <;> rfl
    case h2 => exact Wk.rfl
    case h3 => simp
    case h4 => exact hσ.clB.app (Nat.le_refl _)
    exact ⟨by simp [fracF, h0], by simp⟩

/-- slices.Chunk: a closure over the slice and the size. -/
theorem Chunk_sc (xs : List (List PV)) (σ : AS) (hx : ∀ x ∈ xs, ∀ p ∈ x, Cl σ.bx.length σ.tk.length p) : SC1 Cc 7 [.sl none xs, i64 10] σ (.fn 12 [.ptr σ.bx.length 0, .ptr (σ.bx.length + 1) 0]) ⟨σ.bx ++ [[.sl none xs], [i64 10]], σ.tk⟩ := by
  refine W.body Tryd.func7 rfl 9 Tryd.ntmps7 _ Tryd.results7 (by simp) Cc_dl GEt_cl fun hσ => ?_
  repeat' (first
    | with_reducible refine W.seq ?_
    | with_reducible refine W.next ?_
    | with_reducible refine W.nil ?_
    | with_reducible refine W.skip ?_
    | with_reducible refine W.ret ?_
    | with_reducible refine W.ret_code ?_
    | with_reducible refine W.block ?_
    | with_reducible refine W.out ?_
    | with_reducible refine W.ret_blk ?_
    | with_reducible refine W.exit ?_
    | with_reducible refine W.exit_code ?_
    | with_reducible refine W.exit_here ?_
    | with_reducible refine W.leave_exit ?_
    | with_reducible refine W.leave_ret ?_
    | ((with_reducible refine W.exit_on ?h ?_); (case h => decide))
    | ((with_reducible apply W.reg); (case h => simp [T3, T4, T22]; exact ⟨rfl, rfl, rfl⟩))
    | ((with_reducible apply W.draw (hm := mixed)); (case hnd => kernel_rfl); (case hno => exact fun _ _ h => h); (case hB => kernel_rfl); (case hr => simp [T3, T4, T22]; rfl))
    | ((with_reducible apply W.cond); (case hc => simp; rfl); all_goals (intro hc_; try (cases hc_; done)))
    | ((with_reducible apply W.runX); (case _hc => rfl); (case h => simp [T3, T4, T22]; exact ⟨rfl, rfl, rfl⟩))
    | fail)
  with_reducible apply W.finK (σ.bx.length + 2) σ.tk.length
  case h1 => simp <;> rfl
  case h2 => exact Wk.rfl
  case hn => omega
  case hm => exact Nat.le_refl _
  case h3 => simp
  case h4 => exact hσ.clBs (r := [[.sl none xs], [i64 10]]) _ rfl (by
    intro x hx' p hp
    simp at hx'
    rcases hx' with rfl | rfl
    · rw [List.mem_singleton] at hp; subst hp
      have hc : Cl (σ.bx.length + 2) σ.tk.length (.sl none xs) := (Cl_sl ..).2 ⟨fun t h => (by cases h), fun x hx2 p hp => (hx x hx2 p hp).le (Nat.le_add_right _ _) (Nat.le_refl _)⟩
      exact hc
    · simp at hp; subst hp; exact .val _)
  exact ⟨rfl, by simp [List.take_of_length_le]⟩


end Go.Proofs.YtbnapbegomemeaaDoor

/- The builder's and the writer's methods as contracts of the logic Sw. -/
import Derived.Test.YtbnapbegomemeaaDoorU1
import Derived.Test.YtbnapbegomemeaaDoorSwN
import Derived.Test.YtbnapbegomemeaaDoorSwO
import Derived.Test.YtbnapbegomemeaaDoorSwJ
import Derived.IntWalk
namespace Go.Proofs.YtbnapbegomemeaaDoor
open Go.Sw
set_option linter.unusedSimpArgs false
set_option linter.unusedVariables false
attribute [local simp] evu unp appStr appendS isZ8 Cl_pt runOps stepOp pureOp gd isCall inN setd Sw.get params ev evs binV unV convV loadA cellsPV oneB storeA fieldAddrA fieldOff fieldA partA aggOf extractA indexAddrA indexA lenA minmaxA sliceA bnd partsA buildA placesA fillA buildSliceA zerosA chunkA TyD.agg Value.oneCell' Value.cells runPure appA appendA okRow_nil okRow_cons okRow_append resultA ressA resA List.getElem?_append List.set_append Cl_any Cl_val Cl_ptr Cl_agg Cl_tup Cl_fn Cl_rop Cl_sl Sw.take_set Sw.take_set_app Sw.take_app

@[local simp] theorem bytesR_len' (l : List UInt8) : (bytesR l).length = l.length := bytesR_length l
@[local simp] theorem okRow_b (l : List UInt8) : okRow 1 (bytesR l) = true := okRow_bytesR l
theorem wrap64 {n : Int} (h : -9223372036854775808 ≤ n ∧ n ≤ 9223372036854775807) : IntKind.i64.wrap n = n := by
  have := IntWalk.i64_in n h; exact this
theorem bytesR_one (c : UInt8) : bytesR [c] = [[.val (.int .u8 c.toNat)]] := rfl
theorem cl_bytes (n m : Nat) (l : List UInt8) : ∀ x ∈ bytesR l, ∀ p ∈ x, Cl n m p := by
  intro x hx p hp
  obtain ⟨b, _, rfl⟩ := List.mem_map.1 hx
  simp at hp; subst hp; exact .val _
theorem cl_bld {n m i t : Nat} (hi : i < n) (ht : t < m) (l : List UInt8) : ∀ p ∈ [PV.ptr i 0, .sl (some t) (bytesR l)], Cl n m p := by
  intro p hp
  simp at hp
  rcases hp with rfl | rfl
  · exact .ptr _ _ hi
  · exact (Cl_sl ..).2 ⟨fun t' e => by cases e; exact ht, cl_bytes _ _ _⟩

theorem Len_sc (l : List UInt8) (i t : Nat) (p0 : PV) (σ : AS) (hq : σ.bx[i]? = some [p0, .sl (some t) (bytesR l)]) : SC1 Cc 13 [.ptr i 0] σ (i64 l.length) σ := by
  refine W.body Tryd.func13 rfl 8 Tryd.ntmps13 _ Tryd.results13 (by simp) Cc_dl GEt_cl fun hσ => ?_
  repeat' (first
    | with_reducible refine W.seq ?_
    | with_reducible refine W.next ?_
    | with_reducible refine W.nil ?_
    | with_reducible refine W.skip ?_
    | with_reducible refine W.ret ?_
    | with_reducible refine W.ret_code ?_
    | with_reducible refine W.block ?_
    | with_reducible refine W.out ?_
    | with_reducible refine W.ret_blk ?_
    | with_reducible refine W.exit ?_
    | with_reducible refine W.exit_code ?_
    | with_reducible refine W.exit_here ?_
    | with_reducible refine W.leave_exit ?_
    | with_reducible refine W.leave_ret ?_
    | ((with_reducible refine W.exit_on ?h ?_); (case h => decide))
    | ((with_reducible apply W.reg); (case h => simp [T3, T35, T37, hq]; exact ⟨rfl, rfl, rfl⟩))
    | ((with_reducible apply W.draw (hm := mixed)); (case hnd => rfl); (case hno => exact fun _ _ h => h); (case hB => kernel_rfl); (case hr => simp [T3, T35, T37, hq]; rfl))
    | ((with_reducible apply W.cond); (case hc => simp; rfl); all_goals (intro hc_; try (cases hc_; done)))
    | ((with_reducible apply W.runX); (case _hc => rfl); (case h => simp [T3, T35, T37, hq]; exact ⟨rfl, rfl, rfl⟩))
    | fail)
  with_reducible apply W.fin
  case h1 => simp <;> rfl
  case h2 => exact Wk.rfl
  case h3 => simp
  case h4 => exact hσ.clB
  exact ⟨by simp, by simp⟩

theorem WriteByte_sc (l : List UInt8) (c : UInt8) (T : TypeId) (i t : Nat) (p0 : PV) (σ : AS) (hT : liesAt Tryd.prog Tryd.prog.depth T (2 / Tryd.prog.cellsOf T) 0 37 1 = true) (hp : p0 = .val (.pointer none) ∨ p0 = .ptr i 0)
    (hq : σ.bx[i]? = some [p0, .sl (some t) (bytesR l)]) (ht : σ.tk[t]? = some (5, l.length)) (hl : l.length + 1 ≤ 140737488355328) :
    SC1 Cc 14 [.pt T 2 i 0, .val (.int .u8 c.toNat)] σ (.val .nilIface) ⟨σ.bx.set i [.ptr i 0, .sl (some t) (bytesR (l ++ [c]))], σ.tk.set t (5, l.length + 1)⟩ := by
  have hi := (List.getElem?_eq_some_iff.1 hq).1
  have htl := (List.getElem?_eq_some_iff.1 ht).1
  refine W.body Tryd.func14 rfl 17 Tryd.ntmps14 _ Tryd.results14 (by simp) Cc_dl GEt_cl fun hσ => ?_
  repeat' (first
    | with_reducible refine W.seq ?_
    | with_reducible refine W.next ?_
    | with_reducible refine W.nil ?_
    | with_reducible refine W.skip ?_
    | with_reducible refine W.ret ?_
    | with_reducible refine W.ret_code ?_
    | with_reducible refine W.block ?_
    | with_reducible refine W.out ?_
    | with_reducible refine W.ret_blk ?_
    | with_reducible refine W.exit ?_
    | with_reducible refine W.exit_code ?_
    | with_reducible refine W.exit_here ?_
    | with_reducible refine W.leave_exit ?_
    | with_reducible refine W.leave_ret ?_
    | ((with_reducible refine W.exit_on ?h ?_); (case h => decide))
    | ((with_reducible apply W.reg); (case h => simp [T3, T5, T34, T35, T37, hq, hi, ht, hl]; exact ⟨rfl, rfl, rfl⟩))
    | ((with_reducible apply W.draw (hm := mixed)); (case hnd => rfl); (case hno => exact fun _ _ h => h); (case hB => kernel_rfl); (case hr => simp [T3, T5, T34, T35, T37, hq, hi, ht, hl]; rfl))
    | ((with_reducible apply W.cond); (case hc => simp; rfl); all_goals (intro hc_; try (cases hc_; done)))
    | ((with_reducible apply W.runX); (case _hc => rfl); (case h => simp [T3, T5, T34, T35, T37, hq, hi, ht, hl]; exact ⟨rfl, rfl, rfl⟩))
    | ((with_reducible apply W.call1 go17); (case ho => rfl); (case hc => rfl); (case hf => rfl); (case hg => first | rfl | simp [T3, T5, T34, T35, T37, hq, hi, ht, hl]); (case hd => rfl); (case ha => simp [T3, T5, T34, T35, T37, hq, hi, ht, hl]; rfl); (case hargs => rfl); (case hs => exact copyCheck_sc T i p0 _ σ hT hq hp))
    | fail)
  with_reducible apply W.fin
  case h1 => simp <;> rfl
  case h2 => exact Wk.rfl
  case h3 => simp
  case h4 => exact fun j ps hj hp => (hσ.clB.set (b := i) (cl_bld hi htl (l ++ [c]))) j ps hj (by simpa [bytesR_append, bytesR_one] using hp)
  exact ⟨rfl, by simp [bytesR_append]; rfl⟩

theorem WriteString_sc (l m : List UInt8) (T : TypeId) (i t : Nat) (p0 : PV) (σ : AS) (hT : liesAt Tryd.prog Tryd.prog.depth T (2 / Tryd.prog.cellsOf T) 0 37 1 = true) (hp : p0 = .val (.pointer none) ∨ p0 = .ptr i 0)
    (hq : σ.bx[i]? = some [p0, .sl (some t) (bytesR l)]) (ht : σ.tk[t]? = some (5, l.length)) (hl : l.length + m.length ≤ 140737488355328) :
    SC1 Cc 15 [.pt T 2 i 0, strV m] σ (.tup [i64 m.length, .val .nilIface]) ⟨σ.bx.set i [.ptr i 0, .sl (some t) (bytesR (l ++ m))], σ.tk.set t (5, l.length + m.length)⟩ := by
  have hi := (List.getElem?_eq_some_iff.1 hq).1
  have htl := (List.getElem?_eq_some_iff.1 ht).1
  have hsz : (ByteArray.mk m.toArray).size = m.length := rfl
  refine W.body Tryd.func15 rfl 19 Tryd.ntmps15 _ Tryd.results15 (by simp) Cc_dl GEt_cl fun hσ => ?_
  repeat' (first
    | with_reducible refine W.seq ?_
    | with_reducible refine W.next ?_
    | with_reducible refine W.nil ?_
    | with_reducible refine W.skip ?_
    | with_reducible refine W.ret ?_
    | with_reducible refine W.ret_code ?_
    | with_reducible refine W.block ?_
    | with_reducible refine W.out ?_
    | with_reducible refine W.ret_blk ?_
    | with_reducible refine W.exit ?_
    | with_reducible refine W.exit_code ?_
    | with_reducible refine W.exit_here ?_
    | with_reducible refine W.leave_exit ?_
    | with_reducible refine W.leave_ret ?_
    | ((with_reducible refine W.exit_on ?h ?_); (case h => decide))
    | ((with_reducible apply W.reg); (case h => simp [T3, T5, T9, T34, T35, T37, hq, hi, ht, hl, hsz]; exact ⟨rfl, rfl, rfl⟩))
    | ((with_reducible apply W.draw (hm := mixed)); (case hnd => rfl); (case hno => exact fun _ _ h => h); (case hB => kernel_rfl); (case hr => simp [T3, T5, T9, T34, T35, T37, hq, hi, ht, hl, hsz]; rfl))
    | ((with_reducible apply W.cond); (case hc => simp; rfl); all_goals (intro hc_; try (cases hc_; done)))
    | ((with_reducible apply W.runX); (case _hc => rfl); (case h => simp [T3, T5, T9, T34, T35, T37, hq, hi, ht, hl, hsz]; exact ⟨rfl, rfl, rfl⟩))
    | ((with_reducible apply W.call1 go17); (case ho => rfl); (case hc => rfl); (case hf => rfl); (case hg => first | rfl | simp [T3, T5, T9, T34, T35, T37, hq, hi, ht, hl, hsz]); (case hd => rfl); (case ha => simp [T3, T5, T9, T34, T35, T37, hq, hi, ht, hl, hsz]; rfl); (case hargs => rfl); (case hs => exact copyCheck_sc T i p0 _ σ hT hq hp))
    | fail)
  with_reducible apply W.fin
  case h1 => simp <;> rfl
  case h2 => exact Wk.rfl
  case h3 => simp
  case h4 => exact fun j ps hj hp => (hσ.clB.set (b := i) (cl_bld hi htl (l ++ m))) j ps hj (by simpa [bytesR_append] using hp)
  exact ⟨by simp [hsz], by simp [bytesR_append]⟩


end Go.Proofs.YtbnapbegomemeaaDoor

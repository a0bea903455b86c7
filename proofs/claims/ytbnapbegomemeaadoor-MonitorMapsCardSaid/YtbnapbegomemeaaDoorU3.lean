/- words: words with single blanks between them. -/
import Derived.Test.YtbnapbegomemeaaDoorU2
import Derived.IntWalk
namespace Go.Proofs.YtbnapbegomemeaaDoor
open Go.Sw
set_option linter.unusedSimpArgs false
set_option linter.unusedVariables false
attribute [local simp] evu unp appStr appendS isZ8 Cl_pt runOps stepOp pureOp gd isCall inN setd Sw.get params ev evs binV unV convV loadA cellsPV oneB storeA fieldAddrA fieldOff fieldA partA aggOf extractA indexAddrA indexA lenA minmaxA sliceA bnd partsA buildA placesA fillA buildSliceA zerosA chunkA TyD.agg Value.oneCell' Value.cells runPure appA appendA okRow_nil okRow_cons okRow_append resultA ressA resA List.getElem?_append List.set_append Cl_any Cl_val Cl_ptr Cl_agg Cl_tup Cl_fn Cl_rop Cl_sl Sw.take_set Sw.take_set_app Sw.take_app

def strR (ss : List (List UInt8)) : List (List PV) := ss.map fun s => [strV s]
theorem strR_length (ss : List (List UInt8)) : (strR ss).length = ss.length := List.length_map _
theorem strR_at {ss : List (List UInt8)} {k : Nat} {s : List UInt8} (h : ss[k]? = some s) : (strR ss)[k]? = some [strV s] := by
  unfold strR; rw [List.getElem?_map, h]; rfl
attribute [local simp] strR_length
/-- One word more. -/
def word1 (acc s : List UInt8) : List UInt8 := (if acc.length = 0 then acc else acc ++ [32]) ++ s
/-- Words, with single blanks between them. -/
def wordsF (acc : List UInt8) (ss : List (List UInt8)) : List UInt8 := ss.foldl word1 acc
theorem wordsF_take {acc : List UInt8} {ss : List (List UInt8)} {k : Nat} {s : List UInt8} (h : ss[k]? = some s) : wordsF acc (ss.take (k + 1)) = word1 (wordsF acc (ss.take k)) s := by
  obtain ⟨hk, rfl⟩ := List.getElem?_eq_some_iff.1 h
  unfold wordsF
  rw [← List.take_append_getElem hk, List.foldl_append]
  rfl
theorem word1_len (acc s : List UInt8) : (word1 acc s).length ≤ acc.length + s.length + 1 := by
  unfold word1; split <;> simp <;> omega
theorem wordsF_len (ss : List (List UInt8)) : ∀ acc : List UInt8, (wordsF acc ss).length ≤ acc.length + (ss.map fun s => s.length + 1).sum := by
  induction ss with
  | nil => intro acc; exact Nat.le_refl _
  | cons s r ih =>
    intro acc
    have h1 := ih (word1 acc s)
    have h2 := word1_len acc s
    have : wordsF acc (s :: r) = wordsF (word1 acc s) r := rfl
    rw [this]
    simp only [List.map_cons, List.sum_cons]
    omega
theorem sum_take_le (f : List UInt8 → Nat) (ss : List (List UInt8)) {k : Nat} {s : List UInt8} (h : ss[k]? = some s) : ((ss.take k).map f).sum + f s ≤ (ss.map f).sum := by
  obtain ⟨hk, rfl⟩ := List.getElem?_eq_some_iff.1 h
  have : ss = ss.take k ++ ss[k] :: ss.drop (k + 1) := by simp
  conv => rhs; rw [this]
  simp only [List.map_append, List.map_cons, List.sum_append, List.sum_cons]
  omega

theorem words_sc (acc : List UInt8) (ss : List (List UInt8)) (own : Option Nat) (i t : Nat) (p0 : PV) (σ : AS) (hp0 : p0 = .val (.pointer none) ∨ p0 = .ptr i 0)
    (hq : σ.bx[i]? = some [p0, .sl (some t) (bytesR acc)]) (ht : σ.tk[t]? = some (5, acc.length)) (hn : ss.length ≤ 1000000) (hl : acc.length + (ss.map fun s => s.length + 1).sum ≤ 140737488355328) :
    SC1 Cc 8 [.pt 39 2 i 0, .sl own (strR ss)] σ (.pt 39 2 i 0) ⟨σ.bx.set i [if ss.length = 0 then p0 else .ptr i 0, .sl (some t) (bytesR (wordsF acc ss))], σ.tk.set t (5, (wordsF acc ss).length)⟩ := by
  have hi := (List.getElem?_eq_some_iff.1 hq).1
  have htl := (List.getElem?_eq_some_iff.1 ht).1
  refine W.body Tryd.func8 rfl 29 Tryd.ntmps8 _ Tryd.results8 (by simp) Cc_dl GEt_cl fun hσ => ?_
  repeat' (first
    | with_reducible refine W.seq ?_
    | with_reducible refine W.next ?_
    | with_reducible refine W.nil ?_
    | with_reducible refine W.skip ?_
    | with_reducible refine W.ret ?_
    | with_reducible refine W.ret_code ?_
    | with_reducible refine W.block ?_
    | with_reducible refine W.out ?_
    | with_reducible refine W.ret_blk ?_
    | with_reducible refine W.exit ?_
    | with_reducible refine W.exit_code ?_
    | with_reducible refine W.exit_here ?_
    | with_reducible refine W.leave_exit ?_
    | with_reducible refine W.leave_ret ?_
    | ((with_reducible refine W.exit_on ?h ?_); (case h => decide))
    | ((with_reducible apply W.reg); (case h => simp [T3, T9, T24, T33, T37, T39]; exact ⟨rfl, rfl, rfl⟩))
    | ((with_reducible apply W.draw (hm := mixed)); (case hnd => rfl); (case hno => exact fun _ _ h => h); (case hB => kernel_rfl); (case hr => simp [T3, T9, T24, T33, T37, T39]; rfl))
    | ((with_reducible apply W.cond); (case hc => simp; rfl); all_goals (intro hc_; try (cases hc_; done)))
    | ((with_reducible apply W.runX); (case _hc => rfl); (case h => simp [T3, T9, T24, T33, T37, T39]; exact ⟨rfl, rfl, rfl⟩))
    | fail)
  with_reducible refine W.loopS (α := Nat) (fun k => [(0, .pt 39 2 i 0), (7, .sl own (strR ss)), (8, i64 ss.length), (9, i64 k)]) (fun k => ⟨σ.bx.set i [if k = 0 then p0 else .ptr i 0, .sl (some t) (bytesR (wordsF acc (ss.take k)))], σ.tk.set t (5, (wordsF acc (ss.take k)).length)⟩) (fun k => k ≤ ss.length) (fun k => ss.length - k) 0 (Nat.zero_le _) ?_ ?_ ?_
  · repeat (first | exact Sw.Sub.nil | refine Sw.Sub.cons (by simp) ?_)
  · have e1 : wordsF acc (ss.take 0) = acc := rfl
    rw [e1, if_pos rfl, set_same hq, set_same ht]
  · intro k hk
    dsimp only
    by_cases hlt : k < ss.length
    · have hlt' : (k : Int) < ss.length := by omega
      have hwi : IntKind.i64.wrap ((k : Int) + 1) = (k : Int) + 1 := wrap64 (by omega)
      obtain ⟨s, hs⟩ : ∃ s, ss[k]? = some s := ⟨_, List.getElem?_eq_getElem hlt⟩
      have hsr := strR_at hs
      have hsr' : (strR ss)[k]'(by simpa using hlt) = [strV s] := (List.getElem?_eq_some_iff.1 hsr).2
      have hbnd := sum_take_le (fun s => s.length + 1) ss hs
      have hbnd2 := wordsF_len (ss.take k) acc
      have hstep := wordsF_take (acc := acc) hs
      obtain ⟨L, hL⟩ : ∃ L, wordsF acc (ss.take k) = L := ⟨_, rfl⟩
      rw [hL] at hbnd2 hstep ⊢
      obtain ⟨p, hpe⟩ : ∃ p, (if k = 0 then p0 else PV.ptr i 0) = p := ⟨_, rfl⟩
      have hp : p = .val (.pointer none) ∨ p = .ptr i 0 := by
        rw [← hpe]; split
        · exact hp0
        · exact .inr rfl
      rw [hpe]
      obtain ⟨σk, hσk⟩ : ∃ σk : AS, (⟨σ.bx.set i [p, .sl (some t) (bytesR L)], σ.tk.set t (5, L.length)⟩ : AS) = σk := ⟨_, rfl⟩
      have hqk : σk.bx[i]? = some [p, .sl (some t) (bytesR L)] := by rw [← hσk]; exact List.getElem?_set_self hi
      have htk : σk.tk[t]? = some (5, L.length) := by rw [← hσk]; exact List.getElem?_set_self htl
      have hik : i < σk.bx.length := (List.getElem?_eq_some_iff.1 hqk).1
      have htk' : t < σk.tk.length := (List.getElem?_eq_some_iff.1 htk).1
      rw [hσk]
      by_cases h0 : L.length = 0
      · have hb0 : L.length + s.length ≤ 140737488355328 := by omega
        repeat' (first
          | with_reducible refine W.seq ?_
          | with_reducible refine W.next ?_
          | with_reducible refine W.nil ?_
          | with_reducible refine W.skip ?_
          | with_reducible refine W.ret ?_
          | with_reducible refine W.ret_code ?_
          | with_reducible refine W.block ?_
          | with_reducible refine W.out ?_
          | with_reducible refine W.ret_blk ?_
          | with_reducible refine W.exit ?_
          | with_reducible refine W.exit_code ?_
          | with_reducible refine W.exit_here ?_
          | with_reducible refine W.leave_exit ?_
          | with_reducible refine W.leave_ret ?_
          | ((with_reducible refine W.exit_on ?h ?_); (case h => decide))
          | ((with_reducible apply W.reg); (case h => simp [T3, T5, T9, T24, T33, T37, T39, hlt', hlt, hsr, hsr', hwi, h0]; exact ⟨rfl, rfl, rfl⟩))
          | ((with_reducible apply W.draw (hm := mixed)); (case hnd => rfl); (case hno => exact fun _ _ h => h); (case hB => kernel_rfl); (case hr => simp [T3, T5, T9, T24, T33, T37, T39, hlt', hlt, hsr, hsr', hwi, h0]; rfl))
          | ((with_reducible apply W.cond); (case hc => simp; rfl); all_goals (intro hc_; try (cases hc_; done)))
          | ((with_reducible apply W.runX); (case _hc => rfl); (case h => simp [T3, T5, T9, T24, T33, T37, T39, hlt', hlt, hsr, hsr', hwi, h0]; exact ⟨rfl, rfl, rfl⟩))
          | ((with_reducible apply W.call1 go13); (case ho => rfl); (case hc => rfl); (case hf => rfl); (case hg => first | rfl | simp [T3, T5, T9, T24, T33, T37, T39, hlt', hlt, hsr, hsr', hwi, h0]); (case hd => rfl); (case ha => simp [T3, T5, T9, T24, T33, T37, T39, hlt', hlt, hsr, hsr', hwi, h0]; rfl); (case hargs => rfl); (case hs => exact (Len_sc _ i t _ _ hqk).wk ⟨Wk.pt, trivial⟩))
          | ((with_reducible apply W.call1 go15); (case ho => rfl); (case hc => rfl); (case hf => rfl); (case hg => first | rfl | simp [T3, T5, T9, T24, T33, T37, T39, hlt', hlt, hsr, hsr', hwi, h0]); (case hd => rfl); (case ha => simp [T3, T5, T9, T24, T33, T37, T39, hlt', hlt, hsr, hsr', hwi, h0]; rfl); (case hargs => rfl); (case hs => exact WriteString_sc L s 39 i t _ _ lies39 hp hqk htk hb0))
          | fail)
        refine W.hand (k + 1) (by omega) (by omega) ?_ ?_
        · repeat (first | exact Sw.Sub.nil | refine Sw.Sub.cons (by simp) ?_)
        · have : word1 L s = L ++ s := by unfold word1; rw [if_pos h0]
          rw [hstep, this, ← hσk]
          simp [h0]
      · have hb1 : L.length + 1 ≤ 140737488355328 := by omega
        have hb2 : L.length + 1 + s.length ≤ 140737488355328 := by omega
        have h0' : 0 < L.length := by omega
        repeat' (first
          | with_reducible refine W.seq ?_
          | with_reducible refine W.next ?_
          | with_reducible refine W.nil ?_
          | with_reducible refine W.skip ?_
          | with_reducible refine W.ret ?_
          | with_reducible refine W.ret_code ?_
          | with_reducible refine W.block ?_
          | with_reducible refine W.out ?_
          | with_reducible refine W.ret_blk ?_
          | with_reducible refine W.exit ?_
          | with_reducible refine W.exit_code ?_
          | with_reducible refine W.exit_here ?_
          | with_reducible refine W.leave_exit ?_
          | with_reducible refine W.leave_ret ?_
          | ((with_reducible refine W.exit_on ?h ?_); (case h => decide))
          | ((with_reducible apply W.reg); (case h => simp [T3, T5, T9, T24, T33, T37, T39, hlt', hlt, hsr, hsr', hwi, h0']; exact ⟨rfl, rfl, rfl⟩))
          | ((with_reducible apply W.draw (hm := mixed)); (case hnd => rfl); (case hno => exact fun _ _ h => h); (case hB => kernel_rfl); (case hr => simp [T3, T5, T9, T24, T33, T37, T39, hlt', hlt, hsr, hsr', hwi, h0']; rfl))
          | ((with_reducible apply W.cond); (case hc => simp; rfl); all_goals (intro hc_; try (cases hc_; done)))
          | ((with_reducible apply W.runX); (case _hc => rfl); (case h => simp [T3, T5, T9, T24, T33, T37, T39, hlt', hlt, hsr, hsr', hwi, h0']; exact ⟨rfl, rfl, rfl⟩))
          | ((with_reducible apply W.call1 go13); (case ho => rfl); (case hc => rfl); (case hf => rfl); (case hg => first | rfl | simp [T3, T5, T9, T24, T33, T37, T39, hlt', hlt, hsr, hsr', hwi, h0']); (case hd => rfl); (case ha => simp [T3, T5, T9, T24, T33, T37, T39, hlt', hlt, hsr, hsr', hwi, h0']; rfl); (case hargs => rfl); (case hs => exact (Len_sc _ i t _ _ hqk).wk ⟨Wk.pt, trivial⟩))
          | ((with_reducible apply W.call1 go14); (case ho => rfl); (case hc => rfl); (case hf => rfl); (case hg => first | rfl | simp [T3, T5, T9, T24, T33, T37, T39, hlt', hlt, hsr, hsr', hwi, h0']); (case hd => rfl); (case ha => simp [T3, T5, T9, T24, T33, T37, T39, hlt', hlt, hsr, hsr', hwi, h0']; rfl); (case hargs => rfl); (case hs => exact WriteByte_sc L 32 39 i t _ _ lies39 hp hqk htk hb1))
          | ((with_reducible apply W.call1 go15); (case ho => rfl); (case hc => rfl); (case hf => rfl); (case hg => first | rfl | simp [T3, T5, T9, T24, T33, T37, T39, hlt', hlt, hsr, hsr', hwi, h0']); (case hd => rfl); (case ha => simp [T3, T5, T9, T24, T33, T37, T39, hlt', hlt, hsr, hsr', hwi, h0']; rfl); (case hargs => rfl); (case hs => exact WriteString_sc (L ++ [32]) s 39 i t _ _ lies39 (.inr rfl) (List.getElem?_set_self hik) (by rw [List.getElem?_set_self htk']; simp) (by simpa using hb2)))
          | fail)
        refine W.hand (k + 1) (by omega) (by omega) ?_ ?_
        · repeat (first | exact Sw.Sub.nil | refine Sw.Sub.cons (by simp) ?_)
        · have : word1 L s = L ++ [32] ++ s := by unfold word1; rw [if_neg h0]
          rw [hstep, this, ← hσk]
          simp [Nat.add_assoc, Nat.add_comm 1]
    · have hlt' : ¬ (k : Int) < ss.length := by omega
      obtain rfl : k = ss.length := by omega
      repeat' (first
        | with_reducible refine W.seq ?_
        | with_reducible refine W.next ?_
        | with_reducible refine W.nil ?_
        | with_reducible refine W.skip ?_
        | with_reducible refine W.ret ?_
        | with_reducible refine W.ret_code ?_
        | with_reducible refine W.block ?_
        | with_reducible refine W.out ?_
        | with_reducible refine W.ret_blk ?_
        | with_reducible refine W.exit ?_
        | with_reducible refine W.exit_code ?_
        | with_reducible refine W.exit_here ?_
        | with_reducible refine W.leave_exit ?_
        | with_reducible refine W.leave_ret ?_
        | ((with_reducible refine W.exit_on ?h ?_); (case h => decide))
        | ((with_reducible apply W.reg); (case h => simp [T3, T9, T24, T33, T37, T39, hlt']; exact ⟨rfl, rfl, rfl⟩))
        | ((with_reducible apply W.draw (hm := mixed)); (case hnd => rfl); (case hno => exact fun _ _ h => h); (case hB => kernel_rfl); (case hr => simp [T3, T9, T24, T33, T37, T39, hlt']; rfl))
        | ((with_reducible apply W.cond); (case hc => simp; rfl); all_goals (intro hc_; try (cases hc_; done)))
        | ((with_reducible apply W.runX); (case _hc => rfl); (case h => simp [T3, T9, T24, T33, T37, T39, hlt']; exact ⟨rfl, rfl, rfl⟩))
        | fail)
      have hcl : ∀ p ∈ [if ss.length = 0 then p0 else PV.ptr i 0, .sl (some t) (bytesR (wordsF acc ss))], Cl σ.bx.length σ.tk.length p := by
        intro q hq'
        rcases List.mem_cons.1 hq' with h | h
        · subst h
          split
          · rcases hp0 with h | h <;> subst h <;> first | exact .val _ | exact .ptr _ _ hi
          · exact .ptr _ _ hi
        · exact cl_bld hi htl _ q (List.mem_cons_of_mem _ h)
      with_reducible apply W.fin
      case h1 => simp <;> rfl
      case h2 => exact Wk.rfl
      case h3 => simp; exact hi
      case h4 => exact hσ.clB.set (by intro q hq'; exact hcl q (by simpa only [List.length_eq_zero_iff] using hq'))
      exact ⟨rfl, by simp⟩


end Go.Proofs.YtbnapbegomemeaaDoor

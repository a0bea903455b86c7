/- The law of MonitorMaps as a contract. -/
import Derived.Test.YtbnapbegomemeaaDoorU7
import Derived.IntWalk
namespace Go.Proofs.YtbnapbegomemeaaDoor
open Go.Sw
set_option linter.unusedSimpArgs false
set_option linter.unusedVariables false
attribute [local simp] evu unp appStr appendS isZ8 Cl_pt runOps stepOp pureOp gd isCall inN setd Sw.get params ev evs binV unV convV loadA cellsPV oneB storeA fieldAddrA fieldOff fieldA partA aggOf extractA indexAddrA indexA lenA minmaxA sliceA bnd partsA buildA placesA fillA buildSliceA zerosA chunkA TyD.agg Value.oneCell' Value.cells runPure appA appendA okRow_nil okRow_cons okRow_append resultA ressA resA List.getElem?_append List.set_append Cl_any Cl_val Cl_ptr Cl_agg Cl_tup Cl_fn Cl_rop Cl_sl Sw.take_set Sw.take_set_app Sw.take_app

attribute [local simp] strR_length encIs_length okRow_strR bytesR_len' okRow_b
theorem getD_at (l : List UInt8) {j : Nat} {b : UInt8} (h : l[j]? = some b) : (l.getD j 0) = b := by simp [List.getD, h]
theorem count_take {l : List UInt8} {j : Nat} {b : UInt8} (h : l[j]? = some b) : (l.take (j + 1)).count 32 = (l.take j).count 32 + (if b = 32 then 1 else 0) := by
  obtain ⟨hj, rfl⟩ := List.getElem?_eq_some_iff.1 h
  rw [← List.take_append_getElem hj, List.count_append]
  simp [List.count_singleton]
theorem law_sc (xs : List Int) (σ : AS) (hx : ∀ x ∈ xs, I64 x) : SC1 Cc 3 [.sl none (encIs xs)] σ (bV true) σ := by
  refine W.body Tryd.func3 rfl 65 Tryd.ntmps3 _ Tryd.results3 (by simp) Cc_dl GEt_cl fun hσ => ?_
  by_cases h300 : 300 < xs.length
  · have h300' : (300 : Int) < xs.length := by omega
    repeat' (first
      | with_reducible refine W.seq ?_
      | with_reducible refine W.next ?_
      | with_reducible refine W.nil ?_
      | with_reducible refine W.skip ?_
      | with_reducible refine W.ret ?_
      | with_reducible refine W.ret_code ?_
      | with_reducible refine W.block ?_
      | with_reducible refine W.out ?_
      | with_reducible refine W.ret_blk ?_
      | with_reducible refine W.exit ?_
      | with_reducible refine W.exit_code ?_
      | with_reducible refine W.exit_here ?_
      | with_reducible refine W.leave_exit ?_
      | with_reducible refine W.leave_ret ?_
      | ((with_reducible refine W.exit_on ?h ?_); (case h => decide))
      | ((with_reducible apply W.reg); (case h => simp [T3, T4, T22, T24, h300', h300]; exact ⟨rfl, rfl, rfl⟩))
      | ((with_reducible apply W.draw (hm := mixed)); (case hnd => kernel_rfl); (case hno => exact fun _ _ h => h); (case hB => kernel_rfl); (case hr => simp [T3, T4, T22, T24, h300', h300]; rfl))
      | ((with_reducible apply W.cond); (case hc => simp; rfl); all_goals (intro hc_; try (cases hc_; done)))
      | ((with_reducible apply W.runX); (case _hc => rfl); (case h => simp [T3, T4, T22, T24, h300', h300]; exact ⟨rfl, rfl, rfl⟩))
      | ((with_reducible apply W.call1 go4); (case ho => rfl); (case hc => rfl); (case hf => rfl); (case hg => first | rfl | simp [T3, T4, T22, T24, h300', h300]); (case hd => rfl); (case ha => simp [T3, T4, T22, T24, h300', h300]; rfl); (case hargs => rfl); (case hs => exact awake_sc _))
      | fail)
    with_reducible apply W.fin
    case h1 => simp <;> rfl
    case h2 => exact Wk.rfl
    case h3 => simp
    case h4 => exact hσ.clB
    exact ⟨rfl, by simp⟩
  · have h300' : ¬ (300 : Int) < xs.length := by omega
    have hml := mapF_length xs
    have hch : Tryd.chunks xs.length ≤ 31 := by unfold Tryd.chunks; omega
    repeat' (first
      | with_reducible refine W.seq ?_
      | with_reducible refine W.next ?_
      | with_reducible refine W.nil ?_
      | with_reducible refine W.skip ?_
      | with_reducible refine W.ret ?_
      | with_reducible refine W.ret_code ?_
      | with_reducible refine W.block ?_
      | with_reducible refine W.out ?_
      | with_reducible refine W.ret_blk ?_
      | with_reducible refine W.exit ?_
      | with_reducible refine W.exit_code ?_
      | with_reducible refine W.exit_here ?_
      | with_reducible refine W.leave_exit ?_
      | with_reducible refine W.leave_ret ?_
      | ((with_reducible refine W.exit_on ?h ?_); (case h => decide))
      | ((with_reducible apply W.reg); (case h => simp [T3, T4, T22, T24, h300', h300]; exact ⟨rfl, rfl, rfl⟩))
      | ((with_reducible apply W.draw (hm := mixed)); (case hnd => kernel_rfl); (case hno => exact fun _ _ h => h); (case hB => kernel_rfl); (case hr => simp [T3, T4, T22, T24, h300', h300]; rfl))
      | ((with_reducible apply W.cond); (case hc => simp; rfl); all_goals (intro hc_; try (cases hc_; done)))
      | ((with_reducible apply W.runX); (case _hc => rfl); (case h => simp [T3, T4, T22, T24, h300', h300]; exact ⟨rfl, rfl, rfl⟩))
      | ((with_reducible apply W.call1 go4); (case ho => rfl); (case hc => rfl); (case hf => rfl); (case hg => first | rfl | simp [T3, T4, T22, T24, h300', h300]); (case hd => rfl); (case ha => simp [T3, T4, T22, T24, h300', h300]; rfl); (case hargs => rfl); (case hs => exact awake_sc _))
      | ((with_reducible apply W.call1 go5); (case ho => rfl); (case hc => rfl); (case hf => rfl); (case hg => first | rfl | simp [T3, T4, T22, T24, h300', h300]); (case hd => rfl); (case ha => simp [T3, T4, T22, T24, h300', h300]; rfl); (case hargs => rfl); (case hs => exact Map_sc xs _ hx (by omega)))
      | fail)
    with_reducible refine W.loopS (α := Nat) (fun k => [(0, .sl none (encIs xs)), (3, .sl none (strR (mapF xs))), (4, i64 (min (10 * k) xs.length : Nat)), (16, .sl none (strR (mapF xs))), (17, i64 (mapF xs).length), (18, i64 k)]) (fun _ => σ) (fun k => k ≤ (mapF xs).length) (fun k => (mapF xs).length - k) 0 (Nat.zero_le _) ?_ ?_ ?_
    · repeat (first | exact Sw.Sub.nil | refine Sw.Sub.cons (by simp) ?_)
    · first | rfl | simp
    · intro k hk
      try dsimp only
      by_cases hlt : k < (mapF xs).length
      · have hlt' : (k : Int) < (mapF xs).length := by omega
        have hkc : k < Tryd.chunks xs.length := by omega
        have hat := mapF_at xs hkc
        have hsr := strR_at hat
        have hsr' : (strR (mapF xs))[k]'(by simpa using hlt) = [strV (lineF (chunkF xs k))] := (List.getElem?_eq_some_iff.1 hsr).2
        have hne : chunkF xs k ≠ [] := chunkF_ne ⟨k, hkc⟩
        have hcl := chunkF_len xs k
        have hcnt := lineF_count hne
        obtain ⟨L, hL⟩ : ∃ L, lineF (chunkF xs k) = L := ⟨_, rfl⟩
        have hLl : L.length ≤ 220 := by
          rw [← hL]
          have := lineF_len (c := chunkF xs k) (fun y hy => hx y (List.mem_of_mem_drop (List.mem_of_mem_take hy)))
          omega
        rw [hL] at hsr hsr' hcnt
        have hwi : IntKind.i64.wrap ((k : Int) + 1) = (k : Int) + 1 := wrap64 (by omega)
        have hsz : (ByteArray.mk L.toArray).size = L.length := rfl
        repeat' (first
          | with_reducible refine W.seq ?_
          | with_reducible refine W.next ?_
          | with_reducible refine W.nil ?_
          | with_reducible refine W.skip ?_
          | with_reducible refine W.ret ?_
          | with_reducible refine W.ret_code ?_
          | with_reducible refine W.block ?_
          | with_reducible refine W.out ?_
          | with_reducible refine W.ret_blk ?_
          | with_reducible refine W.exit ?_
          | with_reducible refine W.exit_code ?_
          | with_reducible refine W.exit_here ?_
          | with_reducible refine W.leave_exit ?_
          | with_reducible refine W.leave_ret ?_
          | ((with_reducible refine W.exit_on ?h ?_); (case h => decide))
          | ((with_reducible apply W.reg); (case h => simp [T3, T4, T9, T22, T24, hlt', hlt, hsr, hsr']; exact ⟨rfl, rfl, rfl⟩))
          | ((with_reducible apply W.draw (hm := mixed)); (case hnd => kernel_rfl); (case hno => exact fun _ _ h => h); (case hB => kernel_rfl); (case hr => simp [T3, T4, T9, T22, T24, hlt', hlt, hsr, hsr']; rfl))
          | ((with_reducible apply W.cond); (case hc => simp; rfl); all_goals (intro hc_; try (cases hc_; done)))
          | ((with_reducible apply W.runX); (case _hc => rfl); (case h => simp [T3, T4, T9, T22, T24, hlt', hlt, hsr, hsr']; exact ⟨rfl, rfl, rfl⟩))
          | fail)
        with_reducible refine W.loopS (α := Nat) (fun j => [(0, .sl none (encIs xs)), (3, .sl none (strR (mapF xs))), (4, i64 (min (10 * k) xs.length : Nat)), (5, i64 k), (6, strV L), (7, i64 (1 + (L.take j).count 32 : Nat)), (8, i64 j), (16, .sl none (strR (mapF xs))), (17, i64 (mapF xs).length), (18, i64 k)]) (fun _ => σ) (fun j => j ≤ L.length) (fun j => L.length - j) 0 (Nat.zero_le _) ?_ ?_ ?_
        · repeat (first | exact Sw.Sub.nil | refine Sw.Sub.cons (by simp) ?_)
        · first | rfl | simp
        · intro j hj
          try dsimp only
          by_cases hjl : j < L.length
          · have hjl' : (j : Int) < L.length := by omega
            obtain ⟨b, hb⟩ : ∃ b, L[j]? = some b := ⟨_, List.getElem?_eq_getElem hjl⟩
            have hct := count_take hb
            have hg : L[j]'hjl = b := (List.getElem?_eq_some_iff.1 hb).2
            have hwj : IntKind.i64.wrap ((j : Int) + 1) = (j : Int) + 1 := wrap64 (by omega)
            have hc220 : (L.take j).count 32 ≤ 220 := by
              have := List.count_le_length (a := (32 : UInt8)) (l := L.take j)
              have := List.length_take_le j L
              omega
            obtain ⟨n, hn⟩ : ∃ n, 1 + (L.take j).count 32 = n := ⟨_, rfl⟩
            have hwn : IntKind.i64.wrap ((n : Int) + 1) = (n : Int) + 1 := wrap64 (by omega)
            rw [hn]
            by_cases hb32 : b = 32
            · have hn' : ((1 + (L.take (j + 1)).count 32 : Nat) : Int) = (n : Int) + 1 := by rw [hct, if_pos hb32]; omega
              have hbn' : ((b.toNat : Int) == 32) = true := by rw [hb32]; rfl
              repeat' (first
                | with_reducible refine W.seq ?_
                | with_reducible refine W.next ?_
                | with_reducible refine W.nil ?_
                | with_reducible refine W.skip ?_
                | with_reducible refine W.ret ?_
                | with_reducible refine W.ret_code ?_
                | with_reducible refine W.block ?_
                | with_reducible refine W.out ?_
                | with_reducible refine W.ret_blk ?_
                | with_reducible refine W.exit ?_
                | with_reducible refine W.exit_code ?_
                | with_reducible refine W.exit_here ?_
                | with_reducible refine W.leave_exit ?_
                | with_reducible refine W.leave_ret ?_
                | ((with_reducible refine W.exit_on ?h ?_); (case h => decide))
                | ((with_reducible apply W.reg); (case h => simp [T3, T4, T5, T9, hjl', hjl, hsz, hg, hbn', hwj, hwn]; exact ⟨rfl, rfl, rfl⟩))
                | ((with_reducible apply W.draw (hm := mixed)); (case hnd => kernel_rfl); (case hno => exact fun _ _ h => h); (case hB => kernel_rfl); (case hr => simp [T3, T4, T5, T9, hjl', hjl, hsz, hg, hbn', hwj, hwn]; rfl))
                | ((with_reducible apply W.cond); (case hc => simp; rfl); all_goals (intro hc_; try (cases hc_; done)))
                | ((with_reducible apply W.runX); (case _hc => rfl); (case h => simp [T3, T4, T5, T9, hjl', hjl, hsz, hg, hbn', hwj, hwn]; exact ⟨rfl, rfl, rfl⟩))
                | fail)
              refine W.hand (j + 1) (by omega) (by omega) ?_ rfl
              repeat (first | exact Sw.Sub.nil | refine Sw.Sub.cons (by simp [hn']) ?_)
            · have hn' : ((1 + (L.take (j + 1)).count 32 : Nat) : Int) = (n : Int) := by rw [hct, if_neg hb32]; omega
              have hbn : ¬ (b.toNat : Int) = 32 := by
                intro h
                apply hb32
                apply UInt8.toNat_inj.1
                have : (32 : UInt8).toNat = 32 := rfl
                omega
              have hbn' : ((b.toNat : Int) == 32) = false := by simpa using hbn
              repeat' (first
                | with_reducible refine W.seq ?_
                | with_reducible refine W.next ?_
                | with_reducible refine W.nil ?_
                | with_reducible refine W.skip ?_
                | with_reducible refine W.ret ?_
                | with_reducible refine W.ret_code ?_
                | with_reducible refine W.block ?_
                | with_reducible refine W.out ?_
                | with_reducible refine W.ret_blk ?_
                | with_reducible refine W.exit ?_
                | with_reducible refine W.exit_code ?_
                | with_reducible refine W.exit_here ?_
                | with_reducible refine W.leave_exit ?_
                | with_reducible refine W.leave_ret ?_
                | ((with_reducible refine W.exit_on ?h ?_); (case h => decide))
                | ((with_reducible apply W.reg); (case h => simp [T3, T4, T5, T9, hjl', hjl, hsz, hg, hbn', hwj]; exact ⟨rfl, rfl, rfl⟩))
                | ((with_reducible apply W.draw (hm := mixed)); (case hnd => kernel_rfl); (case hno => exact fun _ _ h => h); (case hB => kernel_rfl); (case hr => simp [T3, T4, T5, T9, hjl', hjl, hsz, hg, hbn', hwj]; rfl))
                | ((with_reducible apply W.cond); (case hc => simp; rfl); all_goals (intro hc_; try (cases hc_; done)))
                | ((with_reducible apply W.runX); (case _hc => rfl); (case h => simp [T3, T4, T5, T9, hjl', hjl, hsz, hg, hbn', hwj]; exact ⟨rfl, rfl, rfl⟩))
                | fail)
              refine W.hand (j + 1) (by omega) (by omega) ?_ rfl
              repeat (first | exact Sw.Sub.nil | refine Sw.Sub.cons (by simp [hn']) ?_)
          · have hjl' : ¬ (j : Int) < L.length := by omega
            obtain rfl : j = L.length := by omega
            rw [List.take_of_length_le (Nat.le_refl _)]
            obtain ⟨n, hn⟩ : ∃ n, 1 + L.count 32 = n := ⟨_, rfl⟩
            rw [hn]
            have hnl : n = (chunkF xs k).length := by omega
            rw [hcl] at hnl
            obtain ⟨w, hw⟩ : ∃ w, min (10 * k) xs.length = w := ⟨_, rfl⟩
            rw [hw]
            have hc10 : Tryd.chunks xs.length = (xs.length + 9) / 10 := rfl
            have h10 : ¬ (10 : Int) < n := by omega
            have hww : IntKind.i64.wrap ((w : Int) + n) = (w : Int) + n := wrap64 (by omega)
            have hmw : IntKind.i64.wrap (((mapF xs).length : Int) - 1) = ((mapF xs).length : Int) - 1 := wrap64 (by omega)
            have hw1 : ((min (10 * (k + 1)) xs.length : Nat) : Int) = (w : Int) + n := by omega
            by_cases h9 : n < 10
            · have h9' : (n : Int) < 10 := by omega
              have hk9 : ¬ (k : Int) < ((mapF xs).length : Int) - 1 := by omega
              repeat' (first
                | with_reducible refine W.seq ?_
                | with_reducible refine W.next ?_
                | with_reducible refine W.nil ?_
                | with_reducible refine W.skip ?_
                | with_reducible refine W.ret ?_
                | with_reducible refine W.ret_code ?_
                | with_reducible refine W.block ?_
                | with_reducible refine W.out ?_
                | with_reducible refine W.ret_blk ?_
                | with_reducible refine W.exit ?_
                | with_reducible refine W.exit_code ?_
                | with_reducible refine W.exit_here ?_
                | with_reducible refine W.leave_exit ?_
                | with_reducible refine W.leave_ret ?_
                | ((with_reducible refine W.exit_on ?h ?_); (case h => decide))
                | ((with_reducible apply W.reg); (case h => simp [T3, T4, T5, T9, T24, hjl', hsz, h10, h9', hk9, hww, hmw, hwi]; exact ⟨rfl, rfl, rfl⟩))
                | ((with_reducible apply W.draw (hm := mixed)); (case hnd => kernel_rfl); (case hno => exact fun _ _ h => h); (case hB => kernel_rfl); (case hr => simp [T3, T4, T5, T9, T24, hjl', hsz, h10, h9', hk9, hww, hmw, hwi]; rfl))
                | ((with_reducible apply W.cond); (case hc => simp; rfl); all_goals (intro hc_; try (cases hc_; done)))
                | ((with_reducible apply W.runX); (case _hc => rfl); (case h => simp [T3, T4, T5, T9, T24, hjl', hsz, h10, h9', hk9, hww, hmw, hwi]; exact ⟨rfl, rfl, rfl⟩))
                | fail)
              refine W.hand (k + 1) (by omega) (by omega) ?_ rfl
              repeat (first | exact Sw.Sub.nil | refine Sw.Sub.cons (by simp [hw1]) ?_)
            · have h9' : ¬ (n : Int) < 10 := by omega
              repeat' (first
                | with_reducible refine W.seq ?_
                | with_reducible refine W.next ?_
                | with_reducible refine W.nil ?_
                | with_reducible refine W.skip ?_
                | with_reducible refine W.ret ?_
                | with_reducible refine W.ret_code ?_
                | with_reducible refine W.block ?_
                | with_reducible refine W.out ?_
                | with_reducible refine W.ret_blk ?_
                | with_reducible refine W.exit ?_
                | with_reducible refine W.exit_code ?_
                | with_reducible refine W.exit_here ?_
                | with_reducible refine W.leave_exit ?_
                | with_reducible refine W.leave_ret ?_
                | ((with_reducible refine W.exit_on ?h ?_); (case h => decide))
                | ((with_reducible apply W.reg); (case h => simp [T3, T4, T5, T9, T24, hjl', hsz, h10, h9', hww, hmw, hwi]; exact ⟨rfl, rfl, rfl⟩))
                | ((with_reducible apply W.draw (hm := mixed)); (case hnd => kernel_rfl); (case hno => exact fun _ _ h => h); (case hB => kernel_rfl); (case hr => simp [T3, T4, T5, T9, T24, hjl', hsz, h10, h9', hww, hmw, hwi]; rfl))
                | ((with_reducible apply W.cond); (case hc => simp; rfl); all_goals (intro hc_; try (cases hc_; done)))
                | ((with_reducible apply W.runX); (case _hc => rfl); (case h => simp [T3, T4, T5, T9, T24, hjl', hsz, h10, h9', hww, hmw, hwi]; exact ⟨rfl, rfl, rfl⟩))
                | fail)
              refine W.hand (k + 1) (by omega) (by omega) ?_ rfl
              repeat (first | exact Sw.Sub.nil | refine Sw.Sub.cons (by simp [hw1]) ?_)
      · have hlt' : ¬ (k : Int) < (mapF xs).length := by omega
        have hc10 : Tryd.chunks xs.length = (xs.length + 9) / 10 := rfl
        obtain rfl : k = (mapF xs).length := by omega
        have hmin : min (10 * (mapF xs).length) xs.length = xs.length := by omega
        rw [hmin]
        have hq : ((xs.length : Int) + 9).tdiv 10 = (mapF xs).length := by
          rw [Int.tdiv_eq_ediv_of_nonneg (by omega)]; omega
        have hwq : IntKind.i64.wrap ((xs.length : Int) + 9) = (xs.length : Int) + 9 := wrap64 (by omega)
        have hwq2 : IntKind.i64.wrap ((mapF xs).length : Int) = (mapF xs).length := wrap64 (by omega)
        repeat' (first
          | with_reducible refine W.seq ?_
          | with_reducible refine W.next ?_
          | with_reducible refine W.nil ?_
          | with_reducible refine W.skip ?_
          | with_reducible refine W.ret ?_
          | with_reducible refine W.ret_code ?_
          | with_reducible refine W.block ?_
          | with_reducible refine W.out ?_
          | with_reducible refine W.ret_blk ?_
          | with_reducible refine W.exit ?_
          | with_reducible refine W.exit_code ?_
          | with_reducible refine W.exit_here ?_
          | with_reducible refine W.leave_exit ?_
          | with_reducible refine W.leave_ret ?_
          | ((with_reducible refine W.exit_on ?h ?_); (case h => decide))
          | ((with_reducible apply W.reg); (case h => simp [T3, T4, T9, T22, T24, hlt', hq, hwq, hwq2]; exact ⟨rfl, rfl, rfl⟩))
          | ((with_reducible apply W.draw (hm := mixed)); (case hnd => kernel_rfl); (case hno => exact fun _ _ h => h); (case hB => kernel_rfl); (case hr => simp [T3, T4, T9, T22, T24, hlt', hq, hwq, hwq2]; rfl))
          | ((with_reducible apply W.cond); (case hc => simp; rfl); all_goals (intro hc_; try (cases hc_; done)))
          | ((with_reducible apply W.runX); (case _hc => rfl); (case h => simp [T3, T4, T9, T22, T24, hlt', hq, hwq, hwq2]; exact ⟨rfl, rfl, rfl⟩))
          | fail)
        with_reducible apply W.fin
        case h1 => simp <;> rfl
        case h2 => exact Wk.rfl
        case h3 => simp
        case h4 => exact hσ.clB
        exact ⟨by simp, by simp⟩


end Go.Proofs.YtbnapbegomemeaaDoor

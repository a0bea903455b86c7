/- Map: the lines of a field. -/
import Derived.Test.YtbnapbegomemeaaDoorU5
import Derived.Test.YtbnapbegomemeaaDoorRb
import Derived.IntWalk
namespace Go.Proofs.YtbnapbegomemeaaDoor
open Go.Sw
set_option linter.unusedSimpArgs false
set_option linter.unusedVariables false
attribute [local simp] evu unp appStr appendS isZ8 Cl_pt runOps stepOp pureOp gd isCall inN setd Sw.get params ev evs binV unV convV loadA cellsPV oneB storeA fieldAddrA fieldOff fieldA partA aggOf extractA indexAddrA indexA lenA minmaxA sliceA bnd partsA buildA placesA fillA buildSliceA zerosA chunkA TyD.agg Value.oneCell' Value.cells runPure appA appendA okRow_nil okRow_cons okRow_append resultA ressA resA List.getElem?_append List.set_append Cl_any Cl_val Cl_ptr Cl_agg Cl_tup Cl_fn Cl_rop Cl_sl Sw.take_set Sw.take_set_app Sw.take_app

theorem hKb_KpC (Bs Bn : Nat) (sv : Value) (W : World) (l : Nat) (o o' : Obj) (h : W.heap[l]? = some o) (hc : o.isCells = false) : Tryd.KpC Bs Bn sv W (W.putObj l o') := by
  have one : ∀ (b : Nat) (v : Value), W.cell? ⟨b, 0, none⟩ = some v → (W.putObj l o').cell? ⟨b, 0, none⟩ = some v := by
    intro b v hv
    by_cases e : b = l
    · subst e
      obtain ⟨o2, h2, h3⟩ := cells_of_cell hv
      rw [h] at h2
      cases h2
      rw [hc] at h3
      cases h3
    · exact (World.cell?_of_block (World.putObj_heap_other e)).trans hv
  exact ⟨one _ _, one _ _⟩

/-- The j-th chunk. -/
def chunkF (xs : List Int) (j : Nat) : List Int := (xs.drop (10 * j)).take 10
/-- The lines of a field. -/
def linesP (xs : List Int) (pre : List (Fin (Tryd.chunks xs.length))) : List (List UInt8) := pre.map fun j => lineF (chunkF xs j.1)
def mapF (xs : List Int) : List (List UInt8) := linesP xs (List.finRange (Tryd.chunks xs.length))
theorem chunkF_len (xs : List Int) (j : Nat) : (chunkF xs j).length = min 10 (xs.length - 10 * j) := by
  unfold chunkF; rw [List.length_take, List.length_drop]
theorem chunkF_ne {xs : List Int} (j : Fin (Tryd.chunks xs.length)) : chunkF xs j.1 ≠ [] := by
  intro h
  have h1 := chunkF_len xs j.1
  rw [h] at h1
  have h2 := j.2
  unfold Tryd.chunks at h2
  simp at h1
  omega
theorem chunkF_at {xs : List Int} {j k : Nat} (h : k < (chunkF xs j).length) : (chunkF xs j)[k]? = xs[10 * j + k]? := by
  rw [chunkF_len] at h
  unfold chunkF
  rw [List.getElem?_take, if_pos (by omega), List.getElem?_drop]

theorem linesP_snoc (xs : List Int) (pre : List (Fin (Tryd.chunks xs.length))) (x : Fin (Tryd.chunks xs.length)) : linesP xs (pre ++ [x]) = linesP xs pre ++ [lineF (chunkF xs x.1)] := List.map_append
theorem linesP_length (xs : List Int) (pre : List (Fin (Tryd.chunks xs.length))) : (linesP xs pre).length = pre.length := List.length_map _
/-- The objects between two rounds. -/
def obF (xs : List Int) (σ : AS) (sv : Value) (pre : List (Fin (Tryd.chunks xs.length))) : AS := ⟨σ.bx ++ [[.sl (some σ.tk.length) (strR (linesP xs pre))], [.val sv], [i64 10]], σ.tk ++ [(9, (linesP xs pre).length)]⟩
theorem obF_clB {xs : List Int} {σ : AS} {sv : Value} {pre : List (Fin (Tryd.chunks xs.length))} (h : ClA σ) : ClB σ.bx.length σ.tk.length (obF xs σ sv pre).bx := h.clB.app (Nat.le_refl _)
theorem Map_sc (xs : List Int) (σ : AS) (hx : ∀ x ∈ xs, I64 x) (hl : xs.length ≤ 1000000) : SC1 Cc 5 [.sl none (encIs xs)] σ (.sl none (strR (mapF xs))) σ := by
  intro w0 base s vs hi hll hrr
  have hr0 := RepF.start (C := Cc) (N := 34) Cc_dl (by simp) hll hrr
  have hσ := hi.clA
  have hAt : At ⟨34, σ.bx.length, σ.tk.length, none⟩ s := ⟨hi.lbx, by rw [hi.tk]⟩
  refine (callsIn_wide (n := 2)).1 (callsIn_of_wp_marks Tryd.func5 rfl trivial ?_ rfl)
  rw [Tryd.ntmps5]
  refine wpIn_seq (SW.raw (C := Cc) (F := ⟨34, σ.bx.length, σ.tk.length, none⟩) (Q := fun e pf' σ' => e = .normal ∧ Sub [(0, .sl none (encIs xs))] pf' ∧ σ' = σ) ?A rfl hAt (Mono.refl _ _) hi hr0 (fun _ _ _ h => h.1) ?_)
  case A =>
    show SW Cc ⟨34, σ.bx.length, σ.tk.length, none⟩ _ (Cont Cc ⟨34, σ.bx.length, σ.tk.length, none⟩ (fun e pf' σ' => e = .normal ∧ Sub [(0, .sl none (encIs xs))] pf' ∧ σ' = σ) []) _ _
    repeat' (first
      | with_reducible refine W.seq ?_
      | with_reducible refine W.next ?_
      | with_reducible refine W.nil ?_
      | with_reducible refine W.skip ?_
      | with_reducible refine W.ret ?_
      | with_reducible refine W.ret_code ?_
      | with_reducible refine W.block ?_
      | with_reducible refine W.out ?_
      | with_reducible refine W.ret_blk ?_
      | with_reducible refine W.exit ?_
      | with_reducible refine W.exit_code ?_
      | with_reducible refine W.exit_here ?_
      | with_reducible refine W.leave_exit ?_
      | with_reducible refine W.leave_ret ?_
      | ((with_reducible refine W.exit_on ?h ?_); (case h => decide))
      | ((with_reducible apply W.reg); (case h => simp [T3, T24]; exact ⟨rfl, rfl, rfl⟩))
      | ((with_reducible apply W.draw (hm := mixed)); (case hnd => kernel_rfl); (case hno => exact fun _ _ h => h); (case hB => kernel_rfl); (case hr => simp [T3, T24]; rfl))
      | ((with_reducible apply W.cond); (case hc => simp; rfl); all_goals (intro hc_; try (cases hc_; done)))
      | ((with_reducible apply W.runX); (case _hc => rfl); (case h => simp [T3, T24]; exact ⟨rfl, rfl, rfl⟩))
      | fail)
    exact ⟨rfl, Sw.Sub.cons (by simp) Sw.Sub.nil, rfl⟩
  rintro pf1 σ1 s1 a1 ⟨_, hs1, rfl⟩ hi1 hr1 hm1
  refine wpIn_seq (SW.raw (C := Cc) (F := ⟨34, σ1.bx.length, σ1.tk.length, none⟩) (Q := fun e pf' σ' => e = .normal ∧ Sub [(0, .sl none (encIs xs)), (3, .ptr σ1.bx.length 0)] pf' ∧ σ' = ⟨σ1.bx ++ [[.val (.slice none 0 0)]], σ1.tk⟩) ?B rfl hAt hm1 hi1 hr1 (fun _ _ _ h => h.1) ?_)
  case B =>
    refine SW.sub hs1 ?_
    show SW Cc ⟨34, σ1.bx.length, σ1.tk.length, none⟩ _ (Cont Cc ⟨34, σ1.bx.length, σ1.tk.length, none⟩ (fun e pf' σ' => e = .normal ∧ Sub [(0, .sl none (encIs xs)), (3, .ptr σ1.bx.length 0)] pf' ∧ σ' = ⟨σ1.bx ++ [[.val (.slice none 0 0)]], σ1.tk⟩) []) _ _
    repeat' (first
      | with_reducible refine W.seq ?_
      | with_reducible refine W.next ?_
      | with_reducible refine W.nil ?_
      | with_reducible refine W.skip ?_
      | with_reducible refine W.ret ?_
      | with_reducible refine W.ret_code ?_
      | with_reducible refine W.block ?_
      | with_reducible refine W.out ?_
      | with_reducible refine W.ret_blk ?_
      | with_reducible refine W.exit ?_
      | with_reducible refine W.exit_code ?_
      | with_reducible refine W.exit_here ?_
      | with_reducible refine W.leave_exit ?_
      | with_reducible refine W.leave_ret ?_
      | ((with_reducible refine W.exit_on ?h ?_); (case h => decide))
      | ((with_reducible apply W.reg); (case h => simp [T3, T24]; exact ⟨rfl, rfl, rfl⟩))
      | ((with_reducible apply W.draw (hm := mixed)); (case hnd => kernel_rfl); (case hno => exact fun _ _ h => h); (case hB => kernel_rfl); (case hr => simp [T3, T24]; rfl))
      | ((with_reducible apply W.cond); (case hc => simp; rfl); all_goals (intro hc_; try (cases hc_; done)))
      | ((with_reducible apply W.runX); (case _hc => rfl); (case h => simp [T3, T24]; exact ⟨rfl, rfl, rfl⟩))
      | fail)
    exact ⟨rfl, Sw.Sub.cons (by simp) (Sw.Sub.cons (by simp) Sw.Sub.nil), rfl⟩
  rintro pf2 σ2 s2 a2 ⟨_, hs2, rfl⟩ hi2 hr2 hm2
  refine wpIn_seq (wpIn_seq (SW.raw (C := Cc) (F := ⟨34, σ1.bx.length, σ1.tk.length, none⟩) (Q := fun e pf' σ' => e = .normal ∧ Sub [(0, .sl none (encIs xs)), (3, .ptr σ1.bx.length 0), (9, .fn 12 [.ptr (σ1.bx.length + 1) 0, .ptr (σ1.bx.length + 2) 0])] pf' ∧ σ' = ⟨σ1.bx ++ [[.sl (some σ1.tk.length) []], [.sl none (encIs xs)], [i64 10]], σ1.tk ++ [(9, 0)]⟩) ?D rfl hAt hm2 hi2 hr2 (fun _ _ _ h => h.1) ?_))
  case D =>
    refine SW.sub hs2 ?_
    show SW Cc ⟨34, σ1.bx.length, σ1.tk.length, none⟩ _ (Cont Cc ⟨34, σ1.bx.length, σ1.tk.length, none⟩ (fun e pf' σ' => e = .normal ∧ Sub [(0, .sl none (encIs xs)), (3, .ptr σ1.bx.length 0), (9, .fn 12 [.ptr (σ1.bx.length + 1) 0, .ptr (σ1.bx.length + 2) 0])] pf' ∧ σ' = ⟨σ1.bx ++ [[.sl (some σ1.tk.length) []], [.sl none (encIs xs)], [i64 10]], σ1.tk ++ [(9, 0)]⟩) []) _ _
    with_reducible apply W.regN 1
    case h => simp [T3, T22]; exact ⟨rfl, rfl⟩
    refine W.list (by simp only [List.drop_succ_cons, List.drop_zero]; rfl) ?_
    ((with_reducible apply W.call1 go7); (case ho => rfl); (case hc => rfl); (case hf => rfl); (case hg => first | rfl | simp [T3, T22]); (case hd => rfl); (case ha => simp [T3, T22]; rfl); (case hargs => rfl); (case hs => exact Chunk_sc (encIs xs) _ (encIs_cl _ _ _)))
    refine W.tokenboxL 9 σ1.bx.length 0 [.val (.slice none 0 0)] (by simp) rfl ?_
    refine W.nil ⟨rfl, Sw.Sub.cons (by simp) (Sw.Sub.cons (by simp) (Sw.Sub.cons (by simp) Sw.Sub.nil)), by simp⟩
  rintro pf3 σ3 s3 a3 ⟨_, hs3, rfl⟩ hi3 hr3 hm3
  -- what the loop's closure has captured
  obtain ⟨vf, hvf, hrf⟩ := hr3.at_ 9 _ (hs3 9 _ rfl)
  cases hrf with
  | fn _ _ us hul hur =>
  obtain ⟨u1, u2, rfl⟩ : ∃ u1 u2, us = [u1, u2] := by
    match us, hul with
    | [u1, u2], _ => exact ⟨u1, u2, rfl⟩
  have hp1 := hur 0 _ u1 rfl rfl
  have hp2 := hur 1 _ u2 rfl rfl
  cases hp1 with
  | ptr _ _ b1 hb1 =>
  cases hp2 with
  | ptr _ _ b2 hb2 =>
  obtain ⟨cs, T, hcs, hcsz, hcr⟩ := hi3.box (σ1.bx.length + 1) b1 [.sl none (encIs xs)] hb1 (by simp)
  have hlt0 : 0 < cs.size := by rw [hcsz]; simp
  have hsv := hcr 0 _ cs[0] rfl (Array.getElem?_eq_getElem hlt0)
  obtain ⟨sv, hsve⟩ : ∃ sv, cs[0] = sv := ⟨_, rfl⟩
  rw [hsve] at hsv
  have hi4 := hi3.exact1 hb1 hcs (p := .sl none (encIs xs)) (v := sv) (by simp) (by rw [Array.getElem?_eq_getElem hlt0, hsve])
  have hσ4 : (⟨(σ1.bx ++ [[PV.sl (some σ1.tk.length) []], [.sl none (encIs xs)], [i64 10]]).set (σ1.bx.length + 1) [.val sv], σ1.tk ++ [(9, 0)]⟩ : AS) = obF xs σ1 sv [] := by simp [obF, linesP, strR]
  rw [hσ4] at hi4
  have hc1 : s3.w.cell? ⟨b1, 0, none⟩ = some sv := by simp [World.cell?, hcs, hlt0, hsve]
  have hc2 : s3.w.cell? ⟨b2, 0, none⟩ = some (.int .i64 10) := hi3.cell_val (ps := [i64 10]) (j := 0) hb2 (by simp) rfl
  have hr4 : RepF Cc s3 34 [(0, .sl none (encIs xs)), (3, .ptr σ1.bx.length 0)] a3 := ⟨hr3.size, hr3.defers, fun t p ht => hr3.at_ t p (hs3 t p (by
    simp only [Sw.get] at ht ⊢
    split at ht
    · rename_i e; rw [if_pos e]; exact ht
    · rename_i e; rw [if_neg e]
      split at ht
      · rename_i e2; rw [if_pos e2]; exact ht
      · cases ht))⟩
  cases hsv with
  | sl _ _ size b o cap ad uu g1 g2 g3 g4 g5 g6 g7 g8 =>
  have hxl := encIs_length xs
  have hchl : Tryd.chunks xs.length ≤ 1000000 := by unfold Tryd.chunks; omega
  refine wpIn_block ?_
  refine rangeF (C := Cc) (N := 34) (p := 10) (d := 4) (nn := σ1.bx.length + 3) (kk := σ1.tk.length + 1) (obF xs σ1 (.slice ad (encIs xs).length cap)) hi4 hr4 Cc_dl GEt_cl (gf := 12) (lb := #[.pointer (some ⟨b1, 0, none⟩), .pointer (some ⟨b2, 0, none⟩)]) ?hg (callFunc_ok go12)
    (enc := Tryd.chunkV b o xs.length) (ep := fun x => .sl none (encIs (chunkF xs x.1))) ?hep (Kp := Tryd.KpC b1 b2 (.slice ad (encIs xs).length cap)) (S := fun ys => ys = List.finRange (Tryd.chunks xs.length)) (Sp := fun _ => True) (cnt := Tryd.chunks xs.length) ?hseq
    (fun h k => ⟨fun x => k.1 (h.1 x), fun x => k.2 (h.2 x)⟩) (fun W l o o' _ h hc _ => hKb_KpC _ _ _ W l o o' h hc) ?hKp ?hob (show 10 < 34 by decide) (show 4 < 34 by decide) ?round ?done
  case hg => simp [Act.eval, Array.getD_eq_getD_getElem?, hvf]
  case hep =>
    intro x
    have hcl := chunkF_len xs x.1
    have h10 : 10 * x.1 < xs.length := by have := x.2; unfold Tryd.chunks at this; omega
    have h0 : 0 < (encIs xs).length := by rw [hxl]; omega
    have hs1 : size = 1 := by
      have := g4 _ (List.getElem_mem h0)
      rw [← this]; simp [encIs]
    subst hs1
    have key := Rep.sl (P := Cc.P) (s := s3) none (encIs (chunkF xs x.1)) 1 b (o + 10 * x.1) (chunkF xs x.1).length (some ⟨b, o + 10 * x.1, none⟩) (fun i j => uu (10 * x.1 + i) j) (by rw [encIs_length]; exact Nat.le_refl _) (by rw [hcl]; simp only [maxLen]; omega) (fun _ => rfl)
      (fun y hy => by obtain ⟨z, _, rfl⟩ := List.mem_map.1 hy; rfl) (fun _ => ?_) (fun i j hi hj => ?_) (fun i j y p hy hp => ?_) trivial
    · rw [encIs_length] at key
      unfold Tryd.chunkV
      rw [← hcl]
      exact key
    · have h5 := g5 h0
      refine ⟨h5.1, h5.2.1, fun t E m h1 h2 => Nat.le_trans ?_ (h5.2.2 t E m h1 h2)⟩
      rw [encIs_length, hcl, hxl]; omega
    · rw [encIs_length, hcl] at hi
      have := g6 (10 * x.1 + i) j (by rw [hxl]; omega) hj
      rw [show o + 10 * x.1 + i * 1 + j = o + (10 * x.1 + i) * 1 + j by omega]
      exact this
    · have hi : i < (chunkF xs x.1).length := by have := (List.getElem?_eq_some_iff.1 hy).1; rwa [encIs_length] at this
      refine g7 (10 * x.1 + i) j y p ?_ hp
      rw [← hy]
      unfold encIs
      rw [List.getElem?_map, List.getElem?_map, chunkF_at hi]
  case hseq =>
    have hlen : (encIs xs).length = xs.length := hxl
    rw [hlen] at hc1 ⊢
    refine Tryd.chunk_stops b1 b2 b o xs.length cap ad (fun h => g3 (by rw [hxl]; exact h)) (by omega) (by rw [← hxl]; exact g1) s3.w (hi3.rngb b1 (List.mem_of_getElem? hb1)).2 (hi3.rngb b2 (List.mem_of_getElem? hb2)).2 hc1 hc2
  case hKp =>
    intro pre x sa sb hm0 hia hib hmm
    have k1 : sb.g.bx[σ1.bx.length + 1]? = some b1 := hmm.bx _ _ (hm0.bx _ _ hb1)
    have k2 : sb.g.bx[σ1.bx.length + 2]? = some b2 := hmm.bx _ _ (hm0.bx _ _ hb2)
    exact ⟨fun _ => hib.cell_val (ps := [.val (.slice ad (encIs xs).length cap)]) (j := 0) k1 (by simp [obF]) rfl, fun _ => hib.cell_val (ps := [i64 10]) (j := 0) k2 (by simp [obF]) rfl⟩
  case hob => intro pre; simp [obF]
  case round =>
    intro l pre x hlen
    have hl1 : (linesP xs pre).length ≤ 1000000 := by rw [linesP_length]; omega
    have hln := line_sw l σ1 hσ (linesP xs pre) (.val (.slice ad (encIs xs).length cap)) hl1 (chunkF xs x.1) (fun y hy => hx y (List.mem_of_mem_drop (List.mem_of_mem_take hy))) (chunkF_ne x) (by rw [chunkF_len]; omega) (σ1.bx.length + 3) (σ1.tk.length + 1) rfl rfl (.sl none (encIs xs)) (.val _)
    have e1 : obF xs σ1 (.slice ad (encIs xs).length cap) (pre ++ [x]) = ⟨σ1.bx ++ [[.sl (some σ1.tk.length) (strR (linesP xs pre ++ [lineF (chunkF xs x.1)]))], [.val (.slice ad (encIs xs).length cap)], [i64 10]], σ1.tk ++ [(9, (linesP xs pre).length + 1)]⟩ := by
      unfold obF; rw [linesP_snoc, List.length_append]; rfl
    rw [e1]
    exact hln
  case done =>
    rintro D ys s' rfl hD hi' hm' hK
    obtain ⟨sv, hsv⟩ : ∃ sv, Value.slice ad (encIs xs).length cap = sv := ⟨_, rfl⟩
    rw [hsv] at hi'
    show Code.wpIn Fence.wide 2 Cc.P _ (bodyPostM Fence.wide 2 Cc.P Tryd.f5 _) _ s'.w
    have hAt' : At ⟨34, σ1.bx.length + 3, σ1.tk.length + 1, none⟩ s' := ⟨by rw [hi'.lbx]; simp [obF], by rw [hi'.tk]; simp [obF]⟩
    have hd0 : a3.defers = [] := hr4.defers
    have hr5 : RepF { Cc with dl := [{ target := .collected D, args := #[] }] } s' 34 [(0, .sl none (encIs xs)), (3, .ptr σ1.bx.length 0)] { a3 with defers := { target := .collected D, args := #[] } :: a3.defers } :=
      ⟨hr4.size, by rw [hd0], fun t p ht => let ⟨v, h1, h2⟩ := hr4.at_ t p ht; ⟨v, h1, h2.mono hm'⟩⟩
    refine SW.rawE (C := { Cc with dl := [{ target := .collected D, args := #[] }] }) (F := ⟨34, σ1.bx.length + 3, σ1.tk.length + 1, none⟩) (Q := fun e pf' σ' => e = .ret ∧ Sub [(2, .sl (some σ1.tk.length) (strR (mapF xs)))] pf' ∧ σ' = obF xs σ1 sv (List.finRange (Tryd.chunks xs.length))) ?Y rfl hAt' (Mono.refl _ _) (hi'.at_dl _) hr5 ?fin
    case Y =>
      show SW { Cc with dl := [{ target := .collected D, args := #[] }] } ⟨34, σ1.bx.length + 3, σ1.tk.length + 1, none⟩ _ (Cont { Cc with dl := [{ target := .collected D, args := #[] }] } ⟨34, σ1.bx.length + 3, σ1.tk.length + 1, none⟩ (fun e pf' σ' => e = .ret ∧ Sub [(2, .sl (some σ1.tk.length) (strR (mapF xs)))] pf' ∧ σ' = obF xs σ1 sv (List.finRange (Tryd.chunks xs.length))) []) _ ⟨σ1.bx ++ [[.sl (some σ1.tk.length) (strR (mapF xs))], [.val sv], [i64 10]], σ1.tk ++ [(9, (mapF xs).length)]⟩
      repeat' (first
        | with_reducible refine W.seq ?_
        | with_reducible refine W.next ?_
        | with_reducible refine W.nil ?_
        | with_reducible refine W.skip ?_
        | with_reducible refine W.ret ?_
        | with_reducible refine W.ret_code ?_
        | with_reducible refine W.block ?_
        | with_reducible refine W.out ?_
        | with_reducible refine W.ret_blk ?_
        | with_reducible refine W.exit ?_
        | with_reducible refine W.exit_code ?_
        | with_reducible refine W.exit_here ?_
        | with_reducible refine W.leave_exit ?_
        | with_reducible refine W.leave_ret ?_
        | ((with_reducible refine W.exit_on ?h ?_); (case h => decide))
        | ((with_reducible apply W.reg); (case h => simp [T3, T24]; exact ⟨rfl, rfl, rfl⟩))
        | ((with_reducible apply W.draw (hm := mixed)); (case hnd => kernel_rfl); (case hno => exact fun _ _ h => h); (case hB => kernel_rfl); (case hr => simp [T3, T24]; rfl))
        | ((with_reducible apply W.cond); (case hc => simp; rfl); all_goals (intro hc_; try (cases hc_; done)))
        | ((with_reducible apply W.runX); (case _hc => rfl); (case h => simp [T3, T24]; exact ⟨rfl, rfl, rfl⟩))
        | fail)
      exact ⟨rfl, Sw.Sub.cons (by simp) Sw.Sub.nil, rfl⟩
    rintro e pf' σ' s'' a'' ⟨rfl, hs'', rfl⟩ hi'' hr'' hm''
    have hi6 := hi''.of_dl
    have hK'' := hm''.oth.same D _ hK rfl
    have hsz1 : s.w.heap.size ≤ s3.w.heap.size := hm3.heap
    have hturn : s''.w.grownBy (s''.w.putObj D (.deferred none)) (some D) := grownBy_putObj' _ _ _
    have hrow : ∀ r, some D = some r → ∃ o : Obj, s''.w.heap[r]? = some o ∧ o.isCells = false := fun r e => by cases e; exact ⟨_, hK'', rfl⟩
    have hi7 := hi6.turn hturn (fun r e => by cases e; have := hi3.basele; omega) hrow
    have hm7 : Mono0 Cc.P s'' ⟨s''.g, s''.tk, s''.w.putObj D (.deferred none)⟩ := Mono0.turn hturn hrow
    have hr7 : RepF { Cc with dl := [{ target := .collected D, args := #[] }] } ⟨s''.g, s''.tk, s''.w.putObj D (.deferred none)⟩ 34 pf' a'' := ⟨hr''.size, hr''.defers, fun t p ht => let ⟨v, h1, h2⟩ := hr''.at_ t p ht; ⟨v, h1, h2.mono0 hm7⟩⟩
    obtain ⟨v, k1, k2⟩ := resultA_ok (fn := Tryd.f5) (hi7.at_dl [{ target := .collected D, args := #[] }]) hr7 (r := .sl (some σ1.tk.length) (strR (mapF xs))) (by
      rw [Tryd.results5]
      simp only [resultA, ressA, resA]
      rw [hs'' 2 _ rfl])
    have hdf : a''.defers = [{ target := .collected D, args := #[] }] := hr''.defers
    show LeavesInM Fence.wide 2 Cc.P Tryd.f5 a''.tmps _ a''.defers .returning s''.w
    rw [hdf]
    refine ⟨by simp, .inl ⟨D, _, rfl, run_takeDeferred hK'', ?_⟩⟩
    refine ⟨v, k1, v, .sl none (strR (mapF xs)), σ1, (⟨s''.g, s''.tk, s''.w.putObj D (.deferred none)⟩ : S).trunc σ1.bx.length σ1.tk.length, rfl, rfl, ⟨rfl, rfl⟩, ?_, ?_, ?_⟩
    · have h8 := hi7.forget σ1.bx.length σ1.tk.length (obF_clB hσ) (fun g p hp => (GEt_cl g p hp).le (Nat.zero_le _) (Nat.zero_le _))
      have e8 : (⟨(obF xs σ1 sv (List.finRange (Tryd.chunks xs.length))).bx.take σ1.bx.length, (obF xs σ1 sv (List.finRange (Tryd.chunks xs.length))).tk.take σ1.tk.length⟩ : AS) = σ1 := by simp [obF]
      rw [e8] at h8
      exact h8
    · exact k2.unown.trunc ((Cl_sl ..).2 ⟨fun t h => (by cases h), strR_cl _ _ _⟩)
    · have h9 : Mono Cc.P s ⟨s''.g, s''.tk, s''.w.putObj D (.deferred none)⟩ := by
        have h10 := (hm3.trans hm').trans hm''
        refine Mono.of0 (h10.to0.trans hm7) ⟨by have := h10.heap; simpa using this, fun k o hk hc => ?_⟩
        have hk1 := (Array.getElem?_eq_some_iff.1 hk).1
        have h11 := h10.oth.same k o hk hc
        exact (World.putObj_heap_other (by omega)).trans h11
      exact h9.trunc (by rw [hi.lbx]; exact Nat.le_refl _) (by rw [hi.tk]; exact Nat.le_refl _)


end Go.Proofs.YtbnapbegomemeaaDoor

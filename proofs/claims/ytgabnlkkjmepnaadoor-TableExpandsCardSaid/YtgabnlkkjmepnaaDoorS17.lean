/- The law TableNumbers: the loops over values and numbers. -/
import Derived.Test.YtgabnlkkjmepnaaDoorS16
import Derived.Test.YtgabnlkkjmepnaaDoorSwP
import Derived.Test.YtgabnlkkjmepnaaDoorSwQ
import Derived.IntWalk
namespace Go.Proofs.YtgabnlkkjmepnaaDoor
open Go.Sw
set_option linter.unusedSimpArgs false
set_option linter.unusedVariables false
attribute [local simp] runOps stepOp pureOp gd isCall inN setd Sw.get params ev evs binV unV convV loadA cellsPV oneB storeA fieldAddrA fieldOff fieldA partA aggOf extractA indexAddrA indexA lenA minmaxA sliceA bnd partsA buildA placesA fillA buildSliceA zerosA chunkA TyD.agg Value.oneCell' Value.cells runPure appA appendA okRow_nil okRow_cons okRow_append resultA ressA resA List.getElem?_append List.set_append Cl_any Cl_val Cl_ptr Cl_agg Cl_tup Cl_fn Cl_rop Cl_sl Sw.take_set Sw.take_set_app Sw.take_app

attribute [local simp] encI encE encS encT okRow_encE okRow_encS
theorem tdiv_bnd {a s : Int} (ha : 0 ≤ a) (hs : 1 ≤ s) : s * a.tdiv s ≤ a ∧ a < s * (a.tdiv s + 1) ∧ 0 ≤ a.tdiv s := by
  have h1 : a.tdiv s = a / s := Int.tdiv_eq_ediv_of_nonneg ha
  rw [h1]
  have h2 := Int.mul_ediv_add_emod a s
  have h3 := Int.emod_nonneg a (show s ≠ 0 by omega)
  have h4 := Int.emod_lt_of_pos a (show 0 < s by omega)
  refine ⟨by omega, by rw [Int.mul_add]; omega, Int.ediv_nonneg ha (by omega)⟩
/-- What is encoded is decoded to a value that is at most as great and less than Scale away. -/
theorem dec_enc {x : Ent} {y a : Int} (h : encF x y = (a, 0)) : I64 a ∧ ∃ w, decF x a = (w, true) ∧ w ≤ y ∧ y - w < x.scale ∧ -200000 ≤ w ∧ w ≤ 100000000000 ∧ y ≤ 200000000000 ∧ -200000 ≤ y := by
  unfold encF at h
  split at h
  · rename_i hc
    obtain ⟨hv, h1, h2⟩ := hc
    have hb := (validB_iff x).1 hv
    have hp := pw_bnd ⟨hb.2.2.1, hb.2.2.2.1⟩
    obtain ⟨t1, t2, t3⟩ := tdiv_bnd (a := y - x.least) (s := x.scale) (by omega) hb.2.2.2.2.1
    have ha : a = (y - x.least).tdiv x.scale := by cases h; rfl
    rw [← ha] at t1 t2 t3
    have hs := hb.2.2.2.2
    generalize hP : pw x.width = P at *
    have h3 : x.scale * a < x.scale * (P - 1) := by omega
    have h4 : a < P - 1 := Int.lt_of_mul_lt_mul_left h3 (by omega)
    have h5 : x.scale * (P - 1) ≤ 1000 * (P - 1) := Int.mul_le_mul_of_nonneg_right hs.2.1 (by omega)
    have h6 : 0 ≤ x.scale * a := Int.mul_nonneg (by omega) t3
    refine ⟨⟨by omega, by omega⟩, x.least + x.scale * a, ?_, by omega, by rw [Int.mul_add] at t2; omega, by omega, by omega, by omega, by omega⟩
    unfold decF
    rw [if_pos ⟨hv, t3, by omega⟩]
  · cases h
/-- What is decoded is encoded to the number that it was decoded from. -/
theorem enc_dec {x : Ent} {z a : Int} (h : decF x z = (a, true)) : encF x a = (z, 0) := by
  unfold decF at h
  split at h
  · rename_i hc
    obtain ⟨hv, h1, h2⟩ := hc
    have hb := (validB_iff x).1 hv
    have ha : a = x.least + x.scale * z := by cases h; rfl
    have hs := hb.2.2.2.2
    have h0 : 0 ≤ x.scale * z := Int.mul_nonneg (by omega) h1
    have h3 : x.scale * z ≤ x.scale * (pw x.width - 2) := Int.mul_le_mul_of_nonneg_left h2 (by omega)
    have h4 : x.scale * (pw x.width - 1) = x.scale * (pw x.width - 2) + x.scale := by
      rw [show pw x.width - 1 = (pw x.width - 2) + 1 by omega, Int.mul_add, Int.mul_one]
    unfold encF
    rw [if_pos ⟨hv, by omega, by omega⟩, ha]
    have : (x.least + x.scale * z - x.least).tdiv x.scale = z := by
      rw [show x.least + x.scale * z - x.least = x.scale * z by omega]
      exact Int.mul_tdiv_cancel_left z (by omega)
    rw [this]
  · cases h
theorem decF_i64 {x : Ent} {z : Int} : I64 (decF x z).1 := by
  unfold decF
  split
  · rename_i hc
    obtain ⟨hv, h1, h2⟩ := hc
    have hb := (validB_iff x).1 hv
    have hp := pw_bnd ⟨hb.2.2.1, hb.2.2.2.1⟩
    have hs := hb.2.2.2.2
    generalize pw x.width = P at *
    have h0 : 0 ≤ x.scale * z := Int.mul_nonneg (by omega) h1
    have h3 : x.scale * z ≤ x.scale * (P - 2) := Int.mul_le_mul_of_nonneg_left h2 (by omega)
    have h5 : x.scale * (P - 2) ≤ 1000 * (P - 2) := Int.mul_le_mul_of_nonneg_right hs.2.1 (by omega)
    exact ⟨by dsimp only; omega, by dsimp only; omega⟩
  · exact ⟨by decide, by decide⟩
theorem encF_cases (x : Ent) (y : Int) : (∃ a, encF x y = (a, 0)) ∨ encF x y = (0, 1) := by
  unfold encF
  split
  · exact .inl ⟨_, rfl⟩
  · exact .inr rfl
theorem decF_cases (x : Ent) (z : Int) : (∃ a, decF x z = (a, true)) ∨ decF x z = (0, false) := by
  unfold decF
  split
  · exact .inl ⟨_, rfl⟩
  · exact .inr rfl

noncomputable def c3 : Code := Tryd.f3.body.getD .skip
set_option maxHeartbeats 2000000 in
/-- The loop over values. -/
theorem law3a_sw (n m : Nat) (x : Ent) (hx : EntOK x) (ys : List Int) (hys : ∀ y ∈ ys, I64 y) (hl : ys.length = 4) (σ : AS) (B b be : Nat) (value nn v : Int) (xs : List Ent) (i : Nat) (hB : σ.bx[B]? = some (encE x)) (Q : Post) (kk : List KI) :
    SW Cc ⟨188, n, m⟩ (cAt [2, 2, 2, 2, 2, 1, 2, 3, 4, 2, 2, 1, 3, 2, 1, 2, 3] c3) (Cont Cc ⟨188, n, m⟩ (thenP (MidP (fun _ : Unit => [(1, i64 value), (2, i64 nn), (9, .ptr b 0), (11, .ptr be 0), (12, i64 v), (58, .sl none (xs.map encE)), (59, i64 3), (60, i64 i), (14, .ptr B 0)]) (fun _ => σ) (fun _ => True)) (Cont Cc ⟨188, n, m⟩ Q kk)) [.blk 2])
      [(1, i64 value), (2, i64 nn), (9, .ptr b 0), (11, .ptr be 0), (12, i64 v), (58, .sl none (xs.map encE)), (59, i64 3), (60, i64 i), (14, .ptr B 0), (80, .sl none (ys.map encI)), (81, i64 4), (82, i64 0)] σ := by
  change SW Cc ⟨188, n, m⟩ (Code.loop _) _ _ _
  with_reducible refine W.loopS (α := Nat) (fun j => [(1, i64 value), (2, i64 nn), (9, .ptr b 0), (11, .ptr be 0), (12, i64 v), (58, .sl none (xs.map encE)), (59, i64 3), (60, i64 i), (14, .ptr B 0), (80, .sl none (ys.map encI)), (81, i64 4), (82, i64 j)]) (fun _ => σ) (fun j => j ≤ 4) (fun j => 4 - j) 0 ?_ ?_ ?_ ?_
  · exact Nat.zero_le _
  · repeat (first | exact Sw.Sub.nil | refine Sw.Sub.cons (by simp) ?_)
  · rfl
  intro j hj
  (try dsimp only at hj ⊢)
  by_cases hj4 : j < 4
  · have hjl : j < ys.length := by omega
    have hj4' : (j : Int) < 4 := by omega
    have hwj : IntKind.i64.wrap ((j : Int) + 1) = (j : Int) + 1 := wrap64 (by omega)
    obtain ⟨y, hy⟩ : ∃ y, ys[j]? = some y := ⟨ys[j], List.getElem?_eq_getElem hjl⟩
    have hyy : ys[j] = y := (List.getElem?_eq_some_iff.1 hy).2
    have hyi : I64 y := hys y (List.mem_of_getElem? hy)
    have henc := fun σ => Encode_sc x y σ hx hyi
    have hrenc := fun σ => refEncode_sc x y σ hx hyi
    rcases encF_cases x y with ⟨a, ha⟩ | ha
    · obtain ⟨hai, w, hw, w1, w2, w3, w4, w5, w6⟩ := dec_enc ha
      have hdec := fun σ => Decode_sc x a σ hx hai
      rw [ha] at henc hrenc
      rw [hw] at hdec
      dsimp only at henc hrenc hdec
      have hwy : IntKind.i64.wrap (y - w) = y - w := wrap64 (by omega)
      have hng : ¬ y < w := by omega
      have hns : ¬ x.scale ≤ y - w := by omega
      repeat' (first
        | with_reducible refine W.seq ?_
        | with_reducible refine W.next ?_
        | with_reducible refine W.nil ?_
        | with_reducible refine W.skip ?_
        | with_reducible refine W.ret ?_
        | with_reducible refine W.ret_code ?_
        | with_reducible refine W.block ?_
        | with_reducible refine W.out ?_
        | with_reducible refine W.ret_blk ?_
        | with_reducible refine W.exit ?_
        | with_reducible refine W.exit_code ?_
        | with_reducible refine W.exit_here ?_
        | with_reducible refine W.leave_exit ?_
        | with_reducible refine W.leave_ret ?_
        | ((with_reducible refine W.exit_on ?h ?_); (case h => decide))
        | ((with_reducible apply W.reg); (case h => simp [T3, T4, T23, T24, T27, T35, hj4', hjl, hyy, hB, hwj, hwy, hng, hns]; exact ⟨rfl, rfl, rfl⟩))
        | ((with_reducible apply W.draw mixed); (case hB => kernel_rfl); (case hr => simp [T3, T4, T23, T24, T27, T35, hj4', hjl, hyy, hB, hwj, hwy, hng, hns]; rfl))
        | ((with_reducible apply W.cond); (case hc => simp; rfl); all_goals (intro hc_; try (cases hc_; done)))
        | ((with_reducible apply W.runX); (case _hc => rfl); (case h => simp [T3, T4, T23, T24, T27, T35, hj4', hjl, hyy, hB, hwj, hwy, hng, hns]; exact ⟨rfl, rfl, rfl⟩))
        | ((with_reducible apply W.call1 go12); (case ho => rfl); (case hc => rfl); (case hf => rfl); (case hg => first | rfl | simp [T3, T4, T23, T24, T27, T35, hj4', hjl, hyy, hB, hwj, hwy, hng, hns]); (case hd => rfl); (case ha => simp [T3, T4, T23, T24, T27, T35, hj4', hjl, hyy, hB, hwj, hwy, hng, hns]; rfl); (case hargs => rfl); (case hs => exact henc _))
        | ((with_reducible apply W.call1 go13); (case ho => rfl); (case hc => rfl); (case hf => rfl); (case hg => first | rfl | simp [T3, T4, T23, T24, T27, T35, hj4', hjl, hyy, hB, hwj, hwy, hng, hns]); (case hd => rfl); (case ha => simp [T3, T4, T23, T24, T27, T35, hj4', hjl, hyy, hB, hwj, hwy, hng, hns]; rfl); (case hargs => rfl); (case hs => exact hrenc _))
        | ((with_reducible apply W.call1 go14); (case ho => rfl); (case hc => rfl); (case hf => rfl); (case hg => first | rfl | simp [T3, T4, T23, T24, T27, T35, hj4', hjl, hyy, hB, hwj, hwy, hng, hns]); (case hd => rfl); (case ha => simp [T3, T4, T23, T24, T27, T35, hj4', hjl, hyy, hB, hwj, hwy, hng, hns]; rfl); (case hargs => rfl); (case hs => exact hdec _))
        | fail)
      refine W.hand (j + 1) ?_ ?_ ?_ rfl
      · exact hj4
      · omega
      · repeat (first | exact Sw.Sub.nil | refine Sw.Sub.cons (by simp) ?_)
    · rw [ha] at henc hrenc
      dsimp only at henc hrenc
      repeat' (first
        | with_reducible refine W.seq ?_
        | with_reducible refine W.next ?_
        | with_reducible refine W.nil ?_
        | with_reducible refine W.skip ?_
        | with_reducible refine W.ret ?_
        | with_reducible refine W.ret_code ?_
        | with_reducible refine W.block ?_
        | with_reducible refine W.out ?_
        | with_reducible refine W.ret_blk ?_
        | with_reducible refine W.exit ?_
        | with_reducible refine W.exit_code ?_
        | with_reducible refine W.exit_here ?_
        | with_reducible refine W.leave_exit ?_
        | with_reducible refine W.leave_ret ?_
        | ((with_reducible refine W.exit_on ?h ?_); (case h => decide))
        | ((with_reducible apply W.reg); (case h => simp [T3, T4, T23, T24, T27, T35, hj4', hjl, hyy, hB, hwj]; exact ⟨rfl, rfl, rfl⟩))
        | ((with_reducible apply W.draw mixed); (case hB => kernel_rfl); (case hr => simp [T3, T4, T23, T24, T27, T35, hj4', hjl, hyy, hB, hwj]; rfl))
        | ((with_reducible apply W.cond); (case hc => simp; rfl); all_goals (intro hc_; try (cases hc_; done)))
        | ((with_reducible apply W.runX); (case _hc => rfl); (case h => simp [T3, T4, T23, T24, T27, T35, hj4', hjl, hyy, hB, hwj]; exact ⟨rfl, rfl, rfl⟩))
        | ((with_reducible apply W.call1 go12); (case ho => rfl); (case hc => rfl); (case hf => rfl); (case hg => first | rfl | simp [T3, T4, T23, T24, T27, T35, hj4', hjl, hyy, hB, hwj]); (case hd => rfl); (case ha => simp [T3, T4, T23, T24, T27, T35, hj4', hjl, hyy, hB, hwj]; rfl); (case hargs => rfl); (case hs => exact henc _))
        | ((with_reducible apply W.call1 go13); (case ho => rfl); (case hc => rfl); (case hf => rfl); (case hg => first | rfl | simp [T3, T4, T23, T24, T27, T35, hj4', hjl, hyy, hB, hwj]); (case hd => rfl); (case ha => simp [T3, T4, T23, T24, T27, T35, hj4', hjl, hyy, hB, hwj]; rfl); (case hargs => rfl); (case hs => exact hrenc _))
        | fail)
      refine W.hand (j + 1) ?_ ?_ ?_ rfl
      · exact hj4
      · omega
      · repeat (first | exact Sw.Sub.nil | refine Sw.Sub.cons (by simp) ?_)
  · have hj4' : ¬ (j : Int) < 4 := by omega
    repeat' (first
      | with_reducible refine W.seq ?_
      | with_reducible refine W.next ?_
      | with_reducible refine W.nil ?_
      | with_reducible refine W.skip ?_
      | with_reducible refine W.ret ?_
      | with_reducible refine W.ret_code ?_
      | with_reducible refine W.block ?_
      | with_reducible refine W.out ?_
      | with_reducible refine W.ret_blk ?_
      | with_reducible refine W.exit ?_
      | with_reducible refine W.exit_code ?_
      | with_reducible refine W.exit_here ?_
      | with_reducible refine W.leave_exit ?_
      | with_reducible refine W.leave_ret ?_
      | ((with_reducible refine W.exit_on ?h ?_); (case h => decide))
      | ((with_reducible apply W.reg); (case h => simp [T3, T4, T23, T24, T27, T35, hj4']; exact ⟨rfl, rfl, rfl⟩))
      | ((with_reducible apply W.draw mixed); (case hB => kernel_rfl); (case hr => simp [T3, T4, T23, T24, T27, T35, hj4']; rfl))
      | ((with_reducible apply W.cond); (case hc => simp; rfl); all_goals (intro hc_; try (cases hc_; done)))
      | ((with_reducible apply W.runX); (case _hc => rfl); (case h => simp [T3, T4, T23, T24, T27, T35, hj4']; exact ⟨rfl, rfl, rfl⟩))
      | fail)
    refine W.mid () trivial ?_ rfl
    repeat (first | exact Sw.Sub.nil | refine Sw.Sub.cons (by simp) ?_)

set_option maxHeartbeats 2000000 in
/-- The loop over numbers. -/
theorem law3b_sw (n m : Nat) (x : Ent) (hx : EntOK x) (ys : List Int) (hys : ∀ y ∈ ys, I64 y) (hl : ys.length = 4) (σ : AS) (B b be : Nat) (value nn v : Int) (xs : List Ent) (i : Nat) (hB : σ.bx[B]? = some (encE x)) (Q : Post) (kk : List KI) :
    SW Cc ⟨188, n, m⟩ (cAt [2, 2, 2, 2, 2, 1, 2, 3, 4, 2, 2, 1, 3, 2, 2, 2, 3] c3) (Cont Cc ⟨188, n, m⟩ (thenP (MidP (fun _ : Unit => [(1, i64 value), (2, i64 nn), (9, .ptr b 0), (11, .ptr be 0), (12, i64 v), (58, .sl none (xs.map encE)), (59, i64 3), (60, i64 i), (14, .ptr B 0)]) (fun _ => σ) (fun _ => True)) (Cont Cc ⟨188, n, m⟩ Q kk)) [.blk 4])
      [(1, i64 value), (2, i64 nn), (9, .ptr b 0), (11, .ptr be 0), (12, i64 v), (58, .sl none (xs.map encE)), (59, i64 3), (60, i64 i), (14, .ptr B 0), (143, .sl none (ys.map encI)), (144, i64 4), (145, i64 0)] σ := by
  change SW Cc ⟨188, n, m⟩ (Code.loop _) _ _ _
  with_reducible refine W.loopS (α := Nat) (fun j => [(1, i64 value), (2, i64 nn), (9, .ptr b 0), (11, .ptr be 0), (12, i64 v), (58, .sl none (xs.map encE)), (59, i64 3), (60, i64 i), (14, .ptr B 0), (143, .sl none (ys.map encI)), (144, i64 4), (145, i64 j)]) (fun _ => σ) (fun j => j ≤ 4) (fun j => 4 - j) 0 ?_ ?_ ?_ ?_
  · exact Nat.zero_le _
  · repeat (first | exact Sw.Sub.nil | refine Sw.Sub.cons (by simp) ?_)
  · rfl
  intro j hj
  (try dsimp only at hj ⊢)
  by_cases hj4 : j < 4
  · have hjl : j < ys.length := by omega
    have hj4' : (j : Int) < 4 := by omega
    have hwj : IntKind.i64.wrap ((j : Int) + 1) = (j : Int) + 1 := wrap64 (by omega)
    obtain ⟨y, hy⟩ : ∃ y, ys[j]? = some y := ⟨ys[j], List.getElem?_eq_getElem hjl⟩
    have hyy : ys[j] = y := (List.getElem?_eq_some_iff.1 hy).2
    have hyi : I64 y := hys y (List.mem_of_getElem? hy)
    have hdec := fun σ => Decode_sc x y σ hx hyi
    have hrdec := fun σ => refDecode_sc x y σ hx hyi
    have hai := decF_i64 (x := x) (z := y)
    have henc := fun σ => Encode_sc x (decF x y).1 σ hx hai
    rcases decF_cases x y with ⟨a, ha⟩ | ha
    · have he := enc_dec ha
      rw [ha] at hdec hrdec henc
      dsimp only at hdec hrdec henc
      rw [he] at henc
      dsimp only at henc
      repeat' (first
        | with_reducible refine W.seq ?_
        | with_reducible refine W.next ?_
        | with_reducible refine W.nil ?_
        | with_reducible refine W.skip ?_
        | with_reducible refine W.ret ?_
        | with_reducible refine W.ret_code ?_
        | with_reducible refine W.block ?_
        | with_reducible refine W.out ?_
        | with_reducible refine W.ret_blk ?_
        | with_reducible refine W.exit ?_
        | with_reducible refine W.exit_code ?_
        | with_reducible refine W.exit_here ?_
        | with_reducible refine W.leave_exit ?_
        | with_reducible refine W.leave_ret ?_
        | ((with_reducible refine W.exit_on ?h ?_); (case h => decide))
        | ((with_reducible apply W.reg); (case h => simp [T3, T4, T23, T24, T27, T35, hj4', hjl, hyy, hB, hwj]; exact ⟨rfl, rfl, rfl⟩))
        | ((with_reducible apply W.draw mixed); (case hB => kernel_rfl); (case hr => simp [T3, T4, T23, T24, T27, T35, hj4', hjl, hyy, hB, hwj]; rfl))
        | ((with_reducible apply W.cond); (case hc => simp; rfl); all_goals (intro hc_; try (cases hc_; done)))
        | ((with_reducible apply W.runX); (case _hc => rfl); (case h => simp [T3, T4, T23, T24, T27, T35, hj4', hjl, hyy, hB, hwj]; exact ⟨rfl, rfl, rfl⟩))
        | ((with_reducible apply W.call1 go12); (case ho => rfl); (case hc => rfl); (case hf => rfl); (case hg => first | rfl | simp [T3, T4, T23, T24, T27, T35, hj4', hjl, hyy, hB, hwj]); (case hd => rfl); (case ha => simp [T3, T4, T23, T24, T27, T35, hj4', hjl, hyy, hB, hwj]; rfl); (case hargs => rfl); (case hs => exact henc _))
        | ((with_reducible apply W.call1 go15); (case ho => rfl); (case hc => rfl); (case hf => rfl); (case hg => first | rfl | simp [T3, T4, T23, T24, T27, T35, hj4', hjl, hyy, hB, hwj]); (case hd => rfl); (case ha => simp [T3, T4, T23, T24, T27, T35, hj4', hjl, hyy, hB, hwj]; rfl); (case hargs => rfl); (case hs => exact hrdec _))
        | ((with_reducible apply W.call1 go14); (case ho => rfl); (case hc => rfl); (case hf => rfl); (case hg => first | rfl | simp [T3, T4, T23, T24, T27, T35, hj4', hjl, hyy, hB, hwj]); (case hd => rfl); (case ha => simp [T3, T4, T23, T24, T27, T35, hj4', hjl, hyy, hB, hwj]; rfl); (case hargs => rfl); (case hs => exact hdec _))
        | fail)
      refine W.hand (j + 1) ?_ ?_ ?_ rfl
      · exact hj4
      · omega
      · repeat (first | exact Sw.Sub.nil | refine Sw.Sub.cons (by simp) ?_)
    · rw [ha] at hdec hrdec henc
      dsimp only at hdec hrdec henc
      repeat' (first
        | with_reducible refine W.seq ?_
        | with_reducible refine W.next ?_
        | with_reducible refine W.nil ?_
        | with_reducible refine W.skip ?_
        | with_reducible refine W.ret ?_
        | with_reducible refine W.ret_code ?_
        | with_reducible refine W.block ?_
        | with_reducible refine W.out ?_
        | with_reducible refine W.ret_blk ?_
        | with_reducible refine W.exit ?_
        | with_reducible refine W.exit_code ?_
        | with_reducible refine W.exit_here ?_
        | with_reducible refine W.leave_exit ?_
        | with_reducible refine W.leave_ret ?_
        | ((with_reducible refine W.exit_on ?h ?_); (case h => decide))
        | ((with_reducible apply W.reg); (case h => simp [T3, T4, T23, T24, T27, T35, hj4', hjl, hyy, hB, hwj]; exact ⟨rfl, rfl, rfl⟩))
        | ((with_reducible apply W.draw mixed); (case hB => kernel_rfl); (case hr => simp [T3, T4, T23, T24, T27, T35, hj4', hjl, hyy, hB, hwj]; rfl))
        | ((with_reducible apply W.cond); (case hc => simp; rfl); all_goals (intro hc_; try (cases hc_; done)))
        | ((with_reducible apply W.runX); (case _hc => rfl); (case h => simp [T3, T4, T23, T24, T27, T35, hj4', hjl, hyy, hB, hwj]; exact ⟨rfl, rfl, rfl⟩))
        | ((with_reducible apply W.call1 go12); (case ho => rfl); (case hc => rfl); (case hf => rfl); (case hg => first | rfl | simp [T3, T4, T23, T24, T27, T35, hj4', hjl, hyy, hB, hwj]); (case hd => rfl); (case ha => simp [T3, T4, T23, T24, T27, T35, hj4', hjl, hyy, hB, hwj]; rfl); (case hargs => rfl); (case hs => exact henc _))
        | ((with_reducible apply W.call1 go15); (case ho => rfl); (case hc => rfl); (case hf => rfl); (case hg => first | rfl | simp [T3, T4, T23, T24, T27, T35, hj4', hjl, hyy, hB, hwj]); (case hd => rfl); (case ha => simp [T3, T4, T23, T24, T27, T35, hj4', hjl, hyy, hB, hwj]; rfl); (case hargs => rfl); (case hs => exact hrdec _))
        | ((with_reducible apply W.call1 go14); (case ho => rfl); (case hc => rfl); (case hf => rfl); (case hg => first | rfl | simp [T3, T4, T23, T24, T27, T35, hj4', hjl, hyy, hB, hwj]); (case hd => rfl); (case ha => simp [T3, T4, T23, T24, T27, T35, hj4', hjl, hyy, hB, hwj]; rfl); (case hargs => rfl); (case hs => exact hdec _))
        | fail)
      refine W.hand (j + 1) ?_ ?_ ?_ rfl
      · exact hj4
      · omega
      · repeat (first | exact Sw.Sub.nil | refine Sw.Sub.cons (by simp) ?_)
  · have hj4' : ¬ (j : Int) < 4 := by omega
    repeat' (first
      | with_reducible refine W.seq ?_
      | with_reducible refine W.next ?_
      | with_reducible refine W.nil ?_
      | with_reducible refine W.skip ?_
      | with_reducible refine W.ret ?_
      | with_reducible refine W.ret_code ?_
      | with_reducible refine W.block ?_
      | with_reducible refine W.out ?_
      | with_reducible refine W.ret_blk ?_
      | with_reducible refine W.exit ?_
      | with_reducible refine W.exit_code ?_
      | with_reducible refine W.exit_here ?_
      | with_reducible refine W.leave_exit ?_
      | with_reducible refine W.leave_ret ?_
      | ((with_reducible refine W.exit_on ?h ?_); (case h => decide))
      | ((with_reducible apply W.reg); (case h => simp [T3, T4, T23, T24, T27, T35, hj4']; exact ⟨rfl, rfl, rfl⟩))
      | ((with_reducible apply W.draw mixed); (case hB => kernel_rfl); (case hr => simp [T3, T4, T23, T24, T27, T35, hj4']; rfl))
      | ((with_reducible apply W.cond); (case hc => simp; rfl); all_goals (intro hc_; try (cases hc_; done)))
      | ((with_reducible apply W.runX); (case _hc => rfl); (case h => simp [T3, T4, T23, T24, T27, T35, hj4']; exact ⟨rfl, rfl, rfl⟩))
      | fail)
    refine W.mid () trivial ?_ rfl
    repeat (first | exact Sw.Sub.nil | refine Sw.Sub.cons (by simp) ?_)


end Go.Proofs.YtgabnlkkjmepnaaDoor

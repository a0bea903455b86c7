/- The functions that draw codes out of a list of numbers, and small ones beside them: what each gives. -/
import Derived.Test.YtgabnlkkjmepnaaDoorS1
import Derived.IntWalk
namespace Go.Proofs.YtgabnlkkjmepnaaDoor
open Go.Sw
set_option linter.unusedSimpArgs false
set_option linter.unusedVariables false
attribute [local simp] runOps stepOp pureOp gd isCall inN setd Sw.get params ev evs binV unV convV loadA cellsPV oneB storeA fieldAddrA fieldOff fieldA partA aggOf extractA indexAddrA indexA lenA minmaxA sliceA bnd partsA buildA placesA fillA buildSliceA zerosA chunkA TyD.agg Value.oneCell' Value.cells runPure appA appendA okRow_nil okRow_cons okRow_append resultA ressA resA List.getElem?_append List.set_append Cl_any Cl_val Cl_ptr Cl_agg Cl_tup Cl_fn Cl_rop Cl_sl Sw.take_set Sw.take_set_app Sw.take_app

attribute [local simp] encI
@[local simp] theorem okRow_encI (l : List Int) : okRow 1 (l.map encI) = true := okRow_map (by intro a; exact ⟨rfl, rfl⟩) l

theorem Pick_sc (b : Nat) (L : List Int) (a : Nat) (l : List Int) (σ : AS) (hb : σ.bx[b]? = some (srcB L a)) (ha : a ≤ L.length) (hL : L.length ≤ 2000) (h0 : 1 ≤ l.length) (h1 : l.length ≤ 1000) :
    SC Cc 30 [.ptr b 0, .sl none (l.map encI)] σ (Nx b L σ fun v => v ∈ l) := by
  refine W.body Tryd.func30 rfl 12 Tryd.ntmps30 _ Tryd.results30 (by simp) GEt_cl fun hσ => ?_
  repeat' (first
    | with_reducible refine W.seq ?_
    | with_reducible refine W.next ?_
    | with_reducible refine W.nil ?_
    | with_reducible refine W.skip ?_
    | with_reducible refine W.ret ?_
    | with_reducible refine W.ret_code ?_
    | with_reducible refine W.block ?_
    | with_reducible refine W.out ?_
    | with_reducible refine W.ret_blk ?_
    | with_reducible refine W.exit ?_
    | with_reducible refine W.exit_code ?_
    | with_reducible refine W.exit_here ?_
    | with_reducible refine W.leave_exit ?_
    | with_reducible refine W.leave_ret ?_
    | ((with_reducible refine W.exit_on ?h ?_); (case h => decide))
    | ((with_reducible apply W.reg); (case h => simp [T3, T24]; exact ⟨rfl, rfl, rfl⟩))
    | ((with_reducible apply W.draw mixed); (case hB => kernel_rfl); (case hr => simp [T3, T24]; rfl))
    | ((with_reducible apply W.cond); (case hc => simp; rfl); all_goals (intro hc_; try (cases hc_; done)))
    | ((with_reducible apply W.runX); (case _hc => rfl); (case h => simp [T3, T24]; exact ⟨rfl, rfl, rfl⟩))
    | ((with_reducible apply W.callR go10); (case ho => rfl); (case hc => rfl); (case hf => rfl); (case hg => first | rfl | simp [T3, T24]); (case hd => rfl); (case ha => simp [T3, T24]; rfl); (case hargs => rfl); (case hs => exact N_sc b L a _ σ hb ha hL); rintro _ _ ⟨v, a', hv, ha', rfl, rfl⟩))
  have hv1 := hv.2 (by omega) (by omega)
  obtain ⟨i, rfl⟩ := Int.eq_ofNat_of_zero_le hv1.1
  have hv2 : i < l.length := by omega
  repeat' (first
    | with_reducible refine W.seq ?_
    | with_reducible refine W.next ?_
    | with_reducible refine W.nil ?_
    | with_reducible refine W.skip ?_
    | with_reducible refine W.ret ?_
    | with_reducible refine W.ret_code ?_
    | with_reducible refine W.block ?_
    | with_reducible refine W.out ?_
    | with_reducible refine W.ret_blk ?_
    | with_reducible refine W.exit ?_
    | with_reducible refine W.exit_code ?_
    | with_reducible refine W.exit_here ?_
    | with_reducible refine W.leave_exit ?_
    | with_reducible refine W.leave_ret ?_
    | ((with_reducible refine W.exit_on ?h ?_); (case h => decide))
    | ((with_reducible apply W.reg); (case h => simp [T3, T24, hv2]; exact ⟨rfl, rfl, rfl⟩))
    | ((with_reducible apply W.draw mixed); (case hB => kernel_rfl); (case hr => simp [T3, T24, hv2]; rfl))
    | ((with_reducible apply W.cond); (case hc => simp; rfl); all_goals (intro hc_; try (cases hc_; done)))
    | ((with_reducible apply W.runX); (case _hc => rfl); (case h => simp [T3, T24, hv2]; exact ⟨rfl, rfl, rfl⟩)))
  with_reducible apply W.fin
  case h1 => simp <;> rfl
  case h2 => exact Wk.rfl
  case h3 => simp
  case h4 => exact hσ.clB.set (cl_srcB _ _ _ _)
  refine ⟨l[i], a', List.getElem_mem hv2, ha', rfl, ?_⟩
  simp

/-- What a drawn code is: it stands for something, or it is one of those that tables leave out. -/
def kindF (c : Int) : Int := if c < 1 then 0 else if c < 10000 then 1 else if c < 20000 then 2 else
  if (c - 20000).tdiv 100 ≥ 1 ∧ (c - 20000).tdiv 100 ≤ 20 ∧ (c - 20000).tmod 100 ≥ 1 ∧ (c - 20000).tmod 100 ≤ 20 then 3 else 0
def drawn (c : Int) : Prop := -1 ≤ c ∧ c ≤ 30000 ∧ (kindF c ≠ 0 ∨ c < 1 ∨ c ≥ 30000 ∨ c = 20000 ∨ c = 20100 ∨ c = 20021 ∨ c = 22121)

theorem kindF_seq {v : Int} (h : 0 ≤ v ∧ v < 4) : drawn (10000 + v) := by
  unfold drawn kindF
  refine ⟨by omega, by omega, .inl ?_⟩
  rw [if_neg (by omega), if_neg (by omega), if_pos (by omega)]
  decide
theorem kindF_rep {x y : Int} (hx : 1 ≤ x ∧ x ≤ 3) (hy : 1 ≤ y ∧ y ≤ 3) : drawn (20000 + 100 * x + y) := by
  unfold drawn kindF
  refine ⟨by omega, by omega, .inl ?_⟩
  rw [if_neg (by omega), if_neg (by omega), if_neg (by omega)]
  have e1 : (20000 + 100 * x + y - 20000).tdiv 100 = x := by rw [Int.tdiv_eq_ediv_of_nonneg (by omega)]; omega
  have e2 : (20000 + 100 * x + y - 20000).tmod 100 = y := by rw [Int.tmod_eq_emod_of_nonneg (by omega)]; omega
  rw [e1, e2, if_pos (by omega)]
  decide
theorem kindF_entry {v : Int} (h : 1 ≤ v ∧ v ≤ 11) : drawn (100 * v) := by
  unfold drawn kindF
  refine ⟨by omega, by omega, .inl ?_⟩
  rw [if_neg (by omega), if_pos (by omega)]
  decide
theorem kindF_odd {v : Int} (h : v ∈ ([0, -1, 7, 20000, 20100, 20021, 22121, 30000, 100, 100, 200] : List Int)) : drawn v := by
  simp at h
  rcases h with rfl | rfl | rfl | rfl | rfl | rfl | rfl | rfl | rfl | rfl <;> (unfold drawn kindF; decide)

theorem wrap_rep {x y : Int} (hx : 1 ≤ x ∧ x ≤ 3) (hy : 1 ≤ y ∧ y ≤ 3) : IntKind.i64.wrap (IntKind.i64.wrap (20000 + IntKind.i64.wrap (100 * x)) + y) = 20000 + 100 * x + y := by
  have e1 : IntKind.i64.wrap (100 * x) = 100 * x := wrap64 (by omega)
  have e2 : IntKind.i64.wrap (20000 + 100 * x) = 20000 + 100 * x := wrap64 (by omega)
  rw [e1, e2, wrap64 (by omega)]

theorem Code_sc (b : Nat) (L : List Int) (a : Nat) (σ : AS) (hb : σ.bx[b]? = some (srcB L a)) (ha : a ≤ L.length) (hL : L.length ≤ 2000) : SC Cc 31 [.ptr b 0] σ (Nx b L σ drawn) := by
  refine W.body Tryd.func31 rfl 27 Tryd.ntmps31 _ Tryd.results31 (by simp) GEt_cl fun hσ => ?_
  repeat' (first
    | with_reducible refine W.seq ?_
    | with_reducible refine W.next ?_
    | with_reducible refine W.nil ?_
    | with_reducible refine W.skip ?_
    | with_reducible refine W.ret ?_
    | with_reducible refine W.ret_code ?_
    | with_reducible refine W.block ?_
    | with_reducible refine W.out ?_
    | with_reducible refine W.ret_blk ?_
    | with_reducible refine W.exit ?_
    | with_reducible refine W.exit_code ?_
    | with_reducible refine W.exit_here ?_
    | with_reducible refine W.leave_exit ?_
    | with_reducible refine W.leave_ret ?_
    | ((with_reducible refine W.exit_on ?h ?_); (case h => decide))
    | ((with_reducible apply W.reg); (case h => simp [T3, T24]; exact ⟨rfl, rfl, rfl⟩))
    | ((with_reducible apply W.draw mixed); (case hB => kernel_rfl); (case hr => simp [T3, T24]; rfl))
    | ((with_reducible apply W.cond); (case hc => simp; rfl); all_goals (intro hc_; try (cases hc_; done)))
    | ((with_reducible apply W.runX); (case _hc => rfl); (case h => simp [T3, T24]; exact ⟨rfl, rfl, rfl⟩))
    | ((with_reducible apply W.callR go10); (case ho => rfl); (case hc => rfl); (case hf => rfl); (case hg => first | rfl | simp [T3, T24]); (case hd => rfl); (case ha => simp [T3, T24]; rfl); (case hargs => rfl); (case hs => exact N_sc b L _ _ _ (by assumption) (by omega) hL); rintro _ _ ⟨v, a', hv, ha', rfl, rfl⟩; have hs_ := get_set_of hb (srcB L a'); have hv := hv.2 (by omega) (by omega))
    | ((with_reducible apply W.callR go20); (case ho => rfl); (case hc => rfl); (case hf => rfl); (case hg => first | rfl | simp [T3, T24]); (case hd => rfl); (case ha => simp [T3, T24]; rfl); (case hargs => rfl); (case hs => exact Range_sc b L _ _ _ _ (by assumption) (by omega) hL (by omega) (by omega) (by omega)); rintro _ _ ⟨v, a', hv, ha', rfl, rfl⟩; have hs_ := get_set_of hb (srcB L a'))
    | ((with_reducible apply W.callR go30); (case ho => rfl); (case hc => rfl); (case hf => rfl); (case hg => first | rfl | simp [T3, T24]); (case hd => rfl); (case ha => simp [T3, T24]; rfl); (case hargs => rfl); (case hs => exact Pick_sc b L _ [0, -1, 7, 20000, 20100, 20021, 22121, 30000, 100, 100, 200] _ (by assumption) (by omega) hL (by decide) (by decide)); rintro _ _ ⟨v, a', hv, ha', rfl, rfl⟩))
  all_goals
    with_reducible apply W.fin
    case h1 => simp <;> rfl
    case h2 => exact Wk.rfl
    case h3 => simp
    case h4 => exact hσ.clB.set (cl_srcB _ _ _ _)
    refine ⟨_, a', ?_, ha', rfl, by simp⟩
    first
    | (rw [wrap64 (by omega)]; exact kindF_seq (by assumption))
    | (rw [wrap64 (by omega)]; exact kindF_entry (by assumption))
    | (rw [wrap_rep (by assumption) (by assumption)]; exact kindF_rep (by assumption) (by assumption))
    | exact kindF_odd hv

/-- A list of drawn codes. -/
def Cs (b : Nat) (L : List Int) (σ : AS) (n : Int) : PV → AS → Prop := fun r σ' =>
  ∃ (xs : List Int) (a : Nat), xs.length ≤ n.toNat ∧ (∀ x ∈ xs, drawn x) ∧ a ≤ L.length ∧ r = .sl none (xs.map encI) ∧ σ' = ⟨σ.bx.set b (srcB L a), σ.tk⟩

theorem codes_sc (b : Nat) (L : List Int) (a : Nat) (n : Int) (σ : AS) (hb : σ.bx[b]? = some (srcB L a)) (ha : a ≤ L.length) (hL : L.length ≤ 2000) (hn : 0 ≤ n ∧ n ≤ 1000) : SC Cc 17 [.ptr b 0, i64 n] σ (Cs b L σ n) := by
  refine W.body Tryd.func17 rfl 21 Tryd.ntmps17 _ Tryd.results17 (by simp) GEt_cl fun hσ => ?_
  have hw : IntKind.i64.wrap (n + 1) = n + 1 := wrap64 (by omega)
  repeat' (first
    | with_reducible refine W.seq ?_
    | with_reducible refine W.next ?_
    | with_reducible refine W.nil ?_
    | with_reducible refine W.skip ?_
    | with_reducible refine W.ret ?_
    | with_reducible refine W.ret_code ?_
    | with_reducible refine W.block ?_
    | with_reducible refine W.out ?_
    | with_reducible refine W.ret_blk ?_
    | with_reducible refine W.exit ?_
    | with_reducible refine W.exit_code ?_
    | with_reducible refine W.exit_here ?_
    | with_reducible refine W.leave_exit ?_
    | with_reducible refine W.leave_ret ?_
    | ((with_reducible refine W.exit_on ?h ?_); (case h => decide))
    | ((with_reducible apply W.reg); (case h => simp [T3, T24, hw]; exact ⟨rfl, rfl, rfl⟩))
    | ((with_reducible apply W.draw mixed); (case hB => kernel_rfl); (case hr => simp [T3, T24, hw]; rfl))
    | ((with_reducible apply W.cond); (case hc => simp; rfl); all_goals (intro hc_; try (cases hc_; done)))
    | ((with_reducible apply W.runX); (case _hc => rfl); (case h => simp [T3, T24, hw]; exact ⟨rfl, rfl, rfl⟩))
    | ((with_reducible apply W.callR go10); (case ho => rfl); (case hc => rfl); (case hf => rfl); (case hg => first | rfl | simp [T3, T24, hw]); (case hd => rfl); (case ha => simp [T3, T24, hw]; rfl); (case hargs => rfl); (case hs => exact N_sc b L a _ _ hb ha hL); rintro _ _ ⟨v, a', hv, ha', rfl, rfl⟩))
  have hv := hv.2 (by omega) (by omega)
  with_reducible refine W.token 3 5 (by simp) ?_
  with_reducible refine W.loopS (α := Int × List Int × Nat) (fun x => [(5, .sl (some σ.tk.length) (x.2.1.map encI)), (6, i64 x.1), (0, .ptr b 0)]) (fun x => ⟨σ.bx.set b (srcB L x.2.2), σ.tk ++ [(3, x.2.1.length)]⟩) (fun x => 0 ≤ x.1 ∧ x.1 + x.2.1.length ≤ n ∧ (∀ y ∈ x.2.1, drawn y) ∧ x.2.2 ≤ L.length) (fun x => x.1.toNat) (v, [], a') ?_ ?_ ?_ ?_
  · exact ⟨hv.1, by simp; omega, by simp, ha'⟩
  · repeat (first | exact Sw.Sub.nil | refine Sw.Sub.cons (by simp) ?_)
  · simp
  · rintro ⟨i, xs, a1⟩ ⟨h1, h2, h3, h4⟩
    have hs_ := get_set_of hb (srcB L a1)
    have hsz : (xs.length + 1) * 8 ≤ 140737488355328 := by simp at h2; omega
    dsimp only
    dsimp only at h1 h2 h3 h4
    have hwi : IntKind.i64.wrap (i - 1) = i - 1 := wrap64 (by omega)
    repeat' (first
      | with_reducible refine W.seq ?_
      | with_reducible refine W.next ?_
      | with_reducible refine W.nil ?_
      | with_reducible refine W.skip ?_
      | with_reducible refine W.ret ?_
      | with_reducible refine W.ret_code ?_
      | with_reducible refine W.block ?_
      | with_reducible refine W.out ?_
      | with_reducible refine W.ret_blk ?_
      | with_reducible refine W.exit ?_
      | with_reducible refine W.exit_code ?_
      | with_reducible refine W.exit_here ?_
      | with_reducible refine W.leave_exit ?_
      | with_reducible refine W.leave_ret ?_
      | ((with_reducible refine W.exit_on ?h ?_); (case h => decide))
      | ((with_reducible apply W.reg); (case h => simp [T3, T24, hsz, hwi]; exact ⟨rfl, rfl, rfl⟩))
      | ((with_reducible apply W.draw mixed); (case hB => kernel_rfl); (case hr => simp [T3, T24, hsz, hwi]; rfl))
      | ((with_reducible apply W.cond); (case hc => simp; rfl); all_goals (intro hc_; try (cases hc_; done)))
      | ((with_reducible apply W.runX); (case _hc => rfl); (case h => simp [T3, T24, hsz, hwi]; exact ⟨rfl, rfl, rfl⟩))
      | ((with_reducible apply W.callR go31); (case ho => rfl); (case hc => rfl); (case hf => rfl); (case hg => first | rfl | simp [T3, T24, hsz, hwi]); (case hd => rfl); (case ha => simp [T3, T24, hsz, hwi]; rfl); (case hargs => rfl); (case hs => exact Code_sc b L _ _ (by assumption) (by assumption) hL); rintro _ _ ⟨v, a', hv, ha', rfl, rfl⟩))
    · simp at hc_
      refine W.hand (i - 1, xs ++ [v], a') ⟨by dsimp only; omega, by simp; omega, ?_, ha'⟩ (by dsimp only; omega) ?_ ?_
      · intro y hy
        rcases List.mem_append.1 hy with hy | hy
        · exact h3 y hy
        · simp at hy; subst hy; exact hv
      · repeat (first | exact Sw.Sub.nil | refine Sw.Sub.cons (by simp) ?_)
      · simp
    · with_reducible apply W.fin
      case h1 => simp <;> rfl
      case h2 => exact Wk.unown
      case h3 => simp
      case h4 => exact (hσ.clB.set (cl_srcB _ _ _ _))
      refine ⟨xs, a1, by omega, h3, h4, rfl, by simp⟩

theorem New_sc (L : List Int) (σ : AS) : SC Cc 8 [.sl none (L.map encI)] σ fun r σ' => ∃ L', L'.length ≤ 2000 ∧ r = .ptr σ.bx.length 0 ∧ σ' = ⟨σ.bx ++ [srcB L' 0], σ.tk⟩ := by
  refine W.body Tryd.func8 rfl 10 Tryd.ntmps8 _ Tryd.results8 (by simp) GEt_cl fun hσ => ?_
  have hcl : ∀ (k : Nat) (p : PV), p ∈ [PV.sl none (List.take k (L.map encI)), i64 0] → Cl (σ.bx.length + 1) σ.tk.length p := by
    intro k p hp
    simp only [List.mem_cons, List.not_mem_nil, or_false] at hp
    rcases hp with rfl | rfl
    · exact (Cl_sl ..).2 ⟨by simp, cl_take (mem_cl_map (cl_encI _ _))⟩
    · exact .val _
  by_cases h : 2000 < L.length
  · have h' : (2000 : Int) < L.length := by omega
    have h2 : 2000 ≤ L.length := by omega
    repeat' (first
      | with_reducible refine W.seq ?_
      | with_reducible refine W.next ?_
      | with_reducible refine W.nil ?_
      | with_reducible refine W.skip ?_
      | with_reducible refine W.ret ?_
      | with_reducible refine W.ret_code ?_
      | with_reducible refine W.block ?_
      | with_reducible refine W.out ?_
      | with_reducible refine W.ret_blk ?_
      | with_reducible refine W.exit ?_
      | with_reducible refine W.exit_code ?_
      | with_reducible refine W.exit_here ?_
      | with_reducible refine W.leave_exit ?_
      | with_reducible refine W.leave_ret ?_
      | ((with_reducible refine W.exit_on ?h ?_); (case h => decide))
      | ((with_reducible apply W.reg); (case h => simp [T3, T24, T60, h, h', h2]; exact ⟨rfl, rfl, rfl⟩))
      | ((with_reducible apply W.draw mixed); (case hB => kernel_rfl); (case hr => simp [T3, T24, T60, h, h', h2]; rfl))
      | ((with_reducible apply W.cond); (case hc => simp; rfl); all_goals (intro hc_; try (cases hc_; done)))
      | ((with_reducible apply W.runX); (case _hc => rfl); (case h => simp [T3, T24, T60, h, h', h2]; exact ⟨rfl, rfl, rfl⟩)))
    refine W.finK (σ.bx.length + 1) σ.tk.length _ (.ptr σ.bx.length 0) (by omega) (Nat.le_refl _) (by simp <;> rfl) Wk.rfl (by simp) (hσ.clB1 (hcl _)) ⟨L.take 2000, by simp; omega, rfl, ?_⟩
    simp [srcB, take_app1]
  · have h' : ¬ (2000 : Int) < L.length := by omega
    repeat' (first
      | with_reducible refine W.seq ?_
      | with_reducible refine W.next ?_
      | with_reducible refine W.nil ?_
      | with_reducible refine W.skip ?_
      | with_reducible refine W.ret ?_
      | with_reducible refine W.ret_code ?_
      | with_reducible refine W.block ?_
      | with_reducible refine W.out ?_
      | with_reducible refine W.ret_blk ?_
      | with_reducible refine W.exit ?_
      | with_reducible refine W.exit_code ?_
      | with_reducible refine W.exit_here ?_
      | with_reducible refine W.leave_exit ?_
      | with_reducible refine W.leave_ret ?_
      | ((with_reducible refine W.exit_on ?h ?_); (case h => decide))
      | ((with_reducible apply W.reg); (case h => simp [T3, T24, T60, h, h']; exact ⟨rfl, rfl, rfl⟩))
      | ((with_reducible apply W.draw mixed); (case hB => kernel_rfl); (case hr => simp [T3, T24, T60, h, h']; rfl))
      | ((with_reducible apply W.cond); (case hc => simp; rfl); all_goals (intro hc_; try (cases hc_; done)))
      | ((with_reducible apply W.runX); (case _hc => rfl); (case h => simp [T3, T24, T60, h, h']; exact ⟨rfl, rfl, rfl⟩)))
    refine W.finK (σ.bx.length + 1) σ.tk.length _ (.ptr σ.bx.length 0) (by omega) (Nat.le_refl _) (by simp <;> rfl) Wk.rfl (by simp) (hσ.clB1 (hcl _)) ⟨L, by omega, rfl, ?_⟩
    simp [srcB, take_app1]
    rw [List.take_of_length_le (by simp)]


end Go.Proofs.YtgabnlkkjmepnaaDoor

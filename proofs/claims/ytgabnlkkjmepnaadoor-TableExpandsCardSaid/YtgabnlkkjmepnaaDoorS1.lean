/- The small functions that read numbers out of a list: what each gives. -/
import Derived.Test.YtgabnlkkjmepnaaDoorCx
import Derived.Test.YtgabnlkkjmepnaaDoorSwM
import Derived.IntWalk
namespace Go.Proofs.YtgabnlkkjmepnaaDoor
open Go.Sw
set_option linter.unusedSimpArgs false
set_option linter.unusedVariables false
attribute [local simp] runOps stepOp pureOp gd isCall inN setd Sw.get params ev evs binV unV convV loadA cellsPV oneB storeA fieldAddrA fieldOff fieldA partA aggOf extractA indexAddrA indexA lenA minmaxA sliceA bnd partsA buildA placesA fillA buildSliceA zerosA chunkA TyD.agg Value.oneCell' Value.cells runPure appA appendA okRow resultA ressA resA List.getElem?_append List.set_append Cl_any Cl_val Cl_ptr Cl_agg Cl_tup Cl_fn Cl_rop Cl_sl Sw.take_set Sw.take_set_app Sw.take_app

abbrev i64 (n : Int) : PV := .val (.int .i64 n)
abbrev bV (b : Bool) : PV := .val (.bool b)
def encI (n : Int) : List PV := [i64 n]
def srcB (L : List Int) (a : Nat) : List PV := [.sl none (L.map encI), i64 a]

theorem wrap64 {n : Int} (h : -9223372036854775808 ≤ n ∧ n ≤ 9223372036854775807) : IntKind.i64.wrap n = n := by
  have := IntWalk.i64_in n h; exact this

theorem cl_encI (n m : Nat) (x : Int) : ∀ p ∈ encI x, Cl n m p := by simp [encI, Cl_val]
theorem cl_srcB (n m : Nat) (L : List Int) (a : Nat) : ∀ p ∈ srcB L a, Cl n m p := by
  simp [srcB, encI]
theorem encI_get {L : List Int} {a : Nat} (h : a < L.length) : (L.map encI).getD a [] = [i64 (L.getD a 0)] := by
  rw [getD_map encI L a [] 0 h]; rfl

def modF (a b : Int) : Int := if b < 1 then 0 else if a.tmod b < 0 then IntKind.i64.wrap (a.tmod b + b) else a.tmod b
theorem modF_low {a b : Int} (h : b < 1) : modF a b = 0 := by simp [modF, h]
theorem modF_range {a b : Int} (h : 1 ≤ b) (h2 : b ≤ 9223372036854775807) : 0 ≤ modF a b ∧ modF a b < b := by
  have h1 := Int.tmod_lt_of_pos a (show 0 < b by omega)
  have h3 := Int.lt_tmod_of_pos a (show 0 < b by omega)
  unfold modF
  rw [if_neg (by omega)]
  split
  · rw [wrap64 (by omega)]; omega
  · omega

theorem Mod_sc (a b : Int) (σ : AS) : SC1 Cc 32 [i64 a, i64 b] σ (i64 (modF a b)) σ := by
  refine W.body Tryd.func32 rfl 16 Tryd.ntmps32 _ Tryd.results32 (by simp) GEt_cl fun hσ => ?_
  by_cases h1 : b < 1
  · repeat' (first
      | with_reducible refine W.seq ?_
      | with_reducible refine W.next ?_
      | with_reducible refine W.nil ?_
      | with_reducible refine W.skip ?_
      | with_reducible refine W.ret ?_
      | with_reducible refine W.ret_code ?_
      | with_reducible refine W.block ?_
      | with_reducible refine W.out ?_
      | with_reducible refine W.ret_blk ?_
      | with_reducible refine W.exit ?_
      | with_reducible refine W.exit_code ?_
      | with_reducible refine W.exit_here ?_
      | ((with_reducible refine W.exit_on ?h ?_); (case h => decide))
      | ((with_reducible apply W.reg); (case h => simp [T3, h1]; exact ⟨rfl, rfl, rfl⟩))
      | ((with_reducible apply W.draw mixed); (case hB => kernel_rfl); (case hr => simp [T3, h1]; rfl))
      | ((with_reducible apply W.cond); (case hc => simp; rfl); all_goals (intro hc_; try (cases hc_; done))))
    with_reducible apply W.fin
    case h1 => simp <;> rfl
    case h2 => exact Wk.rfl
    case h3 => simp
    case h4 => exact hσ.clB
    refine ⟨?_, ?_⟩
    · simp [modF, h1]
    · simp
  · have h0 : ¬ b = 0 := by omega
    by_cases h2 : a.tmod b < 0
    · repeat' (first
        | with_reducible refine W.seq ?_
        | with_reducible refine W.next ?_
        | with_reducible refine W.nil ?_
        | with_reducible refine W.skip ?_
        | with_reducible refine W.ret ?_
        | with_reducible refine W.ret_code ?_
        | with_reducible refine W.block ?_
        | with_reducible refine W.out ?_
        | with_reducible refine W.ret_blk ?_
        | with_reducible refine W.exit ?_
        | with_reducible refine W.exit_code ?_
        | with_reducible refine W.exit_here ?_
        | ((with_reducible refine W.exit_on ?h ?_); (case h => decide))
        | ((with_reducible apply W.reg); (case h => simp [T3, h1, h0, h2]; exact ⟨rfl, rfl, rfl⟩))
        | ((with_reducible apply W.draw mixed); (case hB => kernel_rfl); (case hr => simp [T3, h1, h0, h2]; rfl))
        | ((with_reducible apply W.cond); (case hc => simp; rfl); all_goals (intro hc_; try (cases hc_; done))))
      with_reducible apply W.fin
      case h1 => simp <;> rfl
      case h2 => exact Wk.rfl
      case h3 => simp
      case h4 => exact hσ.clB
      refine ⟨?_, ?_⟩
      · simp [modF, h1, h2]
      · simp
    · repeat' (first
        | with_reducible refine W.seq ?_
        | with_reducible refine W.next ?_
        | with_reducible refine W.nil ?_
        | with_reducible refine W.skip ?_
        | with_reducible refine W.ret ?_
        | with_reducible refine W.ret_code ?_
        | with_reducible refine W.block ?_
        | with_reducible refine W.out ?_
        | with_reducible refine W.ret_blk ?_
        | with_reducible refine W.exit ?_
        | with_reducible refine W.exit_code ?_
        | with_reducible refine W.exit_here ?_
        | ((with_reducible refine W.exit_on ?h ?_); (case h => decide))
        | ((with_reducible apply W.reg); (case h => simp [T3, h1, h0, h2]; exact ⟨rfl, rfl, rfl⟩))
        | ((with_reducible apply W.draw mixed); (case hB => kernel_rfl); (case hr => simp [T3, h1, h0, h2]; rfl))
        | ((with_reducible apply W.cond); (case hc => simp; rfl); all_goals (intro hc_; try (cases hc_; done))))
      with_reducible apply W.fin
      case h1 => simp <;> rfl
      case h2 => exact Wk.rfl
      case h3 => simp
      case h4 => exact hσ.clB
      refine ⟨?_, ?_⟩
      · simp [modF, h1, h2]
      · simp

/-- What a draw of a number gives: some number of which φ holds; the source has moved on. -/
def Nx (b : Nat) (L : List Int) (σ : AS) (φ : Int → Prop) : PV → AS → Prop := fun r σ' =>
  ∃ (v : Int) (a : Nat), φ v ∧ a ≤ L.length ∧ r = i64 v ∧ σ' = ⟨σ.bx.set b (srcB L a), σ.tk⟩

theorem Raw_sc (b : Nat) (L : List Int) (a : Nat) (σ : AS) (hb : σ.bx[b]? = some (srcB L a)) (ha : a ≤ L.length) (hL : L.length ≤ 2000) : SC Cc 33 [.ptr b 0] σ (Nx b L σ fun _ => True) := by
  refine W.body Tryd.func33 rfl 31 Tryd.ntmps33 _ Tryd.results33 (by simp) GEt_cl fun hσ => ?_
  rw [srcB] at hb
  by_cases h1 : L.length ≤ a
  · repeat' (first
      | with_reducible refine W.seq ?_
      | with_reducible refine W.next ?_
      | with_reducible refine W.nil ?_
      | with_reducible refine W.skip ?_
      | with_reducible refine W.ret ?_
      | with_reducible refine W.ret_code ?_
      | with_reducible refine W.block ?_
      | with_reducible refine W.out ?_
      | with_reducible refine W.ret_blk ?_
      | with_reducible refine W.exit ?_
      | with_reducible refine W.exit_code ?_
      | with_reducible refine W.exit_here ?_
      | ((with_reducible refine W.exit_on ?h ?_); (case h => decide))
      | ((with_reducible apply W.reg); (case h => simp [T3, T24, T60, hb, h1]; exact ⟨rfl, rfl, rfl⟩))
      | ((with_reducible apply W.draw mixed); (case hB => kernel_rfl); (case hr => simp [T3, T24, T60, hb, h1]; rfl))
      | ((with_reducible apply W.cond); (case hc => simp; rfl); all_goals (intro hc_; try (cases hc_; done))))
    with_reducible apply W.fin
    case h1 => simp <;> rfl
    case h2 => exact Wk.rfl
    case h3 => simp
    case h4 => exact hσ.clB
    refine ⟨0, a, trivial, ha, rfl, ?_⟩
    simp [srcB, set_same hb]
  · have h2 : a < L.length := by omega
    have h3 : IntKind.i64.wrap ((a : Int) + 1) = (a : Int) + 1 := wrap64 (by omega)
    have h4 : IntKind.i64.wrap (a : Int) = (a : Int) := wrap64 (by omega)
    have hs := get_set_of hb
    repeat' (first
      | with_reducible refine W.seq ?_
      | with_reducible refine W.next ?_
      | with_reducible refine W.nil ?_
      | with_reducible refine W.skip ?_
      | with_reducible refine W.ret ?_
      | with_reducible refine W.ret_code ?_
      | with_reducible refine W.block ?_
      | with_reducible refine W.out ?_
      | with_reducible refine W.ret_blk ?_
      | with_reducible refine W.exit ?_
      | with_reducible refine W.exit_code ?_
      | with_reducible refine W.exit_here ?_
      | ((with_reducible refine W.exit_on ?h ?_); (case h => decide))
      | ((with_reducible apply W.reg); (case h => simp [T3, T24, T60, hb, hs, h1, h2, h3, h4, encI]; exact ⟨rfl, rfl, rfl⟩))
      | ((with_reducible apply W.draw mixed); (case hB => kernel_rfl); (case hr => simp [T3, T24, T60, hb, hs, h1, h2, h3, h4, encI]; rfl))
      | ((with_reducible apply W.cond); (case hc => simp; rfl); all_goals (intro hc_; try (cases hc_; done))))
    with_reducible apply W.fin
    case h1 => simp <;> rfl
    case h2 => exact Wk.rfl
    case h3 => simp
    case h4 => exact hσ.clB.set (by simp [encI])
    refine ⟨L[a], a + 1, trivial, by omega, rfl, ?_⟩
    simp [srcB]

theorem N_sc (b : Nat) (L : List Int) (a : Nat) (n : Int) (σ : AS) (hb : σ.bx[b]? = some (srcB L a)) (ha : a ≤ L.length) (hL : L.length ≤ 2000) :
    SC Cc 10 [.ptr b 0, i64 n] σ (Nx b L σ fun v => (n < 1 → v = 0) ∧ (1 ≤ n → n ≤ 9223372036854775807 → 0 ≤ v ∧ v < n)) := by
  refine W.body Tryd.func10 rfl 9 Tryd.ntmps10 _ Tryd.results10 (by simp) GEt_cl fun hσ => ?_
  repeat' (first
    | with_reducible refine W.seq ?_
    | with_reducible refine W.next ?_
    | with_reducible refine W.nil ?_
    | with_reducible refine W.skip ?_
    | with_reducible refine W.ret ?_
    | with_reducible refine W.ret_code ?_
    | with_reducible refine W.block ?_
    | with_reducible refine W.out ?_
    | with_reducible refine W.ret_blk ?_
    | with_reducible refine W.exit ?_
    | with_reducible refine W.exit_code ?_
    | with_reducible refine W.exit_here ?_
    | ((with_reducible refine W.exit_on ?h ?_); (case h => decide))
    | ((with_reducible apply W.reg); (case h => simp [T3]; exact ⟨rfl, rfl, rfl⟩))
    | ((with_reducible apply W.draw mixed); (case hB => kernel_rfl); (case hr => simp [T3]; rfl))
    | ((with_reducible apply W.cond); (case hc => simp; rfl); all_goals (intro hc_; try (cases hc_; done)))
    | ((with_reducible apply W.callR go33); (case ho => rfl); (case hc => rfl); (case hf => rfl); (case hg => first | rfl | simp [T3]); (case hd => rfl); (case ha => simp [T3]; rfl); (case hargs => rfl); (case hs => exact Raw_sc b L a σ hb ha hL); rintro _ _ ⟨v, a', -, ha', rfl, rfl⟩; (with_reducible apply W.run); (case h => simp [T3]; exact ⟨rfl, rfl, rfl⟩))
    | ((with_reducible apply W.call1 go32); (case ho => rfl); (case hc => rfl); (case hf => rfl); (case hg => first | rfl | simp [T3]); (case hd => rfl); (case ha => simp [T3]; rfl); (case hargs => rfl); (case hs => exact Mod_sc _ _ _); (with_reducible apply W.run); (case h => simp [T3]; exact ⟨rfl, rfl, rfl⟩)))
  with_reducible apply W.fin
  case h1 => simp <;> rfl
  case h2 => exact Wk.rfl
  case h3 => simp
  case h4 => exact hσ.clB.set (cl_srcB _ _ _ _)
  refine ⟨_, a', ⟨fun h => modF_low h, fun h1 h2 => modF_range h1 h2⟩, ha', rfl, ?_⟩
  simp

/-- lo + a number below hi - lo + 1. -/
theorem Range_sc (b : Nat) (L : List Int) (a : Nat) (lo hi : Int) (σ : AS) (hb : σ.bx[b]? = some (srcB L a)) (ha : a ≤ L.length) (hL : L.length ≤ 2000) (h1 : -1000000 ≤ lo) (h2 : lo ≤ hi) (h3 : hi ≤ 1000000) :
    SC Cc 20 [.ptr b 0, i64 lo, i64 hi] σ (Nx b L σ fun v => lo ≤ v ∧ v ≤ hi) := by
  refine W.body Tryd.func20 rfl 15 Tryd.ntmps20 _ Tryd.results20 (by simp) GEt_cl fun hσ => ?_
  have e1 : IntKind.i64.wrap (hi - lo) = hi - lo := wrap64 (by omega)
  have e2 : IntKind.i64.wrap (hi - lo + 1) = hi - lo + 1 := wrap64 (by omega)
  repeat' (first
    | with_reducible refine W.seq ?_
    | with_reducible refine W.next ?_
    | with_reducible refine W.nil ?_
    | with_reducible refine W.skip ?_
    | with_reducible refine W.ret ?_
    | with_reducible refine W.ret_code ?_
    | with_reducible refine W.block ?_
    | with_reducible refine W.out ?_
    | with_reducible refine W.ret_blk ?_
    | with_reducible refine W.exit ?_
    | with_reducible refine W.exit_code ?_
    | with_reducible refine W.exit_here ?_
    | ((with_reducible refine W.exit_on ?h ?_); (case h => decide))
    | ((with_reducible apply W.reg); (case h => simp [T3, e1, e2]; exact ⟨rfl, rfl, rfl⟩))
    | ((with_reducible apply W.draw mixed); (case hB => kernel_rfl); (case hr => simp [T3, e1, e2]; rfl))
    | ((with_reducible apply W.cond); (case hc => simp; rfl); all_goals (intro hc_; try (cases hc_; done)))
    | ((with_reducible apply W.callR go10); (case ho => rfl); (case hc => rfl); (case hf => rfl); (case hg => first | rfl | simp [T3, e1, e2]); (case hd => rfl); (case ha => simp [T3, e1, e2]; rfl); (case hargs => rfl); (case hs => exact N_sc b L a _ σ hb ha hL); rintro _ _ ⟨v, a', hv, ha', rfl, rfl⟩; (with_reducible apply W.run); (case h => simp [T3, e1, e2]; exact ⟨rfl, rfl, rfl⟩)))
  have hv := hv.2 (by omega) (by omega)
  with_reducible apply W.fin
  case h1 => simp <;> rfl
  case h2 => exact Wk.rfl
  case h3 => simp
  case h4 => exact hσ.clB.set (cl_srcB _ _ _ _)
  refine ⟨_, a', ?_, ha', rfl, ?_⟩
  · rw [wrap64 (by omega)]; omega
  · simp


end Go.Proofs.YtgabnlkkjmepnaaDoor

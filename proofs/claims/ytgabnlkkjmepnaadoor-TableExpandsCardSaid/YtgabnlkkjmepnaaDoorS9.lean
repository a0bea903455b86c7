/- Validation by the program: what its closures, proper, twice and Validate give. -/
import Derived.Test.YtgabnlkkjmepnaaDoorS8
import Derived.Test.YtgabnlkkjmepnaaDoorSwN
import Derived.IntWalk
namespace Go.Proofs.YtgabnlkkjmepnaaDoor
open Go.Sw
set_option linter.unusedSimpArgs false
set_option linter.unusedVariables false
attribute [local simp] runOps stepOp pureOp gd isCall inN setd Sw.get params ev evs binV unV convV loadA cellsPV oneB storeA fieldAddrA fieldOff fieldA partA aggOf extractA indexAddrA indexA lenA minmaxA sliceA bnd partsA buildA placesA fillA buildSliceA zerosA chunkA TyD.agg Value.oneCell' Value.cells runPure appA appendA okRow_nil okRow_cons okRow_append resultA ressA resA List.getElem?_append List.set_append Cl_any Cl_val Cl_ptr Cl_agg Cl_tup Cl_fn Cl_rop Cl_sl Sw.take_set Sw.take_set_app Sw.take_app

attribute [local simp] encI encE encS
structure Tab where
  version : Int
  entries : List Ent
  seqs : List Sq
  deriving Inhabited, DecidableEq
def encT (t : Tab) : List PV := [i64 t.version, .sl none (t.entries.map encE), .sl none (t.seqs.map encS)]
attribute [local simp] encT
structure SqOK (q : Sq) : Prop where
  code : I64 q.code
  codes : ∀ c ∈ q.codes, I64 c
  len : q.codes.length ≤ 1000000
structure TabOK (t : Tab) : Prop where
  version : I64 t.version
  entries : ∀ e ∈ t.entries, EntOK e
  seqs : ∀ q ∈ t.seqs, SqOK q
  elen : t.entries.length ≤ 1000000
  slen : t.seqs.length ≤ 1000000

def properB (q : Sq) : Bool := (kindF q.code == 2) && !(q.codes.any fun c => kindF c == 0)

theorem V1_sc (q : Sq) (σ : AS) : SC1 Cc 42 [.agg (encS q)] σ (bV (decide (20 < q.codes.length))) σ := by
  refine W.body Tryd.func42 rfl 7 Tryd.ntmps42 _ Tryd.results42 (by simp) GEt_cl fun hσ => ?_
  repeat' (first
    | with_reducible refine W.seq ?_
    | with_reducible refine W.next ?_
    | with_reducible refine W.nil ?_
    | with_reducible refine W.skip ?_
    | with_reducible refine W.ret ?_
    | with_reducible refine W.ret_code ?_
    | with_reducible refine W.block ?_
    | with_reducible refine W.out ?_
    | with_reducible refine W.ret_blk ?_
    | with_reducible refine W.exit ?_
    | with_reducible refine W.exit_code ?_
    | with_reducible refine W.exit_here ?_
    | with_reducible refine W.leave_exit ?_
    | with_reducible refine W.leave_ret ?_
    | ((with_reducible refine W.exit_on ?h ?_); (case h => decide))
    | ((with_reducible apply W.reg); (case h => simp [T3, T4, T24, T49]; exact ⟨rfl, rfl, rfl⟩))
    | ((with_reducible apply W.draw mixed); (case hB => kernel_rfl); (case hr => simp [T3, T4, T24, T49]; rfl))
    | ((with_reducible apply W.cond); (case hc => simp; rfl); all_goals (intro hc_; try (cases hc_; done)))
    | ((with_reducible apply W.runX); (case _hc => rfl); (case h => simp [T3, T4, T24, T49]; exact ⟨rfl, rfl, rfl⟩))
    | fail)
  with_reducible apply W.fin
  case h1 => simp <;> rfl
  case h2 => exact Wk.rfl
  case h3 => simp
  case h4 => exact hσ.clB.app (Nat.le_refl _)
  exact ⟨by simp; omega, by simp⟩

theorem V2_sc (e : Ent) (σ : AS) (he : EntOK e) : SC1 Cc 44 [.agg (encE e)] σ (bV (!isEl e.element)) σ := by
  refine W.body Tryd.func44 rfl 7 Tryd.ntmps44 _ Tryd.results44 (by simp) GEt_cl fun hσ => ?_
  repeat' (first
    | with_reducible refine W.seq ?_
    | with_reducible refine W.next ?_
    | with_reducible refine W.nil ?_
    | with_reducible refine W.skip ?_
    | with_reducible refine W.ret ?_
    | with_reducible refine W.ret_code ?_
    | with_reducible refine W.block ?_
    | with_reducible refine W.out ?_
    | with_reducible refine W.ret_blk ?_
    | with_reducible refine W.exit ?_
    | with_reducible refine W.exit_code ?_
    | with_reducible refine W.exit_here ?_
    | with_reducible refine W.leave_exit ?_
    | with_reducible refine W.leave_ret ?_
    | ((with_reducible refine W.exit_on ?h ?_); (case h => decide))
    | ((with_reducible apply W.reg); (case h => simp [T3, T4, T23]; exact ⟨rfl, rfl, rfl⟩))
    | ((with_reducible apply W.draw mixed); (case hB => kernel_rfl); (case hr => simp [T3, T4, T23]; rfl))
    | ((with_reducible apply W.cond); (case hc => simp; rfl); all_goals (intro hc_; try (cases hc_; done)))
    | ((with_reducible apply W.runX); (case _hc => rfl); (case h => simp [T3, T4, T23]; exact ⟨rfl, rfl, rfl⟩))
    | ((with_reducible apply W.call1 go45); (case ho => rfl); (case hc => rfl); (case hf => rfl); (case hg => first | rfl | simp [T3, T4, T23]); (case hd => rfl); (case ha => simp [T3, T4, T23]; rfl); (case hargs => rfl); (case hs => exact exists_sc _ _ he.element))
    | fail)
  with_reducible apply W.fin
  case h1 => simp <;> rfl
  case h2 => exact Wk.rfl
  case h3 => simp
  case h4 => exact hσ.clB.app (Nat.le_refl _)
  exact ⟨by simp, by simp⟩

theorem V3_sc (e : Ent) (σ : AS) (he : EntOK e) : SC1 Cc 46 [.agg (encE e)] σ (bV (!validB e)) σ := by
  refine W.body Tryd.func46 rfl 6 Tryd.ntmps46 _ Tryd.results46 (by simp) GEt_cl fun hσ => ?_
  repeat' (first
    | with_reducible refine W.seq ?_
    | with_reducible refine W.next ?_
    | with_reducible refine W.nil ?_
    | with_reducible refine W.skip ?_
    | with_reducible refine W.ret ?_
    | with_reducible refine W.ret_code ?_
    | with_reducible refine W.block ?_
    | with_reducible refine W.out ?_
    | with_reducible refine W.ret_blk ?_
    | with_reducible refine W.exit ?_
    | with_reducible refine W.exit_code ?_
    | with_reducible refine W.exit_here ?_
    | with_reducible refine W.leave_exit ?_
    | with_reducible refine W.leave_ret ?_
    | ((with_reducible refine W.exit_on ?h ?_); (case h => decide))
    | ((with_reducible apply W.reg); (case h => simp [T3, T4, T23]; exact ⟨rfl, rfl, rfl⟩))
    | ((with_reducible apply W.draw mixed); (case hB => kernel_rfl); (case hr => simp [T3, T4, T23]; rfl))
    | ((with_reducible apply W.cond); (case hc => simp; rfl); all_goals (intro hc_; try (cases hc_; done)))
    | ((with_reducible apply W.runX); (case _hc => rfl); (case h => simp [T3, T4, T23]; exact ⟨rfl, rfl, rfl⟩))
    | ((with_reducible apply W.call1 go34); (case ho => rfl); (case hc => rfl); (case hf => rfl); (case hg => first | rfl | simp [T3, T4, T23]); (case hd => rfl); (case ha => simp [T3, T4, T23]; rfl); (case hargs => rfl); (case hs => exact valid_sc _ _ he))
    | fail)
  with_reducible apply W.fin
  case h1 => simp <;> rfl
  case h2 => exact Wk.rfl
  case h3 => simp
  case h4 => exact hσ.clB.app (Nat.le_refl _)
  exact ⟨by simp, by simp⟩

theorem proper1_sc (c : Int) (σ : AS) (hc : I64 c) : SC1 Cc 61 [i64 c] σ (bV (kindF c == 0)) σ := by
  refine W.body Tryd.func61 rfl 6 Tryd.ntmps61 _ Tryd.results61 (by simp) GEt_cl fun hσ => ?_
  repeat' (first
    | with_reducible refine W.seq ?_
    | with_reducible refine W.next ?_
    | with_reducible refine W.nil ?_
    | with_reducible refine W.skip ?_
    | with_reducible refine W.ret ?_
    | with_reducible refine W.ret_code ?_
    | with_reducible refine W.block ?_
    | with_reducible refine W.out ?_
    | with_reducible refine W.ret_blk ?_
    | with_reducible refine W.exit ?_
    | with_reducible refine W.exit_code ?_
    | with_reducible refine W.exit_here ?_
    | with_reducible refine W.leave_exit ?_
    | with_reducible refine W.leave_ret ?_
    | ((with_reducible refine W.exit_on ?h ?_); (case h => decide))
    | ((with_reducible apply W.reg); (case h => simp [T3, T4, T86]; exact ⟨rfl, rfl, rfl⟩))
    | ((with_reducible apply W.draw mixed); (case hB => kernel_rfl); (case hr => simp [T3, T4, T86]; rfl))
    | ((with_reducible apply W.cond); (case hc => simp; rfl); all_goals (intro hc_; try (cases hc_; done)))
    | ((with_reducible apply W.runX); (case _hc => rfl); (case h => simp [T3, T4, T86]; exact ⟨rfl, rfl, rfl⟩))
    | ((with_reducible apply W.call1 go55); (case ho => rfl); (case hc => rfl); (case hf => rfl); (case hg => first | rfl | simp [T3, T4, T86]); (case hd => rfl); (case ha => simp [T3, T4, T86]; rfl); (case hargs => rfl); (case hs => exact of_sc _ _ hc))
    | fail)
  with_reducible apply W.fin
  case h1 => simp <;> rfl
  case h2 => exact Wk.rfl
  case h3 => simp
  case h4 => exact hσ.clB
  exact ⟨rfl, by simp⟩

theorem proper_sc (q : Sq) (σ : AS) (hq : SqOK q) : SC1 Cc 48 [.agg (encS q)] σ (bV (properB q)) σ := by
  refine W.body Tryd.func48 rfl 13 Tryd.ntmps48 _ Tryd.results48 (by simp) GEt_cl fun hσ => ?_
  obtain ⟨kc, hk⟩ : ∃ kc, kindF q.code = kc := ⟨_, rfl⟩
  have hof : ∀ σ, SC1 Cc 55 [i64 q.code] σ (i64 kc) σ := fun σ => hk ▸ of_sc q.code σ hq.code
  cases hb_ : (kc == 2)
  · repeat' (first
      | with_reducible refine W.seq ?_
      | with_reducible refine W.next ?_
      | with_reducible refine W.nil ?_
      | with_reducible refine W.skip ?_
      | with_reducible refine W.ret ?_
      | with_reducible refine W.ret_code ?_
      | with_reducible refine W.block ?_
      | with_reducible refine W.out ?_
      | with_reducible refine W.ret_blk ?_
      | with_reducible refine W.exit ?_
      | with_reducible refine W.exit_code ?_
      | with_reducible refine W.exit_here ?_
      | with_reducible refine W.leave_exit ?_
      | with_reducible refine W.leave_ret ?_
      | ((with_reducible refine W.exit_on ?h ?_); (case h => decide))
      | ((with_reducible apply W.reg); (case h => simp [T3, T4, T24, T49, T86, hb_]; exact ⟨rfl, rfl, rfl⟩))
      | ((with_reducible apply W.draw mixed); (case hB => kernel_rfl); (case hr => simp [T3, T4, T24, T49, T86, hb_]; rfl))
      | ((with_reducible apply W.cond); (case hc => simp; rfl); all_goals (intro hc_; try (cases hc_; done)))
      | ((with_reducible apply W.runX); (case _hc => rfl); (case h => simp [T3, T4, T24, T49, T86, hb_]; exact ⟨rfl, rfl, rfl⟩))
      | ((with_reducible apply W.call1 go55); (case ho => rfl); (case hc => rfl); (case hf => rfl); (case hg => first | rfl | simp [T3, T4, T24, T49, T86, hb_]); (case hd => rfl); (case ha => simp [T3, T4, T24, T49, T86, hb_]; rfl); (case hargs => rfl); (case hs => exact hof _))
      | fail)
    with_reducible apply W.fin
    case h1 => simp <;> rfl
    case h2 => exact Wk.rfl
    case h3 => simp
    case h4 => exact hσ.clB.app (Nat.le_refl _)
    exact ⟨by simp only [properB, hk, hb_, Bool.false_and], by simp⟩
  · repeat' (first
      | with_reducible refine W.seq ?_
      | with_reducible refine W.next ?_
      | with_reducible refine W.nil ?_
      | with_reducible refine W.skip ?_
      | with_reducible refine W.ret ?_
      | with_reducible refine W.ret_code ?_
      | with_reducible refine W.block ?_
      | with_reducible refine W.out ?_
      | with_reducible refine W.ret_blk ?_
      | with_reducible refine W.exit ?_
      | with_reducible refine W.exit_code ?_
      | with_reducible refine W.exit_here ?_
      | with_reducible refine W.leave_exit ?_
      | with_reducible refine W.leave_ret ?_
      | ((with_reducible refine W.exit_on ?h ?_); (case h => decide))
      | ((with_reducible apply W.reg); (case h => simp [T3, T4, T24, T49, T86, hb_]; exact ⟨rfl, rfl, rfl⟩))
      | ((with_reducible apply W.draw mixed); (case hB => kernel_rfl); (case hr => simp [T3, T4, T24, T49, T86, hb_]; rfl))
      | ((with_reducible apply W.cond); (case hc => simp; rfl); all_goals (intro hc_; try (cases hc_; done)))
      | ((with_reducible apply W.runX); (case _hc => rfl); (case h => simp [T3, T4, T24, T49, T86, hb_]; exact ⟨rfl, rfl, rfl⟩))
      | ((with_reducible apply W.call1 go55); (case ho => rfl); (case hc => rfl); (case hf => rfl); (case hg => first | rfl | simp [T3, T4, T24, T49, T86, hb_]); (case hd => rfl); (case ha => simp [T3, T4, T24, T49, T86, hb_]; rfl); (case hargs => rfl); (case hs => exact hof _))
      | ((with_reducible apply W.call1 go60); (case ho => rfl); (case hc => rfl); (case hf => rfl); (case hg => first | rfl | simp [T3, T4, T24, T49, T86, hb_]); (case hd => rfl); (case ha => simp [T3, T4, T24, T49, T86, hb_]; rfl); (case hargs => rfl); (case hs => exact ContainsInt_sc q.codes none 61 [] (fun c => kindF c == 0) _ go61 hq.len (fun c hc => proper1_sc c _ (hq.codes c hc))))
      | fail)
    with_reducible apply W.fin
    case h1 => simp <;> rfl
    case h2 => exact Wk.rfl
    case h3 => simp
    case h4 => exact hσ.clB.app (Nat.le_refl _)
    exact ⟨by simp only [properB, hk, hb_, Bool.true_and], by simp⟩

theorem V4_sc (q : Sq) (σ : AS) (hq : SqOK q) : SC1 Cc 47 [.agg (encS q)] σ (bV (!properB q)) σ := by
  refine W.body Tryd.func47 rfl 6 Tryd.ntmps47 _ Tryd.results47 (by simp) GEt_cl fun hσ => ?_
  repeat' (first
    | with_reducible refine W.seq ?_
    | with_reducible refine W.next ?_
    | with_reducible refine W.nil ?_
    | with_reducible refine W.skip ?_
    | with_reducible refine W.ret ?_
    | with_reducible refine W.ret_code ?_
    | with_reducible refine W.block ?_
    | with_reducible refine W.out ?_
    | with_reducible refine W.ret_blk ?_
    | with_reducible refine W.exit ?_
    | with_reducible refine W.exit_code ?_
    | with_reducible refine W.exit_here ?_
    | with_reducible refine W.leave_exit ?_
    | with_reducible refine W.leave_ret ?_
    | ((with_reducible refine W.exit_on ?h ?_); (case h => decide))
    | ((with_reducible apply W.reg); (case h => simp [T3, T4, T49]; exact ⟨rfl, rfl, rfl⟩))
    | ((with_reducible apply W.draw mixed); (case hB => kernel_rfl); (case hr => simp [T3, T4, T49]; rfl))
    | ((with_reducible apply W.cond); (case hc => simp; rfl); all_goals (intro hc_; try (cases hc_; done)))
    | ((with_reducible apply W.runX); (case _hc => rfl); (case h => simp [T3, T4, T49]; exact ⟨rfl, rfl, rfl⟩))
    | ((with_reducible apply W.call1 go48); (case ho => rfl); (case hc => rfl); (case hf => rfl); (case hg => first | rfl | simp [T3, T4, T49]); (case hd => rfl); (case ha => simp [T3, T4, T49]; rfl); (case hargs => rfl); (case hs => exact proper_sc _ _ hq))
    | fail)
  with_reducible apply W.fin
  case h1 => simp <;> rfl
  case h2 => exact Wk.rfl
  case h3 => simp
  case h4 => exact hσ.clB.app (Nat.le_refl _)
  exact ⟨by simp, by simp⟩

/-- The codes that a table gives a meaning. -/
def tabKeys (t : Tab) : List Int := t.entries.map (·.code) ++ t.seqs.map (·.code)
def dupB (t : Tab) : Bool := decide (keyCount (tabKeys t) < (tabKeys t).length)

theorem m93 : Cc.P.underlying 93 = some (.map 3 4) := by rw [Cc_P]; kernel_rfl
theorem u3 : Cc.P.underlying 3 = some (.int .i64) := by rw [Cc_P]; kernel_rfl
theorem u4 : Cc.P.underlying 4 = some .bool := by rw [Cc_P]; kernel_rfl

theorem take_cons1 {α : Type} (l : List α) (x : α) (r : List α) : (l ++ x :: r).take (l.length + 1) = l ++ [x] := by
  rw [List.take_append, List.take_of_length_le (by omega)]; simp
theorem take_mapE {α β : Type} (f : α → β) (l : List α) : (l.map f).take l.length = l.map f := List.take_of_length_le (by simp)
theorem _root_.Go.Sw.ClB.cons {m : Nat} {l r : List (List PV)} {x : List PV} (h : ClB (l.length + 1) m (l ++ [x])) : ClB (l.length + 1) m (l ++ x :: r) := by
  have e : l ++ x :: r = (l ++ [x]) ++ r := by simp
  rw [e]; exact h.app (by simp)
theorem encT_cl (n m : Nat) (t : Tab) : ∀ p ∈ encT t, Cl n m p := by
  intro p hp
  simp only [encT, List.mem_cons, List.not_mem_nil, or_false] at hp
  rcases hp with rfl | rfl | rfl
  · exact .val _
  · exact (Cl_sl ..).2 ⟨by simp, mem_cl_map fun e p hp => by simp [encE] at hp; rcases hp with rfl | rfl | rfl | rfl | rfl <;> exact .val _⟩
  · exact (Cl_sl ..).2 ⟨by simp, mem_cl_map fun q p hp => by
      simp only [encS, List.mem_cons, List.not_mem_nil, or_false] at hp
      rcases hp with rfl | rfl
      · exact .val _
      · exact (Cl_sl ..).2 ⟨by simp, mem_cl_map fun c p hp => by simp [encI] at hp; subst hp; exact .val _⟩⟩
theorem encEs_cl (n m : Nat) (own : Option Nat) (h : ∀ t, own = some t → t < m) (l : List Ent) : Cl n m (.sl own (l.map encE)) := (Cl_sl ..).2 ⟨h, mem_cl_map fun e p hp => by simp [encE] at hp; rcases hp with rfl | rfl | rfl | rfl | rfl <;> exact .val _⟩
theorem encIs_cl (n m : Nat) (own : Option Nat) (h : ∀ t, own = some t → t < m) (l : List Int) : Cl n m (.sl own (l.map encI)) := (Cl_sl ..).2 ⟨h, mem_cl_map fun c p hp => by simp [encI] at hp; subst hp; exact .val _⟩
theorem encSs_cl (n m : Nat) (own : Option Nat) (h : ∀ t, own = some t → t < m) (l : List Sq) : Cl n m (.sl own (l.map encS)) := (Cl_sl ..).2 ⟨h, mem_cl_map fun q p hp => by
      simp only [encS, List.mem_cons, List.not_mem_nil, or_false] at hp
      rcases hp with rfl | rfl
      · exact .val _
      · exact encIs_cl _ _ _ (by simp) _⟩

theorem twice_sc (t : Tab) (σ : AS) (ht : TabOK t) : SC1 Cc 49 [.agg (encT t)] σ (bV (dupB t)) σ := by
  refine W.body Tryd.func49 rfl 41 Tryd.ntmps49 _ Tryd.results49 (by simp) GEt_cl fun hσ => ?_
  have he := ht.elen
  have hs := ht.slen
  have hB : ClB (σ.bx.length + 1) (σ.tk.length + 1) (σ.bx ++ [encT t]) := by
    have := hσ.clB1 (encT_cl _ _ t)
    exact fun i ps hi hp p hpp => (this i ps hi hp p hpp).le (Nat.le_refl _) (by omega)
  repeat' (first
    | with_reducible refine W.seq ?_
    | with_reducible refine W.next ?_
    | with_reducible refine W.nil ?_
    | with_reducible refine W.skip ?_
    | with_reducible refine W.ret ?_
    | with_reducible refine W.ret_code ?_
    | with_reducible refine W.block ?_
    | with_reducible refine W.out ?_
    | with_reducible refine W.ret_blk ?_
    | with_reducible refine W.exit ?_
    | with_reducible refine W.exit_code ?_
    | with_reducible refine W.exit_here ?_
    | with_reducible refine W.leave_exit ?_
    | with_reducible refine W.leave_ret ?_
    | ((with_reducible refine W.exit_on ?h ?_); (case h => decide))
    | ((with_reducible apply W.reg); (case h => simp [T3, T4, T23, T27, T28, T30, T49]; exact ⟨rfl, rfl, rfl⟩))
    | ((with_reducible apply W.draw mixed); (case hB => kernel_rfl); (case hr => simp [T3, T4, T23, T27, T28, T30, T49]; rfl))
    | ((with_reducible apply W.cond); (case hc => simp; rfl); all_goals (intro hc_; try (cases hc_; done)))
    | ((with_reducible apply W.runX); (case _hc => rfl); (case h => simp [T3, T4, T23, T27, T28, T30, T49]; exact ⟨rfl, rfl, rfl⟩))
    | fail)
  with_reducible apply W.regN 0
  case h => simp; exact ⟨rfl, rfl⟩
  refine SL.makeMap rfl rfl rfl m93 u3 u4 ?_
  repeat' (first
    | with_reducible refine W.seq ?_
    | with_reducible refine W.next ?_
    | with_reducible refine W.nil ?_
    | with_reducible refine W.skip ?_
    | with_reducible refine W.ret ?_
    | with_reducible refine W.ret_code ?_
    | with_reducible refine W.block ?_
    | with_reducible refine W.out ?_
    | with_reducible refine W.ret_blk ?_
    | with_reducible refine W.exit ?_
    | with_reducible refine W.exit_code ?_
    | with_reducible refine W.exit_here ?_
    | with_reducible refine W.leave_exit ?_
    | with_reducible refine W.leave_ret ?_
    | ((with_reducible refine W.exit_on ?h ?_); (case h => decide))
    | ((with_reducible apply W.reg); (case h => simp [T3, T4, T23, T27, T28, T30, T49]; exact ⟨rfl, rfl, rfl⟩))
    | ((with_reducible apply W.draw mixed); (case hB => kernel_rfl); (case hr => simp [T3, T4, T23, T27, T28, T30, T49]; rfl))
    | ((with_reducible apply W.cond); (case hc => simp; rfl); all_goals (intro hc_; try (cases hc_; done)))
    | ((with_reducible apply W.runX); (case _hc => rfl); (case h => simp [T3, T4, T23, T27, T28, T30, T49]; exact ⟨rfl, rfl, rfl⟩))
    | fail)
  with_reducible refine W.loopF GEt_cl (α := Nat) (fun k => [(3, .mp σ.tk.length ((t.entries.map (·.code)).take k)), (1, .ptr σ.bx.length 0), (10, .sl none (t.entries.map encE)), (11, i64 t.entries.length), (12, i64 k)]) (fun k => ⟨σ.bx ++ [encT t], σ.tk ++ [(93, k)]⟩) (fun k => k ≤ t.entries.length) (fun k => t.entries.length - k) 0 ?_ ?_ ?_ ?_
  · exact Nat.zero_le _
  · repeat (first | exact Sw.Sub.nil | refine Sw.Sub.cons (by simp [take_mapE]) ?_)
  · simp
  · intro k hk
    dsimp only
    by_cases hlt : k < t.entries.length
    · have hwi : IntKind.i64.wrap ((k : Int) + 1) = (k : Int) + 1 := wrap64 (by omega)
      have hlt' : (k : Int) < t.entries.length := by omega
      have hcode := (ht.entries _ (List.getElem_mem hlt)).code
      have hkl : ((t.entries.map (·.code)).take k).length = k := by simp; omega
      have hnext : (t.entries.map (·.code)).take k ++ [t.entries[k].code] = (t.entries.map (·.code)).take (k + 1) := by
        rw [List.take_add_one]; simp [hlt]
      repeat' (first
        | with_reducible refine W.seq ?_
        | with_reducible refine W.next ?_
        | with_reducible refine W.nil ?_
        | with_reducible refine W.skip ?_
        | with_reducible refine W.ret ?_
        | with_reducible refine W.ret_code ?_
        | with_reducible refine W.block ?_
        | with_reducible refine W.out ?_
        | with_reducible refine W.ret_blk ?_
        | with_reducible refine W.exit ?_
        | with_reducible refine W.exit_code ?_
        | with_reducible refine W.exit_here ?_
        | with_reducible refine W.leave_exit ?_
        | with_reducible refine W.leave_ret ?_
        | ((with_reducible refine W.exit_on ?h ?_); (case h => decide))
        | ((with_reducible apply W.reg); (case h => simp [T3, T4, T23, T27, T28, T30, T49, hlt, hwi]; exact ⟨rfl, rfl, rfl⟩))
        | ((with_reducible apply W.draw mixed); (case hB => kernel_rfl); (case hr => simp [T3, T4, T23, T27, T28, T30, T49, hlt, hwi]; rfl))
        | ((with_reducible apply W.cond); (case hc => simp; rfl); all_goals (intro hc_; try (cases hc_; done)))
        | ((with_reducible apply W.runX); (case _hc => rfl); (case h => simp [T3, T4, T23, T27, T28, T30, T49, hlt, hwi]; exact ⟨rfl, rfl, rfl⟩))
        | fail)
      with_reducible apply W.regN 3
      case h => simp [T3, T23, T30, hlt]; exact ⟨rfl, rfl⟩
      refine W.list (by simp only [List.drop_succ_cons, List.drop_zero]; rfl) ?_
      refine SL.mapUpdate (t := σ.tk.length) (ks := (t.entries.map (·.code)).take k) (key := t.entries[k].code) rfl rfl rfl (by simp) (by simp) (by simp) hcode (by simp [hkl]) (by rw [hkl]; unfold maxLen; omega) ?_
      rw [hkl]
      simp only [List.map_cons, List.map_nil, bump, hkl, and_self, if_true, hnext]
      repeat' (first
        | with_reducible refine W.seq ?_
        | with_reducible refine W.next ?_
        | with_reducible refine W.nil ?_
        | with_reducible refine W.skip ?_
        | with_reducible refine W.ret ?_
        | with_reducible refine W.ret_code ?_
        | with_reducible refine W.block ?_
        | with_reducible refine W.out ?_
        | with_reducible refine W.ret_blk ?_
        | with_reducible refine W.exit ?_
        | with_reducible refine W.exit_code ?_
        | with_reducible refine W.exit_here ?_
        | with_reducible refine W.leave_exit ?_
        | with_reducible refine W.leave_ret ?_
        | ((with_reducible refine W.exit_on ?h ?_); (case h => decide))
        | ((with_reducible apply W.reg); (case h => simp [T3, T4, T23, T27, T28, T30, T49, hlt, hwi]; exact ⟨rfl, rfl, rfl⟩))
        | ((with_reducible apply W.draw mixed); (case hB => kernel_rfl); (case hr => simp [T3, T4, T23, T27, T28, T30, T49, hlt, hwi]; rfl))
        | ((with_reducible apply W.cond); (case hc => simp; rfl); all_goals (intro hc_; try (cases hc_; done)))
        | ((with_reducible apply W.runX); (case _hc => rfl); (case h => simp [T3, T4, T23, T27, T28, T30, T49, hlt, hwi]; exact ⟨rfl, rfl, rfl⟩))
        | fail)
      refine W.handF (k + 1) (σ.bx.length + 1) (σ.tk.length + 1) (by omega) (by omega) ?_ (by simp) (by simp) (ClPF.get ?_) ?_ ?_
      · repeat (first | exact Sw.Sub.nil | refine Sw.Sub.cons (by simp [take_mapE]) ?_)
      · simp [ClPF, Cl_mp, encEs_cl]
      · exact hB.cons
      · simp [take_cons1, take_app1]
    · have hlt' : ¬ (k : Int) < t.entries.length := by omega
      obtain rfl : k = t.entries.length := by omega
      repeat' (first
        | with_reducible refine W.seq ?_
        | with_reducible refine W.next ?_
        | with_reducible refine W.nil ?_
        | with_reducible refine W.skip ?_
        | with_reducible refine W.ret ?_
        | with_reducible refine W.ret_code ?_
        | with_reducible refine W.block ?_
        | with_reducible refine W.out ?_
        | with_reducible refine W.ret_blk ?_
        | with_reducible refine W.exit ?_
        | with_reducible refine W.exit_code ?_
        | with_reducible refine W.exit_here ?_
        | with_reducible refine W.leave_exit ?_
        | with_reducible refine W.leave_ret ?_
        | ((with_reducible refine W.exit_on ?h ?_); (case h => decide))
        | ((with_reducible apply W.reg); (case h => simp [T3, T4, T23, T27, T28, T30, T49, hlt]; exact ⟨rfl, rfl, rfl⟩))
        | ((with_reducible apply W.draw mixed); (case hB => kernel_rfl); (case hr => simp [T3, T4, T23, T27, T28, T30, T49, hlt]; rfl))
        | ((with_reducible apply W.cond); (case hc => simp; rfl); all_goals (intro hc_; try (cases hc_; done)))
        | ((with_reducible apply W.runX); (case _hc => rfl); (case h => simp [T3, T4, T23, T27, T28, T30, T49, hlt]; exact ⟨rfl, rfl, rfl⟩))
        | fail)
      with_reducible refine W.loopF GEt_cl (α := Nat) (fun k => [(3, .mp σ.tk.length (t.entries.map (·.code) ++ (t.seqs.map (·.code)).take k)), (1, .ptr σ.bx.length 0), (21, .sl none (t.seqs.map encS)), (22, i64 t.seqs.length), (23, i64 k)]) (fun k => ⟨σ.bx ++ [encT t], σ.tk ++ [(93, t.entries.length + k)]⟩) (fun k => k ≤ t.seqs.length) (fun k => t.seqs.length - k) 0 ?_ ?_ ?_ ?_
      · exact Nat.zero_le _
      · repeat (first | exact Sw.Sub.nil | refine Sw.Sub.cons (by simp [take_mapE]) ?_)
      · simp
      · intro k hk
        by_cases hlt : k < t.seqs.length
        · have hwi : IntKind.i64.wrap ((k : Int) + 1) = (k : Int) + 1 := wrap64 (by omega)
          have hlt' : (k : Int) < t.seqs.length := by omega
          have hcode := (ht.seqs _ (List.getElem_mem hlt)).code
          have hkl : (t.entries.map (·.code) ++ (t.seqs.map (·.code)).take k).length = t.entries.length + k := by simp; omega
          have hnext : (t.entries.map (·.code) ++ (t.seqs.map (·.code)).take k) ++ [t.seqs[k].code] = t.entries.map (·.code) ++ (t.seqs.map (·.code)).take (k + 1) := by
            rw [List.append_assoc]; congr 1; rw [List.take_add_one]; simp [hlt]
          repeat' (first
            | with_reducible refine W.seq ?_
            | with_reducible refine W.next ?_
            | with_reducible refine W.nil ?_
            | with_reducible refine W.skip ?_
            | with_reducible refine W.ret ?_
            | with_reducible refine W.ret_code ?_
            | with_reducible refine W.block ?_
            | with_reducible refine W.out ?_
            | with_reducible refine W.ret_blk ?_
            | with_reducible refine W.exit ?_
            | with_reducible refine W.exit_code ?_
            | with_reducible refine W.exit_here ?_
            | with_reducible refine W.leave_exit ?_
            | with_reducible refine W.leave_ret ?_
            | ((with_reducible refine W.exit_on ?h ?_); (case h => decide))
            | ((with_reducible apply W.reg); (case h => simp [T3, T4, T23, T27, T28, T30, T49, hlt, hwi]; exact ⟨rfl, rfl, rfl⟩))
            | ((with_reducible apply W.draw mixed); (case hB => kernel_rfl); (case hr => simp [T3, T4, T23, T27, T28, T30, T49, hlt, hwi]; rfl))
            | ((with_reducible apply W.cond); (case hc => simp; rfl); all_goals (intro hc_; try (cases hc_; done)))
            | ((with_reducible apply W.runX); (case _hc => rfl); (case h => simp [T3, T4, T23, T27, T28, T30, T49, hlt, hwi]; exact ⟨rfl, rfl, rfl⟩))
            | fail)
          with_reducible apply W.regN 3
          case h => simp [T3, T49, T30, hlt]; exact ⟨rfl, rfl⟩
          refine W.list (by simp only [List.drop_succ_cons, List.drop_zero]; rfl) ?_
          refine SL.mapUpdate (t := σ.tk.length) (ks := t.entries.map (·.code) ++ (t.seqs.map (·.code)).take k) (key := t.seqs[k].code) rfl rfl rfl (by simp) (by simp) (by simp) hcode (by simp [hkl]) (by rw [hkl]; unfold maxLen; omega) ?_
          rw [hkl]
          simp only [List.map_cons, List.map_nil, bump, hkl, and_self, if_true, hnext]
          repeat' (first
            | with_reducible refine W.seq ?_
            | with_reducible refine W.next ?_
            | with_reducible refine W.nil ?_
            | with_reducible refine W.skip ?_
            | with_reducible refine W.ret ?_
            | with_reducible refine W.ret_code ?_
            | with_reducible refine W.block ?_
            | with_reducible refine W.out ?_
            | with_reducible refine W.ret_blk ?_
            | with_reducible refine W.exit ?_
            | with_reducible refine W.exit_code ?_
            | with_reducible refine W.exit_here ?_
            | with_reducible refine W.leave_exit ?_
            | with_reducible refine W.leave_ret ?_
            | ((with_reducible refine W.exit_on ?h ?_); (case h => decide))
            | ((with_reducible apply W.reg); (case h => simp [T3, T4, T23, T27, T28, T30, T49, hlt, hwi]; exact ⟨rfl, rfl, rfl⟩))
            | ((with_reducible apply W.draw mixed); (case hB => kernel_rfl); (case hr => simp [T3, T4, T23, T27, T28, T30, T49, hlt, hwi]; rfl))
            | ((with_reducible apply W.cond); (case hc => simp; rfl); all_goals (intro hc_; try (cases hc_; done)))
            | ((with_reducible apply W.runX); (case _hc => rfl); (case h => simp [T3, T4, T23, T27, T28, T30, T49, hlt, hwi]; exact ⟨rfl, rfl, rfl⟩))
            | fail)
          refine W.handF (k + 1) (σ.bx.length + 1) (σ.tk.length + 1) (by omega) (by omega) ?_ (by simp) (by simp) (ClPF.get ?_) ?_ ?_
          · repeat (first | exact Sw.Sub.nil | refine Sw.Sub.cons (by simp [take_mapE]) ?_)
          · simp [ClPF, Cl_mp, encSs_cl]
          · exact hB.cons
          · simp [take_cons1, take_app1, Nat.add_assoc]
        · have hlt' : ¬ (k : Int) < t.seqs.length := by omega
          obtain rfl : k = t.seqs.length := by omega
          have hw2 : IntKind.i64.wrap ((t.entries.length : Int) + t.seqs.length) = (t.entries.length : Int) + t.seqs.length := wrap64 (by omega)
          repeat' (first
            | with_reducible refine W.seq ?_
            | with_reducible refine W.next ?_
            | with_reducible refine W.nil ?_
            | with_reducible refine W.skip ?_
            | with_reducible refine W.ret ?_
            | with_reducible refine W.ret_code ?_
            | with_reducible refine W.block ?_
            | with_reducible refine W.out ?_
            | with_reducible refine W.ret_blk ?_
            | with_reducible refine W.exit ?_
            | with_reducible refine W.exit_code ?_
            | with_reducible refine W.exit_here ?_
            | with_reducible refine W.leave_exit ?_
            | with_reducible refine W.leave_ret ?_
            | ((with_reducible refine W.exit_on ?h ?_); (case h => decide))
            | ((with_reducible apply W.reg); (case h => simp [T3, T4, T23, T27, T28, T30, T49, hlt]; exact ⟨rfl, rfl, rfl⟩))
            | ((with_reducible apply W.draw mixed); (case hB => kernel_rfl); (case hr => simp [T3, T4, T23, T27, T28, T30, T49, hlt]; rfl))
            | ((with_reducible apply W.cond); (case hc => simp; rfl); all_goals (intro hc_; try (cases hc_; done)))
            | ((with_reducible apply W.runX); (case _hc => rfl); (case h => simp [T3, T4, T23, T27, T28, T30, T49, hlt]; exact ⟨rfl, rfl, rfl⟩))
            | fail)
          with_reducible apply W.regN 1
          case h => simp [T3, T30, hlt]; exact ⟨rfl, rfl⟩
          refine W.list (by simp only [List.drop_succ_cons, List.drop_zero]; rfl) ?_
          refine SL.mapLen (t := σ.tk.length) (ks := t.entries.map (·.code) ++ t.seqs.map (·.code)) rfl rfl rfl rfl rfl rfl (by simp [take_mapE]) (by simp) ?_
          repeat' (first
            | with_reducible refine W.seq ?_
            | with_reducible refine W.next ?_
            | with_reducible refine W.nil ?_
            | with_reducible refine W.skip ?_
            | with_reducible refine W.ret ?_
            | with_reducible refine W.ret_code ?_
            | with_reducible refine W.block ?_
            | with_reducible refine W.out ?_
            | with_reducible refine W.ret_blk ?_
            | with_reducible refine W.exit ?_
            | with_reducible refine W.exit_code ?_
            | with_reducible refine W.exit_here ?_
            | with_reducible refine W.leave_exit ?_
            | with_reducible refine W.leave_ret ?_
            | ((with_reducible refine W.exit_on ?h ?_); (case h => decide))
            | ((with_reducible apply W.reg); (case h => simp [T3, T4, T23, T27, T28, T30, T49, hlt, hw2]; exact ⟨rfl, rfl, rfl⟩))
            | ((with_reducible apply W.draw mixed); (case hB => kernel_rfl); (case hr => simp [T3, T4, T23, T27, T28, T30, T49, hlt, hw2]; rfl))
            | ((with_reducible apply W.cond); (case hc => simp; rfl); all_goals (intro hc_; try (cases hc_; done)))
            | ((with_reducible apply W.runX); (case _hc => rfl); (case h => simp [T3, T4, T23, T27, T28, T30, T49, hlt, hw2]; exact ⟨rfl, rfl, rfl⟩))
            | fail)
          with_reducible apply W.fin
          case h1 => simp <;> rfl
          case h2 => exact Wk.rfl
          case h3 => simp
          case h4 => exact hσ.clB.app (Nat.le_refl _)
          refine ⟨?_, by simp⟩
          simp [dupB, tabKeys]
          omega

/-- What Validate answers. -/
def validateF (t : Tab) : Int :=
  if t.version < 1 ∨ 99 < t.version then 1
  else if (40 : Int) < (t.entries.length : Int) ∨ (40 : Int) < (t.seqs.length : Int) ∨ t.seqs.any (fun q => decide (20 < q.codes.length)) = true then 2
  else if t.entries.any (fun e => !isEl e.element) = true then 4
  else if t.entries.any (fun e => !validB e) = true ∨ t.seqs.any (fun q => !properB q) = true then 1
  else if dupB t = true then 5 else 0

theorem Validate_sc (t : Tab) (σ : AS) (ht : TabOK t) : SC1 Cc 25 [.agg (encT t)] σ (i64 (validateF t)) σ := by
  have hc1 : ∀ σ, SC1 Cc 41 [.sl none (t.seqs.map encS), .fn 42 []] σ (bV (t.seqs.any fun q => decide (20 < q.codes.length))) σ := fun σ => ContainsSeq_sc t.seqs none 42 [] _ _ go42 ht.slen (fun q _ => V1_sc q _)
  have hc2 : ∀ σ, SC1 Cc 43 [.sl none (t.entries.map encE), .fn 44 []] σ (bV (t.entries.any fun e => !isEl e.element)) σ := fun σ => ContainsEntry_sc t.entries none 44 [] _ _ go44 ht.elen (fun e he => V2_sc e _ (ht.entries e he))
  have hc3 : ∀ σ, SC1 Cc 43 [.sl none (t.entries.map encE), .fn 46 []] σ (bV (t.entries.any fun e => !validB e)) σ := fun σ => ContainsEntry_sc t.entries none 46 [] _ _ go46 ht.elen (fun e he => V3_sc e _ (ht.entries e he))
  have hc4 : ∀ σ, SC1 Cc 41 [.sl none (t.seqs.map encS), .fn 47 []] σ (bV (t.seqs.any fun q => !properB q)) σ := fun σ => ContainsSeq_sc t.seqs none 47 [] _ _ go47 ht.slen (fun q hq => V4_sc q _ (ht.seqs q hq))
  have htw := fun σ => twice_sc t σ ht
  have he := ht.elen
  have hs := ht.slen
  generalize hv : validateF t = V
  unfold validateF at hv
  refine W.body Tryd.func25 rfl 44 Tryd.ntmps25 _ Tryd.results25 (by simp) GEt_cl fun hσ => ?_
  generalize (t.seqs.any fun q => decide (20 < q.codes.length)) = L1 at *
  generalize (t.entries.any fun e => !isEl e.element) = L2 at *
  generalize (t.entries.any fun e => !validB e) = L3 at *
  generalize (t.seqs.any fun q => !properB q) = L4 at *
  generalize dupB t = D at *
  by_cases h1_ : t.version < 1
  · repeat' (first
      | with_reducible refine W.seq ?_
      | with_reducible refine W.next ?_
      | with_reducible refine W.nil ?_
      | with_reducible refine W.skip ?_
      | with_reducible refine W.ret ?_
      | with_reducible refine W.ret_code ?_
      | with_reducible refine W.block ?_
      | with_reducible refine W.out ?_
      | with_reducible refine W.ret_blk ?_
      | with_reducible refine W.exit ?_
      | with_reducible refine W.exit_code ?_
      | with_reducible refine W.exit_here ?_
      | with_reducible refine W.leave_exit ?_
      | with_reducible refine W.leave_ret ?_
      | ((with_reducible refine W.exit_on ?h ?_); (case h => decide))
      | ((with_reducible apply W.reg); (case h => simp [T3, T4, T23, T27, T28, T30, T49, h1_]; exact ⟨rfl, rfl, rfl⟩))
      | ((with_reducible apply W.draw mixed); (case hB => kernel_rfl); (case hr => simp [T3, T4, T23, T27, T28, T30, T49, h1_]; rfl))
      | ((with_reducible apply W.cond); (case hc => simp; rfl); all_goals (intro hc_; try (cases hc_; done)))
      | ((with_reducible apply W.runX); (case _hc => rfl); (case h => simp [T3, T4, T23, T27, T28, T30, T49, h1_]; exact ⟨rfl, rfl, rfl⟩))
      | ((with_reducible apply W.call1 go41); (case ho => rfl); (case hc => rfl); (case hf => rfl); (case hg => first | rfl | simp [T3, T4, T23, T27, T28, T30, T49, h1_]); (case hd => rfl); (case ha => simp [T3, T4, T23, T27, T28, T30, T49, h1_]; rfl); (case hargs => rfl); (case hs => exact hc1 _))
      | ((with_reducible apply W.call1 go43); (case ho => rfl); (case hc => rfl); (case hf => rfl); (case hg => first | rfl | simp [T3, T4, T23, T27, T28, T30, T49, h1_]); (case hd => rfl); (case ha => simp [T3, T4, T23, T27, T28, T30, T49, h1_]; rfl); (case hargs => rfl); (case hs => exact hc2 _))
      | ((with_reducible apply W.call1 go43); (case ho => rfl); (case hc => rfl); (case hf => rfl); (case hg => first | rfl | simp [T3, T4, T23, T27, T28, T30, T49, h1_]); (case hd => rfl); (case ha => simp [T3, T4, T23, T27, T28, T30, T49, h1_]; rfl); (case hargs => rfl); (case hs => exact hc3 _))
      | ((with_reducible apply W.call1 go41); (case ho => rfl); (case hc => rfl); (case hf => rfl); (case hg => first | rfl | simp [T3, T4, T23, T27, T28, T30, T49, h1_]); (case hd => rfl); (case ha => simp [T3, T4, T23, T27, T28, T30, T49, h1_]; rfl); (case hargs => rfl); (case hs => exact hc4 _))
      | ((with_reducible apply W.call1 go49); (case ho => rfl); (case hc => rfl); (case hf => rfl); (case hg => first | rfl | simp [T3, T4, T23, T27, T28, T30, T49, h1_]); (case hd => rfl); (case ha => simp [T3, T4, T23, T27, T28, T30, T49, h1_]; rfl); (case hargs => rfl); (case hs => exact htw _))
      | fail)
    with_reducible apply W.fin
    case h1 => simp <;> rfl
    case h2 => exact Wk.rfl
    case h3 => simp
    case h4 => exact hσ.clB.app (Nat.le_refl _)
    exact ⟨by simp [h1_] at hv; simp [hv], by simp⟩
  · by_cases h2_ : 99 < t.version
    · repeat' (first
        | with_reducible refine W.seq ?_
        | with_reducible refine W.next ?_
        | with_reducible refine W.nil ?_
        | with_reducible refine W.skip ?_
        | with_reducible refine W.ret ?_
        | with_reducible refine W.ret_code ?_
        | with_reducible refine W.block ?_
        | with_reducible refine W.out ?_
        | with_reducible refine W.ret_blk ?_
        | with_reducible refine W.exit ?_
        | with_reducible refine W.exit_code ?_
        | with_reducible refine W.exit_here ?_
        | with_reducible refine W.leave_exit ?_
        | with_reducible refine W.leave_ret ?_
        | ((with_reducible refine W.exit_on ?h ?_); (case h => decide))
        | ((with_reducible apply W.reg); (case h => simp [T3, T4, T23, T27, T28, T30, T49, h1_, h2_]; exact ⟨rfl, rfl, rfl⟩))
        | ((with_reducible apply W.draw mixed); (case hB => kernel_rfl); (case hr => simp [T3, T4, T23, T27, T28, T30, T49, h1_, h2_]; rfl))
        | ((with_reducible apply W.cond); (case hc => simp; rfl); all_goals (intro hc_; try (cases hc_; done)))
        | ((with_reducible apply W.runX); (case _hc => rfl); (case h => simp [T3, T4, T23, T27, T28, T30, T49, h1_, h2_]; exact ⟨rfl, rfl, rfl⟩))
        | ((with_reducible apply W.call1 go41); (case ho => rfl); (case hc => rfl); (case hf => rfl); (case hg => first | rfl | simp [T3, T4, T23, T27, T28, T30, T49, h1_, h2_]); (case hd => rfl); (case ha => simp [T3, T4, T23, T27, T28, T30, T49, h1_, h2_]; rfl); (case hargs => rfl); (case hs => exact hc1 _))
        | ((with_reducible apply W.call1 go43); (case ho => rfl); (case hc => rfl); (case hf => rfl); (case hg => first | rfl | simp [T3, T4, T23, T27, T28, T30, T49, h1_, h2_]); (case hd => rfl); (case ha => simp [T3, T4, T23, T27, T28, T30, T49, h1_, h2_]; rfl); (case hargs => rfl); (case hs => exact hc2 _))
        | ((with_reducible apply W.call1 go43); (case ho => rfl); (case hc => rfl); (case hf => rfl); (case hg => first | rfl | simp [T3, T4, T23, T27, T28, T30, T49, h1_, h2_]); (case hd => rfl); (case ha => simp [T3, T4, T23, T27, T28, T30, T49, h1_, h2_]; rfl); (case hargs => rfl); (case hs => exact hc3 _))
        | ((with_reducible apply W.call1 go41); (case ho => rfl); (case hc => rfl); (case hf => rfl); (case hg => first | rfl | simp [T3, T4, T23, T27, T28, T30, T49, h1_, h2_]); (case hd => rfl); (case ha => simp [T3, T4, T23, T27, T28, T30, T49, h1_, h2_]; rfl); (case hargs => rfl); (case hs => exact hc4 _))
        | ((with_reducible apply W.call1 go49); (case ho => rfl); (case hc => rfl); (case hf => rfl); (case hg => first | rfl | simp [T3, T4, T23, T27, T28, T30, T49, h1_, h2_]); (case hd => rfl); (case ha => simp [T3, T4, T23, T27, T28, T30, T49, h1_, h2_]; rfl); (case hargs => rfl); (case hs => exact htw _))
        | fail)
      with_reducible apply W.fin
      case h1 => simp <;> rfl
      case h2 => exact Wk.rfl
      case h3 => simp
      case h4 => exact hσ.clB.app (Nat.le_refl _)
      exact ⟨by simp [h1_, h2_] at hv; simp [hv], by simp⟩
    · by_cases h3_ : (40 : Int) < (t.entries.length : Int)
      · repeat' (first
          | with_reducible refine W.seq ?_
          | with_reducible refine W.next ?_
          | with_reducible refine W.nil ?_
          | with_reducible refine W.skip ?_
          | with_reducible refine W.ret ?_
          | with_reducible refine W.ret_code ?_
          | with_reducible refine W.block ?_
          | with_reducible refine W.out ?_
          | with_reducible refine W.ret_blk ?_
          | with_reducible refine W.exit ?_
          | with_reducible refine W.exit_code ?_
          | with_reducible refine W.exit_here ?_
          | with_reducible refine W.leave_exit ?_
          | with_reducible refine W.leave_ret ?_
          | ((with_reducible refine W.exit_on ?h ?_); (case h => decide))
          | ((with_reducible apply W.reg); (case h => simp [T3, T4, T23, T27, T28, T30, T49, h1_, h2_, h3_]; exact ⟨rfl, rfl, rfl⟩))
          | ((with_reducible apply W.draw mixed); (case hB => kernel_rfl); (case hr => simp [T3, T4, T23, T27, T28, T30, T49, h1_, h2_, h3_]; rfl))
          | ((with_reducible apply W.cond); (case hc => simp; rfl); all_goals (intro hc_; try (cases hc_; done)))
          | ((with_reducible apply W.runX); (case _hc => rfl); (case h => simp [T3, T4, T23, T27, T28, T30, T49, h1_, h2_, h3_]; exact ⟨rfl, rfl, rfl⟩))
          | ((with_reducible apply W.call1 go41); (case ho => rfl); (case hc => rfl); (case hf => rfl); (case hg => first | rfl | simp [T3, T4, T23, T27, T28, T30, T49, h1_, h2_, h3_]); (case hd => rfl); (case ha => simp [T3, T4, T23, T27, T28, T30, T49, h1_, h2_, h3_]; rfl); (case hargs => rfl); (case hs => exact hc1 _))
          | ((with_reducible apply W.call1 go43); (case ho => rfl); (case hc => rfl); (case hf => rfl); (case hg => first | rfl | simp [T3, T4, T23, T27, T28, T30, T49, h1_, h2_, h3_]); (case hd => rfl); (case ha => simp [T3, T4, T23, T27, T28, T30, T49, h1_, h2_, h3_]; rfl); (case hargs => rfl); (case hs => exact hc2 _))
          | ((with_reducible apply W.call1 go43); (case ho => rfl); (case hc => rfl); (case hf => rfl); (case hg => first | rfl | simp [T3, T4, T23, T27, T28, T30, T49, h1_, h2_, h3_]); (case hd => rfl); (case ha => simp [T3, T4, T23, T27, T28, T30, T49, h1_, h2_, h3_]; rfl); (case hargs => rfl); (case hs => exact hc3 _))
          | ((with_reducible apply W.call1 go41); (case ho => rfl); (case hc => rfl); (case hf => rfl); (case hg => first | rfl | simp [T3, T4, T23, T27, T28, T30, T49, h1_, h2_, h3_]); (case hd => rfl); (case ha => simp [T3, T4, T23, T27, T28, T30, T49, h1_, h2_, h3_]; rfl); (case hargs => rfl); (case hs => exact hc4 _))
          | ((with_reducible apply W.call1 go49); (case ho => rfl); (case hc => rfl); (case hf => rfl); (case hg => first | rfl | simp [T3, T4, T23, T27, T28, T30, T49, h1_, h2_, h3_]); (case hd => rfl); (case ha => simp [T3, T4, T23, T27, T28, T30, T49, h1_, h2_, h3_]; rfl); (case hargs => rfl); (case hs => exact htw _))
          | fail)
        with_reducible apply W.fin
        case h1 => simp <;> rfl
        case h2 => exact Wk.rfl
        case h3 => simp
        case h4 => exact hσ.clB.app (Nat.le_refl _)
        exact ⟨by simp [h1_, h2_, h3_] at hv; simp [hv], by simp⟩
      · by_cases h4_ : (40 : Int) < (t.seqs.length : Int)
        · repeat' (first
            | with_reducible refine W.seq ?_
            | with_reducible refine W.next ?_
            | with_reducible refine W.nil ?_
            | with_reducible refine W.skip ?_
            | with_reducible refine W.ret ?_
            | with_reducible refine W.ret_code ?_
            | with_reducible refine W.block ?_
            | with_reducible refine W.out ?_
            | with_reducible refine W.ret_blk ?_
            | with_reducible refine W.exit ?_
            | with_reducible refine W.exit_code ?_
            | with_reducible refine W.exit_here ?_
            | with_reducible refine W.leave_exit ?_
            | with_reducible refine W.leave_ret ?_
            | ((with_reducible refine W.exit_on ?h ?_); (case h => decide))
            | ((with_reducible apply W.reg); (case h => simp [T3, T4, T23, T27, T28, T30, T49, h1_, h2_, h3_, h4_]; exact ⟨rfl, rfl, rfl⟩))
            | ((with_reducible apply W.draw mixed); (case hB => kernel_rfl); (case hr => simp [T3, T4, T23, T27, T28, T30, T49, h1_, h2_, h3_, h4_]; rfl))
            | ((with_reducible apply W.cond); (case hc => simp; rfl); all_goals (intro hc_; try (cases hc_; done)))
            | ((with_reducible apply W.runX); (case _hc => rfl); (case h => simp [T3, T4, T23, T27, T28, T30, T49, h1_, h2_, h3_, h4_]; exact ⟨rfl, rfl, rfl⟩))
            | ((with_reducible apply W.call1 go41); (case ho => rfl); (case hc => rfl); (case hf => rfl); (case hg => first | rfl | simp [T3, T4, T23, T27, T28, T30, T49, h1_, h2_, h3_, h4_]); (case hd => rfl); (case ha => simp [T3, T4, T23, T27, T28, T30, T49, h1_, h2_, h3_, h4_]; rfl); (case hargs => rfl); (case hs => exact hc1 _))
            | ((with_reducible apply W.call1 go43); (case ho => rfl); (case hc => rfl); (case hf => rfl); (case hg => first | rfl | simp [T3, T4, T23, T27, T28, T30, T49, h1_, h2_, h3_, h4_]); (case hd => rfl); (case ha => simp [T3, T4, T23, T27, T28, T30, T49, h1_, h2_, h3_, h4_]; rfl); (case hargs => rfl); (case hs => exact hc2 _))
            | ((with_reducible apply W.call1 go43); (case ho => rfl); (case hc => rfl); (case hf => rfl); (case hg => first | rfl | simp [T3, T4, T23, T27, T28, T30, T49, h1_, h2_, h3_, h4_]); (case hd => rfl); (case ha => simp [T3, T4, T23, T27, T28, T30, T49, h1_, h2_, h3_, h4_]; rfl); (case hargs => rfl); (case hs => exact hc3 _))
            | ((with_reducible apply W.call1 go41); (case ho => rfl); (case hc => rfl); (case hf => rfl); (case hg => first | rfl | simp [T3, T4, T23, T27, T28, T30, T49, h1_, h2_, h3_, h4_]); (case hd => rfl); (case ha => simp [T3, T4, T23, T27, T28, T30, T49, h1_, h2_, h3_, h4_]; rfl); (case hargs => rfl); (case hs => exact hc4 _))
            | ((with_reducible apply W.call1 go49); (case ho => rfl); (case hc => rfl); (case hf => rfl); (case hg => first | rfl | simp [T3, T4, T23, T27, T28, T30, T49, h1_, h2_, h3_, h4_]); (case hd => rfl); (case ha => simp [T3, T4, T23, T27, T28, T30, T49, h1_, h2_, h3_, h4_]; rfl); (case hargs => rfl); (case hs => exact htw _))
            | fail)
          with_reducible apply W.fin
          case h1 => simp <;> rfl
          case h2 => exact Wk.rfl
          case h3 => simp
          case h4 => exact hσ.clB.app (Nat.le_refl _)
          exact ⟨by simp [h1_, h2_, h3_, h4_] at hv; simp [hv], by simp⟩
        · by_cases h5_ : L1 = true
          · repeat' (first
              | with_reducible refine W.seq ?_
              | with_reducible refine W.next ?_
              | with_reducible refine W.nil ?_
              | with_reducible refine W.skip ?_
              | with_reducible refine W.ret ?_
              | with_reducible refine W.ret_code ?_
              | with_reducible refine W.block ?_
              | with_reducible refine W.out ?_
              | with_reducible refine W.ret_blk ?_
              | with_reducible refine W.exit ?_
              | with_reducible refine W.exit_code ?_
              | with_reducible refine W.exit_here ?_
              | with_reducible refine W.leave_exit ?_
              | with_reducible refine W.leave_ret ?_
              | ((with_reducible refine W.exit_on ?h ?_); (case h => decide))
              | ((with_reducible apply W.reg); (case h => simp [T3, T4, T23, T27, T28, T30, T49, h1_, h2_, h3_, h4_, h5_]; exact ⟨rfl, rfl, rfl⟩))
              | ((with_reducible apply W.draw mixed); (case hB => kernel_rfl); (case hr => simp [T3, T4, T23, T27, T28, T30, T49, h1_, h2_, h3_, h4_, h5_]; rfl))
              | ((with_reducible apply W.cond); (case hc => simp; rfl); all_goals (intro hc_; try (cases hc_; done)))
              | ((with_reducible apply W.runX); (case _hc => rfl); (case h => simp [T3, T4, T23, T27, T28, T30, T49, h1_, h2_, h3_, h4_, h5_]; exact ⟨rfl, rfl, rfl⟩))
              | ((with_reducible apply W.call1 go41); (case ho => rfl); (case hc => rfl); (case hf => rfl); (case hg => first | rfl | simp [T3, T4, T23, T27, T28, T30, T49, h1_, h2_, h3_, h4_, h5_]); (case hd => rfl); (case ha => simp [T3, T4, T23, T27, T28, T30, T49, h1_, h2_, h3_, h4_, h5_]; rfl); (case hargs => rfl); (case hs => exact hc1 _))
              | ((with_reducible apply W.call1 go43); (case ho => rfl); (case hc => rfl); (case hf => rfl); (case hg => first | rfl | simp [T3, T4, T23, T27, T28, T30, T49, h1_, h2_, h3_, h4_, h5_]); (case hd => rfl); (case ha => simp [T3, T4, T23, T27, T28, T30, T49, h1_, h2_, h3_, h4_, h5_]; rfl); (case hargs => rfl); (case hs => exact hc2 _))
              | ((with_reducible apply W.call1 go43); (case ho => rfl); (case hc => rfl); (case hf => rfl); (case hg => first | rfl | simp [T3, T4, T23, T27, T28, T30, T49, h1_, h2_, h3_, h4_, h5_]); (case hd => rfl); (case ha => simp [T3, T4, T23, T27, T28, T30, T49, h1_, h2_, h3_, h4_, h5_]; rfl); (case hargs => rfl); (case hs => exact hc3 _))
              | ((with_reducible apply W.call1 go41); (case ho => rfl); (case hc => rfl); (case hf => rfl); (case hg => first | rfl | simp [T3, T4, T23, T27, T28, T30, T49, h1_, h2_, h3_, h4_, h5_]); (case hd => rfl); (case ha => simp [T3, T4, T23, T27, T28, T30, T49, h1_, h2_, h3_, h4_, h5_]; rfl); (case hargs => rfl); (case hs => exact hc4 _))
              | ((with_reducible apply W.call1 go49); (case ho => rfl); (case hc => rfl); (case hf => rfl); (case hg => first | rfl | simp [T3, T4, T23, T27, T28, T30, T49, h1_, h2_, h3_, h4_, h5_]); (case hd => rfl); (case ha => simp [T3, T4, T23, T27, T28, T30, T49, h1_, h2_, h3_, h4_, h5_]; rfl); (case hargs => rfl); (case hs => exact htw _))
              | fail)
            with_reducible apply W.fin
            case h1 => simp <;> rfl
            case h2 => exact Wk.rfl
            case h3 => simp
            case h4 => exact hσ.clB.app (Nat.le_refl _)
            exact ⟨by simp [h1_, h2_, h3_, h4_, h5_] at hv; simp [hv], by simp⟩
          · by_cases h6_ : L2 = true
            · repeat' (first
                | with_reducible refine W.seq ?_
                | with_reducible refine W.next ?_
                | with_reducible refine W.nil ?_
                | with_reducible refine W.skip ?_
                | with_reducible refine W.ret ?_
                | with_reducible refine W.ret_code ?_
                | with_reducible refine W.block ?_
                | with_reducible refine W.out ?_
                | with_reducible refine W.ret_blk ?_
                | with_reducible refine W.exit ?_
                | with_reducible refine W.exit_code ?_
                | with_reducible refine W.exit_here ?_
                | with_reducible refine W.leave_exit ?_
                | with_reducible refine W.leave_ret ?_
                | ((with_reducible refine W.exit_on ?h ?_); (case h => decide))
                | ((with_reducible apply W.reg); (case h => simp [T3, T4, T23, T27, T28, T30, T49, h1_, h2_, h3_, h4_, h5_, h6_]; exact ⟨rfl, rfl, rfl⟩))
                | ((with_reducible apply W.draw mixed); (case hB => kernel_rfl); (case hr => simp [T3, T4, T23, T27, T28, T30, T49, h1_, h2_, h3_, h4_, h5_, h6_]; rfl))
                | ((with_reducible apply W.cond); (case hc => simp; rfl); all_goals (intro hc_; try (cases hc_; done)))
                | ((with_reducible apply W.runX); (case _hc => rfl); (case h => simp [T3, T4, T23, T27, T28, T30, T49, h1_, h2_, h3_, h4_, h5_, h6_]; exact ⟨rfl, rfl, rfl⟩))
                | ((with_reducible apply W.call1 go41); (case ho => rfl); (case hc => rfl); (case hf => rfl); (case hg => first | rfl | simp [T3, T4, T23, T27, T28, T30, T49, h1_, h2_, h3_, h4_, h5_, h6_]); (case hd => rfl); (case ha => simp [T3, T4, T23, T27, T28, T30, T49, h1_, h2_, h3_, h4_, h5_, h6_]; rfl); (case hargs => rfl); (case hs => exact hc1 _))
                | ((with_reducible apply W.call1 go43); (case ho => rfl); (case hc => rfl); (case hf => rfl); (case hg => first | rfl | simp [T3, T4, T23, T27, T28, T30, T49, h1_, h2_, h3_, h4_, h5_, h6_]); (case hd => rfl); (case ha => simp [T3, T4, T23, T27, T28, T30, T49, h1_, h2_, h3_, h4_, h5_, h6_]; rfl); (case hargs => rfl); (case hs => exact hc2 _))
                | ((with_reducible apply W.call1 go43); (case ho => rfl); (case hc => rfl); (case hf => rfl); (case hg => first | rfl | simp [T3, T4, T23, T27, T28, T30, T49, h1_, h2_, h3_, h4_, h5_, h6_]); (case hd => rfl); (case ha => simp [T3, T4, T23, T27, T28, T30, T49, h1_, h2_, h3_, h4_, h5_, h6_]; rfl); (case hargs => rfl); (case hs => exact hc3 _))
                | ((with_reducible apply W.call1 go41); (case ho => rfl); (case hc => rfl); (case hf => rfl); (case hg => first | rfl | simp [T3, T4, T23, T27, T28, T30, T49, h1_, h2_, h3_, h4_, h5_, h6_]); (case hd => rfl); (case ha => simp [T3, T4, T23, T27, T28, T30, T49, h1_, h2_, h3_, h4_, h5_, h6_]; rfl); (case hargs => rfl); (case hs => exact hc4 _))
                | ((with_reducible apply W.call1 go49); (case ho => rfl); (case hc => rfl); (case hf => rfl); (case hg => first | rfl | simp [T3, T4, T23, T27, T28, T30, T49, h1_, h2_, h3_, h4_, h5_, h6_]); (case hd => rfl); (case ha => simp [T3, T4, T23, T27, T28, T30, T49, h1_, h2_, h3_, h4_, h5_, h6_]; rfl); (case hargs => rfl); (case hs => exact htw _))
                | fail)
              with_reducible apply W.fin
              case h1 => simp <;> rfl
              case h2 => exact Wk.rfl
              case h3 => simp
              case h4 => exact hσ.clB.app (Nat.le_refl _)
              exact ⟨by simp [h1_, h2_, h3_, h4_, h5_, h6_] at hv; simp [hv], by simp⟩
            · by_cases h7_ : L3 = true
              · repeat' (first
                  | with_reducible refine W.seq ?_
                  | with_reducible refine W.next ?_
                  | with_reducible refine W.nil ?_
                  | with_reducible refine W.skip ?_
                  | with_reducible refine W.ret ?_
                  | with_reducible refine W.ret_code ?_
                  | with_reducible refine W.block ?_
                  | with_reducible refine W.out ?_
                  | with_reducible refine W.ret_blk ?_
                  | with_reducible refine W.exit ?_
                  | with_reducible refine W.exit_code ?_
                  | with_reducible refine W.exit_here ?_
                  | with_reducible refine W.leave_exit ?_
                  | with_reducible refine W.leave_ret ?_
                  | ((with_reducible refine W.exit_on ?h ?_); (case h => decide))
                  | ((with_reducible apply W.reg); (case h => simp [T3, T4, T23, T27, T28, T30, T49, h1_, h2_, h3_, h4_, h5_, h6_, h7_]; exact ⟨rfl, rfl, rfl⟩))
                  | ((with_reducible apply W.draw mixed); (case hB => kernel_rfl); (case hr => simp [T3, T4, T23, T27, T28, T30, T49, h1_, h2_, h3_, h4_, h5_, h6_, h7_]; rfl))
                  | ((with_reducible apply W.cond); (case hc => simp; rfl); all_goals (intro hc_; try (cases hc_; done)))
                  | ((with_reducible apply W.runX); (case _hc => rfl); (case h => simp [T3, T4, T23, T27, T28, T30, T49, h1_, h2_, h3_, h4_, h5_, h6_, h7_]; exact ⟨rfl, rfl, rfl⟩))
                  | ((with_reducible apply W.call1 go41); (case ho => rfl); (case hc => rfl); (case hf => rfl); (case hg => first | rfl | simp [T3, T4, T23, T27, T28, T30, T49, h1_, h2_, h3_, h4_, h5_, h6_, h7_]); (case hd => rfl); (case ha => simp [T3, T4, T23, T27, T28, T30, T49, h1_, h2_, h3_, h4_, h5_, h6_, h7_]; rfl); (case hargs => rfl); (case hs => exact hc1 _))
                  | ((with_reducible apply W.call1 go43); (case ho => rfl); (case hc => rfl); (case hf => rfl); (case hg => first | rfl | simp [T3, T4, T23, T27, T28, T30, T49, h1_, h2_, h3_, h4_, h5_, h6_, h7_]); (case hd => rfl); (case ha => simp [T3, T4, T23, T27, T28, T30, T49, h1_, h2_, h3_, h4_, h5_, h6_, h7_]; rfl); (case hargs => rfl); (case hs => exact hc2 _))
                  | ((with_reducible apply W.call1 go43); (case ho => rfl); (case hc => rfl); (case hf => rfl); (case hg => first | rfl | simp [T3, T4, T23, T27, T28, T30, T49, h1_, h2_, h3_, h4_, h5_, h6_, h7_]); (case hd => rfl); (case ha => simp [T3, T4, T23, T27, T28, T30, T49, h1_, h2_, h3_, h4_, h5_, h6_, h7_]; rfl); (case hargs => rfl); (case hs => exact hc3 _))
                  | ((with_reducible apply W.call1 go41); (case ho => rfl); (case hc => rfl); (case hf => rfl); (case hg => first | rfl | simp [T3, T4, T23, T27, T28, T30, T49, h1_, h2_, h3_, h4_, h5_, h6_, h7_]); (case hd => rfl); (case ha => simp [T3, T4, T23, T27, T28, T30, T49, h1_, h2_, h3_, h4_, h5_, h6_, h7_]; rfl); (case hargs => rfl); (case hs => exact hc4 _))
                  | ((with_reducible apply W.call1 go49); (case ho => rfl); (case hc => rfl); (case hf => rfl); (case hg => first | rfl | simp [T3, T4, T23, T27, T28, T30, T49, h1_, h2_, h3_, h4_, h5_, h6_, h7_]); (case hd => rfl); (case ha => simp [T3, T4, T23, T27, T28, T30, T49, h1_, h2_, h3_, h4_, h5_, h6_, h7_]; rfl); (case hargs => rfl); (case hs => exact htw _))
                  | fail)
                with_reducible apply W.fin
                case h1 => simp <;> rfl
                case h2 => exact Wk.rfl
                case h3 => simp
                case h4 => exact hσ.clB.app (Nat.le_refl _)
                exact ⟨by simp [h1_, h2_, h3_, h4_, h5_, h6_, h7_] at hv; simp [hv], by simp⟩
              · by_cases h8_ : L4 = true
                · repeat' (first
                    | with_reducible refine W.seq ?_
                    | with_reducible refine W.next ?_
                    | with_reducible refine W.nil ?_
                    | with_reducible refine W.skip ?_
                    | with_reducible refine W.ret ?_
                    | with_reducible refine W.ret_code ?_
                    | with_reducible refine W.block ?_
                    | with_reducible refine W.out ?_
                    | with_reducible refine W.ret_blk ?_
                    | with_reducible refine W.exit ?_
                    | with_reducible refine W.exit_code ?_
                    | with_reducible refine W.exit_here ?_
                    | with_reducible refine W.leave_exit ?_
                    | with_reducible refine W.leave_ret ?_
                    | ((with_reducible refine W.exit_on ?h ?_); (case h => decide))
                    | ((with_reducible apply W.reg); (case h => simp [T3, T4, T23, T27, T28, T30, T49, h1_, h2_, h3_, h4_, h5_, h6_, h7_, h8_]; exact ⟨rfl, rfl, rfl⟩))
                    | ((with_reducible apply W.draw mixed); (case hB => kernel_rfl); (case hr => simp [T3, T4, T23, T27, T28, T30, T49, h1_, h2_, h3_, h4_, h5_, h6_, h7_, h8_]; rfl))
                    | ((with_reducible apply W.cond); (case hc => simp; rfl); all_goals (intro hc_; try (cases hc_; done)))
                    | ((with_reducible apply W.runX); (case _hc => rfl); (case h => simp [T3, T4, T23, T27, T28, T30, T49, h1_, h2_, h3_, h4_, h5_, h6_, h7_, h8_]; exact ⟨rfl, rfl, rfl⟩))
                    | ((with_reducible apply W.call1 go41); (case ho => rfl); (case hc => rfl); (case hf => rfl); (case hg => first | rfl | simp [T3, T4, T23, T27, T28, T30, T49, h1_, h2_, h3_, h4_, h5_, h6_, h7_, h8_]); (case hd => rfl); (case ha => simp [T3, T4, T23, T27, T28, T30, T49, h1_, h2_, h3_, h4_, h5_, h6_, h7_, h8_]; rfl); (case hargs => rfl); (case hs => exact hc1 _))
                    | ((with_reducible apply W.call1 go43); (case ho => rfl); (case hc => rfl); (case hf => rfl); (case hg => first | rfl | simp [T3, T4, T23, T27, T28, T30, T49, h1_, h2_, h3_, h4_, h5_, h6_, h7_, h8_]); (case hd => rfl); (case ha => simp [T3, T4, T23, T27, T28, T30, T49, h1_, h2_, h3_, h4_, h5_, h6_, h7_, h8_]; rfl); (case hargs => rfl); (case hs => exact hc2 _))
                    | ((with_reducible apply W.call1 go43); (case ho => rfl); (case hc => rfl); (case hf => rfl); (case hg => first | rfl | simp [T3, T4, T23, T27, T28, T30, T49, h1_, h2_, h3_, h4_, h5_, h6_, h7_, h8_]); (case hd => rfl); (case ha => simp [T3, T4, T23, T27, T28, T30, T49, h1_, h2_, h3_, h4_, h5_, h6_, h7_, h8_]; rfl); (case hargs => rfl); (case hs => exact hc3 _))
                    | ((with_reducible apply W.call1 go41); (case ho => rfl); (case hc => rfl); (case hf => rfl); (case hg => first | rfl | simp [T3, T4, T23, T27, T28, T30, T49, h1_, h2_, h3_, h4_, h5_, h6_, h7_, h8_]); (case hd => rfl); (case ha => simp [T3, T4, T23, T27, T28, T30, T49, h1_, h2_, h3_, h4_, h5_, h6_, h7_, h8_]; rfl); (case hargs => rfl); (case hs => exact hc4 _))
                    | ((with_reducible apply W.call1 go49); (case ho => rfl); (case hc => rfl); (case hf => rfl); (case hg => first | rfl | simp [T3, T4, T23, T27, T28, T30, T49, h1_, h2_, h3_, h4_, h5_, h6_, h7_, h8_]); (case hd => rfl); (case ha => simp [T3, T4, T23, T27, T28, T30, T49, h1_, h2_, h3_, h4_, h5_, h6_, h7_, h8_]; rfl); (case hargs => rfl); (case hs => exact htw _))
                    | fail)
                  with_reducible apply W.fin
                  case h1 => simp <;> rfl
                  case h2 => exact Wk.rfl
                  case h3 => simp
                  case h4 => exact hσ.clB.app (Nat.le_refl _)
                  exact ⟨by simp [h1_, h2_, h3_, h4_, h5_, h6_, h7_, h8_] at hv; simp [hv], by simp⟩
                · by_cases h9_ : D = true
                  · repeat' (first
                      | with_reducible refine W.seq ?_
                      | with_reducible refine W.next ?_
                      | with_reducible refine W.nil ?_
                      | with_reducible refine W.skip ?_
                      | with_reducible refine W.ret ?_
                      | with_reducible refine W.ret_code ?_
                      | with_reducible refine W.block ?_
                      | with_reducible refine W.out ?_
                      | with_reducible refine W.ret_blk ?_
                      | with_reducible refine W.exit ?_
                      | with_reducible refine W.exit_code ?_
                      | with_reducible refine W.exit_here ?_
                      | with_reducible refine W.leave_exit ?_
                      | with_reducible refine W.leave_ret ?_
                      | ((with_reducible refine W.exit_on ?h ?_); (case h => decide))
                      | ((with_reducible apply W.reg); (case h => simp [T3, T4, T23, T27, T28, T30, T49, h1_, h2_, h3_, h4_, h5_, h6_, h7_, h8_, h9_]; exact ⟨rfl, rfl, rfl⟩))
                      | ((with_reducible apply W.draw mixed); (case hB => kernel_rfl); (case hr => simp [T3, T4, T23, T27, T28, T30, T49, h1_, h2_, h3_, h4_, h5_, h6_, h7_, h8_, h9_]; rfl))
                      | ((with_reducible apply W.cond); (case hc => simp; rfl); all_goals (intro hc_; try (cases hc_; done)))
                      | ((with_reducible apply W.runX); (case _hc => rfl); (case h => simp [T3, T4, T23, T27, T28, T30, T49, h1_, h2_, h3_, h4_, h5_, h6_, h7_, h8_, h9_]; exact ⟨rfl, rfl, rfl⟩))
                      | ((with_reducible apply W.call1 go41); (case ho => rfl); (case hc => rfl); (case hf => rfl); (case hg => first | rfl | simp [T3, T4, T23, T27, T28, T30, T49, h1_, h2_, h3_, h4_, h5_, h6_, h7_, h8_, h9_]); (case hd => rfl); (case ha => simp [T3, T4, T23, T27, T28, T30, T49, h1_, h2_, h3_, h4_, h5_, h6_, h7_, h8_, h9_]; rfl); (case hargs => rfl); (case hs => exact hc1 _))
                      | ((with_reducible apply W.call1 go43); (case ho => rfl); (case hc => rfl); (case hf => rfl); (case hg => first | rfl | simp [T3, T4, T23, T27, T28, T30, T49, h1_, h2_, h3_, h4_, h5_, h6_, h7_, h8_, h9_]); (case hd => rfl); (case ha => simp [T3, T4, T23, T27, T28, T30, T49, h1_, h2_, h3_, h4_, h5_, h6_, h7_, h8_, h9_]; rfl); (case hargs => rfl); (case hs => exact hc2 _))
                      | ((with_reducible apply W.call1 go43); (case ho => rfl); (case hc => rfl); (case hf => rfl); (case hg => first | rfl | simp [T3, T4, T23, T27, T28, T30, T49, h1_, h2_, h3_, h4_, h5_, h6_, h7_, h8_, h9_]); (case hd => rfl); (case ha => simp [T3, T4, T23, T27, T28, T30, T49, h1_, h2_, h3_, h4_, h5_, h6_, h7_, h8_, h9_]; rfl); (case hargs => rfl); (case hs => exact hc3 _))
                      | ((with_reducible apply W.call1 go41); (case ho => rfl); (case hc => rfl); (case hf => rfl); (case hg => first | rfl | simp [T3, T4, T23, T27, T28, T30, T49, h1_, h2_, h3_, h4_, h5_, h6_, h7_, h8_, h9_]); (case hd => rfl); (case ha => simp [T3, T4, T23, T27, T28, T30, T49, h1_, h2_, h3_, h4_, h5_, h6_, h7_, h8_, h9_]; rfl); (case hargs => rfl); (case hs => exact hc4 _))
                      | ((with_reducible apply W.call1 go49); (case ho => rfl); (case hc => rfl); (case hf => rfl); (case hg => first | rfl | simp [T3, T4, T23, T27, T28, T30, T49, h1_, h2_, h3_, h4_, h5_, h6_, h7_, h8_, h9_]); (case hd => rfl); (case ha => simp [T3, T4, T23, T27, T28, T30, T49, h1_, h2_, h3_, h4_, h5_, h6_, h7_, h8_, h9_]; rfl); (case hargs => rfl); (case hs => exact htw _))
                      | fail)
                    with_reducible apply W.fin
                    case h1 => simp <;> rfl
                    case h2 => exact Wk.rfl
                    case h3 => simp
                    case h4 => exact hσ.clB.app (Nat.le_refl _)
                    exact ⟨by simp [h1_, h2_, h3_, h4_, h5_, h6_, h7_, h8_, h9_] at hv; simp [hv], by simp⟩
                  · repeat' (first
                      | with_reducible refine W.seq ?_
                      | with_reducible refine W.next ?_
                      | with_reducible refine W.nil ?_
                      | with_reducible refine W.skip ?_
                      | with_reducible refine W.ret ?_
                      | with_reducible refine W.ret_code ?_
                      | with_reducible refine W.block ?_
                      | with_reducible refine W.out ?_
                      | with_reducible refine W.ret_blk ?_
                      | with_reducible refine W.exit ?_
                      | with_reducible refine W.exit_code ?_
                      | with_reducible refine W.exit_here ?_
                      | with_reducible refine W.leave_exit ?_
                      | with_reducible refine W.leave_ret ?_
                      | ((with_reducible refine W.exit_on ?h ?_); (case h => decide))
                      | ((with_reducible apply W.reg); (case h => simp [T3, T4, T23, T27, T28, T30, T49, h1_, h2_, h3_, h4_, h5_, h6_, h7_, h8_, h9_]; exact ⟨rfl, rfl, rfl⟩))
                      | ((with_reducible apply W.draw mixed); (case hB => kernel_rfl); (case hr => simp [T3, T4, T23, T27, T28, T30, T49, h1_, h2_, h3_, h4_, h5_, h6_, h7_, h8_, h9_]; rfl))
                      | ((with_reducible apply W.cond); (case hc => simp; rfl); all_goals (intro hc_; try (cases hc_; done)))
                      | ((with_reducible apply W.runX); (case _hc => rfl); (case h => simp [T3, T4, T23, T27, T28, T30, T49, h1_, h2_, h3_, h4_, h5_, h6_, h7_, h8_, h9_]; exact ⟨rfl, rfl, rfl⟩))
                      | ((with_reducible apply W.call1 go41); (case ho => rfl); (case hc => rfl); (case hf => rfl); (case hg => first | rfl | simp [T3, T4, T23, T27, T28, T30, T49, h1_, h2_, h3_, h4_, h5_, h6_, h7_, h8_, h9_]); (case hd => rfl); (case ha => simp [T3, T4, T23, T27, T28, T30, T49, h1_, h2_, h3_, h4_, h5_, h6_, h7_, h8_, h9_]; rfl); (case hargs => rfl); (case hs => exact hc1 _))
                      | ((with_reducible apply W.call1 go43); (case ho => rfl); (case hc => rfl); (case hf => rfl); (case hg => first | rfl | simp [T3, T4, T23, T27, T28, T30, T49, h1_, h2_, h3_, h4_, h5_, h6_, h7_, h8_, h9_]); (case hd => rfl); (case ha => simp [T3, T4, T23, T27, T28, T30, T49, h1_, h2_, h3_, h4_, h5_, h6_, h7_, h8_, h9_]; rfl); (case hargs => rfl); (case hs => exact hc2 _))
                      | ((with_reducible apply W.call1 go43); (case ho => rfl); (case hc => rfl); (case hf => rfl); (case hg => first | rfl | simp [T3, T4, T23, T27, T28, T30, T49, h1_, h2_, h3_, h4_, h5_, h6_, h7_, h8_, h9_]); (case hd => rfl); (case ha => simp [T3, T4, T23, T27, T28, T30, T49, h1_, h2_, h3_, h4_, h5_, h6_, h7_, h8_, h9_]; rfl); (case hargs => rfl); (case hs => exact hc3 _))
                      | ((with_reducible apply W.call1 go41); (case ho => rfl); (case hc => rfl); (case hf => rfl); (case hg => first | rfl | simp [T3, T4, T23, T27, T28, T30, T49, h1_, h2_, h3_, h4_, h5_, h6_, h7_, h8_, h9_]); (case hd => rfl); (case ha => simp [T3, T4, T23, T27, T28, T30, T49, h1_, h2_, h3_, h4_, h5_, h6_, h7_, h8_, h9_]; rfl); (case hargs => rfl); (case hs => exact hc4 _))
                      | ((with_reducible apply W.call1 go49); (case ho => rfl); (case hc => rfl); (case hf => rfl); (case hg => first | rfl | simp [T3, T4, T23, T27, T28, T30, T49, h1_, h2_, h3_, h4_, h5_, h6_, h7_, h8_, h9_]); (case hd => rfl); (case ha => simp [T3, T4, T23, T27, T28, T30, T49, h1_, h2_, h3_, h4_, h5_, h6_, h7_, h8_, h9_]; rfl); (case hargs => rfl); (case hs => exact htw _))
                      | fail)
                    with_reducible apply W.fin
                    case h1 => simp <;> rfl
                    case h2 => exact Wk.rfl
                    case h3 => simp
                    case h4 => exact hσ.clB.app (Nat.le_refl _)
                    exact ⟨by simp [h1_, h2_, h3_, h4_, h5_, h6_, h7_, h8_, h9_] at hv; simp [hv], by simp⟩


end Go.Proofs.YtgabnlkkjmepnaaDoor

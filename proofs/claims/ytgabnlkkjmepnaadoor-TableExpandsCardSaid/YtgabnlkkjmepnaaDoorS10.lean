/- Expansion by the program: what entry, sequence, first and all give, with as many steps as are left. -/
import Derived.Test.YtgabnlkkjmepnaaDoorS9
import Derived.Test.YtgabnlkkjmepnaaDoorSwN
import Derived.IntWalk
namespace Go.Proofs.YtgabnlkkjmepnaaDoor
open Go.Sw
set_option linter.unusedSimpArgs false
set_option linter.unusedVariables false
attribute [local simp] runOps stepOp pureOp gd isCall inN setd Sw.get params ev evs binV unV convV loadA cellsPV oneB storeA fieldAddrA fieldOff fieldA partA aggOf extractA indexAddrA indexA lenA minmaxA sliceA bnd partsA buildA placesA fillA buildSliceA zerosA chunkA TyD.agg Value.oneCell' Value.cells runPure appA appendA okRow_nil okRow_cons okRow_append resultA ressA resA List.getElem?_append List.set_append Cl_any Cl_val Cl_ptr Cl_agg Cl_tup Cl_fn Cl_rop Cl_sl Sw.take_set Sw.take_set_app Sw.take_app

attribute [local simp] encI encE encS
@[local simp] theorem okRow_encE (l : List Ent) : okRow 5 (l.map encE) = true := okRow_map (by intro a; exact ⟨rfl, rfl⟩) l
@[local simp] theorem okRow_encS (l : List Sq) : okRow 2 (l.map encS) = true := okRow_map (by intro a; exact ⟨rfl, rfl⟩) l
structure St where
  out : List Ent
  taken : Nat
/-- Again and again, up to the first error. -/
def iterF (f : St → Int × St) : Nat → St → Int × St
  | 0, s => (0, s)
  | n + 1, s => match f s with
    | (e, s') => if e = 0 then iterF f n s' else (e, s')
def entryF (t : Tab) (c : Int) (s : St) : Int × St :=
  if idxF (fun e => e.code == c) t.entries < 0 then (6, s)
  else if (60 : Int) ≤ (s.out.length : Int) then (2, s)
  else (0, ⟨s.out ++ [t.entries.getD (idxF (fun e => e.code == c) t.entries).toNat default], s.taken⟩)
def seqF (t : Tab) (A : List Int → Int → St → Int × St) (c d : Int) (s : St) : Int × St :=
  if idxF (fun q => q.code == c) t.seqs < 0 then (6, s)
  else if 20 < d then (2, s)
  else A (t.seqs.getD (idxF (fun q => q.code == c) t.seqs).toNat default).codes (d + 1) s
/-- One step: the answer, what is behind it, which codes are left. -/
def firstF (t : Tab) (A : List Int → Int → St → Int × St) (c : Int) (rest : List Int) (d : Int) (s : St) : Int × St × List Int :=
  let s1 : St := ⟨s.out, s.taken + 1⟩
  if (500 : Int) < (s.taken + 1 : Nat) then (2, s1, [])
  else if kindF c = 1 then ((entryF t c s1).1, (entryF t c s1).2, rest)
  else if kindF c = 2 then ((seqF t A c d s1).1, (seqF t A c d s1).2, rest)
  else if kindF c = 3 then
    if (rest.length : Int) < (c - 20000).tdiv 100 then (11, s1, [])
    else match iterF (A (rest.take ((c - 20000).tdiv 100).toNat) d) ((c - 20000).tmod 100).toNat s1 with
      | (e, s2) => if e = 0 then (0, s2, rest.drop ((c - 20000).tdiv 100).toNat) else (e, s2, [])
  else (1, s1, [])
/-- All codes of a list, with fuel for so many steps. -/
def allF (t : Tab) : Nat → List Int → Int → St → Int × St
  | _, [], _, s => (0, s)
  | 0, _ :: _, _, s => (2, s)
  | n + 1, c :: rest, d, s => match firstF t (allF t n) c rest d s with
    | (e, s2, r) => if e = 0 then allF t n r d s2 else (e, s2)

/-- The expander's cells. -/
def encX (t : Tab) (τ : Nat) (s : St) : List PV := [i64 t.version, .sl none (t.entries.map encE), .sl none (t.seqs.map encS), .sl (some τ) (s.out.map encE), i64 s.taken]
attribute [local simp] encX

theorem entry1_sc (e : Ent) (c : Int) (i : Nat) (σ : AS) (hi : σ.bx[i]? = some [i64 c]) : SC1 Cc 66 [.agg (encE e), .ptr i 0] σ (bV (e.code == c)) σ := by
  have hi2 : ∀ r, (σ.bx ++ r)[i]? = some [i64 c] := fun r => get_app_of hi r
  refine W.body Tryd.func66 rfl 8 Tryd.ntmps66 _ Tryd.results66 (by simp) GEt_cl fun hσ => ?_
  repeat' (first
    | with_reducible refine W.seq ?_
    | with_reducible refine W.next ?_
    | with_reducible refine W.nil ?_
    | with_reducible refine W.skip ?_
    | with_reducible refine W.ret ?_
    | with_reducible refine W.ret_code ?_
    | with_reducible refine W.block ?_
    | with_reducible refine W.out ?_
    | with_reducible refine W.ret_blk ?_
    | with_reducible refine W.exit ?_
    | with_reducible refine W.exit_code ?_
    | with_reducible refine W.exit_here ?_
    | with_reducible refine W.leave_exit ?_
    | with_reducible refine W.leave_ret ?_
    | ((with_reducible refine W.exit_on ?h ?_); (case h => decide))
    | ((with_reducible apply W.reg); (case h => simp [T3, T4, T23, hi2]; exact ⟨rfl, rfl, rfl⟩))
    | ((with_reducible apply W.draw mixed); (case hB => kernel_rfl); (case hr => simp [T3, T4, T23, hi2]; rfl))
    | ((with_reducible apply W.cond); (case hc => simp; rfl); all_goals (intro hc_; try (cases hc_; done)))
    | ((with_reducible apply W.runX); (case _hc => rfl); (case h => simp [T3, T4, T23, hi2]; exact ⟨rfl, rfl, rfl⟩))
    | fail)
  with_reducible apply W.fin
  case h1 => simp <;> rfl
  case h2 => exact Wk.rfl
  case h3 => simp
  case h4 => exact hσ.clB.app (Nat.le_refl _)
  exact ⟨by simp, by simp⟩

theorem seq1_sc (q : Sq) (c : Int) (i : Nat) (σ : AS) (hi : σ.bx[i]? = some [i64 c]) : SC1 Cc 67 [.agg (encS q), .ptr i 0] σ (bV (q.code == c)) σ := by
  have hi2 : ∀ r, (σ.bx ++ r)[i]? = some [i64 c] := fun r => get_app_of hi r
  refine W.body Tryd.func67 rfl 8 Tryd.ntmps67 _ Tryd.results67 (by simp) GEt_cl fun hσ => ?_
  repeat' (first
    | with_reducible refine W.seq ?_
    | with_reducible refine W.next ?_
    | with_reducible refine W.nil ?_
    | with_reducible refine W.skip ?_
    | with_reducible refine W.ret ?_
    | with_reducible refine W.ret_code ?_
    | with_reducible refine W.block ?_
    | with_reducible refine W.out ?_
    | with_reducible refine W.ret_blk ?_
    | with_reducible refine W.exit ?_
    | with_reducible refine W.exit_code ?_
    | with_reducible refine W.exit_here ?_
    | with_reducible refine W.leave_exit ?_
    | with_reducible refine W.leave_ret ?_
    | ((with_reducible refine W.exit_on ?h ?_); (case h => decide))
    | ((with_reducible apply W.reg); (case h => simp [T3, T4, T49, hi2]; exact ⟨rfl, rfl, rfl⟩))
    | ((with_reducible apply W.draw mixed); (case hB => kernel_rfl); (case hr => simp [T3, T4, T49, hi2]; rfl))
    | ((with_reducible apply W.cond); (case hc => simp; rfl); all_goals (intro hc_; try (cases hc_; done)))
    | ((with_reducible apply W.runX); (case _hc => rfl); (case h => simp [T3, T4, T49, hi2]; exact ⟨rfl, rfl, rfl⟩))
    | fail)
  with_reducible apply W.fin
  case h1 => simp <;> rfl
  case h2 => exact Wk.rfl
  case h3 => simp
  case h4 => exact hσ.clB.app (Nat.le_refl _)
  exact ⟨by simp, by simp⟩

theorem encX_cl (n m : Nat) (t : Tab) (τ : Nat) (s : St) (h : τ < m) : ∀ p ∈ encX t τ s, Cl n m p := by
  intro p hp
  simp only [encX, List.mem_cons, List.not_mem_nil, or_false] at hp
  rcases hp with rfl | rfl | rfl | rfl | rfl
  · exact .val _
  · exact encEs_cl _ _ _ (by simp) _
  · exact encSs_cl _ _ _ (by simp) _
  · exact encEs_cl _ _ _ (by rintro _ ⟨⟩; exact h) _
  · exact .val _

/-- The objects behind a step. -/
def setX (σ : AS) (b τ : Nat) (t : Tab) (s : St) : AS := ⟨σ.bx.set b (encX t τ s), σ.tk.set τ (23, s.out.length)⟩
theorem idx_lt {α : Type} {p : α → Bool} {l : List α} (h : ¬ idxF p l < 0) : ∃ k : Nat, idxF p l = k ∧ k < l.length := by
  unfold idxF at *
  split at h
  · rename_i hl; rw [if_pos hl]; exact ⟨_, rfl, hl⟩
  · omega

theorem entry_sc (t : Tab) (b τ : Nat) (c : Int) (s : St) (σ : AS) (ht : TabOK t) (hb : σ.bx[b]? = some (encX t τ s)) (hτ : σ.tk[τ]? = some (23, s.out.length)) (hs : s.out.length ≤ 60) :
    SC1 Cc 63 [.ptr b 0, i64 c] σ (i64 (entryF t c s).1) (setX σ b τ t (entryF t c s).2) := by
  have hb2 : ∀ r, (σ.bx ++ r)[b]? = some (encX t τ s) := fun r => get_app_of hb r
  have hsame : setX σ b τ t s = σ := by unfold setX; rw [set_same hb, set_same hτ]
  refine W.body Tryd.func63 rfl 38 Tryd.ntmps63 _ Tryd.results63 (by simp) GEt_cl fun hσ => ?_
  repeat' (first
    | with_reducible refine W.seq ?_
    | with_reducible refine W.next ?_
    | with_reducible refine W.nil ?_
    | with_reducible refine W.skip ?_
    | with_reducible refine W.ret ?_
    | with_reducible refine W.ret_code ?_
    | with_reducible refine W.block ?_
    | with_reducible refine W.out ?_
    | with_reducible refine W.ret_blk ?_
    | with_reducible refine W.exit ?_
    | with_reducible refine W.exit_code ?_
    | with_reducible refine W.exit_here ?_
    | with_reducible refine W.leave_exit ?_
    | with_reducible refine W.leave_ret ?_
    | ((with_reducible refine W.exit_on ?h ?_); (case h => decide))
    | ((with_reducible apply W.reg); (case h => simp [T3, T27, T28, T30, T70, T72, hb2]; exact ⟨rfl, rfl, rfl⟩))
    | ((with_reducible apply W.draw mixed); (case hB => kernel_rfl); (case hr => simp [T3, T27, T28, T30, T70, T72, hb2]; rfl))
    | ((with_reducible apply W.cond); (case hc => simp; rfl); all_goals (intro hc_; try (cases hc_; done)))
    | ((with_reducible apply W.runX); (case _hc => rfl); (case h => simp [T3, T27, T28, T30, T70, T72, hb2]; exact ⟨rfl, rfl, rfl⟩))
    | ((with_reducible apply W.call1 go58); (case ho => rfl); (case hc => rfl); (case hf => rfl); (case hg => first | rfl | simp [T3, T27, T28, T30, T70, T72, hb2]); (case hd => rfl); (case ha => simp [T3, T27, T28, T30, T70, T72, hb2]; rfl); (case hargs => rfl); (case hs => exact IndexEntry_sc t.entries none 66 [.ptr σ.bx.length 0] (fun e => e.code == c) _ go66 ht.elen (fun e _ => entry1_sc e c _ _ (by simp))))
    | fail)
  · have h1 : idxF (fun e => e.code == c) t.entries < 0 := by simpa using hc_
    with_reducible apply W.fin
    case h1 => simp <;> rfl
    case h2 => exact Wk.rfl
    case h3 => simp
    case h4 => exact hσ.clB.app (Nat.le_refl _)
    exact ⟨by simp only [entryF, if_pos h1], by simp only [entryF, if_pos h1, hsame]; simp⟩
  · have h1 : ¬ idxF (fun e => e.code == c) t.entries < 0 := by rename_i h; simpa using h
    have h2 : (60 : Int) ≤ (s.out.length : Int) := by simpa using hc_
    with_reducible apply W.fin
    case h1 => simp <;> rfl
    case h2 => exact Wk.rfl
    case h3 => simp
    case h4 => exact hσ.clB.app (Nat.le_refl _)
    exact ⟨by simp only [entryF, if_neg h1, if_pos h2], by simp only [entryF, if_neg h1, if_pos h2, hsame]; simp⟩
  · have h1 : ¬ idxF (fun e => e.code == c) t.entries < 0 := by rename_i h; simpa using h
    have h2 : ¬ (60 : Int) ≤ (s.out.length : Int) := by simpa using hc_
    obtain ⟨k, e, hk⟩ := idx_lt h1
    have hbt : (s.out.length + 1) * 40 ≤ 140737488355328 := by omega
    have hbl := (List.getElem?_eq_some_iff.1 hb).1
    have hset : (σ.bx ++ [[i64 c]]).set b (encX t τ ⟨s.out ++ [t.entries[k]], s.taken⟩) = σ.bx.set b (encX t τ ⟨s.out ++ [t.entries[k]], s.taken⟩) ++ [[i64 c]] := by rw [List.set_append_left _ _ hbl]
    with_reducible apply W.held0 mixed 18 [0, 1, 2, 3, 4, 5, 6, 7, 8, 9, 10, 11, 12, 15, 16]
    case hn => rfl
    with_reducible apply SH.takes [0, 1, 2, 3, 4, 5, 6, 7, 8, 9, 10, 11, 12] 5
    case hfu => rfl
    case hs => kernel_rfl
    case hB => kernel_rfl
    case hQ => exact fun _ _ _ h => h
    case hs0 => exact Sub0.rfl
    case hr => simp [T3, T23, T27, T28, T30, T70, T72, hb2, e, hk, hbt, hτ, runTakes, takeOp, effA, effOp, down, down1, hideB, keep]; exact ⟨rfl, rfl⟩
    with_reducible apply SH.one 13
    case hr => kernel_rfl
    with_reducible apply SHo.effX
    case hh => exact (Sub0.rfl).hid.mono (by simp)
    case he => simp [T3, T23, T27, T28, T30, T70, T72, hb2, e, hk, hbt, hτ, runTakes, takeOp, effA, effOp, down, down1, hideB, keep]; exact ⟨rfl, rfl, rfl⟩
    with_reducible apply SH.one 14
    case hr => kernel_rfl
    with_reducible apply SHo.effX
    case hh => exact (Sub0.rfl).hid.mono (by simp)
    case he => simp [T3, T23, T27, T28, T30, T70, T72, hb2, e, hk, hbt, hτ, runTakes, takeOp, effA, effOp, down, down1, hideB, keep]; exact ⟨rfl, rfl, rfl⟩
    with_reducible apply SH.takes [15, 16] 1
    case hfu => rfl
    case hs => kernel_rfl
    case hB => kernel_rfl
    case hQ => exact fun _ _ _ h => h
    case hs0 => exact Sub0.rfl
    case hr => simp [T3, T23, T27, T28, T30, T70, T72, hb2, e, hk, hbt, hτ, runTakes, takeOp, effA, effOp, down, down1, hideB, keep]; exact ⟨rfl, rfl⟩
    with_reducible apply SH.one 17
    case hr => kernel_rfl
    with_reducible apply SHo.lastX
    case hnd => kernel_rfl
    case he => simp [T3, T23, T27, T28, T30, T70, T72, hb2, e, hk, hbt, hτ, runTakes, takeOp, effA, effOp, down, down1, hideB, keep, lastA]; exact ⟨rfl, rfl, rfl⟩
    refine SH.done (by kernel_rfl) ?_
    repeat' (first
      | with_reducible refine W.seq ?_
      | with_reducible refine W.next ?_
      | with_reducible refine W.nil ?_
      | with_reducible refine W.skip ?_
      | with_reducible refine W.ret ?_
      | with_reducible refine W.ret_code ?_
      | with_reducible refine W.block ?_
      | with_reducible refine W.out ?_
      | with_reducible refine W.ret_blk ?_
      | with_reducible refine W.exit ?_
      | with_reducible refine W.exit_code ?_
      | with_reducible refine W.exit_here ?_
      | with_reducible refine W.leave_exit ?_
      | with_reducible refine W.leave_ret ?_
      | ((with_reducible refine W.exit_on ?h ?_); (case h => decide))
      | ((with_reducible apply W.reg); (case h => simp [T3]; exact ⟨rfl, rfl, rfl⟩))
      | ((with_reducible apply W.draw mixed); (case hB => kernel_rfl); (case hr => simp [T3]; rfl))
      | ((with_reducible apply W.cond); (case hc => simp; rfl); all_goals (intro hc_; try (cases hc_; done)))
      | ((with_reducible apply W.runX); (case _hc => rfl); (case h => simp [T3]; exact ⟨rfl, rfl, rfl⟩))
      | fail)
    have hout : t.entries.getD (idxF (fun e => e.code == c) t.entries).toNat default = t.entries[k] := by rw [e]; simp [hk]
    have hr : entryF t c s = (0, ⟨s.out ++ [t.entries[k]], s.taken⟩) := by simp only [entryF, if_neg h1, if_neg h2, hout]
    rw [hr]
    have hcl := ((hσ.clB.set (b := b) (encX_cl _ _ t τ ⟨s.out ++ [t.entries[k]], s.taken⟩ (List.getElem?_eq_some_iff.1 hτ).1)).app (r := [[i64 c]]) (by simp))
    simp only [encX, List.map_append, List.map_cons, List.map_nil, encE] at hcl
    with_reducible apply W.fin
    case h1 => simp <;> rfl
    case h2 => exact Wk.rfl
    case h3 => simp
    case h4 => simp only [hbl, if_true]; exact hcl
    refine ⟨rfl, ?_⟩
    simp [setX, hbl]


end Go.Proofs.YtgabnlkkjmepnaaDoor

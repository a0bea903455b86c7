/- Expansion by the program: what first and all give. -/
import Derived.Test.YtgabnlkkjmepnaaDoorS11
import Derived.Test.YtgabnlkkjmepnaaDoorSwN
import Derived.IntWalk
namespace Go.Proofs.YtgabnlkkjmepnaaDoor
open Go.Sw
set_option linter.unusedSimpArgs false
set_option linter.unusedVariables false
attribute [local simp] runOps stepOp pureOp gd isCall inN setd Sw.get params ev evs binV unV convV loadA cellsPV oneB storeA fieldAddrA fieldOff fieldA partA aggOf extractA indexAddrA indexA lenA minmaxA sliceA bnd partsA buildA placesA fillA buildSliceA zerosA chunkA TyD.agg Value.oneCell' Value.cells runPure appA appendA okRow_nil okRow_cons okRow_append resultA ressA resA List.getElem?_append List.set_append Cl_any Cl_val Cl_ptr Cl_agg Cl_tup Cl_fn Cl_rop Cl_sl Sw.take_set Sw.take_set_app Sw.take_app

attribute [local simp] encI encE encS encX okRow_encE okRow_encS

/-- States from which one may go on. -/
structure Gd (s : St) : Prop where
  out : s.out.length ≤ 60
  taken : s.taken ≤ 500
/-- What holds behind a step that begins at s and answers r. -/
structure Af (s : St) (r : Int × St) : Prop where
  out : r.2.out.length ≤ 60
  le : s.taken ≤ r.2.taken
  ok : r.1 = 0 → r.2.taken ≤ 500
def AfA (n : Nat) (A : List Int → Int → St → Int × St) : Prop := ∀ codes d s, Gd s → 501 ≤ n + s.taken → Af s (A codes d s)

theorem iterF_ok {n : Nat} {f : St → Int × St} (hf : ∀ s, Gd s → 501 ≤ n + s.taken → Af s (f s)) : ∀ k s, Gd s → 501 ≤ n + s.taken → Af s (iterF f k s)
  | 0, s, hs, _ => ⟨hs.out, Nat.le_refl _, fun _ => hs.taken⟩
  | k + 1, s, hs, hn => by
    have h1 := hf s hs hn
    unfold iterF
    generalize f s = r at h1
    obtain ⟨e, s'⟩ := r
    dsimp only
    split
    · rename_i he
      have h2 := iterF_ok hf k s' ⟨h1.out, h1.ok he⟩ (by have := h1.le; dsimp only at this; omega)
      exact ⟨h2.out, Nat.le_trans h1.le h2.le, h2.ok⟩
    · exact h1
theorem entryF_ok (t : Tab) (c : Int) (s : St) (hs : Gd s) : Af s (entryF t c s) := by
  unfold entryF
  split
  · exact ⟨hs.out, Nat.le_refl _, fun _ => hs.taken⟩
  · split
    · exact ⟨hs.out, Nat.le_refl _, fun _ => hs.taken⟩
    · rename_i h
      exact ⟨by simp; omega, Nat.le_refl _, fun _ => hs.taken⟩
theorem seqF_ok {n : Nat} {A : List Int → Int → St → Int × St} (hA : AfA n A) (t : Tab) (c d : Int) (s : St) (hs : Gd s) (hn : 501 ≤ n + s.taken) : Af s (seqF t A c d s) := by
  unfold seqF
  split
  · exact ⟨hs.out, Nat.le_refl _, fun _ => hs.taken⟩
  · split
    · exact ⟨hs.out, Nat.le_refl _, fun _ => hs.taken⟩
    · exact hA _ _ _ hs hn
theorem firstF_ok {n : Nat} {A : List Int → Int → St → Int × St} (hA : AfA n A) (t : Tab) (c : Int) (rest : List Int) (d : Int) (s : St) (hs : Gd s) (hn : 501 ≤ n + 1 + s.taken) :
    ((firstF t A c rest d s).2.1.out.length ≤ 60 ∧ s.taken + 1 ≤ (firstF t A c rest d s).2.1.taken ∧ ((firstF t A c rest d s).1 = 0 → (firstF t A c rest d s).2.1.taken ≤ 500)) ∧
    (∀ x ∈ (firstF t A c rest d s).2.2, x ∈ rest) ∧ (firstF t A c rest d s).2.2.length ≤ rest.length := by
  unfold firstF
  dsimp only
  have ho := hs.out
  split
  · exact ⟨⟨hs.out, Nat.le_refl _, fun h => by cases h⟩, by simp, by simp⟩
  · rename_i h5
    have g1 : Gd ⟨s.out, s.taken + 1⟩ := ⟨hs.out, by dsimp only; omega⟩
    have hn' : 501 ≤ n + (s.taken + 1) := by omega
    split
    · have h := entryF_ok t c _ g1
      exact ⟨⟨h.out, h.le, h.ok⟩, fun x hx => hx, Nat.le_refl _⟩
    · split
      · have h := seqF_ok hA t c d _ g1 hn'
        exact ⟨⟨h.out, h.le, h.ok⟩, fun x hx => hx, Nat.le_refl _⟩
      · split
        · split
          · exact ⟨⟨hs.out, Nat.le_refl _, fun h => by cases h⟩, by simp, by simp⟩
          · have h := iterF_ok (n := n) (f := A (rest.take ((c - 20000).tdiv 100).toNat) d) (fun s hs hn => hA _ _ s hs hn) ((c - 20000).tmod 100).toNat _ g1 hn'
            generalize iterF (A (rest.take ((c - 20000).tdiv 100).toNat) d) ((c - 20000).tmod 100).toNat ⟨s.out, s.taken + 1⟩ = r at h
            obtain ⟨e, s2⟩ := r
            dsimp only
            split
            · rename_i he
              exact ⟨⟨h.out, h.le, fun _ => h.ok he⟩, fun x hx => List.mem_of_mem_drop hx, by simp⟩
            · exact ⟨⟨h.out, h.le, h.ok⟩, by simp, by simp⟩
        · exact ⟨⟨hs.out, Nat.le_refl _, fun h => by cases h⟩, by simp, by simp⟩
theorem allF_ok (t : Tab) : ∀ n, AfA n (allF t n)
  | n, [], d, s, hs, _ => by
    cases n <;> exact ⟨hs.out, Nat.le_refl _, fun _ => hs.taken⟩
  | 0, c :: rest, d, s, hs, hn => by have := hs.taken; omega
  | n + 1, c :: rest, d, s, hs, hn => by
    obtain ⟨⟨h1, h2, h3⟩, _, _⟩ := firstF_ok (allF_ok t n) t c rest d s hs hn
    unfold allF
    generalize firstF t (allF t n) c rest d s = r at *
    obtain ⟨e, s2, r⟩ := r
    dsimp only at h1 h2 h3 ⊢
    split
    · rename_i he
      have h := allF_ok t n r d s2 ⟨h1, h3 he⟩ (by omega)
      exact ⟨h.out, by have := h.le; omega, h.ok⟩
    · exact ⟨h1, by dsimp only; omega, h3⟩

theorem kind3 {c : Int} (h : kindF c = 3) : 20000 ≤ c ∧ 1 ≤ (c - 20000).tdiv 100 ∧ (c - 20000).tdiv 100 ≤ 20 ∧ 1 ≤ (c - 20000).tmod 100 ∧ (c - 20000).tmod 100 ≤ 20 := by
  unfold kindF at h
  split at h
  · cases h
  · split at h
    · cases h
    · split at h
      · cases h
      · split at h
        · rename_i h1; exact ⟨by omega, h1.1, h1.2.1, h1.2.2.1, h1.2.2.2⟩
        · cases h

theorem setX_setX {σ : AS} {b τ : Nat} {t : Tab} {s s' : St} : setX (setX σ b τ t s) b τ t s' = setX σ b τ t s' := by simp [setX]
theorem setX_set {σ : AS} {b τ : Nat} {t : Tab} {s' : St} {x : List PV} : setX ⟨σ.bx.set b x, σ.tk⟩ b τ t s' = setX σ b τ t s' := by simp [setX]

theorem setX_take0 {σ : AS} {b τ : Nat} {t : Tab} {s : St} : (⟨(setX σ b τ t s).bx.take σ.bx.length, (setX σ b τ t s).tk.take σ.tk.length⟩ : AS) = setX σ b τ t s := by
  have := setX_take (σ := σ) (b := b) (τ := τ) (t := t) (s := s) [] _ _ rfl rfl
  simpa using this
theorem wkErr (p : PV) : Wk Cc (.tup [.val (.slice none 0 0), p]) (.tup [.sl none [], p]) := Wk.tup (show WkL Cc [.val (.slice none 0 0), p] [.sl none [], p] from ⟨Wk.nil, Wk.rfl, trivial⟩)
theorem first_sc (t : Tab) (n : Nat) (A : AllC t n) (b τ : Nat) (c : Int) (rest : List Int) (d : Int) (s : St) (σ : AS) (ht : TabOK t) (hc : I64 c) (hrest : ∀ x ∈ rest, I64 x) (hlen : rest.length ≤ 1000000) (hd : 0 ≤ d ∧ d ≤ 21)
    (hb : σ.bx[b]? = some (encX t τ s)) (hτ : σ.tk[τ]? = some (23, s.out.length)) (hs : Gd s) (hn : 501 ≤ n + 1 + s.taken) :
    SC1 Cc 56 [.ptr b 0, .sl none ((c :: rest).map encI), i64 d] σ (.tup [.sl none ((firstF t (allF t n) c rest d s).2.2.map encI), i64 (firstF t (allF t n) c rest d s).1]) (setX σ b τ t (firstF t (allF t n) c rest d s).2.1) := by
  have hbs := fun x : List PV => get_set_of hb x
  have hbl := (List.getElem?_eq_some_iff.1 hb).1
  have hτl := (List.getElem?_eq_some_iff.1 hτ).1
  have h5 := hs.taken
  have hw1 : IntKind.i64.wrap ((s.taken : Int) + 1) = (s.taken : Int) + 1 := wrap64 (by omega)
  obtain ⟨kc, hk⟩ : ∃ kc, kindF c = kc := ⟨_, rfl⟩
  have hof : ∀ σ, SC1 Cc 55 [i64 c] σ (i64 kc) σ := fun σ => hk ▸ of_sc c σ hc
  have hsx : (⟨σ.bx.set b (encX t τ ⟨s.out, s.taken + 1⟩), σ.tk⟩ : AS) = setX σ b τ t ⟨s.out, s.taken + 1⟩ := by unfold setX; rw [set_same hτ]
  have hent : SC1 Cc 63 [.ptr b 0, i64 c] ⟨σ.bx.set b (encX t τ ⟨s.out, s.taken + 1⟩), σ.tk⟩ (i64 (entryF t c ⟨s.out, s.taken + 1⟩).1) (setX σ b τ t (entryF t c ⟨s.out, s.taken + 1⟩).2) := by
    have := entry_sc t b τ c ⟨s.out, s.taken + 1⟩ ⟨σ.bx.set b (encX t τ ⟨s.out, s.taken + 1⟩), σ.tk⟩ ht (hbs _) hτ hs.out
    rwa [setX_set] at this
  have hseq : s.taken + 1 ≤ 500 → SC1 Cc 64 [.ptr b 0, i64 c, i64 d] ⟨σ.bx.set b (encX t τ ⟨s.out, s.taken + 1⟩), σ.tk⟩ (i64 (seqF t (allF t n) c d ⟨s.out, s.taken + 1⟩).1) (setX σ b τ t (seqF t (allF t n) c d ⟨s.out, s.taken + 1⟩).2) := by
    intro h
    have := sequence_sc t n A b τ c d ⟨s.out, s.taken + 1⟩ ⟨σ.bx.set b (encX t τ ⟨s.out, s.taken + 1⟩), σ.tk⟩ ht (hbs _) hτ hs.out hd h (by dsimp only; omega)
    rwa [setX_set] at this
  refine W.body Tryd.func56 rfl 72 Tryd.ntmps56 _ Tryd.results56 (by simp) GEt_cl fun hσ => ?_
  have hcl1 := hσ.clB.set (b := b) (encX_cl _ _ t τ ⟨s.out, s.taken + 1⟩ hτl)
  repeat' (first
    | with_reducible refine W.seq ?_
    | with_reducible refine W.next ?_
    | with_reducible refine W.nil ?_
    | with_reducible refine W.skip ?_
    | with_reducible refine W.ret ?_
    | with_reducible refine W.ret_code ?_
    | with_reducible refine W.block ?_
    | with_reducible refine W.out ?_
    | with_reducible refine W.ret_blk ?_
    | with_reducible refine W.exit ?_
    | with_reducible refine W.exit_code ?_
    | with_reducible refine W.exit_here ?_
    | with_reducible refine W.leave_exit ?_
    | with_reducible refine W.leave_ret ?_
    | ((with_reducible refine W.exit_on ?h ?_); (case h => decide))
    | ((with_reducible apply W.reg); (case h => simp [T3, T4, T24, T27, T28, T30, T35, T49, T70, T72, T86, hb, hbs, hw1, take_mapE]; exact ⟨rfl, rfl, rfl⟩))
    | ((with_reducible apply W.draw mixed); (case hB => kernel_rfl); (case hr => simp [T3, T4, T24, T27, T28, T30, T35, T49, T70, T72, T86, hb, hbs, hw1, take_mapE]; rfl))
    | ((with_reducible apply W.cond); (case hc => simp; rfl); all_goals (intro hc_; try (cases hc_; done)))
    | ((with_reducible apply W.runX); (case _hc => rfl); (case h => simp [T3, T4, T24, T27, T28, T30, T35, T49, T70, T72, T86, hb, hbs, hw1, take_mapE]; exact ⟨rfl, rfl, rfl⟩))
    | ((with_reducible apply W.call1 go55); (case ho => rfl); (case hc => rfl); (case hf => rfl); (case hg => first | rfl | simp [T3, T4, T24, T27, T28, T30, T35, T49, T70, T72, T86, hb, hbs, hw1, take_mapE]); (case hd => rfl); (case ha => simp [T3, T4, T24, T27, T28, T30, T35, T49, T70, T72, T86, hb, hbs, hw1, take_mapE]; rfl); (case hargs => rfl); (case hs => exact hof _))
    | fail)
  · have h1 : (500 : Int) < (s.taken + 1 : Nat) := by simpa using hc_
    have hr : firstF t (allF t n) c rest d s = (2, ⟨s.out, s.taken + 1⟩, []) := by simp only [firstF]; rw [if_pos h1]
    rw [hr]
    with_reducible apply W.fin
    case h1 => simp <;> rfl
    case h2 => exact wkErr _
    case h3 => simp
    case h4 => exact hcl1
    refine ⟨rfl, ?_⟩
    rw [← hsx]; simp
  · have h1 : ¬ (500 : Int) < (s.taken + 1 : Nat) := by rename_i h; simpa using h
    have h2 : kindF c = 1 := by rw [hk]; simpa using hc_
    have hr : firstF t (allF t n) c rest d s = ((entryF t c ⟨s.out, s.taken + 1⟩).1, (entryF t c ⟨s.out, s.taken + 1⟩).2, rest) := by simp only [firstF]; rw [if_neg h1, if_pos h2]
    rw [hr]
    repeat' (first
      | with_reducible refine W.seq ?_
      | with_reducible refine W.next ?_
      | with_reducible refine W.nil ?_
      | with_reducible refine W.skip ?_
      | with_reducible refine W.ret ?_
      | with_reducible refine W.ret_code ?_
      | with_reducible refine W.block ?_
      | with_reducible refine W.out ?_
      | with_reducible refine W.ret_blk ?_
      | with_reducible refine W.exit ?_
      | with_reducible refine W.exit_code ?_
      | with_reducible refine W.exit_here ?_
      | with_reducible refine W.leave_exit ?_
      | with_reducible refine W.leave_ret ?_
      | ((with_reducible refine W.exit_on ?h ?_); (case h => decide))
      | ((with_reducible apply W.reg); (case h => simp [T3, T4, T24, T27, T28, T30, T35, T49, T70, T72, T86, hb, hbs, hw1, take_mapE]; exact ⟨rfl, rfl, rfl⟩))
      | ((with_reducible apply W.draw mixed); (case hB => kernel_rfl); (case hr => simp [T3, T4, T24, T27, T28, T30, T35, T49, T70, T72, T86, hb, hbs, hw1, take_mapE]; rfl))
      | ((with_reducible apply W.cond); (case hc => simp; rfl); all_goals (intro hc_; try (cases hc_; done)))
      | ((with_reducible apply W.runX); (case _hc => rfl); (case h => simp [T3, T4, T24, T27, T28, T30, T35, T49, T70, T72, T86, hb, hbs, hw1, take_mapE]; exact ⟨rfl, rfl, rfl⟩))
      | ((with_reducible apply W.call1 go63); (case ho => rfl); (case hc => rfl); (case hf => rfl); (case hg => first | rfl | simp [T3, T4, T24, T27, T28, T30, T35, T49, T70, T72, T86, hb, hbs, hw1, take_mapE]); (case hd => rfl); (case ha => simp [T3, T4, T24, T27, T28, T30, T35, T49, T70, T72, T86, hb, hbs, hw1, take_mapE]; rfl); (case hargs => rfl); (case hs => exact hent))
      | fail)
    with_reducible apply W.fin
    case h1 => simp <;> rfl
    case h2 => exact Wk.rfl
    case h3 => simp
    case h4 => exact setX_clB hσ hτl
    exact ⟨rfl, setX_take0⟩
  · have h1 : ¬ (500 : Int) < (s.taken + 1 : Nat) := by rename_i h _; simpa using h
    have h2 : kindF c = 2 := by rw [hk]; simpa using hc_
    have hr : firstF t (allF t n) c rest d s = ((seqF t (allF t n) c d ⟨s.out, s.taken + 1⟩).1, (seqF t (allF t n) c d ⟨s.out, s.taken + 1⟩).2, rest) := by simp only [firstF]; rw [if_neg h1, if_neg (by omega), if_pos h2]
    rw [hr]
    repeat' (first
      | with_reducible refine W.seq ?_
      | with_reducible refine W.next ?_
      | with_reducible refine W.nil ?_
      | with_reducible refine W.skip ?_
      | with_reducible refine W.ret ?_
      | with_reducible refine W.ret_code ?_
      | with_reducible refine W.block ?_
      | with_reducible refine W.out ?_
      | with_reducible refine W.ret_blk ?_
      | with_reducible refine W.exit ?_
      | with_reducible refine W.exit_code ?_
      | with_reducible refine W.exit_here ?_
      | with_reducible refine W.leave_exit ?_
      | with_reducible refine W.leave_ret ?_
      | ((with_reducible refine W.exit_on ?h ?_); (case h => decide))
      | ((with_reducible apply W.reg); (case h => simp [T3, T4, T24, T27, T28, T30, T35, T49, T70, T72, T86, hb, hbs, hw1, take_mapE]; exact ⟨rfl, rfl, rfl⟩))
      | ((with_reducible apply W.draw mixed); (case hB => kernel_rfl); (case hr => simp [T3, T4, T24, T27, T28, T30, T35, T49, T70, T72, T86, hb, hbs, hw1, take_mapE]; rfl))
      | ((with_reducible apply W.cond); (case hc => simp; rfl); all_goals (intro hc_; try (cases hc_; done)))
      | ((with_reducible apply W.runX); (case _hc => rfl); (case h => simp [T3, T4, T24, T27, T28, T30, T35, T49, T70, T72, T86, hb, hbs, hw1, take_mapE]; exact ⟨rfl, rfl, rfl⟩))
      | ((with_reducible apply W.call1 go64); (case ho => rfl); (case hc => rfl); (case hf => rfl); (case hg => first | rfl | simp [T3, T4, T24, T27, T28, T30, T35, T49, T70, T72, T86, hb, hbs, hw1, take_mapE]); (case hd => rfl); (case ha => simp [T3, T4, T24, T27, T28, T30, T35, T49, T70, T72, T86, hb, hbs, hw1, take_mapE]; rfl); (case hargs => rfl); (case hs => exact hseq (by simp at h1; omega)))
      | fail)
    with_reducible apply W.fin
    case h1 => simp <;> rfl
    case h2 => exact Wk.rfl
    case h3 => simp
    case h4 => exact setX_clB hσ hτl
    exact ⟨rfl, setX_take0⟩
  · have h1 : ¬ (500 : Int) < (s.taken + 1 : Nat) := by rename_i h _ _; simpa using h
    have h2 : kindF c = 3 := by rw [hk]; simpa using hc_
    obtain ⟨k1, k2, k3, k4, k5⟩ := kind3 h2
    have hc9 := hc.2
    have g1 : Gd ⟨s.out, s.taken + 1⟩ := ⟨hs.out, by dsimp only; omega⟩
    have hspl : ∀ σ, SC1 Cc 62 [i64 c] σ (.tup [i64 ((c - 20000).tdiv 100), i64 ((c - 20000).tmod 100)]) σ := fun σ => split_sc c σ ⟨by omega, by omega⟩
    have hr0 : firstF t (allF t n) c rest d s = if (rest.length : Int) < (c - 20000).tdiv 100 then (11, ⟨s.out, s.taken + 1⟩, [])
        else match iterF (allF t n (rest.take ((c - 20000).tdiv 100).toNat) d) ((c - 20000).tmod 100).toNat ⟨s.out, s.taken + 1⟩ with
        | (e, s2) => if e = 0 then (0, s2, rest.drop ((c - 20000).tdiv 100).toNat) else (e, s2, []) := by
      simp only [firstF]; rw [if_neg h1, if_neg (by omega), if_neg (by omega), if_pos h2]
    generalize (c - 20000).tdiv 100 = x at *
    generalize (c - 20000).tmod 100 = y at *
    rw [hr0]
    repeat' (first
      | with_reducible refine W.seq ?_
      | with_reducible refine W.next ?_
      | with_reducible refine W.nil ?_
      | with_reducible refine W.skip ?_
      | with_reducible refine W.ret ?_
      | with_reducible refine W.ret_code ?_
      | with_reducible refine W.block ?_
      | with_reducible refine W.out ?_
      | with_reducible refine W.ret_blk ?_
      | with_reducible refine W.exit ?_
      | with_reducible refine W.exit_code ?_
      | with_reducible refine W.exit_here ?_
      | with_reducible refine W.leave_exit ?_
      | with_reducible refine W.leave_ret ?_
      | ((with_reducible refine W.exit_on ?h ?_); (case h => decide))
      | ((with_reducible apply W.reg); (case h => simp [T3, T4, T24, T27, T28, T30, T35, T49, T70, T72, T86, hb, hbs, hw1, take_mapE]; exact ⟨rfl, rfl, rfl⟩))
      | ((with_reducible apply W.draw mixed); (case hB => kernel_rfl); (case hr => simp [T3, T4, T24, T27, T28, T30, T35, T49, T70, T72, T86, hb, hbs, hw1, take_mapE]; rfl))
      | ((with_reducible apply W.cond); (case hc => simp; rfl); all_goals (intro hc_; try (cases hc_; done)))
      | ((with_reducible apply W.runX); (case _hc => rfl); (case h => simp [T3, T4, T24, T27, T28, T30, T35, T49, T70, T72, T86, hb, hbs, hw1, take_mapE]; exact ⟨rfl, rfl, rfl⟩))
      | ((with_reducible apply W.call1 go62); (case ho => rfl); (case hc => rfl); (case hf => rfl); (case hg => first | rfl | simp [T3, T4, T24, T27, T28, T30, T35, T49, T70, T72, T86, hb, hbs, hw1, take_mapE]); (case hd => rfl); (case ha => simp [T3, T4, T24, T27, T28, T30, T35, T49, T70, T72, T86, hb, hbs, hw1, take_mapE]; rfl); (case hargs => rfl); (case hs => exact hspl _))
      | fail)
    · have h3 : (rest.length : Int) < x := by simpa using hc_
      rw [if_pos h3]
      with_reducible apply W.fin
      case h1 => simp <;> rfl
      case h2 => exact wkErr _
      case h3 => simp
      case h4 => exact hcl1
      refine ⟨rfl, ?_⟩
      rw [← hsx]; simp
    · have h3 : ¬ (rest.length : Int) < x := by simpa using hc_
      rw [if_neg h3]
      have hxn : x.toNat ≤ rest.length := by omega
      have hA : ∀ sj : St, Gd sj → s.taken + 1 ≤ sj.taken → SC1 Cc 37 [.ptr b 0, .sl none ((rest.map encI).take x.toNat), i64 d] (setX σ b τ t sj) (i64 (allF t n (rest.take x.toNat) d sj).1) (setX σ b τ t (allF t n (rest.take x.toNat) d sj).2) := by
        intro sj hj hle
        have := A (rest.take x.toNat) d sj (setX σ b τ t sj) b τ (fun z hz => hrest z (List.mem_of_mem_take hz)) (by simp; omega) hd (by simp [setX, hbl]) (by simp [setX, hτl]) hj.out hj.taken (by omega)
        rw [setX_setX, List.map_take] at this
        exact this
      have hAf : ∀ sj : St, Gd sj → s.taken + 1 ≤ sj.taken → Af sj (allF t n (rest.take x.toNat) d sj) := fun sj hj hle => allF_ok t n _ _ _ hj (by omega)
      generalize allF t n (rest.take x.toNat) d = f at *
      with_reducible refine W.loopS (α := Nat × St) (fun a => [(0, .ptr b 0), (2, i64 d), (9, .sl none (rest.map encI)), (10, i64 x), (56, i64 y), (57, i64 a.1)]) (fun a => setX σ b τ t a.2) (fun a => a.1 ≤ y.toNat ∧ iterF f y.toNat ⟨s.out, s.taken + 1⟩ = iterF f (y.toNat - a.1) a.2 ∧ Gd a.2 ∧ s.taken + 1 ≤ a.2.taken) (fun a => y.toNat - a.1) (0, ⟨s.out, s.taken + 1⟩) ?_ ?_ ?_ ?_
      · exact ⟨Nat.zero_le _, rfl, g1, Nat.le_refl _⟩
      · repeat (first | exact Sw.Sub.nil | refine Sw.Sub.cons (by simp) ?_)
      · exact hsx.symm
      · rintro ⟨j, sj⟩ ⟨hj, hit, hg, hle⟩
        dsimp only at hj hit hg hle ⊢
        by_cases hlt : (j : Int) < y
        · have hwj : IntKind.i64.wrap ((j : Int) + 1) = (j : Int) + 1 := wrap64 (by omega)
          have hx0 : (0 : Int) ≤ x := by omega
          have hstep : iterF f (y.toNat - j) sj = match f sj with | (e, s') => if e = 0 then iterF f (y.toNat - (j + 1)) s' else (e, s') := by
            have e1 : y.toNat - j = (y.toNat - (j + 1)) + 1 := by omega
            rw [e1]; rfl
          have hAj := hA sj hg hle
          have hfj := hAf sj hg hle
          repeat' (first
            | with_reducible refine W.seq ?_
            | with_reducible refine W.next ?_
            | with_reducible refine W.nil ?_
            | with_reducible refine W.skip ?_
            | with_reducible refine W.ret ?_
            | with_reducible refine W.ret_code ?_
            | with_reducible refine W.block ?_
            | with_reducible refine W.out ?_
            | with_reducible refine W.ret_blk ?_
            | with_reducible refine W.exit ?_
            | with_reducible refine W.exit_code ?_
            | with_reducible refine W.exit_here ?_
            | with_reducible refine W.leave_exit ?_
            | with_reducible refine W.leave_ret ?_
            | ((with_reducible refine W.exit_on ?h ?_); (case h => decide))
            | ((with_reducible apply W.reg); (case h => simp [T3, T4, T24, T27, T28, T30, T35, T49, T70, T72, T86, hlt, hwj, hx0, hxn, take_mapE]; exact ⟨rfl, rfl, rfl⟩))
            | ((with_reducible apply W.draw mixed); (case hB => kernel_rfl); (case hr => simp [T3, T4, T24, T27, T28, T30, T35, T49, T70, T72, T86, hlt, hwj, hx0, hxn, take_mapE]; rfl))
            | ((with_reducible apply W.cond); (case hc => simp; rfl); all_goals (intro hc_; try (cases hc_; done)))
            | ((with_reducible apply W.runX); (case _hc => rfl); (case h => simp [T3, T4, T24, T27, T28, T30, T35, T49, T70, T72, T86, hlt, hwj, hx0, hxn, take_mapE]; exact ⟨rfl, rfl, rfl⟩))
            | ((with_reducible apply W.call1 go37); (case ho => rfl); (case hc => rfl); (case hf => rfl); (case hg => first | rfl | simp [T3, T4, T24, T27, T28, T30, T35, T49, T70, T72, T86, hlt, hwj, hx0, hxn, take_mapE]); (case hd => rfl); (case ha => simp [T3, T4, T24, T27, T28, T30, T35, T49, T70, T72, T86, hlt, hwj, hx0, hxn, take_mapE]; rfl); (case hargs => rfl); (case hs => exact hAj))
            | fail)
          · have he : ¬ (f sj).1 = 0 := by simpa using hc_
            have hr : iterF f y.toNat ⟨s.out, s.taken + 1⟩ = f sj := by rw [hit, hstep]; generalize f sj = r at he; obtain ⟨e, s'⟩ := r; exact if_neg he
            rw [hr]
            generalize f sj = r at *
            obtain ⟨e, s'⟩ := r
            dsimp only at he ⊢
            rw [if_neg he]
            with_reducible apply W.fin
            case h1 => simp <;> rfl
            case h2 => exact wkErr _
            case h3 => simp
            case h4 => exact setX_clB hσ hτl
            exact ⟨rfl, setX_take0⟩
          · have he : (f sj).1 = 0 := by simpa using hc_
            have hit' : iterF f y.toNat ⟨s.out, s.taken + 1⟩ = iterF f (y.toNat - (j + 1)) (f sj).2 := by rw [hit, hstep]; generalize f sj = r at he; obtain ⟨e, s'⟩ := r; exact if_pos he
            refine W.hand (j + 1, (f sj).2) ⟨by dsimp only; omega, hit', ⟨hfj.out, hfj.ok he⟩, Nat.le_trans hle hfj.le⟩ (by dsimp only; omega) ?_ rfl
            repeat (first | exact Sw.Sub.nil | refine Sw.Sub.cons (by simp) ?_)
        · have hjy : y.toNat - j = 0 := by omega
          have hx0 : (0 : Int) ≤ x := by omega
          have hr : iterF f y.toNat ⟨s.out, s.taken + 1⟩ = (0, sj) := by rw [hit, hjy]; rfl
          rw [hr]
          dsimp only
          rw [if_pos rfl]
          repeat' (first
            | with_reducible refine W.seq ?_
            | with_reducible refine W.next ?_
            | with_reducible refine W.nil ?_
            | with_reducible refine W.skip ?_
            | with_reducible refine W.ret ?_
            | with_reducible refine W.ret_code ?_
            | with_reducible refine W.block ?_
            | with_reducible refine W.out ?_
            | with_reducible refine W.ret_blk ?_
            | with_reducible refine W.exit ?_
            | with_reducible refine W.exit_code ?_
            | with_reducible refine W.exit_here ?_
            | with_reducible refine W.leave_exit ?_
            | with_reducible refine W.leave_ret ?_
            | ((with_reducible refine W.exit_on ?h ?_); (case h => decide))
            | ((with_reducible apply W.reg); (case h => simp [T3, T4, T24, T27, T28, T30, T35, T49, T70, T72, T86, hlt, hx0, hxn, take_mapE]; exact ⟨rfl, rfl, rfl⟩))
            | ((with_reducible apply W.draw mixed); (case hB => kernel_rfl); (case hr => simp [T3, T4, T24, T27, T28, T30, T35, T49, T70, T72, T86, hlt, hx0, hxn, take_mapE]; rfl))
            | ((with_reducible apply W.cond); (case hc => simp; rfl); all_goals (intro hc_; try (cases hc_; done)))
            | ((with_reducible apply W.runX); (case _hc => rfl); (case h => simp [T3, T4, T24, T27, T28, T30, T35, T49, T70, T72, T86, hlt, hx0, hxn, take_mapE]; exact ⟨rfl, rfl, rfl⟩))
            | fail)
          with_reducible apply W.fin
          case h1 => simp <;> rfl
          case h2 => exact Wk.rfl
          case h3 => (simp; exact fun z hz => mem_cl_map (cl_encI _ _) z (List.mem_of_mem_drop hz))
          case h4 => exact setX_clB hσ hτl
          exact ⟨by simp [List.map_drop], setX_take0⟩
  · have h1 : ¬ (500 : Int) < (s.taken + 1 : Nat) := by rename_i h _ _; simpa using h
    have h2 : kindF c ≠ 1 ∧ kindF c ≠ 2 ∧ kindF c ≠ 3 := by rw [hk]; rename_i h2 h3; simp at h2 h3 hc_; exact ⟨h2, h3, hc_⟩
    have hr : firstF t (allF t n) c rest d s = (1, ⟨s.out, s.taken + 1⟩, []) := by simp only [firstF]; rw [if_neg h1, if_neg h2.1, if_neg h2.2.1, if_neg h2.2.2]
    rw [hr]
    with_reducible apply W.fin
    case h1 => simp <;> rfl
    case h2 => exact wkErr _
    case h3 => simp
    case h4 => exact hcl1
    refine ⟨rfl, ?_⟩
    rw [← hsx]; simp

theorem all_sc (t : Tab) (ht : TabOK t) (n : Nat) : AllC t n := by
  induction n using Nat.strongRecOn with
  | _ n ih =>
  intro codes d s σ b τ hcodes hlen hd hb hτ hs h500 hn
  have hbl := (List.getElem?_eq_some_iff.1 hb).1
  have hτl := (List.getElem?_eq_some_iff.1 hτ).1
  have hsame : setX σ b τ t s = σ := by unfold setX; rw [set_same hb, set_same hτ]
  refine W.body Tryd.func37 rfl 23 Tryd.ntmps37 _ Tryd.results37 (by simp) GEt_cl fun hσ => ?_
  repeat' (first
    | with_reducible refine W.seq ?_
    | with_reducible refine W.next ?_
    | with_reducible refine W.nil ?_
    | with_reducible refine W.skip ?_
    | with_reducible refine W.ret ?_
    | with_reducible refine W.ret_code ?_
    | with_reducible refine W.block ?_
    | with_reducible refine W.out ?_
    | with_reducible refine W.ret_blk ?_
    | with_reducible refine W.exit ?_
    | with_reducible refine W.exit_code ?_
    | with_reducible refine W.exit_here ?_
    | with_reducible refine W.leave_exit ?_
    | with_reducible refine W.leave_ret ?_
    | ((with_reducible refine W.exit_on ?h ?_); (case h => decide))
    | ((with_reducible apply W.reg); (case h => simp [T3, T24, T35, T70]; exact ⟨rfl, rfl, rfl⟩))
    | ((with_reducible apply W.draw mixed); (case hB => kernel_rfl); (case hr => simp [T3, T24, T35, T70]; rfl))
    | ((with_reducible apply W.cond); (case hc => simp; rfl); all_goals (intro hc_; try (cases hc_; done)))
    | ((with_reducible apply W.runX); (case _hc => rfl); (case h => simp [T3, T24, T35, T70]; exact ⟨rfl, rfl, rfl⟩))
    | fail)
  with_reducible refine W.loopS (α := List Int × St × Nat) (fun a => [(0, .ptr b 0), (1, .sl none (a.1.map encI)), (2, i64 d)]) (fun a => setX σ b τ t a.2.1) (fun a => (∀ c ∈ a.1, I64 c) ∧ a.1.length ≤ 1000000 ∧ Gd a.2.1 ∧ a.2.2 ≤ n ∧ 501 ≤ a.2.2 + a.2.1.taken ∧ allF t n codes d s = allF t a.2.2 a.1 d a.2.1) (fun a => a.2.2) (codes, s, n) ?_ ?_ ?_ ?_
  · exact ⟨hcodes, hlen, ⟨hs, h500⟩, Nat.le_refl _, hn, rfl⟩
  · repeat (first | exact Sw.Sub.nil | refine Sw.Sub.cons (by simp) ?_)
  · exact hsame
  · rintro ⟨cs, s', m⟩ ⟨h1, h2, h3, h4, h5, h6⟩
    dsimp only at h1 h2 h3 h4 h5 h6 ⊢
    rw [h6]
    cases cs with
    | nil =>
      have e : allF t m [] d s' = (0, s') := by cases m <;> rfl
      rw [e]
      repeat' (first
        | with_reducible refine W.seq ?_
        | with_reducible refine W.next ?_
        | with_reducible refine W.nil ?_
        | with_reducible refine W.skip ?_
        | with_reducible refine W.ret ?_
        | with_reducible refine W.ret_code ?_
        | with_reducible refine W.block ?_
        | with_reducible refine W.out ?_
        | with_reducible refine W.ret_blk ?_
        | with_reducible refine W.exit ?_
        | with_reducible refine W.exit_code ?_
        | with_reducible refine W.exit_here ?_
        | with_reducible refine W.leave_exit ?_
        | with_reducible refine W.leave_ret ?_
        | ((with_reducible refine W.exit_on ?h ?_); (case h => decide))
        | ((with_reducible apply W.reg); (case h => simp [T3, T24, T35, T70]; exact ⟨rfl, rfl, rfl⟩))
        | ((with_reducible apply W.draw mixed); (case hB => kernel_rfl); (case hr => simp [T3, T24, T35, T70]; rfl))
        | ((with_reducible apply W.cond); (case hc => simp; rfl); all_goals (intro hc_; try (cases hc_; done)))
        | ((with_reducible apply W.runX); (case _hc => rfl); (case h => simp [T3, T24, T35, T70]; exact ⟨rfl, rfl, rfl⟩))
        | fail)
      with_reducible apply W.fin
      case h1 => simp <;> rfl
      case h2 => exact Wk.rfl
      case h3 => simp
      case h4 => exact setX_clB hσ hτl
      exact ⟨rfl, setX_take0⟩
    | cons c rest =>
      cases m with
      | zero => have := h3.taken; omega
      | succ m =>
        have hpos : (0 : Int) < (rest.length : Int) + 1 := by omega
        have hf := first_sc t m (ih m (by omega)) b τ c rest d s' (setX σ b τ t s') ht (h1 c (by simp)) (fun x hx => h1 x (by simp [hx])) (by simp at h2; omega) hd (by simp [setX, hbl]) (by simp [setX, hτl]) h3 h5
        rw [setX_setX] at hf
        obtain ⟨⟨g1, g2, g3⟩, g4, g5⟩ := firstF_ok (allF_ok t m) t c rest d s' h3 h5
        have hun : allF t (m + 1) (c :: rest) d s' = match firstF t (allF t m) c rest d s' with | (e, s2, r) => if e = 0 then allF t m r d s2 else (e, s2) := rfl
        rw [hun]
        generalize firstF t (allF t m) c rest d s' = r at *
        obtain ⟨e, s2, r⟩ := r
        dsimp only at g1 g2 g3 g4 g5 hf ⊢
        repeat' (first
          | with_reducible refine W.seq ?_
          | with_reducible refine W.next ?_
          | with_reducible refine W.nil ?_
          | with_reducible refine W.skip ?_
          | with_reducible refine W.ret ?_
          | with_reducible refine W.ret_code ?_
          | with_reducible refine W.block ?_
          | with_reducible refine W.out ?_
          | with_reducible refine W.ret_blk ?_
          | with_reducible refine W.exit ?_
          | with_reducible refine W.exit_code ?_
          | with_reducible refine W.exit_here ?_
          | with_reducible refine W.leave_exit ?_
          | with_reducible refine W.leave_ret ?_
          | ((with_reducible refine W.exit_on ?h ?_); (case h => decide))
          | ((with_reducible apply W.reg); (case h => simp [T3, T24, T35, T70, hpos]; exact ⟨rfl, rfl, rfl⟩))
          | ((with_reducible apply W.draw mixed); (case hB => kernel_rfl); (case hr => simp [T3, T24, T35, T70, hpos]; rfl))
          | ((with_reducible apply W.cond); (case hc => simp; rfl); all_goals (intro hc_; try (cases hc_; done)))
          | ((with_reducible apply W.runX); (case _hc => rfl); (case h => simp [T3, T24, T35, T70, hpos]; exact ⟨rfl, rfl, rfl⟩))
          | ((with_reducible apply W.call1 go56); (case ho => rfl); (case hc => rfl); (case hf => rfl); (case hg => first | rfl | simp [T3, T24, T35, T70, hpos]); (case hd => rfl); (case ha => simp [T3, T24, T35, T70, hpos]; rfl); (case hargs => rfl); (case hs => exact hf))
          | fail)
        · have he : ¬ e = 0 := by simpa using hc_
          rw [if_neg he]
          with_reducible apply W.fin
          case h1 => simp <;> rfl
          case h2 => exact Wk.rfl
          case h3 => simp
          case h4 => exact setX_clB hσ hτl
          exact ⟨rfl, setX_take0⟩
        · have he : e = 0 := by simpa using hc_
          refine W.hand (r, s2, m) ⟨fun x hx => h1 x (by simp [g4 x hx]), by dsimp only; simp at h2; omega, ⟨g1, g3 he⟩, by dsimp only; omega, by dsimp only; omega, if_pos he⟩ (by dsimp only; omega) ?_ rfl
          · repeat (first | exact Sw.Sub.nil | refine Sw.Sub.cons (by simp) ?_)


end Go.Proofs.YtgabnlkkjmepnaaDoor

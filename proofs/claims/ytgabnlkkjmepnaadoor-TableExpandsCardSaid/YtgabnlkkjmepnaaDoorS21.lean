/- The reference's expand: it gives what the program's expansion gives. -/
import Derived.Test.YtgabnlkkjmepnaaDoorS20
import Derived.Test.YtgabnlkkjmepnaaDoorX3
import Derived.IntWalk
namespace Go.Proofs.YtgabnlkkjmepnaaDoor
open Go.Sw
set_option linter.unusedSimpArgs false
set_option linter.unusedVariables false
attribute [local simp] runOps stepOp pureOp gd isCall inN setd Sw.get params ev evs binV unV convV loadA cellsPV oneB storeA fieldAddrA fieldOff fieldA partA aggOf extractA indexAddrA indexA lenA minmaxA sliceA bnd partsA buildA placesA fillA buildSliceA zerosA chunkA TyD.agg Value.oneCell' Value.cells runPure appA appendA okRow_nil okRow_cons okRow_append resultA ressA resA List.getElem?_append List.set_append Cl_any Cl_val Cl_ptr Cl_agg Cl_tup Cl_fn Cl_rop Cl_sl Sw.take_set Sw.take_set_app Sw.take_app

attribute [local simp] encI encE encS encT okRow_encE okRow_encS okRow_encI
/-- A valid table, as the reference's expand needs it. -/
structure VT (t : Tab) : Prop where
  ok : TabOK t
  en : (t.entries.map (·.code)).Nodup
  sn : (t.seqs.map (·.code)).Nodup
theorem VT.of {t : Tab} (ht : TabOK t) (hv : validateF t = 0) : VT t := by
  unfold validateF at hv
  split at hv
  · cases hv
  split at hv
  · cases hv
  split at hv
  · cases hv
  split at hv
  · cases hv
  rename_i h
  split at hv
  · cases hv
  rename_i hd
  have h1 : ∀ e ∈ t.entries, validB e = true := fun e he => by
    cases hb : validB e with
    | true => rfl
    | false => exact absurd (.inl (List.any_eq_true.2 ⟨e, he, by simp [hb]⟩)) h
  have h2 : ∀ q ∈ t.seqs, properB q = true := fun q hq => by
    cases hb : properB q with
    | true => rfl
    | false => exact absurd (.inr (List.any_eq_true.2 ⟨q, hq, by simp [hb]⟩)) h
  obtain ⟨a, b⟩ := (dup_iff h1 h2).1 (by simpa using hd)
  exact ⟨ht, a, b⟩
/-- Where a code stands, if codes are not alike. -/
theorem idx_cases {α : Type} (f : α → Int) (l : List α) (hn : (l.map f).Nodup) (c : Int) : (idxF (fun e => f e == c) l < 0 ∧ ∀ e ∈ l, f e ≠ c) ∨
    ∃ (k : Nat) (x : α), l[k]? = some x ∧ f x = c ∧ idxF (fun e => f e == c) l = k ∧ ∀ (j : Nat) (y : α), l[j]? = some y → f y = c → j = k := by
  by_cases h : idxF (fun e => f e == c) l < 0
  · left
    refine ⟨h, fun e he hc => ?_⟩
    unfold idxF at h
    split at h
    · omega
    · rename_i hl
      exact hl (List.findIdx_lt_length_of_exists ⟨e, he, by simpa using hc⟩)
  · right
    unfold idxF at h ⊢
    split at h
    · rename_i hl
      rw [if_pos hl]
      have hp : (f (l[l.findIdx fun e => f e == c]) == c) = true := List.findIdx_getElem (p := fun e => f e == c) (w := hl)
      refine ⟨l.findIdx fun e => f e == c, _, List.getElem?_eq_getElem hl, by simpa using hp, rfl, fun j y hy hc => ?_⟩
      have hx : f (l[l.findIdx fun e => f e == c]) = c := by simpa using hp
      rw [List.Nodup, List.pairwise_iff_getElem] at hn
      obtain ⟨hj, rfl⟩ := List.getElem?_eq_some_iff.1 hy
      rcases Nat.lt_trichotomy j (l.findIdx fun e => f e == c) with h1 | h1 | h1
      · have := hn j _ (by simpa using hj) (by simpa using hl) h1
        simp [hc, hx] at this
      · exact h1
      · have := hn _ j (by simpa using hl) (by simpa using hj) h1
        simp [hc, hx] at this
    · exact absurd (show (-1 : Int) < 0 by decide) h
theorem filter_nil {α : Type} {p : α → Bool} {l : List α} (h : ∀ x ∈ l, p x = false) : l.filter p = [] := by
  rw [List.filter_eq_nil_iff]
  intro x hx hp
  rw [h x hx] at hp; cases hp
theorem filter_one {α : Type} {p : α → Bool} {l : List α} {k : Nat} {x : α} (hk : l[k]? = some x) (hp : p x = true) (hu : ∀ (j : Nat) (y : α), l[j]? = some y → p y = true → j = k) : l.filter p = [x] := by
  obtain ⟨hl, rfl⟩ := List.getElem?_eq_some_iff.1 hk
  have h1 : l = l.take k ++ l[k] :: l.drop (k + 1) := by rw [← List.drop_eq_getElem_cons hl, List.take_append_drop]
  have h2 : (l.take k).filter p = [] := filter_nil fun y hy => by
    cases hpy : p y with
    | false => rfl
    | true =>
      obtain ⟨j, hj, rfl⟩ := List.getElem_of_mem hy
      have hj2 : j < k := by simp at hj; omega
      have := hu j _ (by rw [← List.getElem?_take_of_lt hj2]; exact List.getElem?_eq_getElem hj) hpy
      omega
  have h3 : (l.drop (k + 1)).filter p = [] := filter_nil fun y hy => by
    cases hpy : p y with
    | false => rfl
    | true =>
      obtain ⟨j, hj, rfl⟩ := List.getElem_of_mem hy
      have := hu (k + 1 + j) _ (by rw [← List.getElem?_drop]; exact List.getElem?_eq_getElem hj) hpy
      omega
  have h4 : l.filter p = (l.take k ++ l[k] :: l.drop (k + 1)).filter p := congrArg (List.filter p) h1
  rw [h4, List.filter_append, h2, List.filter_cons, hp, if_pos rfl, h3]
  rfl
/-- What the reference's expand gives. -/
def RefR (t : Tab) (n : Nat) (codes : List Int) (d : Int) (s : St) (σ : AS) (b τ : Nat) (r : PV) (σ' : AS) : Prop :=
  ∃ (p : PV) (k m : Nat), r = .tup [p, i64 (allF t n codes d s).1] ∧ σ' = ⟨σ.bx.set b [i64 k], σ.tk.set τ (23, m)⟩ ∧
    ((allF t n codes d s).1 = 0 → p = .sl (some τ) ((allF t n codes d s).2.out.map encE) ∧ k = (allF t n codes d s).2.taken ∧ m = (allF t n codes d s).2.out.length) ∧ ((allF t n codes d s).1 ≠ 0 → p = .sl none [])
def RefC (t : Tab) (n : Nat) : Prop := ∀ (codes : List Int) (d : Int) (s : St) (σ : AS) (b τ : Nat), (∀ c ∈ codes, I64 c) → codes.length ≤ 1000000 → 0 ≤ d ∧ d ≤ 21 →
  σ.bx[b]? = some [i64 s.taken] → σ.tk[τ]? = some (23, s.out.length) → Gd s → 501 ≤ n + s.taken →
  SC Cc 38 [.agg (encT t), .sl none (codes.map encI), i64 d, .ptr b 0, .sl (some τ) (s.out.map encE)] σ (RefR t n codes d s σ b τ)
set_option maxHeartbeats 1000000 in
theorem refexpand_sc (t : Tab) (ht : VT t) (n : Nat) : RefC t n := by
  induction n using Nat.strongRecOn with
  | _ n ih =>
  intro codes d s0 σ b τ hcodes hlen hd hb hτ hg0 hn0
  have hbl := (List.getElem?_eq_some_iff.1 hb).1
  have hτl := (List.getElem?_eq_some_iff.1 hτ).1
  have hbs := fun (x : List PV) (r : List (List PV)) => get_set_app hb x r
  have hτs := fun x : TypeId × Nat => get_set_of hτ x
  have hRerr : ∀ (e : Int) (k q : Nat), e ≠ 0 → (allF t n codes d s0).1 = e → ∀ σ' : AS, σ'.bx = σ.bx.set b [i64 k] → σ'.tk = σ.tk.set τ (23, q) → RefR t n codes d s0 σ b τ (.tup [.sl none [], i64 e]) σ' := by
    rintro e k q he rfl ⟨bx, tk⟩ h1 h2
    dsimp only at h1 h2
    subst h1; subst h2
    exact ⟨_, k, q, rfl, rfl, fun h => absurd h he, fun _ => rfl⟩
  refine W.body Tryd.func38 rfl 147 Tryd.ntmps38 _ Tryd.results38 (by simp) GEt_cl fun hσ => ?_
  repeat' (first
    | with_reducible refine W.seq ?_
    | with_reducible refine W.next ?_
    | with_reducible refine W.nil ?_
    | with_reducible refine W.skip ?_
    | with_reducible refine W.ret ?_
    | with_reducible refine W.ret_code ?_
    | with_reducible refine W.block ?_
    | with_reducible refine W.out ?_
    | with_reducible refine W.ret_blk ?_
    | with_reducible refine W.exit ?_
    | with_reducible refine W.exit_code ?_
    | with_reducible refine W.exit_here ?_
    | with_reducible refine W.leave_exit ?_
    | with_reducible refine W.leave_ret ?_
    | ((with_reducible refine W.exit_on ?h ?_); (case h => decide))
    | ((with_reducible apply W.reg); (case h => simp [T3, T23, T24, T27, T28, T30]; exact ⟨rfl, rfl, rfl⟩))
    | ((with_reducible apply W.draw mixed); (case hB => kernel_rfl); (case hr => simp [T3, T23, T24, T27, T28, T30]; rfl))
    | ((with_reducible apply W.cond); (case hc => simp; rfl); all_goals (intro hc_; try (cases hc_; done)))
    | ((with_reducible apply W.runX); (case _hc => rfl); (case h => simp [T3, T23, T24, T27, T28, T30]; exact ⟨rfl, rfl, rfl⟩))
    | fail)
  with_reducible refine W.loopS (α := Nat × St × Nat) (fun a => [(1, .sl none (codes.map encI)), (2, i64 d), (3, .ptr b 0), (4, .sl (some τ) (a.2.1.out.map encE)), (5, .ptr σ.bx.length 0), (12, i64 a.1)]) (fun a => ⟨σ.bx.set b [i64 a.2.1.taken] ++ [encT t], σ.tk.set τ (23, a.2.1.out.length)⟩) (fun a => a.1 ≤ codes.length ∧ Gd a.2.1 ∧ a.2.2 ≤ n ∧ 501 ≤ a.2.2 + a.2.1.taken ∧ allF t n codes d s0 = allF t a.2.2 (codes.drop a.1) d a.2.1) (fun a => codes.length - a.1) (0, s0, n) ?_ ?_ ?_ ?_
  · exact ⟨Nat.zero_le _, hg0, Nat.le_refl _, hn0, rfl⟩
  · repeat (first | exact Sw.Sub.nil | refine Sw.Sub.cons (by simp) ?_)
  · simp [set_same hb, set_same hτ]
  rintro ⟨i, s, m⟩ ⟨hi, hg, hm, hnm, heq⟩
  dsimp only at hi hg hm hnm heq ⊢
  have h500 := hg.taken
  have h60 := hg.out
  by_cases hil : i < codes.length
  · obtain ⟨m, rfl⟩ : ∃ q, m = q + 1 := ⟨m - 1, by omega⟩
    obtain ⟨c, hc⟩ : ∃ c, codes[i]? = some c := ⟨_, List.getElem?_eq_getElem hil⟩
    have hc' : codes[i] = c := (List.getElem?_eq_some_iff.1 hc).2
    have hci := hcodes c (List.mem_of_getElem? hc)
    obtain ⟨rest, hrest⟩ : ∃ rest, rest = codes.drop (i + 1) := ⟨_, rfl⟩
    have hdrop : codes.drop i = c :: rest := by rw [hrest, List.drop_eq_getElem_cons hil, hc']
    rw [hdrop, allF_cons] at heq
    have hwt : IntKind.i64.wrap ((s.taken : Int) + 1) = (s.taken : Int) + 1 := wrap64 (by omega)
    have hset : ∀ x y r, ((σ.bx.set b x) ++ r).set b y = σ.bx.set b y ++ r := fun x y r => set_set_app hbl
    by_cases h5 : (500 : Int) < (s.taken + 1 : Nat)
    · have hf : firstF t (allF t m) c rest d s = (2, ⟨s.out, s.taken + 1⟩, []) := by simp only [firstF]; rw [if_pos h5]
      rw [hf, if_neg (show ¬ (2 : Int) = 0 by decide)] at heq
      have h5' : (500 : Int) < (s.taken : Int) + 1 := by simpa using h5
      repeat' (first
        | with_reducible refine W.seq ?_
        | with_reducible refine W.next ?_
        | with_reducible refine W.nil ?_
        | with_reducible refine W.skip ?_
        | with_reducible refine W.ret ?_
        | with_reducible refine W.ret_code ?_
        | with_reducible refine W.block ?_
        | with_reducible refine W.out ?_
        | with_reducible refine W.ret_blk ?_
        | with_reducible refine W.exit ?_
        | with_reducible refine W.exit_code ?_
        | with_reducible refine W.exit_here ?_
        | with_reducible refine W.leave_exit ?_
        | with_reducible refine W.leave_ret ?_
        | ((with_reducible refine W.exit_on ?h ?_); (case h => decide))
        | ((with_reducible apply W.reg); (case h => simp [T3, T23, T24, T27, T28, T30, T35, T49, hil, hc', hbs, hwt, hbl, h5']; exact ⟨rfl, rfl, rfl⟩))
        | ((with_reducible apply W.draw mixed); (case hB => kernel_rfl); (case hr => simp [T3, T23, T24, T27, T28, T30, T35, T49, hil, hc', hbs, hwt, hbl, h5']; rfl))
        | ((with_reducible apply W.cond); (case hc => simp; rfl); all_goals (intro hc_; try (cases hc_; done)))
        | ((with_reducible apply W.runX); (case _hc => rfl); (case h => simp [T3, T23, T24, T27, T28, T30, T35, T49, hil, hc', hbs, hwt, hbl, h5']; exact ⟨rfl, rfl, rfl⟩))
        | fail)
      with_reducible apply W.fin
      case h1 => simp <;> rfl
      case h2 => exact wkErr _
      case h3 => simp
      case h4 => exact (hσ.clB.set (by simp)).app (by simp)
      exact hRerr 2 (s.taken + 1) s.out.length (by decide) (by rw [heq]) _ (by simp) (by simp)
    · have h5' : ¬ (500 : Int) < (s.taken : Int) + 1 := by simp at h5; omega
      have hg1 : Gd ⟨s.out, s.taken + 1⟩ := ⟨h60, by dsimp only; omega⟩
      obtain ⟨kc, hk⟩ : ∃ kc, kindF c = kc := ⟨_, rfl⟩
      have hkd : ∀ σ, SC1 Cc 40 [i64 c] σ (i64 kc) σ := fun σ => hk ▸ kind_sc c σ hci
      have hwi : IntKind.i64.wrap ((i : Int) + 1) = (i : Int) + 1 := wrap64 (by omega)
      by_cases k0 : kc = 0
      · subst k0
        have hf : firstF t (allF t m) c rest d s = (1, ⟨s.out, s.taken + 1⟩, []) := by simp only [firstF]; rw [if_neg h5, if_neg (by omega), if_neg (by omega), if_neg (by omega)]
        rw [hf, if_neg (show ¬ (1 : Int) = 0 by decide)] at heq
        repeat' (first
          | with_reducible refine W.seq ?_
          | with_reducible refine W.next ?_
          | with_reducible refine W.nil ?_
          | with_reducible refine W.skip ?_
          | with_reducible refine W.ret ?_
          | with_reducible refine W.ret_code ?_
          | with_reducible refine W.block ?_
          | with_reducible refine W.out ?_
          | with_reducible refine W.ret_blk ?_
          | with_reducible refine W.exit ?_
          | with_reducible refine W.exit_code ?_
          | with_reducible refine W.exit_here ?_
          | with_reducible refine W.leave_exit ?_
          | with_reducible refine W.leave_ret ?_
          | ((with_reducible refine W.exit_on ?h ?_); (case h => decide))
          | ((with_reducible apply W.reg); (case h => simp [T3, T23, T24, T27, T28, T30, T35, T49, hil, hc', hbs, hwt, hbl, h5']; exact ⟨rfl, rfl, rfl⟩))
          | ((with_reducible apply W.draw mixed); (case hB => kernel_rfl); (case hr => simp [T3, T23, T24, T27, T28, T30, T35, T49, hil, hc', hbs, hwt, hbl, h5']; rfl))
          | ((with_reducible apply W.cond); (case hc => simp; rfl); all_goals (intro hc_; try (cases hc_; done)))
          | ((with_reducible apply W.runX); (case _hc => rfl); (case h => simp [T3, T23, T24, T27, T28, T30, T35, T49, hil, hc', hbs, hwt, hbl, h5']; exact ⟨rfl, rfl, rfl⟩))
          | ((with_reducible apply W.call1 go40); (case ho => rfl); (case hc => rfl); (case hf => rfl); (case hg => first | rfl | simp [T3, T23, T24, T27, T28, T30, T35, T49, hil, hc', hbs, hwt, hbl, h5']); (case hd => rfl); (case ha => simp [T3, T23, T24, T27, T28, T30, T35, T49, hil, hc', hbs, hwt, hbl, h5']; rfl); (case hargs => rfl); (case hs => exact hkd _))
          | fail)
        with_reducible apply W.fin
        case h1 => simp <;> rfl
        case h2 => exact wkErr _
        case h3 => simp
        case h4 => exact (hσ.clB.set (by simp)).app (by simp)
        exact hRerr 1 (s.taken + 1) s.out.length (by decide) (by rw [heq]) _ (by simp) (by simp)
      by_cases k1 : kc = 1
      · subst k1
        have hf : firstF t (allF t m) c rest d s = ((entryF t c ⟨s.out, s.taken + 1⟩).1, (entryF t c ⟨s.out, s.taken + 1⟩).2, rest) := by simp only [firstF]; rw [if_neg h5, if_pos hk]
        rw [hf] at heq
        dsimp only at heq
        have hel := ht.ok.elen
        repeat' (first
          | with_reducible refine W.seq ?_
          | with_reducible refine W.next ?_
          | with_reducible refine W.nil ?_
          | with_reducible refine W.skip ?_
          | with_reducible refine W.ret ?_
          | with_reducible refine W.ret_code ?_
          | with_reducible refine W.block ?_
          | with_reducible refine W.out ?_
          | with_reducible refine W.ret_blk ?_
          | with_reducible refine W.exit ?_
          | with_reducible refine W.exit_code ?_
          | with_reducible refine W.exit_here ?_
          | with_reducible refine W.leave_exit ?_
          | with_reducible refine W.leave_ret ?_
          | ((with_reducible refine W.exit_on ?h ?_); (case h => decide))
          | ((with_reducible apply W.reg); (case h => simp [T3, T23, T24, T27, T28, T30, T35, T49, hil, hc', hbs, hwt, hbl, h5']; exact ⟨rfl, rfl, rfl⟩))
          | ((with_reducible apply W.draw mixed); (case hB => kernel_rfl); (case hr => simp [T3, T23, T24, T27, T28, T30, T35, T49, hil, hc', hbs, hwt, hbl, h5']; rfl))
          | ((with_reducible apply W.cond); (case hc => simp; rfl); all_goals (intro hc_; try (cases hc_; done)))
          | ((with_reducible apply W.runX); (case _hc => rfl); (case h => simp [T3, T23, T24, T27, T28, T30, T35, T49, hil, hc', hbs, hwt, hbl, h5']; exact ⟨rfl, rfl, rfl⟩))
          | ((with_reducible apply W.call1 go40); (case ho => rfl); (case hc => rfl); (case hf => rfl); (case hg => first | rfl | simp [T3, T23, T24, T27, T28, T30, T35, T49, hil, hc', hbs, hwt, hbl, h5']); (case hd => rfl); (case ha => simp [T3, T23, T24, T27, T28, T30, T35, T49, hil, hc', hbs, hwt, hbl, h5']; rfl); (case hargs => rfl); (case hs => exact hkd _))
          | fail)
        have hcl : ∀ (ex : List PV) (r : List (List PV)), ex = [i64 ((s.taken : Int) + 1)] → ClB (σ.bx.length + 1) σ.tk.length (σ.bx.set b ex ++ ([encT t] ++ r)) := fun ex r hex => by
          have := clB_ext (n := σ.bx.length) (m := σ.tk.length) (bx := σ.bx.set b ex) (ex := [encT t]) (r := r) (hσ.clB.set (by rw [hex]; simp)) (by simp) (fun ps hps => by rw [List.mem_singleton.1 hps]; exact encT_cl _ _ _)
          simpa using this
        have htx : ∀ (ex : List PV) (r : List (List PV)), (σ.bx.set b ex ++ ([encT t] ++ r)).take (σ.bx.length + 1) = σ.bx.set b ex ++ [encT t] := fun ex r => by
          have := take_ext (σ.bx.set b ex) [encT t] r
          simpa using this
        with_reducible refine W.loopF GEt_cl (α := Nat × List Ent × Bool) (fun a => [(1, .sl none (codes.map encI)), (2, i64 d), (3, .ptr b 0), (4, .sl (some τ) ((s.out ++ a.2.1).map encE)), (5, .ptr σ.bx.length 0), (12, i64 i), (13, i64 c), (14, bV a.2.2), (93, .sl none (t.entries.map encE)), (94, i64 t.entries.length), (95, i64 a.1)]) (fun a => ⟨σ.bx.set b [i64 ((s.taken : Int) + 1)] ++ [encT t], σ.tk.set τ (23, (s.out ++ a.2.1).length)⟩) (fun a => a.1 ≤ t.entries.length ∧ a.2.1 = (t.entries.take a.1).filter (fun e => e.code == c) ∧ a.2.2 = (t.entries.take a.1).any (fun e => e.code == c)) (fun a => t.entries.length - a.1) (0, [], false) ?_ ?_ ?_ ?_
        · exact ⟨Nat.zero_le _, by simp, by simp⟩
        · repeat (first | exact Sw.Sub.nil | refine Sw.Sub.cons (by simp) ?_)
        · simp
        rintro ⟨j, fl, an⟩ ⟨hj, hfl, han⟩
        (try dsimp only at hj hfl han ⊢)
        by_cases hjl : j < t.entries.length
        · obtain ⟨e, he⟩ : ∃ e, t.entries[j]? = some e := ⟨_, List.getElem?_eq_getElem hjl⟩
          have he' : t.entries[j] = e := (List.getElem?_eq_some_iff.1 he).2
          have hwj : IntKind.i64.wrap ((j : Int) + 1) = (j : Int) + 1 := wrap64 (by omega)
          have htk : t.entries.take (j + 1) = t.entries.take j ++ [e] := by rw [List.take_add_one, he]; rfl
          have hfll : fl.length ≤ j := by rw [hfl]; exact Nat.le_trans (List.length_filter_le _ _) (by simp; omega)
          have hbt2 : (s.out.length + fl.length + 1) * 40 ≤ 140737488355328 := by omega
          cases hpc : e.code == c
          · repeat' (first
              | with_reducible refine W.seq ?_
              | with_reducible refine W.next ?_
              | with_reducible refine W.nil ?_
              | with_reducible refine W.skip ?_
              | with_reducible refine W.ret ?_
              | with_reducible refine W.ret_code ?_
              | with_reducible refine W.block ?_
              | with_reducible refine W.out ?_
              | with_reducible refine W.ret_blk ?_
              | with_reducible refine W.exit ?_
              | with_reducible refine W.exit_code ?_
              | with_reducible refine W.exit_here ?_
              | with_reducible refine W.leave_exit ?_
              | with_reducible refine W.leave_ret ?_
              | ((with_reducible refine W.exit_on ?h ?_); (case h => decide))
              | ((with_reducible apply W.reg); (case h => simp [T3, T23, T24, T27, T28, T30, T35, T49, hjl, he', hwj, hpc]; exact ⟨rfl, rfl, rfl⟩))
              | ((with_reducible apply W.draw mixed); (case hB => kernel_rfl); (case hr => simp [T3, T23, T24, T27, T28, T30, T35, T49, hjl, he', hwj, hpc]; rfl))
              | ((with_reducible apply W.cond); (case hc => simp; rfl); all_goals (intro hc_; try (cases hc_; done)))
              | ((with_reducible apply W.runX); (case _hc => rfl); (case h => simp [T3, T23, T24, T27, T28, T30, T35, T49, hjl, he', hwj, hpc]; exact ⟨rfl, rfl, rfl⟩))
              | fail)
            refine W.handF (j + 1, fl, an) (σ.bx.length + 1) σ.tk.length ?_ ?_ ?_ ?_ ?_ (ClPF.get ?_) ?_ ?_
            · exact ⟨hjl, by dsimp only; rw [htk, hfl]; simp [hpc], by dsimp only; rw [htk, han]; simp [hpc]⟩
            · dsimp only; omega
            · repeat (first | exact Sw.Sub.nil | refine Sw.Sub.cons (by simp) ?_)
            · exact Nat.le_succ _
            · exact Nat.le_refl _
            · exact ⟨encIs_cl _ _ _ (by rintro _ ⟨⟩) _, .val _, (Cl_ptr ..).2 (by omega), encEs_cl _ _ _ (by rintro _ ⟨⟩; exact hτl) _, (Cl_ptr ..).2 (by omega), .val _, .val _, .val _, encEs_cl _ _ _ (by rintro _ ⟨⟩) _, .val _, .val _, trivial⟩
            · exact hcl [i64 ((s.taken : Int) + 1)] [encE e] rfl
            · have := htx [i64 ((s.taken : Int) + 1)] [encE e]
              simp at this ⊢
              exact this.symm
          · have hap : ((s.out ++ fl).map encE ++ [encE e]) = (s.out ++ (fl ++ [e])).map encE := by simp
            repeat' (first
              | with_reducible refine W.seq ?_
              | with_reducible refine W.next ?_
              | with_reducible refine W.nil ?_
              | with_reducible refine W.skip ?_
              | with_reducible refine W.ret ?_
              | with_reducible refine W.ret_code ?_
              | with_reducible refine W.block ?_
              | with_reducible refine W.out ?_
              | with_reducible refine W.ret_blk ?_
              | with_reducible refine W.exit ?_
              | with_reducible refine W.exit_code ?_
              | with_reducible refine W.exit_here ?_
              | with_reducible refine W.leave_exit ?_
              | with_reducible refine W.leave_ret ?_
              | ((with_reducible refine W.exit_on ?h ?_); (case h => decide))
              | ((with_reducible apply W.reg); (case h => simp [T3, T23, T24, T27, T28, T30, T35, T49, hjl, he', hwj, hpc, hbt2, hτl]; exact ⟨rfl, rfl, rfl⟩))
              | ((with_reducible apply W.draw mixed); (case hB => kernel_rfl); (case hr => simp [T3, T23, T24, T27, T28, T30, T35, T49, hjl, he', hwj, hpc, hbt2, hτl]; rfl))
              | ((with_reducible apply W.cond); (case hc => simp; rfl); all_goals (intro hc_; try (cases hc_; done)))
              | ((with_reducible apply W.runX); (case _hc => rfl); (case h => simp [T3, T23, T24, T27, T28, T30, T35, T49, hjl, he', hwj, hpc, hbt2, hτl]; exact ⟨rfl, rfl, rfl⟩))
              | fail)
            refine W.handF (j + 1, fl ++ [e], true) (σ.bx.length + 1) σ.tk.length ?_ ?_ ?_ ?_ ?_ (ClPF.get ?_) ?_ ?_
            · exact ⟨hjl, by dsimp only; rw [htk, hfl]; simp [hpc], by dsimp only; rw [htk]; simp [hpc]⟩
            · dsimp only; omega
            · repeat (first | exact Sw.Sub.nil | refine Sw.Sub.cons (by simp) ?_)
            · exact Nat.le_succ _
            · exact Nat.le_refl _
            · exact ⟨encIs_cl _ _ _ (by rintro _ ⟨⟩) _, .val _, (Cl_ptr ..).2 (by omega), encEs_cl _ _ _ (by rintro _ ⟨⟩; exact hτl) _, (Cl_ptr ..).2 (by omega), .val _, .val _, .val _, encEs_cl _ _ _ (by rintro _ ⟨⟩) _, .val _, .val _, trivial⟩
            · exact hcl [i64 ((s.taken : Int) + 1)] [encE e] rfl
            · have := htx [i64 ((s.taken : Int) + 1)] [encE e]
              simp at this ⊢
              exact ⟨this.symm, by rw [Nat.add_assoc]⟩
        · have hje : j = t.entries.length := by omega
          subst hje
          rw [List.take_length] at hfl han
          rcases idx_cases (fun e : Ent => e.code) t.entries ht.en c with ⟨hix, hno⟩ | ⟨k, x, hkx, hxc, hix, huni⟩
          · have hen : entryF t c ⟨s.out, s.taken + 1⟩ = (6, ⟨s.out, s.taken + 1⟩) := by unfold entryF; rw [if_pos hix]
            rw [hen, if_neg (show ¬ (6 : Int) = 0 by decide)] at heq
            have han' : an = false := by rw [han, List.any_eq_false]; intro e he; simpa using hno e he
            have hfl' : fl = [] := by rw [hfl]; exact filter_nil fun e he => by simpa using hno e he
            subst han'; subst hfl'
            repeat' (first
              | with_reducible refine W.seq ?_
              | with_reducible refine W.next ?_
              | with_reducible refine W.nil ?_
              | with_reducible refine W.skip ?_
              | with_reducible refine W.ret ?_
              | with_reducible refine W.ret_code ?_
              | with_reducible refine W.block ?_
              | with_reducible refine W.out ?_
              | with_reducible refine W.ret_blk ?_
              | with_reducible refine W.exit ?_
              | with_reducible refine W.exit_code ?_
              | with_reducible refine W.exit_here ?_
              | with_reducible refine W.leave_exit ?_
              | with_reducible refine W.leave_ret ?_
              | ((with_reducible refine W.exit_on ?h ?_); (case h => decide))
              | ((with_reducible apply W.reg); (case h => simp [T3, T23, T24, T27, T28, T30, T35, T49, hjl]; exact ⟨rfl, rfl, rfl⟩))
              | ((with_reducible apply W.draw mixed); (case hB => kernel_rfl); (case hr => simp [T3, T23, T24, T27, T28, T30, T35, T49, hjl]; rfl))
              | ((with_reducible apply W.cond); (case hc => simp; rfl); all_goals (intro hc_; try (cases hc_; done)))
              | ((with_reducible apply W.runX); (case _hc => rfl); (case h => simp [T3, T23, T24, T27, T28, T30, T35, T49, hjl]; exact ⟨rfl, rfl, rfl⟩))
              | fail)
            with_reducible apply W.fin
            case h1 => simp <;> rfl
            case h2 => exact wkErr _
            case h3 => simp
            case h4 => exact (hσ.clB.set (by simp)).app (by simp)
            exact hRerr 6 (s.taken + 1) s.out.length (by decide) (by rw [heq]) _ (by simp) (by simp)
          · have hkl : k < t.entries.length := (List.getElem?_eq_some_iff.1 hkx).1
            have hxm : x ∈ t.entries := List.mem_of_getElem? hkx
            have han' : an = true := by rw [han, List.any_eq_true]; exact ⟨x, hxm, by simpa using hxc⟩
            have hfl' : fl = [x] := by rw [hfl]; exact filter_one hkx (by simpa using hxc) fun j y hy hp => huni j y hy (by simpa using hp)
            subst han'; subst hfl'
            have hgd : t.entries.getD k default = x := by rw [List.getD_eq_getElem?_getD, hkx]; rfl
            by_cases hs60 : s.out.length < 60
            · have hen : entryF t c ⟨s.out, s.taken + 1⟩ = (0, ⟨s.out ++ [x], s.taken + 1⟩) := by
                unfold entryF
                rw [hix, if_neg (by omega), if_neg (by dsimp only; omega)]
                simp [hkx]
              rw [hen, if_pos rfl] at heq
              have hl60 : ¬ (60 : Int) < (s.out.length : Int) + 1 := by omega
              repeat' (first
                | with_reducible refine W.seq ?_
                | with_reducible refine W.next ?_
                | with_reducible refine W.nil ?_
                | with_reducible refine W.skip ?_
                | with_reducible refine W.ret ?_
                | with_reducible refine W.ret_code ?_
                | with_reducible refine W.block ?_
                | with_reducible refine W.out ?_
                | with_reducible refine W.ret_blk ?_
                | with_reducible refine W.exit ?_
                | with_reducible refine W.exit_code ?_
                | with_reducible refine W.exit_here ?_
                | with_reducible refine W.leave_exit ?_
                | with_reducible refine W.leave_ret ?_
                | ((with_reducible refine W.exit_on ?h ?_); (case h => decide))
                | ((with_reducible apply W.reg); (case h => simp [T3, T23, T24, T27, T28, T30, T35, T49, hjl, hl60, hwi]; exact ⟨rfl, rfl, rfl⟩))
                | ((with_reducible apply W.draw mixed); (case hB => kernel_rfl); (case hr => simp [T3, T23, T24, T27, T28, T30, T35, T49, hjl, hl60, hwi]; rfl))
                | ((with_reducible apply W.cond); (case hc => simp; rfl); all_goals (intro hc_; try (cases hc_; done)))
                | ((with_reducible apply W.runX); (case _hc => rfl); (case h => simp [T3, T23, T24, T27, T28, T30, T35, T49, hjl, hl60, hwi]; exact ⟨rfl, rfl, rfl⟩))
                | fail)
              refine W.hand (i + 1, ⟨s.out ++ [x], s.taken + 1⟩, m) ?_ ?_ ?_ ?_
              · exact ⟨by dsimp only; omega, ⟨by simp; omega, by dsimp only; omega⟩, by dsimp only; omega, by dsimp only; omega, by dsimp only; rw [heq, hrest]⟩
              · dsimp only; omega
              · repeat (first | exact Sw.Sub.nil | refine Sw.Sub.cons (by simp) ?_)
              · simp
            · have hen : entryF t c ⟨s.out, s.taken + 1⟩ = (2, ⟨s.out, s.taken + 1⟩) := by
                unfold entryF
                rw [hix, if_neg (by omega), if_pos (by dsimp only; omega)]
              rw [hen, if_neg (show ¬ (2 : Int) = 0 by decide)] at heq
              have hl60 : (60 : Int) < (s.out.length : Int) + 1 := by omega
              repeat' (first
                | with_reducible refine W.seq ?_
                | with_reducible refine W.next ?_
                | with_reducible refine W.nil ?_
                | with_reducible refine W.skip ?_
                | with_reducible refine W.ret ?_
                | with_reducible refine W.ret_code ?_
                | with_reducible refine W.block ?_
                | with_reducible refine W.out ?_
                | with_reducible refine W.ret_blk ?_
                | with_reducible refine W.exit ?_
                | with_reducible refine W.exit_code ?_
                | with_reducible refine W.exit_here ?_
                | with_reducible refine W.leave_exit ?_
                | with_reducible refine W.leave_ret ?_
                | ((with_reducible refine W.exit_on ?h ?_); (case h => decide))
                | ((with_reducible apply W.reg); (case h => simp [T3, T23, T24, T27, T28, T30, T35, T49, hjl, hl60, hwi]; exact ⟨rfl, rfl, rfl⟩))
                | ((with_reducible apply W.draw mixed); (case hB => kernel_rfl); (case hr => simp [T3, T23, T24, T27, T28, T30, T35, T49, hjl, hl60, hwi]; rfl))
                | ((with_reducible apply W.cond); (case hc => simp; rfl); all_goals (intro hc_; try (cases hc_; done)))
                | ((with_reducible apply W.runX); (case _hc => rfl); (case h => simp [T3, T23, T24, T27, T28, T30, T35, T49, hjl, hl60, hwi]; exact ⟨rfl, rfl, rfl⟩))
                | fail)
              with_reducible apply W.fin
              case h1 => simp <;> rfl
              case h2 => exact wkErr _
              case h3 => simp
              case h4 => exact (hσ.clB.set (by simp)).app (by simp)
              exact hRerr 2 (s.taken + 1) (s.out.length + 1) (by decide) (by rw [heq]) _ (by simp) (by simp)
      by_cases k2 : kc = 2
      · subst k2
        have hf : firstF t (allF t m) c rest d s = ((seqF t (allF t m) c d ⟨s.out, s.taken + 1⟩).1, (seqF t (allF t m) c d ⟨s.out, s.taken + 1⟩).2, rest) := by simp only [firstF]; rw [if_neg h5, if_neg (by omega), if_pos hk]
        rw [hf] at heq
        dsimp only at heq
        have hsl := ht.ok.slen
        have hcl : ∀ (ex : List PV) (r : List (List PV)), (∀ p ∈ ex, Cl σ.bx.length σ.tk.length p) → ClB (σ.bx.length + 1) σ.tk.length (σ.bx.set b ex ++ ([encT t] ++ r)) := fun ex r hex => by
          have := clB_ext (n := σ.bx.length) (m := σ.tk.length) (bx := σ.bx.set b ex) (ex := [encT t]) (r := r) (hσ.clB.set hex) (by simp) (fun ps hps => by rw [List.mem_singleton.1 hps]; exact encT_cl _ _ _)
          simpa using this
        have htx : ∀ (ex : List PV) (r : List (List PV)), (σ.bx.set b ex ++ ([encT t] ++ r)).take (σ.bx.length + 1) = σ.bx.set b ex ++ [encT t] := fun ex r => by
          have := take_ext (σ.bx.set b ex) [encT t] r
          simpa using this
        have hnat : ((s.taken + 1 : Nat) : Int) = (s.taken : Int) + 1 := by simp
        repeat' (first
          | with_reducible refine W.seq ?_
          | with_reducible refine W.next ?_
          | with_reducible refine W.nil ?_
          | with_reducible refine W.skip ?_
          | with_reducible refine W.ret ?_
          | with_reducible refine W.ret_code ?_
          | with_reducible refine W.block ?_
          | with_reducible refine W.out ?_
          | with_reducible refine W.ret_blk ?_
          | with_reducible refine W.exit ?_
          | with_reducible refine W.exit_code ?_
          | with_reducible refine W.exit_here ?_
          | with_reducible refine W.leave_exit ?_
          | with_reducible refine W.leave_ret ?_
          | ((with_reducible refine W.exit_on ?h ?_); (case h => decide))
          | ((with_reducible apply W.reg); (case h => simp [T3, T23, T24, T27, T28, T30, T35, T49, hil, hc', hbs, hwt, hbl, h5']; exact ⟨rfl, rfl, rfl⟩))
          | ((with_reducible apply W.draw mixed); (case hB => kernel_rfl); (case hr => simp [T3, T23, T24, T27, T28, T30, T35, T49, hil, hc', hbs, hwt, hbl, h5']; rfl))
          | ((with_reducible apply W.cond); (case hc => simp; rfl); all_goals (intro hc_; try (cases hc_; done)))
          | ((with_reducible apply W.runX); (case _hc => rfl); (case h => simp [T3, T23, T24, T27, T28, T30, T35, T49, hil, hc', hbs, hwt, hbl, h5']; exact ⟨rfl, rfl, rfl⟩))
          | ((with_reducible apply W.call1 go40); (case ho => rfl); (case hc => rfl); (case hf => rfl); (case hg => first | rfl | simp [T3, T23, T24, T27, T28, T30, T35, T49, hil, hc', hbs, hwt, hbl, h5']); (case hd => rfl); (case ha => simp [T3, T23, T24, T27, T28, T30, T35, T49, hil, hc', hbs, hwt, hbl, h5']; rfl); (case hargs => rfl); (case hs => exact hkd _))
          | fail)
        rcases idx_cases (fun e : Sq => e.code) t.seqs ht.sn c with ⟨hix, hno⟩ | ⟨k, x, hkx, hxc, hix, huni⟩
        · have hsq : seqF t (allF t m) c d ⟨s.out, s.taken + 1⟩ = (6, ⟨s.out, s.taken + 1⟩) := by unfold seqF; rw [if_pos hix]
          rw [hsq, if_neg (show ¬ (6 : Int) = 0 by decide)] at heq
          with_reducible refine W.loopF GEt_cl (α := Nat × St × Bool) (fun a => [(1, .sl none (codes.map encI)), (2, i64 d), (3, .ptr b 0), (4, .sl (some τ) (a.2.1.out.map encE)), (5, .ptr σ.bx.length 0), (12, i64 i), (13, i64 c), (17, bV a.2.2), (116, .sl none (t.seqs.map encS)), (117, i64 t.seqs.length), (118, i64 a.1)]) (fun a => ⟨σ.bx.set b [i64 a.2.1.taken] ++ [encT t], σ.tk.set τ (23, a.2.1.out.length)⟩) (fun a => a.1 ≤ t.seqs.length ∧ a.2.1 = ⟨s.out, s.taken + 1⟩ ∧ a.2.2 = false) (fun a => t.seqs.length - a.1) (0, ⟨s.out, s.taken + 1⟩, false) ?_ ?_ ?_ ?_
          · exact ⟨Nat.zero_le _, rfl, rfl⟩
          · repeat (first | exact Sw.Sub.nil | refine Sw.Sub.cons (by simp) ?_)
          · simp
          rintro ⟨j, _, _⟩ ⟨hj, rfl, rfl⟩
          (try dsimp only at hj ⊢)
          by_cases hjl : j < t.seqs.length
          · obtain ⟨q, hq⟩ : ∃ q, t.seqs[j]? = some q := ⟨_, List.getElem?_eq_getElem hjl⟩
            have hq' : t.seqs[j] = q := (List.getElem?_eq_some_iff.1 hq).2
            have hne : (q.code == c) = false := by simpa using hno q (List.mem_of_getElem? hq)
            have hne2 : (q.code != c) = true := by simpa using hno q (List.mem_of_getElem? hq)
            have hwj : IntKind.i64.wrap ((j : Int) + 1) = (j : Int) + 1 := wrap64 (by omega)
            repeat' (first
              | with_reducible refine W.seq ?_
              | with_reducible refine W.next ?_
              | with_reducible refine W.nil ?_
              | with_reducible refine W.skip ?_
              | with_reducible refine W.ret ?_
              | with_reducible refine W.ret_code ?_
              | with_reducible refine W.block ?_
              | with_reducible refine W.out ?_
              | with_reducible refine W.ret_blk ?_
              | with_reducible refine W.exit ?_
              | with_reducible refine W.exit_code ?_
              | with_reducible refine W.exit_here ?_
              | with_reducible refine W.leave_exit ?_
              | with_reducible refine W.leave_ret ?_
              | ((with_reducible refine W.exit_on ?h ?_); (case h => decide))
              | ((with_reducible apply W.reg); (case h => simp [T3, T23, T24, T27, T28, T30, T35, T49, hjl, hq', hne, hne2, hwj]; exact ⟨rfl, rfl, rfl⟩))
              | ((with_reducible apply W.draw mixed); (case hB => kernel_rfl); (case hr => simp [T3, T23, T24, T27, T28, T30, T35, T49, hjl, hq', hne, hne2, hwj]; rfl))
              | ((with_reducible apply W.cond); (case hc => simp; rfl); all_goals (intro hc_; try (cases hc_; done)))
              | ((with_reducible apply W.runX); (case _hc => rfl); (case h => simp [T3, T23, T24, T27, T28, T30, T35, T49, hjl, hq', hne, hne2, hwj]; exact ⟨rfl, rfl, rfl⟩))
              | fail)
            refine W.handF (j + 1, ⟨s.out, s.taken + 1⟩, false) (σ.bx.length + 1) σ.tk.length ?_ ?_ ?_ ?_ ?_ (ClPF.get ?_) ?_ ?_
            · exact ⟨hjl, rfl, rfl⟩
            · dsimp only; omega
            · repeat (first | exact Sw.Sub.nil | refine Sw.Sub.cons (by simp) ?_)
            · exact Nat.le_succ _
            · exact Nat.le_refl _
            · exact ⟨encIs_cl _ _ _ (by rintro _ ⟨⟩) _, .val _, (Cl_ptr ..).2 (by omega), encEs_cl _ _ _ (by rintro _ ⟨⟩; exact hτl) _, (Cl_ptr ..).2 (by omega), .val _, .val _, .val _, encSs_cl _ _ _ (by rintro _ ⟨⟩) _, .val _, .val _, trivial⟩
            · exact hcl [i64 ((s.taken + 1 : Nat) : Int)] [encS q] (by simp)
            · have := htx [i64 ((s.taken : Int) + 1)] [encS q]
              simp at this ⊢
              exact this.symm
          · repeat' (first
              | with_reducible refine W.seq ?_
              | with_reducible refine W.next ?_
              | with_reducible refine W.nil ?_
              | with_reducible refine W.skip ?_
              | with_reducible refine W.ret ?_
              | with_reducible refine W.ret_code ?_
              | with_reducible refine W.block ?_
              | with_reducible refine W.out ?_
              | with_reducible refine W.ret_blk ?_
              | with_reducible refine W.exit ?_
              | with_reducible refine W.exit_code ?_
              | with_reducible refine W.exit_here ?_
              | with_reducible refine W.leave_exit ?_
              | with_reducible refine W.leave_ret ?_
              | ((with_reducible refine W.exit_on ?h ?_); (case h => decide))
              | ((with_reducible apply W.reg); (case h => simp [T3, T23, T24, T27, T28, T30, T35, T49, hjl]; exact ⟨rfl, rfl, rfl⟩))
              | ((with_reducible apply W.draw mixed); (case hB => kernel_rfl); (case hr => simp [T3, T23, T24, T27, T28, T30, T35, T49, hjl]; rfl))
              | ((with_reducible apply W.cond); (case hc => simp; rfl); all_goals (intro hc_; try (cases hc_; done)))
              | ((with_reducible apply W.runX); (case _hc => rfl); (case h => simp [T3, T23, T24, T27, T28, T30, T35, T49, hjl]; exact ⟨rfl, rfl, rfl⟩))
              | fail)
            with_reducible apply W.fin
            case h1 => simp <;> rfl
            case h2 => exact wkErr _
            case h3 => simp
            case h4 => exact (hσ.clB.set (by simp)).app (by simp)
            exact hRerr 6 (s.taken + 1) s.out.length (by decide) (by rw [heq]) _ (by simp) (by simp)
        · have hkl : k < t.seqs.length := (List.getElem?_eq_some_iff.1 hkx).1
          have hgd : t.seqs.getD k default = x := by rw [List.getD_eq_getElem?_getD, hkx]; rfl
          have hxo := ht.ok.seqs x (List.mem_of_getElem? hkx)
          have hsq : seqF t (allF t m) c d ⟨s.out, s.taken + 1⟩ = if 20 < d then (2, ⟨s.out, s.taken + 1⟩) else allF t m x.codes (d + 1) ⟨s.out, s.taken + 1⟩ := by
            unfold seqF
            rw [hix, if_neg (by omega)]
            simp [hkx]
          with_reducible refine W.loopF GEt_cl (α := Nat × St × Bool) (fun a => [(1, .sl none (codes.map encI)), (2, i64 d), (3, .ptr b 0), (4, .sl (some τ) (a.2.1.out.map encE)), (5, .ptr σ.bx.length 0), (12, i64 i), (13, i64 c), (17, bV a.2.2), (116, .sl none (t.seqs.map encS)), (117, i64 t.seqs.length), (118, i64 a.1)]) (fun a => ⟨σ.bx.set b [i64 a.2.1.taken] ++ [encT t], σ.tk.set τ (23, a.2.1.out.length)⟩) (fun a => a.1 ≤ t.seqs.length ∧ (a.1 ≤ k → a.2.1 = ⟨s.out, s.taken + 1⟩ ∧ a.2.2 = false) ∧ (k < a.1 → a.2.2 = true ∧ d ≤ 20 ∧ allF t m x.codes (d + 1) ⟨s.out, s.taken + 1⟩ = (0, a.2.1))) (fun a => t.seqs.length - a.1) (0, ⟨s.out, s.taken + 1⟩, false) ?_ ?_ ?_ ?_
          · exact ⟨Nat.zero_le _, fun _ => ⟨rfl, rfl⟩, fun h => absurd h (Nat.not_lt_zero _)⟩
          · repeat (first | exact Sw.Sub.nil | refine Sw.Sub.cons (by simp) ?_)
          · simp
          rintro ⟨j, st, fd⟩ ⟨hj, hlo, hhi⟩
          (try dsimp only at hj hlo hhi ⊢)
          by_cases hjl : j < t.seqs.length
          · obtain ⟨q, hq⟩ : ∃ q, t.seqs[j]? = some q := ⟨_, List.getElem?_eq_getElem hjl⟩
            have hq' : t.seqs[j] = q := (List.getElem?_eq_some_iff.1 hq).2
            have hwj : IntKind.i64.wrap ((j : Int) + 1) = (j : Int) + 1 := wrap64 (by omega)
            by_cases hjk : j = k
            · subst hjk
              obtain rfl : x = q := by rw [hkx] at hq; exact Option.some.inj hq
              obtain ⟨rfl, rfl⟩ := hlo (Nat.le_refl _)
              have hne : (x.code == c) = true := by simpa using hxc
              have hne2 : (x.code != c) = false := by simpa using hxc
              by_cases hd20 : 20 < d
              · rw [hsq, if_pos hd20, if_neg (show ¬ (2 : Int) = 0 by decide)] at heq
                repeat' (first
                  | with_reducible refine W.seq ?_
                  | with_reducible refine W.next ?_
                  | with_reducible refine W.nil ?_
                  | with_reducible refine W.skip ?_
                  | with_reducible refine W.ret ?_
                  | with_reducible refine W.ret_code ?_
                  | with_reducible refine W.block ?_
                  | with_reducible refine W.out ?_
                  | with_reducible refine W.ret_blk ?_
                  | with_reducible refine W.exit ?_
                  | with_reducible refine W.exit_code ?_
                  | with_reducible refine W.exit_here ?_
                  | with_reducible refine W.leave_exit ?_
                  | with_reducible refine W.leave_ret ?_
                  | ((with_reducible refine W.exit_on ?h ?_); (case h => decide))
                  | ((with_reducible apply W.reg); (case h => simp [T3, T23, T24, T27, T28, T30, T35, T49, hjl, hq', hne, hne2, hwj, hd20]; exact ⟨rfl, rfl, rfl⟩))
                  | ((with_reducible apply W.draw mixed); (case hB => kernel_rfl); (case hr => simp [T3, T23, T24, T27, T28, T30, T35, T49, hjl, hq', hne, hne2, hwj, hd20]; rfl))
                  | ((with_reducible apply W.cond); (case hc => simp; rfl); all_goals (intro hc_; try (cases hc_; done)))
                  | ((with_reducible apply W.runX); (case _hc => rfl); (case h => simp [T3, T23, T24, T27, T28, T30, T35, T49, hjl, hq', hne, hne2, hwj, hd20]; exact ⟨rfl, rfl, rfl⟩))
                  | fail)
                with_reducible apply W.fin
                case h1 => simp <;> rfl
                case h2 => exact wkErr _
                case h3 => simp
                case h4 => exact (hσ.clB.set (by simp)).app (by simp)
                exact hRerr 2 (s.taken + 1) s.out.length (by decide) (by rw [heq]) _ (by simp) (by simp)
              · rw [hsq, if_neg hd20] at heq
                have hwd : IntKind.i64.wrap (d + 1) = d + 1 := wrap64 (by omega)
                have hrec := ih m (by omega) x.codes (d + 1) ⟨s.out, s.taken + 1⟩ ⟨σ.bx.set b [i64 ((s.taken + 1 : Nat) : Int)] ++ [encT t, encS x], σ.tk.set τ (23, s.out.length)⟩ b τ hxo.codes hxo.len (by omega) (by simp [hbl]) (by simp [hτl]) hg1 (by dsimp only; omega)
                have hAf := allF_ok t m x.codes (d + 1) _ hg1 (by dsimp only; omega)
                repeat' (first
                  | with_reducible refine W.seq ?_
                  | with_reducible refine W.next ?_
                  | with_reducible refine W.nil ?_
                  | with_reducible refine W.skip ?_
                  | with_reducible refine W.ret ?_
                  | with_reducible refine W.ret_code ?_
                  | with_reducible refine W.block ?_
                  | with_reducible refine W.out ?_
                  | with_reducible refine W.ret_blk ?_
                  | with_reducible refine W.exit ?_
                  | with_reducible refine W.exit_code ?_
                  | with_reducible refine W.exit_here ?_
                  | with_reducible refine W.leave_exit ?_
                  | with_reducible refine W.leave_ret ?_
                  | ((with_reducible refine W.exit_on ?h ?_); (case h => decide))
                  | ((with_reducible apply W.reg); (case h => simp [T3, T23, T24, T27, T28, T30, T35, T49, hjl, hq', hne, hne2, hwj, hd20, hwd, hbl, hτl]; exact ⟨rfl, rfl, rfl⟩))
                  | ((with_reducible apply W.draw mixed); (case hB => kernel_rfl); (case hr => simp [T3, T23, T24, T27, T28, T30, T35, T49, hjl, hq', hne, hne2, hwj, hd20, hwd, hbl, hτl]; rfl))
                  | ((with_reducible apply W.cond); (case hc => simp; rfl); all_goals (intro hc_; try (cases hc_; done)))
                  | ((with_reducible apply W.runX); (case _hc => rfl); (case h => simp [T3, T23, T24, T27, T28, T30, T35, T49, hjl, hq', hne, hne2, hwj, hd20, hwd, hbl, hτl]; exact ⟨rfl, rfl, rfl⟩))
                  | ((with_reducible apply W.callR go38); (case ho => rfl); (case hc => rfl); (case hf => rfl); (case hg => first | rfl | simp [T3, T23, T24, T27, T28, T30, T35, T49, hjl, hq', hne, hne2, hwj, hd20, hwd, hbl, hτl]); (case hd => rfl); (case ha => simp [T3, T23, T24, T27, T28, T30, T35, T49, hjl, hq', hne, hne2, hwj, hd20, hwd, hbl, hτl]; rfl); (case hargs => rfl); (case hs => exact hrec); rintro _ _ ⟨p, k', m', rfl, rfl, hz, hnz⟩)
                  | fail)
                · have he : ¬ (allF t m x.codes (d + 1) ⟨s.out, s.taken + 1⟩).1 = 0 := by simpa using hc_
                  rw [if_neg he] at heq
                  with_reducible apply W.fin
                  case h1 => simp <;> rfl
                  case h2 => exact wkErr _
                  case h3 => simp
                  case h4 => exact (hσ.clB.set (by simp)).app (by simp)
                  exact hRerr _ k' m' he (by rw [heq]) _ (by simp [hbl]) (by simp [hτl])
                · have he : (allF t m x.codes (d + 1) ⟨s.out, s.taken + 1⟩).1 = 0 := by simpa using hc_
                  obtain ⟨rfl, rfl, rfl⟩ := hz he
                  generalize allF t m x.codes (d + 1) ⟨s.out, s.taken + 1⟩ = R at *
                  obtain ⟨e, st⟩ := R
                  dsimp only at he
                  subst he
                  dsimp only at *
                  refine W.handF (j + 1, st, true) (σ.bx.length + 1) σ.tk.length ?_ ?_ ?_ ?_ ?_ (ClPF.get ?_) ?_ ?_
                  · exact ⟨hjl, fun h => by dsimp only at h; omega, fun _ => ⟨rfl, by omega, rfl⟩⟩
                  · dsimp only; omega
                  · repeat (first | exact Sw.Sub.nil | refine Sw.Sub.cons (by simp) ?_)
                  · exact Nat.le_succ _
                  · exact Nat.le_refl _
                  · exact ⟨encIs_cl _ _ _ (by rintro _ ⟨⟩) _, .val _, (Cl_ptr ..).2 (by omega), encEs_cl _ _ _ (by rintro _ ⟨⟩; exact hτl) _, (Cl_ptr ..).2 (by omega), .val _, .val _, .val _, encSs_cl _ _ _ (by rintro _ ⟨⟩) _, .val _, .val _, trivial⟩
                  · exact hcl [i64 ((st.taken : Nat) : Int)] [encS x] (by simp)
                  · have := htx [i64 ((st.taken : Nat) : Int)] [encS x]
                    simp at this ⊢
                    exact this.symm
            · have hne : (q.code == c) = false := by
                cases h : q.code == c with
                | false => rfl
                | true => exact absurd (huni j q hq (by simpa using h)) hjk
              have hne2 : (q.code != c) = true := by simpa using hne
              repeat' (first
                | with_reducible refine W.seq ?_
                | with_reducible refine W.next ?_
                | with_reducible refine W.nil ?_
                | with_reducible refine W.skip ?_
                | with_reducible refine W.ret ?_
                | with_reducible refine W.ret_code ?_
                | with_reducible refine W.block ?_
                | with_reducible refine W.out ?_
                | with_reducible refine W.ret_blk ?_
                | with_reducible refine W.exit ?_
                | with_reducible refine W.exit_code ?_
                | with_reducible refine W.exit_here ?_
                | with_reducible refine W.leave_exit ?_
                | with_reducible refine W.leave_ret ?_
                | ((with_reducible refine W.exit_on ?h ?_); (case h => decide))
                | ((with_reducible apply W.reg); (case h => simp [T3, T23, T24, T27, T28, T30, T35, T49, hjl, hq', hne, hne2, hwj]; exact ⟨rfl, rfl, rfl⟩))
                | ((with_reducible apply W.draw mixed); (case hB => kernel_rfl); (case hr => simp [T3, T23, T24, T27, T28, T30, T35, T49, hjl, hq', hne, hne2, hwj]; rfl))
                | ((with_reducible apply W.cond); (case hc => simp; rfl); all_goals (intro hc_; try (cases hc_; done)))
                | ((with_reducible apply W.runX); (case _hc => rfl); (case h => simp [T3, T23, T24, T27, T28, T30, T35, T49, hjl, hq', hne, hne2, hwj]; exact ⟨rfl, rfl, rfl⟩))
                | fail)
              refine W.handF (j + 1, st, fd) (σ.bx.length + 1) σ.tk.length ?_ ?_ ?_ ?_ ?_ (ClPF.get ?_) ?_ ?_
              · exact ⟨hjl, fun h => hlo (by dsimp only at h; omega), fun h => hhi (by dsimp only at h; omega)⟩
              · dsimp only; omega
              · repeat (first | exact Sw.Sub.nil | refine Sw.Sub.cons (by simp) ?_)
              · exact Nat.le_succ _
              · exact Nat.le_refl _
              · exact ⟨encIs_cl _ _ _ (by rintro _ ⟨⟩) _, .val _, (Cl_ptr ..).2 (by omega), encEs_cl _ _ _ (by rintro _ ⟨⟩; exact hτl) _, (Cl_ptr ..).2 (by omega), .val _, .val _, .val _, encSs_cl _ _ _ (by rintro _ ⟨⟩) _, .val _, .val _, trivial⟩
              · exact hcl [i64 ((st.taken : Nat) : Int)] [encS q] (by simp)
              · have := htx [i64 ((st.taken : Nat) : Int)] [encS q]
                simp at this ⊢
                exact this.symm
          · have hjk : k < j := by omega
            obtain ⟨rfl, hd20, hA⟩ := hhi hjk
            have hAf := allF_ok t m x.codes (d + 1) _ hg1 (by dsimp only; omega)
            rw [hsq, if_neg (show ¬ 20 < d by omega), hA, if_pos rfl] at heq
            rw [hA] at hAf
            have g1 := hAf.out
            have g2 := hAf.ok rfl
            have g3 := hAf.le
            dsimp only at g1 g2 g3 heq
            repeat' (first
              | with_reducible refine W.seq ?_
              | with_reducible refine W.next ?_
              | with_reducible refine W.nil ?_
              | with_reducible refine W.skip ?_
              | with_reducible refine W.ret ?_
              | with_reducible refine W.ret_code ?_
              | with_reducible refine W.block ?_
              | with_reducible refine W.out ?_
              | with_reducible refine W.ret_blk ?_
              | with_reducible refine W.exit ?_
              | with_reducible refine W.exit_code ?_
              | with_reducible refine W.exit_here ?_
              | with_reducible refine W.leave_exit ?_
              | with_reducible refine W.leave_ret ?_
              | ((with_reducible refine W.exit_on ?h ?_); (case h => decide))
              | ((with_reducible apply W.reg); (case h => simp [T3, T23, T24, T27, T28, T30, T35, T49, hjl, hwi]; exact ⟨rfl, rfl, rfl⟩))
              | ((with_reducible apply W.draw mixed); (case hB => kernel_rfl); (case hr => simp [T3, T23, T24, T27, T28, T30, T35, T49, hjl, hwi]; rfl))
              | ((with_reducible apply W.cond); (case hc => simp; rfl); all_goals (intro hc_; try (cases hc_; done)))
              | ((with_reducible apply W.runX); (case _hc => rfl); (case h => simp [T3, T23, T24, T27, T28, T30, T35, T49, hjl, hwi]; exact ⟨rfl, rfl, rfl⟩))
              | fail)
            refine W.hand (i + 1, st, m) ?_ ?_ ?_ ?_
            · exact ⟨by dsimp only; omega, ⟨g1, g2⟩, by dsimp only; omega, by dsimp only; omega, by dsimp only; rw [heq, hrest]⟩
            · dsimp only; omega
            · repeat (first | exact Sw.Sub.nil | refine Sw.Sub.cons (by simp) ?_)
            · simp
      · have k3 : kindF c = 3 := by
          have : kindF c = 0 ∨ kindF c = 1 ∨ kindF c = 2 ∨ kindF c = 3 := by
            unfold kindF
            split
            · exact .inl rfl
            · split
              · exact .inr (.inl rfl)
              · split
                · exact .inr (.inr (.inl rfl))
                · split
                  · exact .inr (.inr (.inr rfl))
                  · exact .inl rfl
          omega
        obtain ⟨q1, q2, q3, q4, q5⟩ := kind3 k3
        have hcm := hci.2
        have hws : IntKind.i64.wrap (c - 20000) = c - 20000 := wrap64 (by omega)
        have hf : firstF t (allF t m) c rest d s = if (rest.length : Int) < (c - 20000).tdiv 100 then (11, ⟨s.out, s.taken + 1⟩, [])
            else match iterF (allF t m (rest.take ((c - 20000).tdiv 100).toNat) d) ((c - 20000).tmod 100).toNat ⟨s.out, s.taken + 1⟩ with
            | (e, s2) => if e = 0 then (0, s2, rest.drop ((c - 20000).tdiv 100).toNat) else (e, s2, []) := by
          simp only [firstF]; rw [if_neg h5, if_neg (by omega), if_neg (by omega), if_pos k3]
        obtain ⟨x, hx⟩ : ∃ x, (c - 20000).tdiv 100 = x := ⟨_, rfl⟩
        obtain ⟨y, hy⟩ : ∃ y, (c - 20000).tmod 100 = y := ⟨_, rfl⟩
        rw [hx] at q2 q3 hf
        rw [hy] at q4 q5 hf
        have hwx : IntKind.i64.wrap x = x := wrap64 (by omega)
        have hwy : IntKind.i64.wrap y = y := wrap64 (by omega)
        have hwix : IntKind.i64.wrap ((i : Int) + x) = (i : Int) + x := wrap64 (by omega)
        have hrl : rest.length = codes.length - (i + 1) := by rw [hrest, List.length_drop]
        have hk0 : (kc == 0) = false := by simpa using k0
        have hk1 : (kc == 1) = false := by simpa using k1
        have hk2 : (kc == 2) = false := by simpa using k2
        by_cases hsh : (codes.length : Int) ≤ (i : Int) + x
        · have hsh2 : (rest.length : Int) < x := by omega
          rw [hf, if_pos hsh2, if_neg (show ¬ (11 : Int) = 0 by decide)] at heq
          repeat' (first
            | with_reducible refine W.seq ?_
            | with_reducible refine W.next ?_
            | with_reducible refine W.nil ?_
            | with_reducible refine W.skip ?_
            | with_reducible refine W.ret ?_
            | with_reducible refine W.ret_code ?_
            | with_reducible refine W.block ?_
            | with_reducible refine W.out ?_
            | with_reducible refine W.ret_blk ?_
            | with_reducible refine W.exit ?_
            | with_reducible refine W.exit_code ?_
            | with_reducible refine W.exit_here ?_
            | with_reducible refine W.leave_exit ?_
            | with_reducible refine W.leave_ret ?_
            | ((with_reducible refine W.exit_on ?h ?_); (case h => decide))
            | ((with_reducible apply W.reg); (case h => simp [T3, T23, T24, T27, T28, T30, T35, T49, hil, hc', hbs, hwt, hbl, h5', hk0, hk1, hk2, hws, hx, hy, hwx, hwy, hwix, hsh]; exact ⟨rfl, rfl, rfl⟩))
            | ((with_reducible apply W.draw mixed); (case hB => kernel_rfl); (case hr => simp [T3, T23, T24, T27, T28, T30, T35, T49, hil, hc', hbs, hwt, hbl, h5', hk0, hk1, hk2, hws, hx, hy, hwx, hwy, hwix, hsh]; rfl))
            | ((with_reducible apply W.cond); (case hc => simp; rfl); all_goals (intro hc_; try (cases hc_; done)))
            | ((with_reducible apply W.runX); (case _hc => rfl); (case h => simp [T3, T23, T24, T27, T28, T30, T35, T49, hil, hc', hbs, hwt, hbl, h5', hk0, hk1, hk2, hws, hx, hy, hwx, hwy, hwix, hsh]; exact ⟨rfl, rfl, rfl⟩))
            | ((with_reducible apply W.call1 go40); (case ho => rfl); (case hc => rfl); (case hf => rfl); (case hg => first | rfl | simp [T3, T23, T24, T27, T28, T30, T35, T49, hil, hc', hbs, hwt, hbl, h5', hk0, hk1, hk2, hws, hx, hy, hwx, hwy, hwix, hsh]); (case hd => rfl); (case ha => simp [T3, T23, T24, T27, T28, T30, T35, T49, hil, hc', hbs, hwt, hbl, h5', hk0, hk1, hk2, hws, hx, hy, hwx, hwy, hwix, hsh]; rfl); (case hargs => rfl); (case hs => exact hkd _))
            | fail)
          with_reducible apply W.fin
          case h1 => simp <;> rfl
          case h2 => exact wkErr _
          case h3 => simp
          case h4 => exact (hσ.clB.set (by simp)).app (by simp)
          exact hRerr 11 (s.taken + 1) s.out.length (by decide) (by rw [heq]) _ (by simp) (by simp)
        · have hsh2 : ¬ (rest.length : Int) < x := by omega
          rw [hf, if_neg hsh2] at heq
          have hnat : ((s.taken + 1 : Nat) : Int) = (s.taken : Int) + 1 := by simp
          have hrc : ∀ z ∈ rest.take x.toNat, I64 z := fun z hz => hcodes z (by
            have := List.mem_of_mem_take hz
            rw [hrest] at this
            exact List.mem_of_mem_drop this)
          repeat' (first
            | with_reducible refine W.seq ?_
            | with_reducible refine W.next ?_
            | with_reducible refine W.nil ?_
            | with_reducible refine W.skip ?_
            | with_reducible refine W.ret ?_
            | with_reducible refine W.ret_code ?_
            | with_reducible refine W.block ?_
            | with_reducible refine W.out ?_
            | with_reducible refine W.ret_blk ?_
            | with_reducible refine W.exit ?_
            | with_reducible refine W.exit_code ?_
            | with_reducible refine W.exit_here ?_
            | with_reducible refine W.leave_exit ?_
            | with_reducible refine W.leave_ret ?_
            | ((with_reducible refine W.exit_on ?h ?_); (case h => decide))
            | ((with_reducible apply W.reg); (case h => simp [T3, T23, T24, T27, T28, T30, T35, T49, hil, hc', hbs, hwt, hbl, h5', hk0, hk1, hk2, hws, hx, hy, hwx, hwy, hwix, hsh]; exact ⟨rfl, rfl, rfl⟩))
            | ((with_reducible apply W.draw mixed); (case hB => kernel_rfl); (case hr => simp [T3, T23, T24, T27, T28, T30, T35, T49, hil, hc', hbs, hwt, hbl, h5', hk0, hk1, hk2, hws, hx, hy, hwx, hwy, hwix, hsh]; rfl))
            | ((with_reducible apply W.cond); (case hc => simp; rfl); all_goals (intro hc_; try (cases hc_; done)))
            | ((with_reducible apply W.runX); (case _hc => rfl); (case h => simp [T3, T23, T24, T27, T28, T30, T35, T49, hil, hc', hbs, hwt, hbl, h5', hk0, hk1, hk2, hws, hx, hy, hwx, hwy, hwix, hsh]; exact ⟨rfl, rfl, rfl⟩))
            | ((with_reducible apply W.call1 go40); (case ho => rfl); (case hc => rfl); (case hf => rfl); (case hg => first | rfl | simp [T3, T23, T24, T27, T28, T30, T35, T49, hil, hc', hbs, hwt, hbl, h5', hk0, hk1, hk2, hws, hx, hy, hwx, hwy, hwix, hsh]); (case hd => rfl); (case ha => simp [T3, T23, T24, T27, T28, T30, T35, T49, hil, hc', hbs, hwt, hbl, h5', hk0, hk1, hk2, hws, hx, hy, hwx, hwy, hwix, hsh]; rfl); (case hargs => rfl); (case hs => exact hkd _))
            | fail)
          generalize hfd : allF t m (rest.take x.toNat) d = f at heq
          have hfA : ∀ sj : St, Gd sj → s.taken + 1 ≤ sj.taken → Af sj (f sj) := fun sj hj hle => by rw [← hfd]; exact allF_ok t m _ _ _ hj (by omega)
          with_reducible refine W.loopS (α := Nat × St) (fun a => [(1, .sl none (codes.map encI)), (2, i64 d), (3, .ptr b 0), (4, .sl (some τ) (a.2.out.map encE)), (5, .ptr σ.bx.length 0), (12, i64 i), (22, i64 x), (23, i64 y), (24, i64 a.1)]) (fun a => ⟨σ.bx.set b [i64 a.2.taken] ++ [encT t], σ.tk.set τ (23, a.2.out.length)⟩) (fun a => a.1 ≤ y.toNat ∧ iterF f y.toNat ⟨s.out, s.taken + 1⟩ = iterF f (y.toNat - a.1) a.2 ∧ Gd a.2 ∧ s.taken + 1 ≤ a.2.taken) (fun a => y.toNat - a.1) (0, ⟨s.out, s.taken + 1⟩) ?_ ?_ ?_ ?_
          · exact ⟨Nat.zero_le _, rfl, hg1, Nat.le_refl _⟩
          · repeat (first | exact Sw.Sub.nil | refine Sw.Sub.cons (by simp) ?_)
          · simp
          rintro ⟨j, sj⟩ ⟨hj, hit, hgj, hle⟩
          dsimp only at hj hit hgj hle ⊢
          by_cases hlt : (j : Int) < y
          · have hwj : IntKind.i64.wrap ((j : Int) + 1) = (j : Int) + 1 := wrap64 (by omega)
            have hwi1 : IntKind.i64.wrap ((i : Int) + 1 + x) = (i : Int) + 1 + x := wrap64 (by omega)
            have hn1 : ((i : Int) + 1).toNat = i + 1 := by omega
            have hn2 : ((i : Int) + 1 + x).toNat = i + 1 + x.toNat := by omega
            have hp1 : (0 : Int) ≤ (i : Int) + 1 := by omega
            have hp2 : (0 : Int) ≤ (i : Int) + 1 + x := by omega
            have hp3 : i + 1 + x.toNat ≤ codes.length := by omega
            have hsl : ((codes.map encI).take (i + 1 + x.toNat)).drop (i + 1) = (rest.take x.toNat).map encI := by
              rw [List.drop_take, ← List.map_drop, ← hrest, ← List.map_take]
              congr 2
              omega
            have hstep : iterF f (y.toNat - j) sj = match f sj with | (e, s') => if e = 0 then iterF f (y.toNat - (j + 1)) s' else (e, s') := by
              have e1 : y.toNat - j = (y.toNat - (j + 1)) + 1 := by omega
              rw [e1]; rfl
            have hrec := ih m (by omega) (rest.take x.toNat) d sj ⟨σ.bx.set b [i64 (sj.taken : Int)] ++ [encT t], σ.tk.set τ (23, sj.out.length)⟩ b τ hrc (by rw [List.length_take]; omega) hd (by simp [hbl]) (by simp [hτl]) hgj (by omega)
            rw [← hsl] at hrec
            repeat' (first
              | with_reducible refine W.seq ?_
              | with_reducible refine W.next ?_
              | with_reducible refine W.nil ?_
              | with_reducible refine W.skip ?_
              | with_reducible refine W.ret ?_
              | with_reducible refine W.ret_code ?_
              | with_reducible refine W.block ?_
              | with_reducible refine W.out ?_
              | with_reducible refine W.ret_blk ?_
              | with_reducible refine W.exit ?_
              | with_reducible refine W.exit_code ?_
              | with_reducible refine W.exit_here ?_
              | with_reducible refine W.leave_exit ?_
              | with_reducible refine W.leave_ret ?_
              | ((with_reducible refine W.exit_on ?h ?_); (case h => decide))
              | ((with_reducible apply W.reg); (case h => simp [T3, T23, T24, T27, T28, T30, T35, T49, hlt]; exact ⟨rfl, rfl, rfl⟩))
              | ((with_reducible apply W.draw mixed); (case hB => kernel_rfl); (case hr => simp [T3, T23, T24, T27, T28, T30, T35, T49, hlt]; rfl))
              | ((with_reducible apply W.cond); (case hc => simp; rfl); all_goals (intro hc_; try (cases hc_; done)))
              | ((with_reducible apply W.runX); (case _hc => rfl); (case h => simp [T3, T23, T24, T27, T28, T30, T35, T49, hlt]; exact ⟨rfl, rfl, rfl⟩))
              | fail)
            refine W.cutC (α := PV × Nat × Nat) (fun a => [(1, .sl none (codes.map encI)), (2, i64 d), (3, .ptr b 0), (5, .ptr σ.bx.length 0), (12, i64 i), (22, i64 x), (23, i64 y), (24, i64 j), (25, a.1), (26, i64 (f sj).1)]) (fun a => ⟨σ.bx.set b [i64 a.2.1] ++ [encT t], σ.tk.set τ (23, a.2.2)⟩) (fun a => ((f sj).1 = 0 → a.1 = .sl (some τ) ((f sj).2.out.map encE) ∧ a.2.1 = (f sj).2.taken ∧ a.2.2 = (f sj).2.out.length) ∧ ((f sj).1 ≠ 0 → a.1 = .sl none [])) ?_ ?_
            · with_reducible apply W.held0 mixed 18 [0, 1, 2, 3, 4, 5, 6, 7, 8, 9, 10, 11]
              case hn => rfl
              with_reducible apply SH.takes [0, 1, 2, 3, 4, 5, 6, 7, 8, 9, 10, 11] 6
              case hfu => rfl
              case hs => kernel_rfl
              case hB => kernel_rfl
              case hQ => first | exact fun _ _ _ h => h | exact fun _ _ _ h => hNP _ _ _ h
              case hs0 => exact Sub0.rfl
              case hr => simp [T3, T23, T24, T27, T28, T30, T35, T49, hwi, hwi1, hn1, hn2, hp1, hp2, hp3, runTakes, takeOp, effA, effOp, down, down1, hideB, keep]; exact ⟨rfl, rfl⟩
              with_reducible apply SH.one 12
              case hr => kernel_rfl
              with_reducible apply SHo.callLastX go38
              case hi => rfl
              case ho => rfl
              case hc => rfl
              case hf => rfl
              case hg => first | rfl | simp [T3, T23, T24, T27, T28, T30, T35, T49, hwi, hwi1, hn1, hn2, hp1, hp2, hp3, runTakes, takeOp, effA, effOp, down, down1, hideB, keep]
              case hd => rfl
              case hnd => kernel_rfl
              case ha => simp [T3, T23, T24, T27, T28, T30, T35, T49, hwi, hwi1, hn1, hn2, hp1, hp2, hp3, runTakes, takeOp, effA, effOp, down, down1, hideB, keep]; rfl
              case hargs => rfl
              case hs => exact hrec
              rintro _ _ ⟨p, k', m', rfl, rfl, hz, hnz⟩
              rw [hfd] at hz hnz
              with_reducible apply SH.one 13
              case hr => kernel_rfl
              with_reducible apply SHo.lastX
              case hnd => kernel_rfl
              case he => simp [T3, T23, T24, T27, T28, T30, T35, T49, hbl, hτl, runTakes, takeOp, effA, effOp, down, down1, hideB, keep, lastA]; exact ⟨rfl, rfl, rfl⟩
              with_reducible apply SH.two 14 15
              case hr => kernel_rfl
              · skip
                with_reducible apply SHo.lastX
                case hnd => kernel_rfl
                case he => simp [T3, T23, T24, T27, T28, T30, T35, T49, runTakes, takeOp, effA, effOp, down, down1, hideB, keep, lastA]; exact ⟨rfl, rfl, rfl⟩
                with_reducible apply SH.two 15 16
                case hr => kernel_rfl
                · skip
                  with_reducible apply SHo.lastX
                  case hnd => kernel_rfl
                  case he => simp [T3, T23, T24, T27, T28, T30, T35, T49, runTakes, takeOp, effA, effOp, down, down1, hideB, keep, lastA]; exact ⟨rfl, rfl, rfl⟩
                  with_reducible apply SH.one 16
                  case hr => kernel_rfl
                  with_reducible apply SHo.lastX
                  case hnd => kernel_rfl
                  case he => simp [T3, T23, T24, T27, T28, T30, T35, T49, runTakes, takeOp, effA, effOp, down, down1, hideB, keep, lastA]; exact ⟨rfl, rfl, rfl⟩
                  with_reducible apply SH.one 17
                  case hr => kernel_rfl
                  with_reducible apply SHo.lastX
                  case hnd => kernel_rfl
                  case he => simp [T3, T23, T24, T27, T28, T30, T35, T49, runTakes, takeOp, effA, effOp, down, down1, hideB, keep, lastA]; exact ⟨rfl, rfl, rfl⟩
                  refine SH.done (by kernel_rfl) ?_
                  refine W.mid (p, k', m') ⟨hz, hnz⟩ ?_ ?_
                  · repeat (first | exact Sw.Sub.nil | refine Sw.Sub.cons (by simp [hfd]) ?_)
                  · simp [hbl, hτl]
                · skip
                  with_reducible apply SHo.lastX
                  case hnd => kernel_rfl
                  case he => simp [T3, T23, T24, T27, T28, T30, T35, T49, runTakes, takeOp, effA, effOp, down, down1, hideB, keep, lastA]; exact ⟨rfl, rfl, rfl⟩
                  with_reducible apply SH.one 15
                  case hr => kernel_rfl
                  with_reducible apply SHo.lastX
                  case hnd => kernel_rfl
                  case he => simp [T3, T23, T24, T27, T28, T30, T35, T49, runTakes, takeOp, effA, effOp, down, down1, hideB, keep, lastA]; exact ⟨rfl, rfl, rfl⟩
                  with_reducible apply SH.one 17
                  case hr => kernel_rfl
                  with_reducible apply SHo.lastX
                  case hnd => kernel_rfl
                  case he => simp [T3, T23, T24, T27, T28, T30, T35, T49, runTakes, takeOp, effA, effOp, down, down1, hideB, keep, lastA]; exact ⟨rfl, rfl, rfl⟩
                  refine SH.done (by kernel_rfl) ?_
                  refine W.mid (p, k', m') ⟨hz, hnz⟩ ?_ ?_
                  · repeat (first | exact Sw.Sub.nil | refine Sw.Sub.cons (by simp [hfd]) ?_)
                  · simp [hbl, hτl]
              · skip
                with_reducible apply SHo.lastX
                case hnd => kernel_rfl
                case he => simp [T3, T23, T24, T27, T28, T30, T35, T49, runTakes, takeOp, effA, effOp, down, down1, hideB, keep, lastA]; exact ⟨rfl, rfl, rfl⟩
                with_reducible apply SH.one 14
                case hr => kernel_rfl
                with_reducible apply SHo.lastX
                case hnd => kernel_rfl
                case he => simp [T3, T23, T24, T27, T28, T30, T35, T49, runTakes, takeOp, effA, effOp, down, down1, hideB, keep, lastA]; exact ⟨rfl, rfl, rfl⟩
                with_reducible apply SH.one 16
                case hr => kernel_rfl
                with_reducible apply SHo.lastX
                case hnd => kernel_rfl
                case he => simp [T3, T23, T24, T27, T28, T30, T35, T49, runTakes, takeOp, effA, effOp, down, down1, hideB, keep, lastA]; exact ⟨rfl, rfl, rfl⟩
                with_reducible apply SH.one 17
                case hr => kernel_rfl
                with_reducible apply SHo.lastX
                case hnd => kernel_rfl
                case he => simp [T3, T23, T24, T27, T28, T30, T35, T49, runTakes, takeOp, effA, effOp, down, down1, hideB, keep, lastA]; exact ⟨rfl, rfl, rfl⟩
                refine SH.done (by kernel_rfl) ?_
                refine W.mid (p, k', m') ⟨hz, hnz⟩ ?_ ?_
                · repeat (first | exact Sw.Sub.nil | refine Sw.Sub.cons (by simp [hfd]) ?_)
                · simp [hbl, hτl]
            · rintro ⟨p, k', m'⟩ ⟨hz, hnz⟩
              (try dsimp only at hz hnz ⊢)
              by_cases he : (f sj).1 = 0
              · obtain ⟨rfl, rfl, rfl⟩ := hz he
                have hfj := hfA sj hgj hle
                have hit' : iterF f y.toNat ⟨s.out, s.taken + 1⟩ = iterF f (y.toNat - (j + 1)) (f sj).2 := by
                  rw [hit, hstep]
                  generalize f sj = r at he
                  obtain ⟨e, s'⟩ := r
                  exact if_pos he
                repeat' (first
                  | with_reducible refine W.seq ?_
                  | with_reducible refine W.next ?_
                  | with_reducible refine W.nil ?_
                  | with_reducible refine W.skip ?_
                  | with_reducible refine W.ret ?_
                  | with_reducible refine W.ret_code ?_
                  | with_reducible refine W.block ?_
                  | with_reducible refine W.out ?_
                  | with_reducible refine W.ret_blk ?_
                  | with_reducible refine W.exit ?_
                  | with_reducible refine W.exit_code ?_
                  | with_reducible refine W.exit_here ?_
                  | with_reducible refine W.leave_exit ?_
                  | with_reducible refine W.leave_ret ?_
                  | ((with_reducible refine W.exit_on ?h ?_); (case h => decide))
                  | ((with_reducible apply W.reg); (case h => simp [T3, T23, T24, T27, T28, T30, T35, T49, he, hwj]; exact ⟨rfl, rfl, rfl⟩))
                  | ((with_reducible apply W.draw mixed); (case hB => kernel_rfl); (case hr => simp [T3, T23, T24, T27, T28, T30, T35, T49, he, hwj]; rfl))
                  | ((with_reducible apply W.cond); (case hc => simp; rfl); all_goals (intro hc_; try (cases hc_; done)))
                  | ((with_reducible apply W.runX); (case _hc => rfl); (case h => simp [T3, T23, T24, T27, T28, T30, T35, T49, he, hwj]; exact ⟨rfl, rfl, rfl⟩))
                  | fail)
                refine W.hand (j + 1, (f sj).2) ?_ ?_ ?_ rfl
                · exact ⟨by dsimp only; omega, hit', ⟨hfj.out, hfj.ok he⟩, Nat.le_trans hle hfj.le⟩
                · dsimp only; omega
                · repeat (first | exact Sw.Sub.nil | refine Sw.Sub.cons (by simp) ?_)
              · obtain rfl := hnz he
                have hit' : iterF f y.toNat ⟨s.out, s.taken + 1⟩ = f sj := by
                  rw [hit, hstep]
                  generalize f sj = r at he
                  obtain ⟨e, s'⟩ := r
                  exact if_neg he
                have hR1 : (allF t n codes d s0).1 = (f sj).1 := by
                  rw [heq, hit']
                  generalize f sj = r at he
                  obtain ⟨e, s'⟩ := r
                  dsimp only at he ⊢
                  simp [he]
                have heb : ((f sj).1 == 0) = false := by simpa using he
                have heb2 : ((f sj).1 != 0) = true := by simpa using he
                repeat' (first
                  | with_reducible refine W.seq ?_
                  | with_reducible refine W.next ?_
                  | with_reducible refine W.nil ?_
                  | with_reducible refine W.skip ?_
                  | with_reducible refine W.ret ?_
                  | with_reducible refine W.ret_code ?_
                  | with_reducible refine W.block ?_
                  | with_reducible refine W.out ?_
                  | with_reducible refine W.ret_blk ?_
                  | with_reducible refine W.exit ?_
                  | with_reducible refine W.exit_code ?_
                  | with_reducible refine W.exit_here ?_
                  | with_reducible refine W.leave_exit ?_
                  | with_reducible refine W.leave_ret ?_
                  | ((with_reducible refine W.exit_on ?h ?_); (case h => decide))
                  | ((with_reducible apply W.reg); (case h => simp [T3, T23, T24, T27, T28, T30, T35, T49, heb, heb2, he]; exact ⟨rfl, rfl, rfl⟩))
                  | ((with_reducible apply W.draw mixed); (case hB => kernel_rfl); (case hr => simp [T3, T23, T24, T27, T28, T30, T35, T49, heb, heb2, he]; rfl))
                  | ((with_reducible apply W.cond); (case hc => simp; rfl); all_goals (intro hc_; try (cases hc_; done)))
                  | ((with_reducible apply W.runX); (case _hc => rfl); (case h => simp [T3, T23, T24, T27, T28, T30, T35, T49, heb, heb2, he]; exact ⟨rfl, rfl, rfl⟩))
                  | fail)
                with_reducible apply W.fin
                case h1 => simp <;> rfl
                case h2 => exact wkErr _
                case h3 => simp
                case h4 => exact (hσ.clB.set (by simp)).app (by simp)
                exact hRerr _ k' m' he hR1 _ (by simp) (by simp)
          · have hjy : y.toNat - j = 0 := by omega
            have hit' : iterF f y.toNat ⟨s.out, s.taken + 1⟩ = (0, sj) := by rw [hit, hjy]; rfl
            have heq2 : allF t n codes d s0 = allF t m (rest.drop x.toNat) d sj := by rw [heq, hit']; simp
            have hwe : IntKind.i64.wrap ((i : Int) + x + 1) = (i : Int) + x + 1 := wrap64 (by omega)
            have hie : ((i + 1 + x.toNat : Nat) : Int) = (i : Int) + x + 1 := by omega
            repeat' (first
              | with_reducible refine W.seq ?_
              | with_reducible refine W.next ?_
              | with_reducible refine W.nil ?_
              | with_reducible refine W.skip ?_
              | with_reducible refine W.ret ?_
              | with_reducible refine W.ret_code ?_
              | with_reducible refine W.block ?_
              | with_reducible refine W.out ?_
              | with_reducible refine W.ret_blk ?_
              | with_reducible refine W.exit ?_
              | with_reducible refine W.exit_code ?_
              | with_reducible refine W.exit_here ?_
              | with_reducible refine W.leave_exit ?_
              | with_reducible refine W.leave_ret ?_
              | ((with_reducible refine W.exit_on ?h ?_); (case h => decide))
              | ((with_reducible apply W.reg); (case h => simp [T3, T23, T24, T27, T28, T30, T35, T49, hlt, hwix, hwe]; exact ⟨rfl, rfl, rfl⟩))
              | ((with_reducible apply W.draw mixed); (case hB => kernel_rfl); (case hr => simp [T3, T23, T24, T27, T28, T30, T35, T49, hlt, hwix, hwe]; rfl))
              | ((with_reducible apply W.cond); (case hc => simp; rfl); all_goals (intro hc_; try (cases hc_; done)))
              | ((with_reducible apply W.runX); (case _hc => rfl); (case h => simp [T3, T23, T24, T27, T28, T30, T35, T49, hlt, hwix, hwe]; exact ⟨rfl, rfl, rfl⟩))
              | fail)
            refine W.hand (i + 1 + x.toNat, sj, m) ?_ ?_ ?_ rfl
            · exact ⟨by dsimp only; omega, hgj, by dsimp only; omega, by dsimp only; omega, by dsimp only; rw [heq2, hrest, List.drop_drop]⟩
            · dsimp only; omega
            · dsimp only
              rw [hie]
              repeat (first | exact Sw.Sub.nil | refine Sw.Sub.cons (by simp) ?_)
  · have hie : codes.drop i = [] := List.drop_of_length_le (by omega)
    have hfin : allF t n codes d s0 = (0, s) := by rw [heq, hie]; cases m <;> rfl
    repeat' (first
      | with_reducible refine W.seq ?_
      | with_reducible refine W.next ?_
      | with_reducible refine W.nil ?_
      | with_reducible refine W.skip ?_
      | with_reducible refine W.ret ?_
      | with_reducible refine W.ret_code ?_
      | with_reducible refine W.block ?_
      | with_reducible refine W.out ?_
      | with_reducible refine W.ret_blk ?_
      | with_reducible refine W.exit ?_
      | with_reducible refine W.exit_code ?_
      | with_reducible refine W.exit_here ?_
      | with_reducible refine W.leave_exit ?_
      | with_reducible refine W.leave_ret ?_
      | ((with_reducible refine W.exit_on ?h ?_); (case h => decide))
      | ((with_reducible apply W.reg); (case h => simp [T3, T23, T24, T27, T28, T30, T35, T49, hil]; exact ⟨rfl, rfl, rfl⟩))
      | ((with_reducible apply W.draw mixed); (case hB => kernel_rfl); (case hr => simp [T3, T23, T24, T27, T28, T30, T35, T49, hil]; rfl))
      | ((with_reducible apply W.cond); (case hc => simp; rfl); all_goals (intro hc_; try (cases hc_; done)))
      | ((with_reducible apply W.runX); (case _hc => rfl); (case h => simp [T3, T23, T24, T27, T28, T30, T35, T49, hil]; exact ⟨rfl, rfl, rfl⟩))
      | fail)
    with_reducible apply W.fin
    case h1 => simp <;> rfl
    case h2 => exact Wk.rfl
    case h3 => simp; omega
    case h4 => exact (hσ.clB.set (by simp)).app (by simp)
    refine ⟨_, s.taken, s.out.length, by rw [hfin], by simp, fun _ => ?_, fun h => ?_⟩
    · rw [hfin]; exact ⟨rfl, rfl, rfl⟩
    · rw [hfin] at h; exact absurd rfl h


end Go.Proofs.YtgabnlkkjmepnaaDoor

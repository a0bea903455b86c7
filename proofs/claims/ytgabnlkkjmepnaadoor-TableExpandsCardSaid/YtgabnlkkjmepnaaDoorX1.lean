/- Plain laws of expansions: a later state, lists one after the other, repetitions. -/
import Derived.Test.YtgabnlkkjmepnaaDoorS13
import Derived.Test.YtgabnlkkjmepnaaDoorSwJ
import Derived.IntWalk
namespace Go.Proofs.YtgabnlkkjmepnaaDoor
open Go.Sw
set_option linter.unusedSimpArgs false
set_option linter.unusedVariables false
attribute [local simp] runOps stepOp pureOp gd isCall inN setd Sw.get params ev evs binV unV convV loadA cellsPV oneB storeA fieldAddrA fieldOff fieldA partA aggOf extractA indexAddrA indexA lenA minmaxA sliceA bnd partsA buildA placesA fillA buildSliceA zerosA chunkA TyD.agg Value.oneCell' Value.cells runPure appA appendA okRow_nil okRow_cons okRow_append resultA ressA resA List.getElem?_append List.set_append Cl_any Cl_val Cl_ptr Cl_agg Cl_tup Cl_fn Cl_rop Cl_sl Sw.take_set Sw.take_set_app Sw.take_app

def sh (pre : List Ent) (m : Nat) (s : St) : St := ⟨pre ++ s.out, s.taken + m⟩
/-- What an expansion from a later state gives, compared with the one from an earlier state. -/
def Rl (pre : List Ent) (m : Nat) (r r' : Int × St) : Prop := (r.1 = 0 → r' = (0, sh pre m r.2) ∨ r'.1 = 2) ∧ (r.1 ≠ 0 → r'.1 ≠ 0)
def RlA (n n' : Nat) (A A' : List Int → Int → St → Int × St) : Prop := ∀ codes d d' s pre m, d ≤ d' → Gd s → Gd (sh pre m s) → 501 ≤ n + s.taken → 501 ≤ n' + (s.taken + m) → Rl pre m (A codes d s) (A' codes d' (sh pre m s))

theorem Rl.bad2 {pre : List Ent} {m : Nat} {r r' : Int × St} (h : r'.1 = 2) : Rl pre m r r' := ⟨fun _ => .inr h, fun _ => by rw [h]; decide⟩
theorem Rl.ne {pre : List Ent} {m : Nat} {r r' : Int × St} (h : r.1 ≠ 0) (h' : r'.1 ≠ 0) : Rl pre m r r' := ⟨fun e => absurd e h, fun _ => h'⟩
theorem Rl.ok {pre : List Ent} {m : Nat} {s : St} : Rl pre m (0, s) (0, sh pre m s) := ⟨fun _ => .inl rfl, fun h => absurd rfl h⟩

theorem iter_rl {n n' : Nat} {f f' : St → Int × St} {pre : List Ent} {m : Nat} (hf : ∀ s, Gd s → 501 ≤ n + s.taken → Af s (f s)) (hf' : ∀ s, Gd s → 501 ≤ n' + s.taken → Af s (f' s))
    (h : ∀ s, Gd s → Gd (sh pre m s) → 501 ≤ n + s.taken → 501 ≤ n' + (s.taken + m) → Rl pre m (f s) (f' (sh pre m s))) : ∀ k s, Gd s → Gd (sh pre m s) → 501 ≤ n + s.taken → 501 ≤ n' + (s.taken + m) → Rl pre m (iterF f k s) (iterF f' k (sh pre m s))
  | 0, s, _, _, _, _ => Rl.ok
  | k + 1, s, g, g', hn, hn' => by
    have h1 := h s g g' hn hn'
    have a1 := hf s g hn
    have a2 := hf' (sh pre m s) g' hn'
    unfold iterF
    generalize f s = r at h1 a1
    generalize f' (sh pre m s) = r' at h1 a2
    obtain ⟨e, s2⟩ := r
    obtain ⟨e', s2'⟩ := r'
    dsimp only
    by_cases he : e = 0
    · subst he
      rcases h1.1 rfl with h2 | h2
      · cases h2
        rw [if_pos rfl, if_pos rfl]
        have l1 := a1.le
        have l2 := a2.le
        have q1 := a1.ok rfl
        have q2 := a2.ok rfl
        dsimp only at l1 l2 q1 q2
        refine iter_rl hf hf' h k s2 ⟨a1.out, q1⟩ ⟨a2.out, q2⟩ (by omega) ?_
        simp only [sh] at l2
        omega
      · have h2' : e' = 2 := h2
        subst h2'
        rw [if_neg (show ¬ (2 : Int) = 0 by decide)]
        exact Rl.bad2 rfl
    · have h2 : e' ≠ 0 := h1.2 he
      rw [if_neg he, if_neg h2]
      exact Rl.ne he h2

theorem entry_rl (t : Tab) (c : Int) (s : St) (pre : List Ent) (m : Nat) : Rl pre m (entryF t c s) (entryF t c (sh pre m s)) := by
  unfold entryF
  by_cases h1 : idxF (fun e => e.code == c) t.entries < 0
  · rw [if_pos h1, if_pos h1]; exact Rl.ne (show (6 : Int) ≠ 0 by decide) (show (6 : Int) ≠ 0 by decide)
  · rw [if_neg h1, if_neg h1]
    by_cases h2 : (60 : Int) ≤ ((sh pre m s).out.length : Int)
    · rw [if_pos h2]; exact Rl.bad2 rfl
    · have h3 : ¬ (60 : Int) ≤ (s.out.length : Int) := by simp [sh] at h2; omega
      rw [if_neg h2, if_neg h3]
      refine ⟨fun _ => .inl ?_, fun h => absurd rfl h⟩
      simp [sh]
theorem seq_rl {n n' : Nat} {A A' : List Int → Int → St → Int × St} (hA : RlA n n' A A') (t : Tab) (c d d' : Int) (s : St) (pre : List Ent) (m : Nat) (hd : d ≤ d') (g : Gd s) (g' : Gd (sh pre m s)) (hn : 501 ≤ n + s.taken) (hn' : 501 ≤ n' + (s.taken + m)) :
    Rl pre m (seqF t A c d s) (seqF t A' c d' (sh pre m s)) := by
  unfold seqF
  by_cases h1 : idxF (fun q => q.code == c) t.seqs < 0
  · rw [if_pos h1, if_pos h1]; exact Rl.ne (show (6 : Int) ≠ 0 by decide) (show (6 : Int) ≠ 0 by decide)
  · rw [if_neg h1, if_neg h1]
    by_cases h2 : 20 < d'
    · rw [if_pos h2]; exact Rl.bad2 rfl
    · rw [if_neg h2, if_neg (by omega)]
      exact hA _ _ _ _ _ _ (by omega) g g' hn hn'
/-- One step. -/
theorem first_rl {n n' : Nat} {A A' : List Int → Int → St → Int × St} (hA : RlA n n' A A') (hf : AfA n A) (hf' : AfA n' A') (t : Tab) (c : Int) (rest : List Int) (d d' : Int) (s : St) (pre : List Ent) (m : Nat) (hd : d ≤ d') (g : Gd s) (g' : Gd (sh pre m s))
    (hn : 501 ≤ n + 1 + s.taken) (hn' : 501 ≤ n' + 1 + (s.taken + m)) :
    Rl pre m ((firstF t A c rest d s).1, (firstF t A c rest d s).2.1) ((firstF t A' c rest d' (sh pre m s)).1, (firstF t A' c rest d' (sh pre m s)).2.1) ∧
    ((firstF t A c rest d s).1 = 0 → (firstF t A' c rest d' (sh pre m s)).1 = 0 → (firstF t A' c rest d' (sh pre m s)).2.2 = (firstF t A c rest d s).2.2) := by
  have e1 : (⟨(sh pre m s).out, (sh pre m s).taken + 1⟩ : St) = sh pre m ⟨s.out, s.taken + 1⟩ := by simp only [sh]; congr 1; omega
  by_cases h5' : (500 : Int) < ((sh pre m s).taken + 1 : Nat)
  · have hr : firstF t A' c rest d' (sh pre m s) = (2, ⟨(sh pre m s).out, (sh pre m s).taken + 1⟩, []) := by simp only [firstF]; rw [if_pos h5']
    rw [hr]
    exact ⟨Rl.bad2 rfl, fun _ h => by cases h⟩
  have h5 : ¬ (500 : Int) < (s.taken + 1 : Nat) := by simp [sh] at h5'; omega
  have g1 : Gd ⟨s.out, s.taken + 1⟩ := ⟨g.out, by dsimp only; omega⟩
  have g1' : Gd (sh pre m ⟨s.out, s.taken + 1⟩) := ⟨g'.out, by simp [sh] at h5' ⊢; omega⟩
  have hn1 : 501 ≤ n + (s.taken + 1) := by omega
  have hn1' : 501 ≤ n' + (s.taken + 1 + m) := by omega
  simp only [firstF, if_neg h5, if_neg h5', e1]
  by_cases k1 : kindF c = 1
  · rw [if_pos k1, if_pos k1]
    exact ⟨entry_rl t c _ pre m, fun _ _ => rfl⟩
  rw [if_neg k1, if_neg k1]
  by_cases k2 : kindF c = 2
  · rw [if_pos k2, if_pos k2]
    exact ⟨seq_rl hA t c d d' _ pre m hd g1 g1' hn1 hn1', fun _ _ => rfl⟩
  rw [if_neg k2, if_neg k2]
  by_cases k3 : kindF c = 3
  · rw [if_pos k3, if_pos k3]
    by_cases hs : (rest.length : Int) < (c - 20000).tdiv 100
    · rw [if_pos hs, if_pos hs]
      exact ⟨Rl.ne (show (11 : Int) ≠ 0 by decide) (show (11 : Int) ≠ 0 by decide), fun h => by cases h⟩
    rw [if_neg hs, if_neg hs]
    have h := iter_rl (f := A (rest.take ((c - 20000).tdiv 100).toNat) d) (f' := A' (rest.take ((c - 20000).tdiv 100).toNat) d') (pre := pre) (m := m) (fun s a b => hf _ _ _ a b) (fun s a b => hf' _ _ _ a b) (fun s a b p q => hA _ _ _ _ _ _ hd a b p q) ((c - 20000).tmod 100).toNat _ g1 g1' hn1 hn1'
    generalize iterF (A (rest.take ((c - 20000).tdiv 100).toNat) d) ((c - 20000).tmod 100).toNat ⟨s.out, s.taken + 1⟩ = r at h
    generalize iterF (A' (rest.take ((c - 20000).tdiv 100).toNat) d') ((c - 20000).tmod 100).toNat (sh pre m ⟨s.out, s.taken + 1⟩) = r' at h
    obtain ⟨e, s2⟩ := r
    obtain ⟨e', s2'⟩ := r'
    dsimp only
    by_cases he : e = 0 <;> by_cases he' : e' = 0
    · subst he; subst he'
      simp only [if_true]
      exact ⟨h, fun _ _ => by simp⟩
    · subst he
      rw [if_pos rfl, if_neg he']
      exact ⟨h, fun _ h => absurd h he'⟩
    · exact absurd he' (h.2 he)
    · rw [if_neg he, if_neg he']
      exact ⟨h, fun h => absurd h he⟩
  · rw [if_neg k3, if_neg k3]
    exact ⟨Rl.ne (show (1 : Int) ≠ 0 by decide) (show (1 : Int) ≠ 0 by decide), fun h => by cases h⟩
/-- From a later state and within more sequences the same comes out, or a limit is reached; an error stays an error. -/
theorem all_rl (t : Tab) : ∀ n n', RlA n n' (allF t n) (allF t n')
  | n, n', [], d, d', s, pre, m, _, _, _, _, _ => by
    have e1 : allF t n [] d s = (0, s) := by cases n <;> rfl
    have e2 : allF t n' [] d' (sh pre m s) = (0, sh pre m s) := by cases n' <;> rfl
    rw [e1, e2]; exact Rl.ok
  | 0, n', c :: rest, d, d', s, pre, m, _, g, _, hn, _ => by have := g.taken; omega
  | n + 1, 0, c :: rest, d, d', s, pre, m, _, _, g', _, hn' => by have := g'.taken; simp [sh] at this; omega
  | n + 1, n' + 1, c :: rest, d, d', s, pre, m, hd, g, g', hn, hn' => by
    have hA := all_rl t n n'
    obtain ⟨h1, h2⟩ := first_rl hA (allF_ok t n) (allF_ok t n') t c rest d d' s pre m hd g g' hn (by omega)
    obtain ⟨⟨o1, l1, q1⟩, _, _⟩ := firstF_ok (allF_ok t n) t c rest d s g hn
    obtain ⟨⟨o2, l2, q2⟩, _, _⟩ := firstF_ok (allF_ok t n') t c rest d' (sh pre m s) g' (by simp [sh]; omega)
    unfold allF
    generalize firstF t (allF t n) c rest d s = r at *
    generalize firstF t (allF t n') c rest d' (sh pre m s) = r' at *
    obtain ⟨e, s2, rs⟩ := r
    obtain ⟨e', s2', rs'⟩ := r'
    dsimp only at *
    by_cases he : e = 0
    · subst he
      rcases h1.1 rfl with h3 | h3
      · cases h3
        rw [if_pos rfl, if_pos rfl, h2 rfl rfl]
        refine hA _ _ _ _ _ _ hd ⟨o1, q1 rfl⟩ ⟨o2, q2 rfl⟩ (by omega) ?_
        simp only [sh] at l2
        omega
      · have h3' : e' = 2 := h3
        subst h3'
        rw [if_neg (show ¬ (2 : Int) = 0 by decide)]
        exact Rl.bad2 rfl
    · have h3 : e' ≠ 0 := h1.2 he
      rw [if_neg he, if_neg h3]
      exact Rl.ne he h3

theorem allF_cons (t : Tab) (n : Nat) (c : Int) (rest : List Int) (d : Int) (s : St) : allF t (n + 1) (c :: rest) d s = if (firstF t (allF t n) c rest d s).1 = 0 then allF t n (firstF t (allF t n) c rest d s).2.2 d (firstF t (allF t n) c rest d s).2.1 else ((firstF t (allF t n) c rest d s).1, (firstF t (allF t n) c rest d s).2.1) := rfl
/-- Lists one after the other: one step. -/
theorem first_app (t : Tab) (A : List Int → Int → St → Int × St) (c : Int) (rest b : List Int) (d : Int) (s : St) (h : (firstF t A c rest d s).1 = 0) : firstF t A c (rest ++ b) d s = (0, (firstF t A c rest d s).2.1, (firstF t A c rest d s).2.2 ++ b) := by
  unfold firstF at h ⊢
  dsimp only at h ⊢
  split at h
  · cases h
  rename_i h5
  rw [if_neg h5]
  simp only [if_neg h5]
  split at h
  · rename_i k1
    simp only [if_pos k1]
    exact Prod.ext h rfl
  rename_i k1
  simp only [if_neg k1]
  split at h
  · rename_i k2
    simp only [if_pos k2]
    exact Prod.ext h rfl
  rename_i k2
  simp only [if_neg k2]
  split at h
  · rename_i k3
    simp only [if_pos k3]
    split at h
    · cases h
    rename_i hs
    have hs' : ¬ ((rest ++ b).length : Int) < (c - 20000).tdiv 100 := by simp; omega
    simp only [if_neg hs, if_neg hs']
    have hx : ((c - 20000).tdiv 100).toNat ≤ rest.length := by omega
    rw [List.take_append_of_le_length hx, List.drop_append_of_le_length hx]
    generalize iterF (A (rest.take ((c - 20000).tdiv 100).toNat) d) ((c - 20000).tmod 100).toNat ⟨s.out, s.taken + 1⟩ = r at h ⊢
    obtain ⟨e, s2⟩ := r
    dsimp only at h ⊢
    split at h
    · rename_i he
      simp only [if_pos he]
    · rename_i he
      exact absurd h he
  · cases h
/-- Lists one after the other. -/
theorem all_app (t : Tab) (b : List Int) (d : Int) : ∀ (n : Nat) (a : List Int) (s s1 : St), Gd s → 501 ≤ n + s.taken → allF t n a d s = (0, s1) → Gd s1 ∧ s.taken ≤ s1.taken ∧ ∃ n', 501 ≤ n' + s1.taken ∧ allF t n (a ++ b) d s = allF t n' b d s1
  | n, [], s, s1, g, hn, h => by
    have : s1 = s := by cases n <;> (cases h; rfl)
    subst this
    exact ⟨g, Nat.le_refl _, n, hn, rfl⟩
  | 0, c :: rest, s, s1, g, hn, h => by have := g.taken; omega
  | n + 1, c :: rest, s, s1, g, hn, h => by
    obtain ⟨⟨o1, l1, q1⟩, _, _⟩ := firstF_ok (allF_ok t n) t c rest d s g hn
    have happ := first_app t (allF t n) c rest b d s
    rw [List.cons_append, allF_cons]
    rw [allF_cons] at h
    generalize firstF t (allF t n) c rest d s = r at *
    obtain ⟨e, s2, rs⟩ := r
    dsimp only at *
    by_cases he : e = 0
    · subst he
      rw [if_pos rfl] at h
      rw [happ rfl]
      dsimp only
      rw [if_pos rfl]
      obtain ⟨r1, r2, r3⟩ := all_app t b d n rs s2 s1 ⟨o1, q1 rfl⟩ (by omega) h
      exact ⟨r1, by omega, r3⟩
    · rw [if_neg he] at h
      cases h
      exact absurd rfl he


end Go.Proofs.YtgabnlkkjmepnaaDoor

/- Plain laws: a sequence stands for its codes; a replication repeats. -/
import Derived.Test.YtgabnlkkjmepnaaDoorX2
import Derived.IntWalk
namespace Go.Proofs.YtgabnlkkjmepnaaDoor
open Go.Sw
set_option linter.unusedSimpArgs false
set_option linter.unusedVariables false
attribute [local simp] runOps stepOp pureOp gd isCall inN setd Sw.get params ev evs binV unV convV loadA cellsPV oneB storeA fieldAddrA fieldOff fieldA partA aggOf extractA indexAddrA indexA lenA minmaxA sliceA bnd partsA buildA placesA fillA buildSliceA zerosA chunkA TyD.agg Value.oneCell' Value.cells runPure appA appendA okRow_nil okRow_cons okRow_append resultA ressA resA List.getElem?_append List.set_append Cl_any Cl_val Cl_ptr Cl_agg Cl_tup Cl_fn Cl_rop Cl_sl Sw.take_set Sw.take_set_app Sw.take_app

theorem firstF_fst {t : Tab} {A : List Int → Int → St → Int × St} {c : Int} {rest : List Int} {d : Int} {s : St} {e : Int} {s2 : St} {r : List Int} (h : firstF t A c rest d s = (e, s2, r)) (n : Nat) (hA : A = allF t n) : allF t (n + 1) (c :: rest) d s = if e = 0 then allF t n r d s2 else (e, s2) := by
  subst hA
  rw [allF_cons, h]
theorem expand_val {t : Tab} (hv : validateF t = 0) {codes : List Int} (hl : codes.length ≤ 20) : expandF t codes = if (allF t 501 codes 0 ⟨[], 0⟩).1 ≠ 0 then ((allF t 501 codes 0 ⟨[], 0⟩).1, []) else (0, (allF t 501 codes 0 ⟨[], 0⟩).2.out) := by
  unfold expandF
  rw [if_neg (by rw [hv]; decide), if_neg (by omega)]
theorem expand_fst {t : Tab} (hv : validateF t = 0) {codes : List Int} (hl : codes.length ≤ 20) : (expandF t codes).1 = (allF t 501 codes 0 ⟨[], 0⟩).1 := by
  rw [expand_val hv hl]
  split
  · rfl
  · rename_i h
    exact (Classical.not_not.1 h).symm
theorem expand_snd {t : Tab} (hv : validateF t = 0) {codes : List Int} (hl : codes.length ≤ 20) (h : (allF t 501 codes 0 ⟨[], 0⟩).1 = 0) : (expandF t codes).2 = (allF t 501 codes 0 ⟨[], 0⟩).2.out := by
  rw [expand_val hv hl, if_neg (by rw [h]; decide)]

/-- The drawn table with one sequence more. -/
def withSeq (t : Tab) (xs : List Int) : Tab := ⟨t.version, t.entries, t.seqs ++ [⟨12345, xs⟩]⟩
theorem idx_seq {t : Tab} (h : drawnT 1 t) (xs : List Int) : idxF (fun q : Sq => q.code == 12345) (withSeq t xs).seqs = t.seqs.length := by
  refine idxF_here (by simp [withSeq]) (by simp [withSeq]) fun j hj => ?_
  have hs := h.slen
  simp only [withSeq]
  rw [List.getElem_append_left hj]
  have := h.code j hj
  simp
  omega
theorem all_seq {t : Tab} (h : drawnT 1 t) (xs : List Int) : allF (withSeq t xs) 501 [12345] 0 ⟨[], 0⟩ = allF (withSeq t xs) 500 xs 1 ⟨[], 1⟩ := by
  have hk : kindF 12345 = 2 := kindF_2 (by decide)
  have hs : seqF (withSeq t xs) (allF (withSeq t xs) 500) 12345 0 ⟨[], 1⟩ = allF (withSeq t xs) 500 xs 1 ⟨[], 1⟩ := by
    unfold seqF
    rw [idx_seq h xs, if_neg (by omega), if_neg (by decide)]
    simp [withSeq]
  have hf : firstF (withSeq t xs) (allF (withSeq t xs) 500) 12345 [] 0 ⟨[], 0⟩ = ((allF (withSeq t xs) 500 xs 1 ⟨[], 1⟩).1, (allF (withSeq t xs) 500 xs 1 ⟨[], 1⟩).2, []) := by
    simp only [firstF]
    rw [if_neg (by decide), if_neg (by rw [hk]; decide), if_pos hk, hs]
  rw [firstF_fst hf 500 rfl]
  generalize allF (withSeq t xs) 500 xs 1 ⟨[], 1⟩ = r
  obtain ⟨e, s⟩ := r
  dsimp only
  by_cases he : e = 0
  · subst he; rw [if_pos rfl]; simp [allF]
  · rw [if_neg he]
/-- A sequence stands for its codes. -/
theorem seq_law {t : Tab} (h : drawnT 1 t) (xs : List Int) (hv : validateF (withSeq t xs) = 0) (hl : xs.length ≤ 20) :
    ((expandF (withSeq t xs) [12345]).1 ≠ 0 → (expandF (withSeq t xs) xs).1 ≠ 0 ∨ (expandF (withSeq t xs) [12345]).1 = 2) ∧
    ((expandF (withSeq t xs) [12345]).1 = 0 → (expandF (withSeq t xs) xs).1 = 0 ∧ (expandF (withSeq t xs) [12345]).2 = (expandF (withSeq t xs) xs).2 ∧
      (((expandF (withSeq t xs) [12345, 100]).1 = 0 ∧ (expandF (withSeq t xs) [12345, 100]).2.length = (expandF (withSeq t xs) [12345]).2.length + 1) ∨ (expandF (withSeq t xs) [12345, 100]).1 = 2)) := by
  have hs := all_seq h xs
  have hrl := all_rl (withSeq t xs) 501 500 xs 0 1 ⟨[], 0⟩ [] 1 (by decide) ⟨by simp, by simp⟩ ⟨by simp [sh], by simp [sh]⟩ (by decide) (by decide)
  have e0 : sh [] 1 ⟨[], 0⟩ = ⟨[], 1⟩ := rfl
  rw [e0, ← hs] at hrl
  rw [expand_fst hv (by simp), expand_fst hv hl]
  constructor
  · intro h1
    by_cases h2 : (allF (withSeq t xs) 501 xs 0 ⟨[], 0⟩).1 = 0
    · rcases hrl.1 h2 with h3 | h3
      · rw [h3] at h1; exact absurd rfl h1
      · exact .inr h3
    · exact .inl h2
  · intro h1
    have h2 : (allF (withSeq t xs) 501 xs 0 ⟨[], 0⟩).1 = 0 := Classical.byContradiction fun hn => hrl.2 hn h1
    have h3 : allF (withSeq t xs) 501 [12345] 0 ⟨[], 0⟩ = (0, sh [] 1 (allF (withSeq t xs) 501 xs 0 ⟨[], 0⟩).2) := by
      rcases hrl.1 h2 with h3 | h3
      · exact h3
      · rw [h1] at h3; cases h3
    refine ⟨h2, ?_, ?_⟩
    · rw [expand_snd hv (by simp) h1, expand_snd hv hl h2, h3]; simp [sh]
    · rw [expand_fst hv (by simp)]
      obtain ⟨g1, g2, n', g3, g4⟩ := all_app (withSeq t xs) [100] 0 501 [12345] ⟨[], 0⟩ _ ⟨by simp, by simp⟩ (by simp) h3
      have g4' : allF (withSeq t xs) 501 [12345, 100] 0 ⟨[], 0⟩ = allF (withSeq t xs) n' [100] 0 (sh [] 1 (allF (withSeq t xs) 501 xs 0 ⟨[], 0⟩).2) := g4
      have hout := expand_snd hv (codes := [12345]) (by simp) h1
      rw [h3] at hout
      dsimp only at hout
      rw [g4']
      rw [show (expandF (withSeq t xs) [12345]).2.length = (sh [] 1 (allF (withSeq t xs) 501 xs 0 ⟨[], 0⟩).2).out.length by rw [hout]]
      generalize sh [] 1 (allF (withSeq t xs) 501 xs 0 ⟨[], 0⟩).2 = s1 at *
      have h500 := g1.taken
      obtain ⟨m, rfl⟩ : ∃ m, n' = m + 1 := ⟨n' - 1, by omega⟩
      by_cases h5 : (500 : Int) < (s1.taken + 1 : Nat)
      · right
        have hf : firstF (withSeq t xs) (allF (withSeq t xs) m) 100 [] 0 s1 = (2, ⟨s1.out, s1.taken + 1⟩, []) := by simp only [firstF]; rw [if_pos h5]
        rw [firstF_fst hf m rfl, if_neg (by decide)]
      · have hc : IsE 100 := ⟨0, by decide, by decide⟩
        have hf : firstF (withSeq t xs) (allF (withSeq t xs) m) 100 [] 0 s1 = ((entryF t 100 ⟨s1.out, s1.taken + 1⟩).1, (entryF t 100 ⟨s1.out, s1.taken + 1⟩).2, []) := by
          have hk : kindF 100 = 1 := kindF_1 (by decide)
          simp only [firstF]
          rw [if_neg h5, if_pos hk]
          rfl
        obtain ⟨a1, a2⟩ := entry_ok h hc ⟨s1.out, s1.taken + 1⟩
        by_cases h60 : s1.out.length < 60
        · left
          obtain ⟨e, he⟩ := a1 h60
          rw [he] at hf
          have hall : allF (withSeq t xs) (m + 1) [100] 0 s1 = (0, ⟨s1.out ++ [e], s1.taken + 1⟩) := by
            rw [firstF_fst hf m rfl, if_pos rfl]
            cases m <;> rfl
          refine ⟨by rw [hall], ?_⟩
          rw [expand_snd hv (by simp) (by rw [g4', hall]), g4', hall]
          simp
        · right
          rw [a2 (by dsimp only; omega)] at hf
          rw [firstF_fst hf m rfl, if_neg (show ¬ (2 : Int) = 0 by decide)]
theorem expand_len (t : Tab) (codes : List Int) : (expandF t codes).2.length ≤ 60 := by
  unfold expandF
  split
  · simp
  · split
    · simp
    · split
      · simp
      · exact (allF_ok t 501 codes 0 ⟨[], 0⟩ ⟨by simp, by simp⟩ (by simp)).out
theorem expand_err (t : Tab) (codes : List Int) (h : (expandF t codes).1 ≠ 0) : (expandF t codes).2 = [] := by
  unfold expandF at h ⊢
  split
  · rfl
  · rename_i h1
    rw [if_neg h1] at h
    split
    · rfl
    · rename_i h2
      rw [if_neg h2] at h
      split
      · rfl
      · rename_i h3
        rw [if_neg h3] at h
        exact absurd rfl h


end Go.Proofs.YtgabnlkkjmepnaaDoor

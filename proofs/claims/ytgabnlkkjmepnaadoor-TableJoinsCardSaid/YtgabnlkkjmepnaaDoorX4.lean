/- Plain laws: lists one after the other, and replications, of a valid table. -/
import Derived.Test.YtgabnlkkjmepnaaDoorX3
import Derived.IntWalk
namespace Go.Proofs.YtgabnlkkjmepnaaDoor
open Go.Sw
set_option linter.unusedSimpArgs false
set_option linter.unusedVariables false
attribute [local simp] runOps stepOp pureOp gd isCall inN setd Sw.get params ev evs binV unV convV loadA cellsPV oneB storeA fieldAddrA fieldOff fieldA partA aggOf extractA indexAddrA indexA lenA minmaxA sliceA bnd partsA buildA placesA fillA buildSliceA zerosA chunkA TyD.agg Value.oneCell' Value.cells runPure appA appendA okRow_nil okRow_cons okRow_append resultA ressA resA List.getElem?_append List.set_append Cl_any Cl_val Cl_ptr Cl_agg Cl_tup Cl_fn Cl_rop Cl_sl Sw.take_set Sw.take_set_app Sw.take_app

theorem first_app2 (t : Tab) (A : List Int → Int → St → Int × St) (c : Int) (rest b : List Int) (d : Int) (s : St) (h : (firstF t A c rest d s).1 = 2) : (firstF t A c (rest ++ b) d s).1 = 2 := by
  unfold firstF at h ⊢
  dsimp only at h ⊢
  split at h
  · rename_i h5; rw [if_pos h5]
  rename_i h5
  rw [if_neg h5]
  split at h
  · rename_i k1
    rw [if_pos k1]; exact h
  rename_i k1
  rw [if_neg k1]
  split at h
  · rename_i k2
    rw [if_pos k2]; exact h
  rename_i k2
  rw [if_neg k2]
  split at h
  · rename_i k3
    rw [if_pos k3]
    split at h
    · cases h
    rename_i hs
    have hs' : ¬ ((rest ++ b).length : Int) < (c - 20000).tdiv 100 := by simp; omega
    rw [if_neg hs']
    have hx : ((c - 20000).tdiv 100).toNat ≤ rest.length := by omega
    rw [List.take_append_of_le_length hx]
    generalize iterF (A (rest.take ((c - 20000).tdiv 100).toNat) d) ((c - 20000).tmod 100).toNat ⟨s.out, s.taken + 1⟩ = r at h ⊢
    obtain ⟨e, s2⟩ := r
    dsimp only at h ⊢
    split at h
    · cases h
    · rename_i he
      rw [if_neg he]; exact h
  · cases h
theorem all_app2 (t : Tab) (b : List Int) (d : Int) : ∀ (n : Nat) (a : List Int) (s : St), Gd s → 501 ≤ n + s.taken → (allF t n a d s).1 = 2 → (allF t n (a ++ b) d s).1 = 2
  | n, [], s, g, hn, h => by
    have : allF t n [] d s = (0, s) := by cases n <;> rfl
    rw [this] at h; cases h
  | 0, c :: rest, s, g, hn, h => by have := g.taken; omega
  | n + 1, c :: rest, s, g, hn, h => by
    obtain ⟨⟨o1, l1, q1⟩, _, _⟩ := firstF_ok (allF_ok t n) t c rest d s g hn
    have happ := first_app t (allF t n) c rest b d s
    have happ2 := first_app2 t (allF t n) c rest b d s
    rw [List.cons_append, allF_cons]
    rw [allF_cons] at h
    generalize firstF t (allF t n) c rest d s = r at *
    obtain ⟨e, s2, rs⟩ := r
    dsimp only at *
    by_cases he : e = 0
    · subst he
      rw [if_pos rfl] at h
      rw [happ rfl]
      dsimp only
      rw [if_pos rfl]
      exact all_app2 t b d n rs s2 ⟨o1, q1 rfl⟩ (by omega) h
    · rw [if_neg he] at h
      have := happ2 h
      rw [if_neg (by rw [this]; decide)]
      exact this
theorem g0 : Gd ⟨[], 0⟩ := ⟨by simp, by simp⟩
theorem sh0 (s : St) : sh s.out s.taken ⟨[], 0⟩ = s := by simp [sh]
/-- Two lists one after the other. -/
theorem joins1 {t : Tab} (hv : validateF t = 0) (a b : List Int) (ha : a.length + b.length ≤ 20) (h : (expandF t a).1 = 0) :
    ((expandF t b).1 = 0 → (expandF t (a ++ b)).1 = 0 → (expandF t (a ++ b)).2 = (expandF t a).2 ++ (expandF t b).2) ∧ ((expandF t b).1 ≠ 0 → (expandF t (a ++ b)).1 ≠ 0) := by
  have hla : a.length ≤ 20 := by omega
  have hlb : b.length ≤ 20 := by omega
  have hlab : (a ++ b).length ≤ 20 := by simp; omega
  rw [expand_fst hv hla] at h
  rw [expand_fst hv hlb, expand_fst hv hlab]
  have h1 : allF t 501 a 0 ⟨[], 0⟩ = (0, (allF t 501 a 0 ⟨[], 0⟩).2) := Prod.ext h rfl
  obtain ⟨g1, _, n', hn', heq⟩ := all_app t b 0 501 a ⟨[], 0⟩ _ g0 (by decide) h1
  have hsa := expand_snd hv hla h
  generalize (allF t 501 a 0 ⟨[], 0⟩).2 = s1 at *
  have hrl := all_rl t 501 n' b 0 0 ⟨[], 0⟩ s1.out s1.taken (by decide) g0 (by rw [sh0]; exact g1) (by decide) (by simpa using hn')
  rw [sh0, ← heq] at hrl
  constructor
  · intro h2 h3
    rcases hrl.1 h2 with h4 | h4
    · rw [expand_snd hv hlab h3, hsa, expand_snd hv hlb h2, h4]
      simp [sh]
    · rw [h3] at h4; cases h4
  · exact hrl.2
def rpt {α : Type} (y : Nat) (l : List α) : List α := (List.replicate y l).flatten
theorem rpt_succ {α : Type} (y : Nat) (l : List α) : rpt (y + 1) l = l ++ rpt y l := by simp [rpt, List.replicate_succ]
theorem rpt_succ' {α : Type} (y : Nat) (l : List α) : rpt (y + 1) l = rpt y l ++ l := by simp [rpt, List.replicate_succ']
theorem rpt_len {α : Type} (y : Nat) (l : List α) : (rpt y l).length = y * l.length := by simp [rpt]
theorem mem_rpt {α : Type} {y : Nat} {l : List α} {x : α} (h : x ∈ rpt y l) : x ∈ l := by
  simp [rpt] at h
  obtain ⟨l', ⟨_, rfl⟩, h⟩ := h
  exact h
theorem iter_rpt {t : Tab} {c : List Int} {sc : St} (n : Nat) (h : allF t 501 c 0 ⟨[], 0⟩ = (0, sc)) : ∀ (y : Nat) (s : St), Gd s → 501 ≤ n + s.taken → (iterF (allF t n c 0) y s).1 = 2 ∨ iterF (allF t n c 0) y s = (0, ⟨s.out ++ rpt y sc.out, s.taken + y * sc.taken⟩)
  | 0, s, g, hn => .inr (by simp [iterF, rpt])
  | y + 1, s, g, hn => by
    have hrl := all_rl t 501 n c 0 0 ⟨[], 0⟩ s.out s.taken (by decide) g0 (by rw [sh0]; exact g) (by decide) (by simpa using hn)
    have haf := allF_ok t n c 0 s g hn
    rw [sh0, h] at hrl
    unfold iterF
    rcases hrl.1 rfl with h1 | h1
    · rw [h1] at haf ⊢
      dsimp only
      rw [if_pos rfl]
      have l1 := haf.le
      rcases iter_rpt n h y _ ⟨haf.out, haf.ok rfl⟩ (by dsimp only at l1 ⊢; omega) with h2 | h2
      · exact .inl h2
      · right
        rw [h2, rpt_succ, Nat.succ_mul]
        simp [sh]
        omega
    · left
      generalize allF t n c 0 s = r at h1
      obtain ⟨e, s2⟩ := r
      dsimp only at h1 ⊢
      rw [h1, if_neg (show ¬ (2 : Int) = 0 by decide)]
theorem all_rpt {t : Tab} {c : List Int} {sc : St} (h : allF t 501 c 0 ⟨[], 0⟩ = (0, sc)) : ∀ (y n : Nat) (s : St), Gd s → 501 ≤ n + s.taken → (allF t n (rpt y c) 0 s).1 = 2 ∨ allF t n (rpt y c) 0 s = (0, ⟨s.out ++ rpt y sc.out, s.taken + y * sc.taken⟩)
  | 0, n, s, g, hn => .inr (by cases n <;> simp [rpt, allF])
  | y + 1, n, s, g, hn => by
    have hrl := all_rl t 501 n c 0 0 ⟨[], 0⟩ s.out s.taken (by decide) g0 (by rw [sh0]; exact g) (by decide) (by simpa using hn)
    rw [sh0, h] at hrl
    rw [rpt_succ]
    rcases hrl.1 rfl with h1 | h1
    · obtain ⟨g1, _, n', hn', heq⟩ := all_app t (rpt y c) 0 n c s _ g hn h1
      rw [heq]
      rcases all_rpt h y n' _ g1 hn' with h2 | h2
      · exact .inl h2
      · right
        rw [h2, rpt_succ, Nat.succ_mul]
        simp [sh]
        omega
    · exact .inl (all_app2 t _ 0 n c s g hn h1)
/-- A replication is the same as its codes several times. -/
theorem joins2 {t : Tab} (hv : validateF t = 0) (c : List Int) (n : Nat) (hc : 1 ≤ c.length ∧ c.length ≤ 3) (hn : 1 ≤ n ∧ n ≤ 3) :
    ((expandF t c).1 ≠ 0 → (expandF t ((20000 + 100 * (c.length : Int) + (n : Int)) :: c)).1 ≠ 0) ∧
    ((expandF t c).1 = 0 → (expandF t ((20000 + 100 * (c.length : Int) + (n : Int)) :: c)).1 = 2 ∨ (expandF t (rpt n c)).1 = 2 ∨
      ((expandF t ((20000 + 100 * (c.length : Int) + (n : Int)) :: c)).1 = 0 ∧ (expandF t (rpt n c)).1 = 0 ∧ (expandF t ((20000 + 100 * (c.length : Int) + (n : Int)) :: c)).2 = (expandF t (rpt n c)).2)) := by
  obtain ⟨d1, d2⟩ := rep_div (x := c.length) (y := n) (by omega) (by omega)
  have hk := kindF_3 (x := c.length) (y := n) (by omega) (by omega)
  have hlr : (rpt n c).length ≤ 20 := by
    rw [rpt_len]
    have := Nat.mul_le_mul hn.2 hc.2
    omega
  have hl1 : ((20000 + 100 * (c.length : Int) + (n : Int)) :: c).length ≤ 20 := by simp; omega
  have hall : allF t 501 ((20000 + 100 * (c.length : Int) + (n : Int)) :: c) 0 ⟨[], 0⟩ = iterF (allF t 500 c 0) n ⟨[], 1⟩ := by
    have hf : firstF t (allF t 500) (20000 + 100 * (c.length : Int) + (n : Int)) c 0 ⟨[], 0⟩ = match iterF (allF t 500 c 0) n ⟨[], 1⟩ with
        | (e, s2) => if e = 0 then (0, s2, []) else (e, s2, []) := by
      simp only [firstF]
      rw [if_neg (by decide), if_neg (by rw [hk]; decide), if_neg (by rw [hk]; decide), if_pos hk, d1, d2, if_neg (by omega)]
      simp
    rw [allF_cons, hf]
    generalize iterF (allF t 500 c 0) n ⟨[], 1⟩ = r
    obtain ⟨e, s2⟩ := r
    dsimp only
    by_cases he : e = 0
    · subst he; simp [allF]
    · simp only [if_neg he]
  rw [expand_fst hv (by omega), expand_fst hv hl1, expand_fst hv hlr, hall]
  constructor
  · intro h
    obtain ⟨m, rfl⟩ : ∃ m, n = m + 1 := ⟨n - 1, by omega⟩
    have hrl := all_rl t 501 500 c 0 0 ⟨[], 0⟩ [] 1 (by decide) g0 ⟨by simp [sh], by simp [sh]⟩ (by decide) (by decide)
    have h1 := hrl.2 h
    have e0 : sh [] 1 ⟨[], 0⟩ = ⟨[], 1⟩ := rfl
    rw [e0] at h1
    unfold iterF
    generalize allF t 500 c 0 ⟨[], 1⟩ = r at h1
    obtain ⟨e, s2⟩ := r
    dsimp only at h1 ⊢
    rw [if_neg h1]
    exact h1
  · intro h
    have h1 : allF t 501 c 0 ⟨[], 0⟩ = (0, (allF t 501 c 0 ⟨[], 0⟩).2) := Prod.ext h rfl
    rcases iter_rpt 500 h1 n ⟨[], 1⟩ ⟨by simp, by simp⟩ (by simp) with h2 | h2
    · exact .inl h2
    · rcases all_rpt h1 n 501 ⟨[], 0⟩ g0 (by simp) with h3 | h3
      · exact .inr (.inl h3)
      · right; right
        refine ⟨by rw [h2], by rw [h3], ?_⟩
        rw [expand_snd hv hl1 (by rw [hall, h2]), expand_snd hv hlr (by rw [h3]), hall, h2, h3]


end Go.Proofs.YtgabnlkkjmepnaaDoor

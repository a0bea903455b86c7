/- Plain laws of the tables that are drawn. -/
import Derived.Test.YtgabnlkkjmepnaaDoorX1
import Derived.Test.YtgabnlkkjmepnaaDoorS16
import Derived.IntWalk
namespace Go.Proofs.YtgabnlkkjmepnaaDoor
open Go.Sw
set_option linter.unusedSimpArgs false
set_option linter.unusedVariables false
attribute [local simp] runOps stepOp pureOp gd isCall inN setd Sw.get params ev evs binV unV convV loadA cellsPV oneB storeA fieldAddrA fieldOff fieldA partA aggOf extractA indexAddrA indexA lenA minmaxA sliceA bnd partsA buildA placesA fillA buildSliceA zerosA chunkA TyD.agg Value.oneCell' Value.cells runPure appA appendA okRow_nil okRow_cons okRow_append resultA ressA resA List.getElem?_append List.set_append Cl_any Cl_val Cl_ptr Cl_agg Cl_tup Cl_fn Cl_rop Cl_sl Sw.take_set Sw.take_set_app Sw.take_app

theorem kindF_1 {c : Int} (h : 1 ≤ c ∧ c < 10000) : kindF c = 1 := by
  unfold kindF; rw [if_neg (by omega), if_pos (by omega)]
theorem kindF_2 {c : Int} (h : 10000 ≤ c ∧ c < 20000) : kindF c = 2 := by
  unfold kindF; rw [if_neg (by omega), if_neg (by omega), if_pos (by omega)]
theorem rep_div {x y : Int} (hx : 0 ≤ x) (hy : 0 ≤ y ∧ y < 100) : (20000 + 100 * x + y - 20000).tdiv 100 = x ∧ (20000 + 100 * x + y - 20000).tmod 100 = y := by
  have e : 20000 + 100 * x + y - 20000 = 100 * x + y := by omega
  rw [e]
  have h0 : 0 ≤ 100 * x + y := by omega
  rw [Int.tdiv_eq_ediv_of_nonneg h0, Int.tmod_eq_emod_of_nonneg h0]
  exact ⟨by omega, by omega⟩
theorem kindF_3 {x y : Int} (hx : 1 ≤ x ∧ x ≤ 20) (hy : 1 ≤ y ∧ y ≤ 20) : kindF (20000 + 100 * x + y) = 3 := by
  obtain ⟨h1, h2⟩ := rep_div (x := x) (y := y) (by omega) (by omega)
  unfold kindF
  rw [if_neg (by omega), if_neg (by omega), if_neg (by omega), h1, h2, if_pos ⟨hx.1, hx.2, hy.1, hy.2⟩]

theorem leastF_bnd {k : Nat} (h : 1 ≤ k ∧ k ≤ 11) : -1000 ≤ leastF k ∧ leastF k ≤ 8000 := by
  have : k = 1 ∨ k = 2 ∨ k = 3 ∨ k = 4 ∨ k = 5 ∨ k = 6 ∨ k = 7 ∨ k = 8 ∨ k = 9 ∨ k = 10 ∨ k = 11 := by omega
  rcases this with rfl | rfl | rfl | rfl | rfl | rfl | rfl | rfl | rfl | rfl | rfl <;> decide
theorem drawnE.ent {k : Nat} {e : Ent} (h : drawnE k e) (hk : 1 ≤ k ∧ k ≤ 11) : EntOK e := by
  have hl := leastF_bnd hk
  have h1 := h.code
  have h2 := h.element
  have h3 := h.least
  have h4 := h.scale
  have h5 := h.width
  exact ⟨⟨by omega, by omega⟩, ⟨by omega, by omega⟩, ⟨by omega, by omega⟩, ⟨by omega, by omega⟩, ⟨by omega, by omega⟩⟩
theorem drawnE.valid {k : Nat} {e : Ent} (h : drawnE k e) (hk : 1 ≤ k ∧ k ≤ 11) : validB e = true ∧ isEl e.element = true := by
  have hl := leastF_bnd hk
  have h1 := h.code
  have h2 := h.element
  have h3 := h.least
  have h4 := h.scale
  have h5 := h.width
  have he : isEl e.element = true := by simp [isEl]; omega
  exact ⟨(validB_iff e).2 ⟨kindF_1 (by omega), he, by omega, by omega, by omega, by omega, by omega, by omega⟩, he⟩
theorem drawnT.entry {v : Int} {t : Tab} (h : drawnT v t) {e : Ent} (he : e ∈ t.entries) : ∃ k, 1 ≤ k ∧ k ≤ 11 ∧ drawnE k e := by
  obtain ⟨i, hi, rfl⟩ := List.getElem_of_mem he
  have := h.elen
  exact ⟨i + 1, by omega, by omega, h.ent i hi⟩
theorem drawnT.ok {v : Int} {t : Tab} (h : drawnT v t) (hv : I64 v) : TabOK t where
  version := by rw [h.version]; exact hv
  entries := fun e he => by
    obtain ⟨k, h1, h2, h3⟩ := h.entry he
    exact h3.ent ⟨h1, h2⟩
  seqs := fun q hq => by
    obtain ⟨i, hi, rfl⟩ := List.getElem_of_mem hq
    have h1 := h.code i hi
    have h2 := h.slen
    obtain ⟨h3, h4⟩ := h.codes _ hq
    exact ⟨⟨by omega, by omega⟩, fun c hc => by obtain ⟨a, b, _⟩ := h4 c hc; exact ⟨by omega, by omega⟩, by omega⟩
  elen := by rw [h.elen]; decide
  slen := by have := h.slen; omega
theorem drawnT.ekeys {v : Int} {t : Tab} (h : drawnT v t) : t.entries.map (·.code) = (List.range 11).map (fun k : Nat => (100 * ((k : Int) + 1))) := by
  refine List.ext_getElem (by simp [h.elen]) fun i h1 h2 => ?_
  simp at h1 h2
  simp only [List.getElem_map, List.getElem_range]
  rw [(h.ent i h1).code]; simp
theorem drawnT.skeys {v : Int} {t : Tab} (h : drawnT v t) : t.seqs.map (·.code) = (List.range t.seqs.length).map (fun k : Nat => (10000 + (k : Int))) := by
  refine List.ext_getElem (by simp) fun i h1 h2 => ?_
  simp at h1 h2
  simp only [List.getElem_map, List.getElem_range]
  exact h.code i h1
theorem drawnT.nodup {v : Int} {t : Tab} (h : drawnT v t) : (tabKeys t).Nodup := by
  unfold tabKeys
  rw [h.ekeys, h.skeys]
  have hs := h.slen
  have : t.seqs.length = 0 ∨ t.seqs.length = 1 ∨ t.seqs.length = 2 ∨ t.seqs.length = 3 := by omega
  rcases this with e | e | e | e <;> rw [e] <;> decide
theorem drawnT.dup {v : Int} {t : Tab} (h : drawnT v t) : dupB t = false := by
  unfold dupB
  have := keyCount_lt (tabKeys t)
  simp only [decide_eq_false_iff_not]
  intro hlt
  exact (this.1 hlt) h.nodup
/-- A drawn table is valid. -/
theorem drawnT.valid {t : Tab} (h : drawnT 1 t) : validateF t = 0 := by
  have hs := h.slen
  have h1 : t.seqs.any (fun q => decide (20 < q.codes.length)) = false := by
    rw [List.any_eq_false]
    intro q hq
    have := (h.codes q hq).1
    simp; omega
  have h2 : t.entries.any (fun e => !isEl e.element) = false := by
    rw [List.any_eq_false]
    intro e he
    obtain ⟨k, a, b, c⟩ := h.entry he
    simp [(c.valid ⟨a, b⟩).2]
  have h3 : t.entries.any (fun e => !validB e) = false := by
    rw [List.any_eq_false]
    intro e he
    obtain ⟨k, a, b, c⟩ := h.entry he
    simp [(c.valid ⟨a, b⟩).1]
  have h4 : t.seqs.any (fun q => !properB q) = false := by
    rw [List.any_eq_false]
    intro q hq
    obtain ⟨i, hi, rfl⟩ := List.getElem_of_mem hq
    have c1 := h.code i hi
    have hk : kindF t.seqs[i].code = 2 := kindF_2 (by omega)
    have h5 : (t.seqs[i].codes.any fun c => kindF c == 0) = false := by
      rw [List.any_eq_false]
      intro c hc
      have := ((h.codes _ hq).2 c hc).2.2
      simpa using this
    simp [properB, hk, h5]
  unfold validateF
  rw [if_neg (by rw [h.version]; decide), if_neg (by rw [h.elen, h1]; simp; omega), if_neg (by rw [h2]; decide), if_neg (by rw [h3, h4]; simp), if_neg (by rw [h.dup]; decide)]

/-- The place of an entry. -/
theorem drawnT.idx {v : Int} {t : Tab} (h : drawnT v t) {k : Nat} (hk : k < 11) : idxF (fun e => e.code == 100 * ((k : Int) + 1)) t.entries = k := by
  have hl : k < t.entries.length := by rw [h.elen]; exact hk
  refine idxF_here hl ?_ fun j hj => ?_
  · have := (h.ent k hl).code
    simp; rw [this]; simp
  · have := (h.ent j (by omega)).code
    simp; rw [this]; simp; omega
/-- The codes of entries. -/
def IsE (c : Int) : Prop := ∃ k : Nat, k < 11 ∧ c = 100 * ((k : Int) + 1)
theorem entry_ok {v : Int} {t : Tab} (h : drawnT v t) {c : Int} (hc : IsE c) (s : St) : (s.out.length < 60 → ∃ e, entryF t c s = (0, ⟨s.out ++ [e], s.taken⟩)) ∧ (60 ≤ s.out.length → entryF t c s = (2, s)) := by
  obtain ⟨k, hk, rfl⟩ := hc
  unfold entryF
  rw [h.idx hk]
  constructor
  · intro hl
    exact ⟨_, by rw [if_neg (by omega), if_neg (by omega)]⟩
  · intro hl
    rw [if_neg (by omega), if_pos (by omega)]
theorem first_e {v : Int} {t : Tab} (h : drawnT v t) {c : Int} (hc : IsE c) (A : List Int → Int → St → Int × St) (rest : List Int) (d : Int) (s : St) (hs : s.taken + 1 ≤ 500) : firstF t A c rest d s = ((entryF t c ⟨s.out, s.taken + 1⟩).1, (entryF t c ⟨s.out, s.taken + 1⟩).2, rest) := by
  have hk : kindF c = 1 := by obtain ⟨k, hk, rfl⟩ := hc; exact kindF_1 (by omega)
  simp only [firstF]
  rw [if_neg (by omega), if_pos hk]
/-- A list of codes of entries. -/
theorem ents {v : Int} {t : Tab} (h : drawnT v t) (d : Int) : ∀ (n : Nat) (cs : List Int) (s : St), (∀ c ∈ cs, IsE c) → Gd s → 501 ≤ n + s.taken →
    (s.out.length + cs.length ≤ 60 → s.taken + cs.length ≤ 500 → ∃ o, o.length = cs.length ∧ allF t n cs d s = (0, ⟨s.out ++ o, s.taken + cs.length⟩)) ∧ (60 < s.out.length + cs.length → s.taken + 61 ≤ 500 + s.out.length → (allF t n cs d s).1 = 2)
  | n, [], s, _, g, _ => by
    have e : allF t n [] d s = (0, s) := by cases n <;> rfl
    have := g.out
    exact ⟨fun _ _ => ⟨[], rfl, by rw [e]; simp⟩, fun h => by simp at h; omega⟩
  | 0, c :: cs, s, _, g, hn => by have := g.taken; omega
  | n + 1, c :: cs, s, hc, g, hn => by
    have g1 := g.out
    obtain ⟨a1, a2⟩ := entry_ok h (hc c (by simp)) ⟨s.out, s.taken + 1⟩
    constructor
    · intro h1 h2
      simp only [List.length_cons] at h1 h2
      obtain ⟨e, he⟩ := a1 (by dsimp only; omega)
      rw [allF_cons, first_e h (hc c (by simp)) _ _ _ _ (by omega), he]
      dsimp only
      rw [if_pos rfl]
      obtain ⟨o, q1, q2⟩ := (ents h d n cs ⟨s.out ++ [e], s.taken + 1⟩ (fun c' hc' => hc c' (by simp [hc'])) ⟨by simp; omega, by dsimp only; omega⟩ (by dsimp only; omega)).1 (by simp; omega) (by dsimp only; omega)
      refine ⟨e :: o, by simp [q1], ?_⟩
      rw [q2]
      simp
      omega
    · intro h1 h2
      simp only [List.length_cons] at h1
      by_cases h60 : s.out.length < 60
      · obtain ⟨e, he⟩ := a1 h60
        rw [allF_cons, first_e h (hc c (by simp)) _ _ _ _ (by omega), he]
        dsimp only
        rw [if_pos rfl]
        exact (ents h d n cs ⟨s.out ++ [e], s.taken + 1⟩ (fun c' hc' => hc c' (by simp [hc'])) ⟨by simp; omega, by dsimp only; omega⟩ (by dsimp only; omega)).2 (by simp; omega) (by simp; omega)
      · rw [allF_cons, first_e h (hc c (by simp)) _ _ _ _ (by omega), a2 (by dsimp only; omega)]
        rw [if_neg (show ¬ (2 : Int) = 0 by decide)]
theorem iter_e {v : Int} {t : Tab} (h : drawnT v t) (d : Int) (n : Nat) (cs : List Int) (hc : ∀ c ∈ cs, IsE c) : ∀ (y : Nat) (s : St), Gd s → 501 ≤ n + s.taken →
    (s.out.length + cs.length * y ≤ 60 → s.taken + cs.length * y ≤ 500 → ∃ o, o.length = cs.length * y ∧ iterF (allF t n cs d) y s = (0, ⟨s.out ++ o, s.taken + cs.length * y⟩)) ∧ (60 < s.out.length + cs.length * y → s.taken + 61 ≤ 500 + s.out.length → (iterF (allF t n cs d) y s).1 = 2)
  | 0, s, g, _ => by
    have := g.out
    exact ⟨fun _ _ => ⟨[], rfl, by simp [iterF]⟩, fun h => by simp at h; omega⟩
  | y + 1, s, g, hn => by
    have g1 := g.out
    obtain ⟨a1, a2⟩ := ents h d n cs s hc g hn
    rw [Nat.mul_succ]
    constructor
    · intro h1 h2
      obtain ⟨o, q1, q2⟩ := a1 (by omega) (by omega)
      obtain ⟨o2, q3, q4⟩ := (iter_e h d n cs hc y ⟨s.out ++ o, s.taken + cs.length⟩ ⟨by simp; omega, by dsimp only; omega⟩ (by dsimp only; omega)).1 (by simp; omega) (by dsimp only; omega)
      refine ⟨o ++ o2, by simp [q1, q3]; omega, ?_⟩
      unfold iterF
      rw [q2]
      dsimp only
      rw [if_pos rfl, q4]
      simp
      omega
    · intro h1 h2
      by_cases h60 : s.out.length + cs.length ≤ 60
      · obtain ⟨o, q1, q2⟩ := a1 h60 (by omega)
        unfold iterF
        rw [q2]
        dsimp only
        rw [if_pos rfl]
        exact (iter_e h d n cs hc y ⟨s.out ++ o, s.taken + cs.length⟩ ⟨by simp; omega, by dsimp only; omega⟩ (by dsimp only; omega)).2 (by simp; omega) (by simp; omega)
      · have h3 := a2 (by omega) h2
        unfold iterF
        generalize allF t n cs d s = r at h3
        obtain ⟨e, s2⟩ := r
        dsimp only at h3 ⊢
        rw [h3, if_neg (show ¬ (2 : Int) = 0 by decide)]
/-- A replication of codes of entries. -/
theorem expand_rep {t : Tab} (h : drawnT 1 t) (cs : List Int) (hc : ∀ c ∈ cs, IsE c) (y : Nat) (hx : 1 ≤ cs.length ∧ cs.length ≤ 19) (hy : 1 ≤ y ∧ y ≤ 20) :
    (cs.length * y ≤ 60 → ∃ o, o.length = cs.length * y ∧ expandF t ((20000 + 100 * (cs.length : Int) + (y : Int)) :: cs) = (0, o)) ∧ (60 < cs.length * y → expandF t ((20000 + 100 * (cs.length : Int) + (y : Int)) :: cs) = (2, [])) := by
  obtain ⟨d1, d2⟩ := rep_div (x := cs.length) (y := y) (by omega) (by omega)
  have hk := kindF_3 (x := cs.length) (y := y) (by omega) (by omega)
  have hf : ∀ s : St, s = ⟨[], 0⟩ → firstF t (allF t 500) (20000 + 100 * (cs.length : Int) + (y : Int)) cs 0 s = match iterF (allF t 500 cs 0) y ⟨[], 1⟩ with
      | (e, s2) => if e = 0 then (0, s2, []) else (e, s2, []) := by
    rintro s rfl
    simp only [firstF]
    rw [if_neg (by decide), if_neg (by rw [hk]; decide), if_neg (by rw [hk]; decide), if_pos hk, d1, d2, if_neg (by omega)]
    simp
  obtain ⟨a1, a2⟩ := iter_e h 0 500 cs hc y ⟨[], 1⟩ ⟨by simp, by simp⟩ (by simp)
  have hv := h.valid
  have hall : allF t 501 ((20000 + 100 * (cs.length : Int) + (y : Int)) :: cs) 0 ⟨[], 0⟩ = iterF (allF t 500 cs 0) y ⟨[], 1⟩ := by
    rw [allF_cons, hf _ rfl]
    generalize iterF (allF t 500 cs 0) y ⟨[], 1⟩ = r
    obtain ⟨e, s2⟩ := r
    dsimp only
    by_cases he : e = 0
    · subst he; simp [allF]
    · simp only [if_neg he]
  constructor
  · intro h1
    obtain ⟨o, q1, q2⟩ := a1 (by simpa using h1) (by dsimp only; omega)
    refine ⟨o, q1, ?_⟩
    unfold expandF
    rw [if_neg (by rw [hv]; decide), if_neg (by simp; omega), hall, q2]
    simp
  · intro h1
    have q := a2 (by simpa using h1) (by simp)
    unfold expandF
    rw [if_neg (by rw [hv]; decide), if_neg (by simp; omega), hall, q]
    simp

/-- The table without entries. -/
def T0 : Tab := ⟨1, [], [⟨10000, [20120, 10001]⟩, ⟨10001, [20120, 10002]⟩, ⟨10002, [20120, 10003]⟩, ⟨10003, []⟩]⟩
theorem exp0 : expandF T0 [10000] = (2, []) := by decide +kernel
theorem exp0' : expandF T0 [10002] = (0, []) := by decide +kernel
theorem T0_ok : TabOK T0 := ⟨by unfold I64 T0; decide, fun e he => by simp [T0] at he, fun q hq => by
  simp only [T0, List.mem_cons, List.not_mem_nil, or_false] at hq
  rcases hq with rfl | rfl | rfl | rfl <;> exact ⟨by unfold I64; decide, by unfold I64; decide, by decide⟩, by decide, by decide⟩


end Go.Proofs.YtgabnlkkjmepnaaDoor

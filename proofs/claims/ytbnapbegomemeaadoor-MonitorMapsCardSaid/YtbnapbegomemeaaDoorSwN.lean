/- The logic Sw: the first n operations of a region; loops that let objects go, for any program. -/
import Derived.Test.YtbnapbegomemeaaDoorSwM
import Derived.Carry
namespace Go.Sw
open Go.RowKit
section
variable {C : Cx} {w0 : World} {base : Nat} {σ : AS} {s : S}
variable {F : Fx} {ops : Array Oper} {Q : Post} {pf : PF}

theorem SL.runN {l2 : List Oper} : ∀ {l : List Oper} {pf pf' : PF} {σ σ' : AS}, runOps C F.N ops l pf σ = some (pf', σ', []) → SL C F ops l2 Q pf' σ' → SL C F ops (l ++ l2) Q pf σ
  | [], pf, pf', σ, σ', h, hk => by cases h; exact hk
  | o :: r, pf, pf', σ, σ', h, hk => by
    simp only [runOps] at h
    split at h <;> try cases h
    · rename_i hg
      split at h
      · cases h
      · split at h <;> try cases h
        rename_i hd
        split at h <;> try cases h
        rename_i p σ1 hs
        exact SL.guarded hg (SL.eff (o := { o with guard := none }) rfl hd (stepOp_ok hs) (SL.runN h hk))
    · rename_i hg
      split at h <;> try cases h
      rename_i hd
      exact SL.skipped hg hd (SL.runN h hk)

/-- The first n operations of a region. -/
theorem W.regN {k : List KI} {id : Nat} {pf' : PF} {σ' : AS} (n : Nat) (h : runOps C F.N ops (ops.toList.take n) pf σ = some (pf', σ', [])) (hk : SL C F ops (ops.toList.drop n) (Cont C F Q k) pf' σ') : SW C F (.region id ops false) (Cont C F Q k) pf σ := by
  refine SW.region ?_
  rw [← List.take_append_drop n ops.toList]
  exact SL.runN h hk
theorem W.runN {k : List KI} {l : List Oper} {pf' : PF} {σ' : AS} (n : Nat) (h : runOps C F.N ops (l.take n) pf σ = some (pf', σ', [])) (hk : SL C F ops (l.drop n) (Cont C F Q k) pf' σ') : SL C F ops l (Cont C F Q k) pf σ := by
  rw [← List.take_append_drop n l]
  exact SL.runN h hk
/-- A list of operations that is drawn out. -/
theorem W.list {k : List KI} {l l' : List Oper} (e : l = l') (h : SL C F ops l' (Cont C F Q k) pf σ) : SL C F ops l (Cont C F Q k) pf σ := by rw [e]; exact h
/-- What a round hands over, where objects of the round are let go. -/
def HandF (F : Fx) {α : Type} (fr : α → PF) (ob : α → AS) (P : α → Prop) (μ : α → Nat) (n : Nat) (pf : PF) (σ : AS) : Prop :=
  ∃ y n' k', P y ∧ μ y < n ∧ Sub (fr y) pf ∧ F.n ≤ n' ∧ F.k ≤ k' ∧ (∀ d p, get (fr y) d = some p → Cl n' k' p) ∧ ClB n' k' σ.bx ∧ ob y = ⟨σ.bx.take n', σ.tk.take k'⟩
theorem W.loopF {k : List KI} {α : Type} {c : Code} (hG : ∀ (g : Nat) (p : PV), C.GE g = some p → Cl 0 0 p) (fr : α → PF) (ob : α → AS) (P : α → Prop) (μ : α → Nat) (x : α) (hP : P x) (hs : Sub (fr x) pf) (ho : ob x = σ)
    (round : ∀ x, P x → SW C F c (Cont C F (thenP (HandF F fr ob P μ (μ x)) (Cont C F Q k)) []) (fr x) (ob x)) : SW C F (.loop c) (Cont C F Q k) pf σ := by
  refine SW.loop (fun n pf σ => (∃ x n' k', P x ∧ μ x = n ∧ Sub (fr x) pf ∧ F.n ≤ n' ∧ F.k ≤ k' ∧ (∀ d p, get (fr x) d = some p → Cl n' k' p) ∧ ClB n' k' σ.bx ∧ ob x = ⟨σ.bx.take n', σ.tk.take k'⟩) ∨ ∃ x, P x ∧ μ x = n ∧ Sub (fr x) pf ∧ ob x = σ) (μ x) (.inr ⟨x, hP, rfl, hs, ho⟩) ?_
  have body : ∀ x, P x → SW C F c (thenP (fun pf σ => ∃ n', n' < μ x ∧ ((∃ x n'' k', P x ∧ μ x = n' ∧ Sub (fr x) pf ∧ F.n ≤ n'' ∧ F.k ≤ k' ∧ (∀ d p, get (fr x) d = some p → Cl n'' k' p) ∧ ClB n'' k' σ.bx ∧ ob x = ⟨σ.bx.take n'', σ.tk.take k'⟩) ∨ ∃ x, P x ∧ μ x = n' ∧ Sub (fr x) pf ∧ ob x = σ)) (Cont C F Q k)) (fr x) (ob x) := by
    intro x hP
    refine SW.mono (round x hP) ?_
    intro e pf σ h
    cases e <;> first | exact h | (obtain ⟨y, n1, k1, h1, h2, h3⟩ := h; exact ⟨μ y, h2, .inl ⟨y, n1, k1, h1, rfl, h3⟩⟩)
  rintro n pf σ (⟨x, n', k', hP, rfl, hs, hn, hk, hc, hb, ho⟩ | ⟨x, hP, rfl, hs, rfl⟩)
  · refine SW.sub hs (SW.forget n' k' hn hk hc hb hG ?_)
    have := body x hP
    rwa [ho] at this
  · exact SW.sub hs (body x hP)
theorem W.handF {k : List KI} {α : Type} {fr : α → PF} {ob : α → AS} {P : α → Prop} {μ : α → Nat} {n : Nat} (y : α) (n' k' : Nat) (hP : P y) (hμ : μ y < n) (hs : Sub (fr y) pf) (hn : F.n ≤ n') (hk : F.k ≤ k')
    (hc : ∀ d p, get (fr y) d = some p → Cl n' k' p) (hb : ClB n' k' σ.bx) (ho : ob y = ⟨σ.bx.take n', σ.tk.take k'⟩) : Cont C F (thenP (HandF F fr ob P μ n) (Cont C F Q k)) [] .normal pf σ :=
  ⟨y, n', k', hP, hμ, hs, hn, hk, hc, hb, ho⟩
/-- Every slot of a frame names only what there is. -/
def ClPF (n k : Nat) : PF → Prop
  | [] => True
  | (_, p) :: r => Cl n k p ∧ ClPF n k r
theorem ClPF.get {n k : Nat} : ∀ {pf : PF}, ClPF n k pf → ∀ d p, get pf d = some p → Cl n k p
  | [], _, d, p, h => by simp [Sw.get] at h
  | (i, q) :: r, hc, d, p, h => by
    simp only [Sw.get] at h
    split at h
    · cases h; exact hc.1
    · exact ClPF.get hc.2 d p h
end
end Go.Sw

/- The logic Sw: a loop walked by a theorem of its own; a part of a code by its path, for any program. -/
import Derived.Test.YtbnapbegomemeaaDoorSwM
namespace Go.Sw
open Go.RowKit

section
variable {C : Cx} {F : Fx} {Q : Post} {k : List KI} {pf pf' : PF} {σ : AS}
/-- A loop within a block, walked by a theorem of its own. -/
theorem W.cutG {x : Code} {id : Nat} {α : Type} {fr : α → PF} {ob : α → AS} {P : α → Prop}
    (h1 : SW C F x (Cont C F (thenP (MidP fr ob P) (Cont C F Q k)) [.blk id]) pf' σ) (hs : Sub pf' pf)
    (h2 : ∀ a pf, P a → Sub (fr a) pf → Cont C F Q k .normal pf (ob a)) : SW C F x (Cont C F Q (.blk id :: k)) pf σ := by
  refine SW.sub hs (SW.mono h1 ?_)
  have key : ∀ e pf σ, thenP (MidP fr ob P) (Cont C F Q k) e pf σ → Cont C F Q k e pf σ := by
    intro e pf σ he
    cases e with
    | normal =>
      obtain ⟨a, ha, hs, rfl⟩ := he
      exact h2 a pf ha hs
    | _ => exact he
  intro e pf σ he
  cases e with
  | exit id' =>
    by_cases h : id' = id
    · subst h
      have he' : thenP (MidP fr ob P) (Cont C F Q k) .normal pf σ := by
        have := he
        simp only [Cont, blockP, if_true] at this
        exact this
      show blockP id' _ (.exit id') pf σ
      simp only [blockP, if_true]
      exact key _ _ _ he'
    · have he' : thenP (MidP fr ob P) (Cont C F Q k) (.exit id') pf σ := by
        have := he
        simp only [Cont, blockP, if_neg h] at this
        exact this
      show blockP id _ (.exit id') pf σ
      simp only [blockP, if_neg h]
      exact key _ _ _ he'
  | normal => exact key .normal pf σ he
  | goto l => exact key (.goto l) pf σ he
  | ret => exact key .ret pf σ he
  | panic ch => exact key (.panic ch) pf σ he
  | outgrown => exact key .outgrown pf σ he
theorem W.cutL {x y : Code} {id : Nat} {α : Type} {fr : α → PF} {ob : α → AS} {P : α → Prop}
    (h1 : SW C F x (Cont C F (thenP (MidP fr ob P) (Cont C F Q k)) [.blk id]) pf' σ) (hs : Sub pf' pf)
    (h2 : ∀ a, P a → SW C F y (Cont C F Q k) (fr a) (ob a)) : SW C F x (Cont C F Q (.blk id :: .code y :: k)) pf σ := by
  refine SW.sub hs (SW.mono h1 ?_)
  have key : ∀ e pf σ, thenP (MidP fr ob P) (Cont C F Q k) e pf σ → thenP (fun pf σ => SW C F y (Cont C F Q k) pf σ) (Cont C F Q k) e pf σ := by
    intro e pf σ he
    cases e with
    | normal =>
      obtain ⟨a, ha, hs, rfl⟩ := he
      exact W.sub (h2 a ha) hs
    | _ => exact he
  intro e pf σ he
  cases e with
  | exit id' =>
    by_cases h : id' = id
    · subst h
      have he' : thenP (MidP fr ob P) (Cont C F Q k) .normal pf σ := by
        have := he
        simp only [Cont, blockP, if_true] at this
        exact this
      show blockP id' _ (.exit id') pf σ
      simp only [blockP, if_true]
      exact key _ _ _ he'
    · have he' : thenP (MidP fr ob P) (Cont C F Q k) (.exit id') pf σ := by
        have := he
        simp only [Cont, blockP, if_neg h] at this
        exact this
      show blockP id _ (.exit id') pf σ
      simp only [blockP, if_neg h]
      exact key _ _ _ he'
  | normal => exact key (.normal) pf σ he
  | goto l => exact key (.goto l) pf σ he
  | ret => exact key (.ret) pf σ he
  | panic ch => exact key (.panic ch) pf σ he
  | outgrown => exact key (.outgrown) pf σ he
/-- A condition in the middle, ahead of the code that follows. -/
theorem W.cutC {x y : Code} {α : Type} (fr : α → PF) (ob : α → AS) (P : α → Prop)
    (h1 : SW C F x (Cont C F (thenP (MidP fr ob P) (Cont C F Q k)) []) pf σ)
    (h2 : ∀ a, P a → SW C F y (Cont C F Q k) (fr a) (ob a)) : SW C F x (Cont C F Q (.code y :: k)) pf σ := by
  refine SW.mono h1 ?_
  intro e pf σ he
  cases e with
  | normal =>
    obtain ⟨a, ha, hs, rfl⟩ := he
    exact W.sub (h2 a ha) hs
  | _ => exact he
end

/-- The part of a code at a path: 1 and 2 of a sequence, 3 within a block, 4 within a loop, 5 and 6 of a branch. -/
def cAt : List Nat → Code → Code
  | 1 :: p, .seq x _ => cAt p x
  | 2 :: p, .seq _ y => cAt p y
  | 3 :: p, .block _ c => cAt p c
  | 4 :: p, .loop c => cAt p c
  | 5 :: p, .cond _ x _ => cAt p x
  | 6 :: p, .cond _ _ y => cAt p y
  | _, c => c

end Go.Sw

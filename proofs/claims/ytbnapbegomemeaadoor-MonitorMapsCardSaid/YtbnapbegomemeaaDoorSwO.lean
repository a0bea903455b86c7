/- The logic Sw: a token for a nil slice in a variable, within a region; calls whose arguments are weakened, for any program. -/
import Derived.Test.YtbnapbegomemeaaDoorSwN
namespace Go.Sw
open Go.RowKit
section
variable {C : Cx} {F : Fx} {Q : Post} {ops : Array Oper} {pf : PF} {σ σ' : AS} {k : List KI}

theorem W.tokenboxL {l : List Oper} (e : TypeId) (i j : Nat) (qs : List PV) (hq : σ.bx[i]? = some qs) (hj : qs[j]? = some (.val (.slice none 0 0)))
    (h : SL C F ops l (Cont C F Q k) pf ⟨σ.bx.set i (qs.set j (.sl (some σ.tk.length) [])), σ.tk ++ [(e, 0)]⟩) : SL C F ops l (Cont C F Q k) pf σ := by
  intro w0 base se s a h1 h2 h3 h4
  obtain ⟨i1, m1, r1⟩ := h3.token e
  exact h w0 base se ⟨⟨s.g.bx, s.g.rw ++ [none]⟩, s.tk ++ [(e, 0)], s.w⟩ a h1 (h2.trans m1) (Inv.wkcell i1 hq hj fun v hv => by have := hv.val_eq; subst this; exact r1) (h4.mono m1)

theorem W.objsL {l : List Oper} (e : σ = σ') (h : SL C F ops l (Cont C F Q k) pf σ') : SL C F ops l (Cont C F Q k) pf σ := by rw [e]; exact h
theorem W.objs {c : Code} (e : σ = σ') (h : SW C F c (Cont C F Q k) pf σ') : SW C F c (Cont C F Q k) pf σ := by rw [e]; exact h

/-- A contract whose arguments stand for more. -/
theorem SC.wk {f : FuncId} {ps qs : List PV} {R : PV → AS → Prop} (h : SC C f qs σ R) (hw : WkL C ps qs) : SC C f ps σ R := by
  intro w0 base s vs hi hl hr
  refine h w0 base s vs hi (by rw [← hw.length]; exact hl) fun j q v hq hv => ?_
  obtain ⟨p, hp, hwk⟩ := hw.at_ j q hq
  exact hwk s v (hr j p v hp hv)
theorem SC1.wk {f : FuncId} {ps qs : List PV} {r : PV} (h : SC1 C f qs σ r σ') (hw : WkL C ps qs) : SC1 C f ps σ r σ' := SC.wk h hw
end
end Go.Sw

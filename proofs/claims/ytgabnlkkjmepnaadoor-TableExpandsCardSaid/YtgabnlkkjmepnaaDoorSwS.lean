/- The logic Sw: new rows that may be appended to, within regions that draw their order, for any program. -/
import Derived.Test.YtgabnlkkjmepnaaDoorSwQ
namespace Go.Sw
open Go.RowKit

section
variable {C : Cx} {F : Fx} {Q : Post} {ops : Array Oper} {T : List Nat} {kp : Bool} {σ1 σh σ : AS} {m : Nat} {listed : Array Bool} {pf1 pf pf1' pf' : PF}

theorem SHo.effF {i : Nat} {o : Oper} {p : PV} {σ' : AS} (hi : ops[i]? = some o) (hd : inN F.N o.dst = true) (hg : gd ops o pf = some true) (he : FEff C F.N o pf σh σ p σ')
    (h : SH C F ops Q T true σ1 σh m (listed.setIfInBounds i true) (setd pf1 o.dst (down p)) (setd pf o.dst p) σ') : SHo C F ops Q T true σ1 σh i m listed pf1 pf σ := by
  intro w0 base se s1 s a H hri
  obtain ⟨v, s', h1, h2, h3, h4, h5⟩ := he.use H.i H.r
  have hS := (H.same rfl).kept H.m h4 h5
  have fin := h w0 base se s1 s' (a.put o.dst v) ⟨H.dc.set hri, H.at_, H.m1, H.i1, h3, H.m.trans h4, fun _ => hS, H.r1.put (inN_ok hd) (down_ok h2), (H.r.mono h4).put (inN_ok hd) h2⟩
  unfold wpOp
  simp only [hi, gd_ok H.r hg, if_true]
  refine .inl ?_
  unfold Oper.wp
  rcases h1 with h1 | ⟨h1, rfl⟩
  · rw [h1]; exact ⟨fun _ => hS, fin⟩
  · rw [h1]; exact ⟨fun _ => hS, fin⟩

/-- A literal's row, with a token. -/
def ownA (C : Cx) (N : Nat) (ops : Array Oper) (i : Nat) (pf1 pf : PF) (σ : AS) : Option (PF × PF × AS) :=
  match ops[i]? with
  | some o => if inN N o.dst = true then match gd ops o pf with
    | some true => match o.op with
      | .buildSlice t n parts => match partsA C.GE pf parts.toList with
        | some ps => match buildSliceA C t n ps with
          | some (e, xs) => some (setd pf1 o.dst .any, setd pf o.dst (.sl (some σ.tk.length) xs), ⟨σ.bx, σ.tk ++ [(e, xs.length)]⟩)
          | none => none
        | none => none
      | _ => none
    | _ => none else none
  | none => none

theorem SHo.ownX {i : Nat} {σ' : AS} (he : ownA C F.N ops i pf1 pf σ = some (pf1', pf', σ')) (h : SH C F ops Q T true σ1 σh m (listed.setIfInBounds i true) pf1' pf' σ') : SHo C F ops Q T true σ1 σh i m listed pf1 pf σ := by
  unfold ownA at he
  split at he <;> try cases he
  rename_i o ho
  split at he <;> try cases he
  rename_i hd
  split at he <;> try cases he
  rename_i hg
  split at he <;> try cases he
  rename_i t n parts hop
  split at he <;> try cases he
  rename_i ps hps
  split at he <;> try cases he
  rename_i e xs hb
  refine SHo.effF ho hd hg (p := .sl (some σ.tk.length) xs) (fun σs ha => ?_) h
  have := eff_buildSlice_own (N := F.N) (σ := σs) hop hps hb
  rw [ha.tk] at this
  exact ⟨_, this, ha.tks _⟩

/-- The same within a region of a fixed order. -/
theorem W.ownL {k : List KI} {o : Oper} {rest : List Oper} {t e : TypeId} {n : Nat} {parts : Array (Nat × Operand)} {ps : List (Nat × List PV)} {xs : List (List PV)} (ho : o.op = .buildSlice t n parts) (hp : partsA C.GE pf parts.toList = some ps) (hb : buildSliceA C t n ps = some (e, xs))
    (hg : gd ops o pf = some true) (hd : inN F.N o.dst = true) (h : SL C F ops rest (Cont C F Q k) (setd pf o.dst (.sl (some σ.tk.length) xs)) ⟨σ.bx, σ.tk ++ [(e, xs.length)]⟩) : SL C F ops (o :: rest) (Cont C F Q k) pf σ :=
  SL.guarded hg (SL.eff (o := { o with guard := none }) rfl hd (eff_buildSlice_own (by exact ho) hp hb) h)
end
end Go.Sw

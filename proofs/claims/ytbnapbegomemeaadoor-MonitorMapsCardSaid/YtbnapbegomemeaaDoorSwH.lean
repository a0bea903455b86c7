/- The logic Sw: a region's operations run in one go, for any program. -/
import Derived.Test.YtbnapbegomemeaaDoorSwG
namespace Go.Sw
open Go.RowKit

section
variable {C : Cx}

theorem Pure.eff {N : Nat} {o : Oper} {pf : PF} {σ : AS} {p : PV} (h : Pure C N o pf σ p) : Eff C N o pf σ p σ := by
  intro w0 base s a hi hr
  obtain ⟨v, h1, h2⟩ := h w0 base s a hi hr
  exact ⟨v, s, .inl h1, h2, hi, Mono.refl _ _⟩

/-- A store's new objects. -/
def storeA (C : Cx) (t : TypeId) (p q : PV) (σ : AS) : Option AS :=
  match p, cellsPV q, C.T t with
  | .ptr i off, some ps, some ty => match σ.bx[i]? with
    | some qs => if ps.all oneB = true ∧ ps.length = ty.size ∧ off + ps.length ≤ qs.length then some ⟨σ.bx.set i (qs.take off ++ ps ++ qs.drop (off + ps.length)), σ.tk⟩ else none
    | none => none
  | _, _, _ => none

/-- append's result and new objects. -/
def appA (C : Cx) (t : TypeId) (p q : PV) (σ : AS) : Option (PV × AS) :=
  match p, q with
  | .sl (some k) xs, .sl _ ys => appendA C σ t k xs ys
  | .sl (some k) xs, .val (.slice none 0 0) => appendA C σ t k xs []
  | .val (.slice none 0 0), .sl _ ys => match C.T t with
    | some y => match y.d with
      | .slice e => appendA C ⟨σ.bx, σ.tk ++ [(e, 0)]⟩ t σ.tk.length [] ys
      | _ => none
    | none => none
  | _, _ => none

/-- append of a string. -/
def appStr (C : Cx) (t u : TypeId) (p q : PV) (σ : AS) : Option (PV × AS) :=
  match p, q with
  | .sl (some k) xs, .val (.string b) => appendS C σ t u k xs b
  | _, _ => none

/-- One operation that is no call. -/
def stepOp (C : Cx) (o : Oper) (pf : PF) (σ : AS) : Option (PV × AS) :=
  match o.op with
  | .box _ x => match ev C.GE pf x with
    | some p => match cellsPV p with
      | some ps => some (.ptr σ.bx.length 0, ⟨σ.bx ++ [ps], σ.tk⟩)
      | none => none
    | none => none
  | .alloc t => match C.T t with
    | some y => match cellsPV (.val y.zero) with
      | some ps => some (.ptr σ.bx.length 0, ⟨σ.bx ++ [ps], σ.tk⟩)
      | none => none
    | none => none
  | .build t parts => match partsA C.GE pf parts.toList with
    | some ps => match buildA C t ps with
      | some p => some (p, σ)
      | none => none
    | none => none
  | .buildSlice t n parts => match partsA C.GE pf parts.toList with
    | some ps => match buildSliceA C t n ps with
      | some (_, xs) => some (.sl none xs, σ)
      | none => none
    | none => none
  | .store t a x => match evu C.GE pf a, ev C.GE pf x with
    | some p, some q => match storeA C t p q σ with
      | some σ' => some (.any, σ')
      | none => none
    | _, _ => none
  | .call c => match c.callee, c.args.toList, c.argTypes.toList with
    | .builtin .append, [x, y], [t, u] => if t = u then match ev C.GE pf x, ev C.GE pf y with
        | some p, some q => appA C t p q σ
        | _, _ => none else match ev C.GE pf x, ev C.GE pf y with
        | some p, some q => appStr C t u p q σ
        | _, _ => none
    | _, _, _ => match pureOp C o pf σ with
      | some p => some (p, σ)
      | none => none
  | _ => match pureOp C o pf σ with
    | some p => some (p, σ)
    | none => none

theorem arr_of_list {α : Type} {a : Array α} {l : List α} (h : a.toList = l) : a = l.toArray := by rw [← h, Array.toArray_toList]

theorem stepOp_ok {N : Nat} {o : Oper} {pf : PF} {σ σ' : AS} {p : PV} (h : stepOp C o pf σ = some (p, σ')) : Eff C N o pf σ p σ' := by
  unfold stepOp at h
  split at h
  · rename_i t x ho
    split at h <;> try cases h
    rename_i q hq
    split at h <;> try cases h
    rename_i ps hps
    exact eff_box ho hq hps
  · rename_i t ho
    split at h <;> try cases h
    rename_i y hy
    split at h <;> try cases h
    rename_i ps hps
    exact eff_alloc ho hy hps
  · rename_i t parts ho
    split at h <;> try cases h
    rename_i ps hps
    split at h <;> try cases h
    rename_i hb
    exact (pure_build ho hps hb).eff
  · rename_i t n parts ho
    split at h <;> try cases h
    rename_i ps hps
    split at h <;> try cases h
    rename_i hb
    exact eff_buildSlice ho hps hb
  · rename_i t a x ho
    split at h <;> try cases h
    rename_i q r hq hr
    split at h <;> try cases h
    rename_i hs
    unfold storeA at hs
    split at hs <;> try cases hs
    rename_i i off ps ty hps hty
    split at hs <;> try cases hs
    rename_i qs hqs
    split at hs <;> try cases hs
    rename_i hc
    exact eff_store ho hq hr hps hc.1 hty hc.2.1 hqs hc.2.2
  · rename_i c ho
    split at h
    · rename_i x y t u hc ha hts
      split at h
      rotate_left
      · split at h <;> try cases h
        rename_i p' q' hp hq
        unfold appStr at h
        split at h
        · exact eff_append_str ho hc (arr_of_list ha) (arr_of_list hts) hp hq h
        · cases h
      rename_i htu
      subst htu
      split at h <;> try cases h
      rename_i p' q' hp hq
      unfold appA at h
      split at h
      · exact eff_append ho hc (arr_of_list ha) (arr_of_list hts) hp hq h
      · exact eff_append_none ho hc (arr_of_list ha) (arr_of_list hts) hp hq h
      · split at h <;> try cases h
        split at h <;> try cases h
        exact eff_append_nil ho hc (arr_of_list ha) (arr_of_list hts) hp hq h
      · cases h
    · split at h <;> try cases h
      rename_i hp
      exact (pureOp_ok hp).eff
  · split at h <;> try cases h
    rename_i hp
    exact (pureOp_ok hp).eff

/-- Is it a call of a Go function? -/
def isCall (o : Oper) : Bool :=
  match o.op with
  | .call c => match c.callee with
    | .builtin _ => false
    | _ => true
  | _ => false

/-- A region's operations up to the first call. -/
def runOps (C : Cx) (N : Nat) (ops : Array Oper) : List Oper → PF → AS → Option (PF × AS × List Oper)
  | [], pf, σ => some (pf, σ, [])
  | o :: r, pf, σ =>
    match gd ops o pf with
    | some true =>
      match isCall o with
      | true => some (pf, σ, o :: r)
      | false => match inN N o.dst with
        | true => match stepOp C o pf σ with
          | some (p, σ') => runOps C N ops r (setd pf o.dst p) σ'
          | none => none
        | false => none
    | some false => match inN N o.dst with
      | true => runOps C N ops r (setd pf o.dst (.val (.tuple #[]))) σ
      | false => none
    | none => none

theorem SL.run {F : Fx} {Q : Post} {ops : Array Oper} : ∀ {l : List Oper} {pf pf' : PF} {σ σ' : AS} {rest : List Oper}, runOps C F.N ops l pf σ = some (pf', σ', rest) → SL C F ops rest Q pf' σ' → SL C F ops l Q pf σ
  | [], pf, pf', σ, σ', rest, h, hk => by cases h; exact hk
  | o :: r, pf, pf', σ, σ', rest, h, hk => by
    simp only [runOps] at h
    split at h <;> try cases h
    · rename_i hg
      split at h
      · cases h; exact hk
      · split at h <;> try cases h
        rename_i hd
        split at h <;> try cases h
        rename_i p σ1 hs
        exact SL.guarded hg (SL.eff (o := { o with guard := none }) rfl hd (stepOp_ok hs) (SL.run h hk))
    · rename_i hg
      split at h <;> try cases h
      rename_i hd
      exact SL.skipped hg hd (SL.run h hk)

theorem SW.reg {F : Fx} {Q : Post} {id : Nat} {ops : Array Oper} {pf pf' : PF} {σ σ' : AS} {rest : List Oper} (h : runOps C F.N ops ops.toList pf σ = some (pf', σ', rest)) (hk : SL C F ops rest Q pf' σ') : SW C F (.region id ops false) Q pf σ :=
  SW.region (SL.run h hk)

/-- A region without a call. -/
theorem SW.reg0 {F : Fx} {Q : Post} {id : Nat} {ops : Array Oper} {pf pf' : PF} {σ σ' : AS} (h : runOps C F.N ops ops.toList pf σ = some (pf', σ', [])) (hk : Q .normal pf' σ') : SW C F (.region id ops false) Q pf σ :=
  SW.region (SL.run h (SL.nil hk))

/-- A call of a Go function, its guard answered. -/
theorem SL.callg {F : Fx} {Q : Post} {pf : PF} {σ : AS} {ops : Array Oper} {o : Oper} {rest : List Oper} {c : Call} {f : Operand} {k : FuncId} {caps ps : List PV} {R : PV → AS → Prop} (hg : gd ops o pf = some true) (hd : inN F.N o.dst = true) (ho : o.op = .call c) (hc : c.callee = .value f)
    (hf : ev C.GE pf f = some (.fn k caps)) (ha : evs C.GE pf c.args.toList = some ps) (hgo : isGo C.P k = true) (hs : SC C k (ps ++ caps) σ R)
    (h : ∀ r σ', R r σ' → SL C F ops rest Q (setd pf o.dst r) σ') : SL C F ops (o :: rest) Q pf σ :=
  SL.guarded hg (SL.call (o := { o with guard := none }) rfl hd ho hc hf ha hgo hs h)

/-- A contract with one outcome. -/
def SC1 (C : Cx) (f : FuncId) (ps : List PV) (σ : AS) (r : PV) (σ' : AS) : Prop := SC C f ps σ fun r' σ'' => r' = r ∧ σ'' = σ'

theorem SL.call1 {F : Fx} {Q : Post} {pf : PF} {σ σ' : AS} {ops : Array Oper} {o : Oper} {rest : List Oper} {c : Call} {f : Operand} {k : FuncId} {caps ps : List PV} {r : PV} (hs : SC1 C k (ps ++ caps) σ r σ') (hg : gd ops o pf = some true) (hd : inN F.N o.dst = true) (ho : o.op = .call c) (hc : c.callee = .value f)
    (hf : ev C.GE pf f = some (.fn k caps)) (ha : evs C.GE pf c.args.toList = some ps) (hgo : isGo C.P k = true)
    (h : SL C F ops rest Q (setd pf o.dst r) σ') : SL C F ops (o :: rest) Q pf σ :=
  SL.callg hg hd ho hc hf ha hgo hs fun r' σ'' ⟨e1, e2⟩ => by subst e1; subst e2; exact h

end
end Go.Sw

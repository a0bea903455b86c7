/- The logic Sw: the moves through a region whose order is drawn, as the printed proofs use them. -/
import Derived.Test.YtbnapbegomemeaaDoorSwL
namespace Go.Sw
open Go.RowKit
section
variable {C : Cx} {F : Fx} {ops : Array Oper} {Q : Post} {T : List Nat} {kp : Bool} {σ1 σh : AS} {n m : Nat} {listed : Array Bool} {pf1 pf pf1' pf' : PF} {σ σ' : AS}

/-- σ with variable b hidden. -/
def hideB (σ : AS) (b : Nat) : AS := ⟨σ.bx.set b [], σ.tk⟩
theorem Sub0.hideB (σ : AS) (b : Nat) : Sub0 (hideB σ b) σ := Sub0.set b
theorem keep_hideB (σ : AS) (b : Nat) : keep (hideB σ b) b = false := keep_set σ b

theorem W.heldB {k : List KI} {id : Nat} (hnd : noDefs ops = true) (hno : NoOut (Cont C F Q k)) (hm : C.P.follows .mixedOrders = true) (b n : Nat) (T : List Nat) (hn : ops.size = n)
    (h : SH C F ops (Cont C F Q k) T true σ (hideB σ b) n (Array.replicate n false) pf pf σ) : SW C F (.region id ops true) (Cont C F Q k) pf σ := SW.held hnd hno hm hn T _ h
theorem W.held0 {k : List KI} {id : Nat} (hnd : noDefs ops = true) (hno : NoOut (Cont C F Q k)) (hm : C.P.follows .mixedOrders = true) (n : Nat) (T : List Nat) (hn : ops.size = n)
    (h : SH C F ops (Cont C F Q k) T true σ σ n (Array.replicate n false) pf pf σ) : SW C F (.region id ops true) (Cont C F Q k) pf σ := SW.held hnd hno hm hn T _ h

def takesB (ops : Array Oper) (T : List Nat) : List Nat → Array Bool → Bool
  | [], _ => true
  | i :: r, l => T.contains i && Region.free .any ops l i && (Region.ready .any ops l).contains i && takesB ops T r (l.setIfInBounds i true)
def listedOf : List Nat → Array Bool → Array Bool
  | [], l => l
  | i :: r, l => listedOf r (l.setIfInBounds i true)
def runTakes (C : Cx) (N : Nat) (ops : Array Oper) (σh : AS) : List Nat → PF → PF → Option (PF × PF)
  | [], pf1, pf => some (pf1, pf)
  | i :: r, pf1, pf => match ops[i]? with
    | some o => if inN N o.dst = true then match gd ops o pf1 with
      | some true => match takeOp C σh o pf1 with
        | some p => runTakes C N ops σh r (setd pf1 o.dst p) (setd pf o.dst p)
        | none => none
      | some false => runTakes C N ops σh r (setd pf1 o.dst (.val (.tuple #[]))) (setd pf o.dst (.val (.tuple #[])))
      | none => none else none
    | none => none

theorem SH.takes' (hs : Region.noSelect ops = true) (hQ : NoPanic Q) (hs0 : Sub0 σh σ1) : ∀ (is : List Nat) (n : Nat) (listed : Array Bool) (pf1 pf : PF), takesB ops T is listed = true → runTakes C F.N ops σh is pf1 pf = some (pf1', pf') →
    SH C F ops Q T true σ1 σh n (listedOf is listed) pf1' pf' σ → SH C F ops Q T true σ1 σh (n + is.length) listed pf1 pf σ
  | [], n, listed, pf1, pf, _, hr, h => by cases hr; exact h
  | i :: r, n, listed, pf1, pf, hB, hr, h => by
    simp only [takesB, Bool.and_eq_true] at hB
    simp only [runTakes] at hr
    split at hr <;> try cases hr
    rename_i o ho
    split at hr <;> try cases hr
    rename_i hd
    have : n + (i :: r).length = (n + r.length) + 1 := by simp; omega
    rw [this]
    split at hr <;> try cases hr
    · rename_i hg
      split at hr <;> try cases hr
      rename_i p hp
      exact SH.take (by simpa using hB.1.1.1) ho hs hB.1.1.2 hB.1.2 hQ hs0 hd hg hp (SH.takes' hs hQ hs0 r n _ _ _ hB.2 hr h)
    · rename_i hg
      exact SH.skip (by simpa using hB.1.1.1) ho hs hB.1.1.2 hB.1.2 hQ hd hg (SH.takes' hs hQ hs0 r n _ _ _ hB.2 hr h)

theorem SH.takes (is : List Nat) (m : Nat) (hfu : n = m + is.length) (hs : Region.noSelect ops = true) (hB : takesB ops T is listed = true) (hQ : NoPanic Q) (hs0 : Sub0 σh σ1)
    (hr : runTakes C F.N ops σh is pf1 pf = some (pf1', pf')) (h : SH C F ops Q T true σ1 σh m (listedOf is listed) pf1' pf' σ) : SH C F ops Q T true σ1 σh n listed pf1 pf σ := by
  rw [hfu]
  exact SH.takes' hs hQ hs0 is m listed pf1 pf hB hr h

def effA (C : Cx) (N : Nat) (ops : Array Oper) (σh : AS) (i : Nat) (pf1 pf : PF) (σ : AS) : Option (PF × PF × AS) :=
  match ops[i]? with
  | some o => if inN N o.dst = true then match gd ops o pf with
    | some true => match effOp C σh o pf σ with
      | some (p, σ') => some (setd pf1 o.dst (down p), setd pf o.dst p, σ')
      | none => none
    | some false => some (setd pf1 o.dst (.val (.tuple #[])), setd pf o.dst (.val (.tuple #[])), σ)
    | none => none else none
  | none => none

theorem SHo.effX {i : Nat} (hh : Hid σh σ) (he : effA C F.N ops σh i pf1 pf σ = some (pf1', pf', σ'))
    (h : SH C F ops Q T true σ1 σh m (listed.setIfInBounds i true) pf1' pf' σ') : SHo C F ops Q T true σ1 σh i m listed pf1 pf σ := by
  unfold effA at he
  split at he <;> try cases he
  rename_i o ho
  split at he <;> try cases he
  rename_i hd
  split at he <;> try cases he
  · rename_i hg
    split at he <;> try cases he
    rename_i p σ2 hq
    exact SHo.eff ho hh hd hg hq h
  · rename_i hg
    exact SHo.skip ho hd hg h

/-- An operation behind which nothing is taken any more. -/
def lastA (C : Cx) (N : Nat) (ops : Array Oper) (i : Nat) (pf1 pf : PF) (σ : AS) : Option (PF × PF × AS) :=
  match ops[i]? with
  | some o => if inN N o.dst = true then match gd ops o pf with
    | some true => match stepOp C o pf σ with
      | some (p, σ') => some (setd pf1 o.dst (down p), setd pf o.dst p, σ')
      | none => none
    | _ => none else none
  | none => none
theorem SHo.lastX {i : Nat} (hnd : needS ops T i = false) (he : lastA C F.N ops i pf1 pf σ = some (pf1', pf', σ'))
    (h : SH C F ops Q T false σ1 σh m (listed.setIfInBounds i true) pf1' pf' σ') : SHo C F ops Q T kp σ1 σh i m listed pf1 pf σ := by
  unfold lastA at he
  split at he <;> try cases he
  rename_i o ho
  split at he <;> try cases he
  rename_i hd
  split at he <;> try cases he
  rename_i hg
  split at he <;> try cases he
  rename_i p σ2 hq
  exact SHo.last ho hd hg hnd hq h

theorem SHo.callLastX {i : Nat} {o : Oper} {c : Call} {f : Operand} {k : FuncId} {caps ps args : List PV} {R : PV → AS → Prop} (hgo : isGo C.P k = true) (hi : ops[i]? = some o) (ho : o.op = .call c) (hc : c.callee = .value f)
    (hf : ev C.GE pf f = some (.fn k caps)) (hg : gd ops o pf = some true) (hd : inN F.N o.dst = true) (hnd : needS ops T i = false) (ha : evs C.GE pf c.args.toList = some ps) (hargs : ps ++ caps = args) (hs : SC C k args σ R)
    (h : ∀ r σ', R r σ' → SH C F ops Q T false σ1 σh m (listed.setIfInBounds i true) (setd pf1 o.dst (down r)) (setd pf o.dst r) σ') : SHo C F ops Q T kp σ1 σh i m listed pf1 pf σ := by
  subst hargs
  exact SHo.callLast hi hd hg hnd ho hc hf ha hgo hs h

theorem SHo.callX {i : Nat} {o : Oper} {c : Call} {f : Operand} {k : FuncId} {caps ps args : List PV} {R : PV → AS → Prop} (hgo : isGo C.P k = true) (hi : ops[i]? = some o) (ho : o.op = .call c) (hc : c.callee = .value f)
    (hf : ev C.GE pf f = some (.fn k caps)) (hg : gd ops o pf = some true) (hd : inN F.N o.dst = true) (ha : evs C.GE pf c.args.toList = some ps) (hargs : ps ++ caps = args) (hs : FSC C k args σh σ R)
    (h : ∀ r σ', R r σ' → SH C F ops Q T true σ1 σh m (listed.setIfInBounds i true) (setd pf1 o.dst (down r)) (setd pf o.dst r) σ') : SHo C F ops Q T true σ1 σh i m listed pf1 pf σ := by
  subst hargs
  exact SHo.call hi hd hg ho hc hf ha hgo hs h

theorem SH.one (i : Nat) (hr : Region.ready .any ops listed = [i]) (h : SHo C F ops Q T kp σ1 σh i m listed pf1 pf σ) : SH C F ops Q T kp σ1 σh (m + 1) listed pf1 pf σ :=
  SH.all [i] hr (by simp) ⟨h, trivial⟩
theorem SH.two (i j : Nat) (hr : Region.ready .any ops listed = [i, j]) (h1 : SHo C F ops Q T kp σ1 σh i m listed pf1 pf σ) (h2 : SHo C F ops Q T kp σ1 σh j m listed pf1 pf σ) : SH C F ops Q T kp σ1 σh (m + 1) listed pf1 pf σ :=
  SH.all [i, j] hr (by simp) ⟨h1, h2, trivial⟩
theorem SH.three (i j l : Nat) (hr : Region.ready .any ops listed = [i, j, l]) (h1 : SHo C F ops Q T kp σ1 σh i m listed pf1 pf σ) (h2 : SHo C F ops Q T kp σ1 σh j m listed pf1 pf σ) (h3 : SHo C F ops Q T kp σ1 σh l m listed pf1 pf σ) : SH C F ops Q T kp σ1 σh (m + 1) listed pf1 pf σ :=
  SH.all [i, j, l] hr (by simp) ⟨h1, h2, h3, trivial⟩

/-- A condition in the middle: what follows is walked once. -/
def MidP {α : Type} (fr : α → PF) (ob : α → AS) (P : α → Prop) (pf : PF) (σ : AS) : Prop := ∃ a, P a ∧ Sub (fr a) pf ∧ ob a = σ
theorem W.seqM {k : List KI} {x y : Code} {α : Type} (fr : α → PF) (ob : α → AS) (P : α → Prop)
    (h1 : SW C F x (Cont C F (thenP (MidP fr ob P) (Cont C F Q k)) []) pf σ)
    (h2 : ∀ a, P a → SW C F y (Cont C F Q k) (fr a) (ob a)) : SW C F (.seq x y) (Cont C F Q k) pf σ := by
  refine W.seq ?_
  refine SW.mono h1 ?_
  intro e pf' σ' he
  cases e with
  | normal =>
    obtain ⟨a, ha, hs, rfl⟩ := he
    exact W.sub (h2 a ha) hs
  | _ => exact he
theorem W.mid {k : List KI} {α : Type} {fr : α → PF} {ob : α → AS} {P : α → Prop} (a : α) (hP : P a) (hs : Sub (fr a) pf) (ho : ob a = σ) : Cont C F (thenP (MidP fr ob P) (Cont C F Q k)) [] .normal pf σ :=
  ⟨a, hP, hs, ho⟩

/-- Framed contracts of the functions that read numbers out of variable b. -/
theorem FSC.box {f : FuncId} {args : List PV} {b : Nat} {x : List PV} {R : PV → List PV → Prop} {R' : PV → AS → Prop} (hb : keep σh b = false) (hx : σ.bx[b]? = some x)
    (h : ∀ σs : AS, σs.bx[b]? = some x → SC C f args σs fun r σ' => ∃ y, R r y ∧ σ' = ⟨σs.bx.set b y, σs.tk⟩) (hR : ∀ r y, R r y → R' r ⟨σ.bx.set b y, σ.tk⟩) : FSC C f args σh σ R' :=
  (FSC.one hb hx h).mono fun r σ' ⟨y, h1, h2⟩ => by rw [h2]; exact hR r y h1
end
end Go.Sw

/- The logic Sw: regions that draw their order and hold calls and stores, for any program. -/
import Derived.Test.YtbnapbegomemeaaDoorSwJ
import Derived.OrdersHeld
namespace Go.Sw
open Go.RowKit
set_option linter.unusedSimpArgs false

section
variable {C : Cx}

/-- Is variable k one that σh shows? -/
def keep (σh : AS) (k : Nat) : Bool := match σh.bx[k]? with
  | some (_ :: _) => true
  | _ => false

/-- σs agrees with σ on the variables that σh hides. -/
structure Agree (σh σ σs : AS) : Prop where
  tk : σs.tk = σ.tk
  len : σs.bx.length = σ.bx.length
  hid : ∀ k, keep σh k = false → σs.bx[k]? = σ.bx[k]?

/-- σs' came from σs as σ' from σ, and the variables that σh shows are as they were. -/
structure Back (σh σ σs σ' σs' : AS) : Prop where
  tk : σs'.tk = σ'.tk
  len : σs'.bx.length = σ'.bx.length
  hid : ∀ k, keep σh k = false → σs'.bx[k]? = σ'.bx[k]?
  kept : ∀ k, keep σh k = true → σs'.bx[k]? = σs.bx[k]? ∧ σ'.bx[k]? = σ.bx[k]?

/-- The cells of a block, as exact values. -/
def exactOf (s : S) (k : Nat) : List PV := match s.g.bx[k]? with
  | some b => match s.w.heap[b]? with
    | some (.cells cs _ _) => cs.toList.map .val
    | _ => []
  | none => []

def exact (σh σ : AS) (s : S) : AS := ⟨(List.range σ.bx.length).map fun k => if keep σh k then exactOf s k else σ.bx.getD k [], σ.tk⟩

theorem exact_agree (σh σ : AS) (s : S) : Agree σh σ (exact σh σ s) where
  tk := rfl
  len := by simp [exact]
  hid := fun k hk => by
    by_cases h : k < σ.bx.length
    · simp [exact, h, hk]
    · simp [exact, h]

theorem exact_inv {w0 : World} {base : Nat} {σh σ : AS} {s : S} (hi : Inv C w0 base σ s) : Inv C w0 base (exact σh σ s) s where
  tk := hi.tk
  gx := hi.gx
  below := hi.below
  basele := hi.basele
  lbx := by simp [exact, hi.lbx]
  lrw := hi.lrw
  bxinj := hi.bxinj
  rwinj := hi.rwinj
  apart := hi.apart
  rngb := hi.rngb
  rngr := hi.rngr
  box := fun i b ps hb hp => by
    have hlt : i < σ.bx.length := by
      have := (List.getElem?_eq_some_iff.1 hp).1
      simpa [exact] using this
    have hps : σ.bx[i]? = some σ.bx[i] := List.getElem?_eq_getElem hlt
    obtain ⟨cs, T, h1, h2, h3⟩ := hi.box i b _ hb hps
    by_cases hk : keep σh i = true
    · have : ps = cs.toList.map .val := by
        simp [exact, hlt, hk, exactOf, hb, h1] at hp
        exact hp.symm
      subst this
      refine ⟨cs, T, h1, by simp, fun j p v hj hv => ?_⟩
      rw [List.getElem?_map] at hj
      simp [hv] at hj
      subst hj
      exact .val v
    · simp [exact, hlt, hk] at hp
      subst hp
      exact ⟨cs, T, h1, h2, h3⟩
  glob := hi.glob

/-- The variables that σh shows hold the very same values as at s. -/
def KeptC (σh : AS) (s : S) (w' : World) : Prop := ∀ (k b : Nat), keep σh k = true → s.g.bx[k]? = some b → ∀ j, w'.cell? ⟨b, j, none⟩ = s.w.cell? ⟨b, j, none⟩

theorem unframe {w0 : World} {base : Nat} {σh σ σ' σs' : AS} {s s' : S} (hi : Inv C w0 base σ s) (m : Mono C.P s s') (hb : Back σh σ (exact σh σ s) σ' σs') (hi' : Inv C w0 base σs' s') :
    Inv C w0 base σ' s' ∧ KeptC σh s s'.w := by
  have key : ∀ (k b : Nat) (ps : List PV), keep σh k = true → s.g.bx[k]? = some b → σ.bx[k]? = some ps → ∃ cs T T', s.w.heap[b]? = some (.cells cs T (0, 0)) ∧ s'.w.heap[b]? = some (.cells cs T' (0, 0)) := by
    intro k b ps hk hb1 hp
    obtain ⟨cs, T, h1, h2, h3⟩ := hi.box k b ps hb1 hp
    have hlt := (List.getElem?_eq_some_iff.1 hp).1
    have he : (exact σh σ s).bx[k]? = some (cs.toList.map .val) := by simp [exact, hlt, hk, exactOf, hb1, h1]
    have he' : σs'.bx[k]? = some (cs.toList.map .val) := by rw [(hb.kept k hk).1, he]
    obtain ⟨cs', T', g1, g2, g3⟩ := hi'.box k b _ (m.bx k b hb1) he'
    have : cs' = cs := by
      apply Array.ext
      · simpa using g2
      · intro j hj hj'
        have := g3 j (.val cs[j]) cs'[j] (by simp [hj']) (by simp [hj])
        exact this.val_eq
    subst this
    exact ⟨cs', T, T', h1, g1⟩
  refine ⟨?_, fun k b hk hb1 j => ?_⟩
  · refine ⟨?_, hi'.gx, hi'.below, hi'.basele, ?_, ?_, hi'.bxinj, hi'.rwinj, hi'.apart, hi'.rngb, hi'.rngr, fun i b ps hb1 hp => ?_, hi'.glob⟩
    · rw [hi'.tk, hb.tk]
    · rw [hi'.lbx, hb.len]
    · rw [hi'.lrw, hb.tk]
    · by_cases hk : keep σh i = true
      · have hp' : σ.bx[i]? = some ps := by rw [← (hb.kept i hk).2]; exact hp
        have hlt := (List.getElem?_eq_some_iff.1 hp').1
        have hlt' : i < s.g.bx.length := by rw [hi.lbx]; exact hlt
        have hb0 : s.g.bx[i]? = some s.g.bx[i] := List.getElem?_eq_getElem hlt'
        have : s.g.bx[i] = b := by have := m.bx i _ hb0; rw [hb1] at this; cases this; rfl
        rw [this] at hb0
        obtain ⟨cs, T, T', h1, h2⟩ := key i b ps hk hb0 hp'
        obtain ⟨cs1, T1, k1, k2, k3⟩ := hi.box i b ps hb0 hp'
        rw [h1] at k1; cases k1
        exact ⟨cs, T', h2, k2, fun j p v hj hv => (k3 j p v hj hv).mono m⟩
      · exact hi'.box i b ps hb1 (by rw [hb.hid i (by simpa using hk)]; exact hp)
  · have hlt : k < σ.bx.length := by
      have := (List.getElem?_eq_some_iff.1 hb1).1
      rwa [hi.lbx] at this
    obtain ⟨cs, T, T', h1, h2⟩ := key k b _ hk hb1 (List.getElem?_eq_getElem hlt)
    simp [World.cell?, h1, h2]

/-- A contract that holds whatever the variables hold that σh shows, and leaves them alone. -/
def FSC (C : Cx) (f : FuncId) (ps : List PV) (σh σ : AS) (R : PV → AS → Prop) : Prop :=
  ∀ σs, Agree σh σ σs → SC C f ps σs fun r σs' => ∃ σ', R r σ' ∧ Back σh σ σs σ' σs'

theorem FSC.use {f : FuncId} {ps : List PV} {σh σ : AS} {R : PV → AS → Prop} (h : FSC C f ps σh σ R) {w0 : World} {base : Nat} {s : S} {vs : List Value} (hi : Inv C w0 base σ s) (hl : ps.length = vs.length)
    (hr : ∀ (j : Nat) (p : PV) (v : Value), ps[j]? = some p → vs[j]? = some v → Rep C.P s p v) :
    Calls C.P f vs.toArray s.w fun e w' => ∃ v r σ' s', e = .returned v ∧ s'.w = w' ∧ R r σ' ∧ Inv C w0 base σ' s' ∧ Rep C.P s' r v ∧ Mono C.P s s' ∧ KeptC σh s s'.w := by
  refine (h _ (exact_agree σh σ s) w0 base s vs (exact_inv hi) hl hr).mono ?_
  rintro e w' ⟨v, r, σ1, s', rfl, rfl, ⟨σ', hR, hb⟩, hi', hv, hm⟩
  obtain ⟨k1, k2⟩ := unframe hi hm hb hi'
  exact ⟨v, r, σ', s', rfl, rfl, hR, k1, hv, hm, k2⟩

/-- The same for an operation. -/
def FEff (C : Cx) (N : Nat) (o : Oper) (pf : PF) (σh σ : AS) (p : PV) (σ' : AS) : Prop :=
  ∀ σs, Agree σh σ σs → ∃ σs', Eff C N o pf σs p σs' ∧ Back σh σ σs σ' σs'

theorem FEff.use {N : Nat} {o : Oper} {pf : PF} {σh σ σ' : AS} {p : PV} (h : FEff C N o pf σh σ p σ') {w0 : World} {base : Nat} {s : S} {a : Act} (hi : Inv C w0 base σ s) (hr : RepF C s N pf a) :
    ∃ v s', ((execOp a.eval o).run C.P s.w = .ok (.value v) s'.w ∨ ((execOp a.eval o).run C.P s.w = .ok .skip s'.w ∧ v = undef)) ∧ Rep C.P s' p v ∧ Inv C w0 base σ' s' ∧ Mono C.P s s' ∧ KeptC σh s s'.w := by
  obtain ⟨σs', h1, h2⟩ := h _ (exact_agree σh σ s)
  obtain ⟨v, s', k1, k2, k3, k4⟩ := h1 w0 base s a (exact_inv hi) hr
  obtain ⟨k5, k6⟩ := unframe hi k4 h2 k3
  exact ⟨v, s', k1, k2, k5, k4, k6⟩

/-- An operation that works on objects, none of them shown by σh. -/
def effOp (C : Cx) (σh : AS) (o : Oper) (pf : PF) (σ : AS) : Option (PV × AS) :=
  match o.op with
  | .box _ _ => stepOp C o pf σ
  | .alloc _ => stepOp C o pf σ
  | .build _ _ => stepOp C o pf σ
  | .buildSlice _ _ _ => stepOp C o pf σ
  | .store _ a _ => match evu C.GE pf a with
    | some (.ptr i _) => if keep σh i then none else stepOp C o pf σ
    | _ => none
  | .call c => match c.callee with
    | .builtin .append => stepOp C o pf σ
    | .builtin .len => match pureOp C o pf σ with
      | some p => some (p, σ)
      | none => none
    | _ => none
  | .binOp _ _ _ _ _ => match pureOp C o pf σ with
    | some p => some (p, σ)
    | none => none
  | .move _ => match pureOp C o pf σ with
    | some p => some (p, σ)
    | none => none
  | .assign _ => match pureOp C o pf σ with
    | some p => some (p, σ)
    | none => none
  | .extract _ _ => match pureOp C o pf σ with
    | some p => some (p, σ)
    | none => none
  | .indexAddr _ _ _ => match pureOp C o pf σ with
    | some p => some (p, σ)
    | none => none
  | _ => none

/-- σh shows no more than σ has. -/
def Hid (σh σ : AS) : Prop := ∀ k, keep σh k = true → k < σ.bx.length

theorem Agree.push {σh σ σs : AS} (ha : Agree σh σ σs) (hh : Hid σh σ) (x : List PV) : Back σh σ σs ⟨σ.bx ++ [x], σ.tk⟩ ⟨σs.bx ++ [x], σs.tk⟩ where
  tk := ha.tk
  len := by simp [ha.len]
  hid := fun k hk => by
    by_cases h : k < σ.bx.length
    · rw [List.getElem?_append_left h, List.getElem?_append_left (by rw [ha.len]; exact h), ha.hid k hk]
    · have e := ha.len
      rw [List.getElem?_append_right (by omega), List.getElem?_append_right (by omega), ha.len]
  kept := fun k hk => by
    have := hh k hk
    exact ⟨List.getElem?_append_left (by rw [ha.len]; exact this), List.getElem?_append_left this⟩

theorem Agree.same {σh σ σs : AS} (ha : Agree σh σ σs) : Back σh σ σs σ σs := ⟨ha.tk, ha.len, ha.hid, fun _ _ => ⟨rfl, rfl⟩⟩

theorem Agree.set {σh σ σs : AS} (ha : Agree σh σ σs) {b : Nat} (hb : keep σh b = false) (x : List PV) (tk : List (TypeId × Nat)) : Back σh σ σs ⟨σ.bx.set b x, tk⟩ ⟨σs.bx.set b x, tk⟩ where
  tk := rfl
  len := by simp [ha.len]
  hid := fun k hk => by simp only [List.getElem?_set, ha.len, ha.hid k hk]
  kept := fun k hk => by
    have : b ≠ k := by intro e; rw [e, hk] at hb; cases hb
    exact ⟨List.getElem?_set_ne this, List.getElem?_set_ne this⟩

theorem Agree.tks {σh σ σs : AS} (ha : Agree σh σ σs) (tk : List (TypeId × Nat)) : Back σh σ σs ⟨σ.bx, tk⟩ ⟨σs.bx, tk⟩ := ⟨rfl, ha.len, ha.hid, fun _ _ => ⟨rfl, rfl⟩⟩

theorem appA_agree {σh σ σs σ' : AS} {t : TypeId} {p q r : PV} (ha : Agree σh σ σs) (h : appA C t p q σ = some (r, σ')) : ∃ σs', appA C t p q σs = some (r, σs') ∧ Back σh σ σs σ' σs' := by
  have one : ∀ (tk : List (TypeId × Nat)) (k : Nat) (xs ys : List (List PV)) (r : PV) (σ' : AS), appendA C ⟨σ.bx, tk⟩ t k xs ys = some (r, σ') → ∃ σs', appendA C ⟨σs.bx, tk⟩ t k xs ys = some (r, σs') ∧ Back σh σ σs σ' σs' := by
    intro tk k xs ys r σ' h
    unfold appendA at h ⊢
    split at h <;> try cases h
    rename_i y hy
    split at h <;> try cases h
    rename_i e hd
    split at h <;> try cases h
    rename_i z E m hz hk
    split at h <;> try cases h
    rename_i hc
    simp only [hy, hd, hz, hk, if_pos hc]
    exact ⟨_, rfl, ha.tks _⟩
  have hs : σs = ⟨σs.bx, σ.tk⟩ := by rw [← ha.tk]
  unfold appA at h ⊢
  split at h
  · rename_i k xs o' ys
    obtain ⟨σs', k1, k2⟩ := one σ.tk k xs ys r σ' h
    exact ⟨σs', by rw [hs]; exact k1, k2⟩
  · rename_i k xs
    obtain ⟨σs', k1, k2⟩ := one σ.tk k xs [] r σ' h
    exact ⟨σs', by rw [hs]; exact k1, k2⟩
  · rename_i o' ys
    split at h <;> try cases h
    rename_i y hy
    split at h <;> try cases h
    rename_i e hd
    obtain ⟨σs', k1, k2⟩ := one _ _ [] ys r σ' h
    exact ⟨σs', by simp only [hy, hd, ha.tk]; exact k1, k2⟩
  · cases h

theorem appStr_agree {σh σ σs σ' : AS} {t u : TypeId} {p q r : PV} (ha : Agree σh σ σs) (h : appStr C t u p q σ = some (r, σ')) : ∃ σs', appStr C t u p q σs = some (r, σs') ∧ Back σh σ σs σ' σs' := by
  unfold appStr at h ⊢
  split at h
  · unfold appendS at h ⊢
    split at h <;> try cases h
    rename_i y yu hy hyu
    split at h <;> try cases h
    rename_i e hd hdu
    split at h <;> try cases h
    rename_i z E m hz hk
    split at h <;> try cases h
    rename_i hc
    have htk := ha.tk
    simp only [hy, hyu, hd, hdu, hz, htk, hk, if_pos hc]
    exact ⟨_, rfl, ha.tks _⟩
  · cases h

theorem effOp_ok {N : Nat} {o : Oper} {pf : PF} {σh σ σ' : AS} {p : PV} (hh : Hid σh σ) (h : effOp C σh o pf σ = some (p, σ')) : FEff C N o pf σh σ p σ' := by
  intro σs ha
  have step : (∃ σs', stepOp C o pf σs = some (p, σs') ∧ Back σh σ σs σ' σs') → ∃ σs', Eff C N o pf σs p σs' ∧ Back σh σ σs σ' σs' := by
    rintro ⟨σs', h1, h2⟩
    exact ⟨σs', stepOp_ok h1, h2⟩
  apply step
  unfold effOp at h
  split at h
  · rename_i t x ho
    unfold stepOp at h ⊢
    simp only [ho] at h ⊢
    split at h <;> try cases h
    rename_i q hq
    split at h <;> try cases h
    rename_i ps hps
    exact ⟨_, by simp only [ha.len], ha.push hh _⟩
  · rename_i t ho
    unfold stepOp at h ⊢
    simp only [ho] at h ⊢
    split at h <;> try cases h
    rename_i y hy
    split at h <;> try cases h
    rename_i ps hps
    exact ⟨_, by simp only [ha.len], ha.push hh _⟩
  · rename_i t parts ho
    unfold stepOp at h ⊢
    simp only [ho] at h ⊢
    split at h <;> try cases h
    split at h <;> try cases h
    exact ⟨_, rfl, ha.same⟩
  · rename_i t n parts ho
    unfold stepOp at h ⊢
    simp only [ho] at h ⊢
    split at h <;> try cases h
    split at h <;> try cases h
    exact ⟨_, rfl, ha.same⟩
  · rename_i t a x ho
    split at h <;> try cases h
    rename_i i off hp
    split at h <;> try cases h
    rename_i hk
    unfold stepOp at h ⊢
    simp only [ho, hp] at h ⊢
    split at h <;> try cases h
    rename_i p' q hp' hq
    cases hp'
    split at h <;> try cases h
    rename_i hs
    unfold storeA at hs
    split at hs <;> try cases hs
    rename_i i' off' ps ty e hps hty
    cases e
    split at hs <;> try cases hs
    rename_i qs hqs
    split at hs <;> try cases hs
    rename_i hc
    have hqs' : σs.bx[i]? = some qs := by rw [ha.hid i (by simpa using hk)]; exact hqs
    refine ⟨⟨σs.bx.set i (qs.take off ++ ps ++ qs.drop (off + ps.length)), σs.tk⟩, by simp only [storeA, hps, hty, hqs', if_pos hc], ?_⟩
    rw [ha.tk]
    exact ha.set (by simpa using hk) _ _
  · rename_i c ho
    split at h <;> try cases h
    · rename_i hb
      unfold stepOp at h ⊢
      simp only [ho, hb] at h ⊢
      split at h
      · rename_i x y t u _ hA hT
        split at h
        rotate_left
        · rename_i htu
          split at h <;> try cases h
          rename_i p' q' hp hq
          obtain ⟨σs', k1, k2⟩ := appStr_agree ha h
          exact ⟨σs', by simp only [hA, hT, if_neg htu, hp, hq, k1], k2⟩
        rename_i htu
        subst htu
        split at h <;> try cases h
        rename_i p' q' hp hq
        obtain ⟨σs', k1, k2⟩ := appA_agree ha h
        exact ⟨σs', by simp only [hA, hT, if_true, hp, hq, k1], k2⟩
      · split at h <;> try cases h
        rename_i hp
        simp [pureOp, ho, hb] at hp
    · rename_i hb
      split at h <;> try cases h
      rename_i hp
      refine ⟨σs, ?_, ha.same⟩
      have e : pureOp C o pf σs = some p := by rw [← hp]; unfold pureOp; simp only [ho, hb]
      unfold stepOp
      simp only [ho, hb, e]
  · rename_i ho
    split at h <;> try cases h
    rename_i hp
    refine ⟨σs, ?_, ha.same⟩
    have e : pureOp C o pf σs = some p := by rw [← hp]; unfold pureOp; simp only [ho]
    unfold stepOp
    simp only [ho, e]
  · rename_i ho
    split at h <;> try cases h
    rename_i hp
    refine ⟨σs, ?_, ha.same⟩
    have e : pureOp C o pf σs = some p := by rw [← hp]; unfold pureOp; simp only [ho]
    unfold stepOp
    simp only [ho, e]
  · rename_i ho
    split at h <;> try cases h
    rename_i hp
    refine ⟨σs, ?_, ha.same⟩
    have e : pureOp C o pf σs = some p := by rw [← hp]; unfold pureOp; simp only [ho]
    unfold stepOp
    simp only [ho, e]
  · rename_i ho
    split at h <;> try cases h
    rename_i hp
    refine ⟨σs, ?_, ha.same⟩
    have e : pureOp C o pf σs = some p := by rw [← hp]; unfold pureOp; simp only [ho]
    unfold stepOp
    simp only [ho, e]
  · rename_i ho
    split at h <;> try cases h
    rename_i hp
    refine ⟨σs, ?_, ha.same⟩
    have e : pureOp C o pf σs = some p := by rw [← hp]; unfold pureOp; simp only [ho]
    unfold stepOp
    simp only [ho, e]
  · cases h

/-! ### The walk through a region whose order is drawn -/
def down1 : PV → PV
  | .val v => .val v
  | _ => .any
def down : PV → PV
  | .val v => .val v
  | .tup ps => .tup (ps.map down1)
  | .agg ps => .agg (ps.map down1)
  | _ => .any
theorem down1_ok {s s1 : S} {p : PV} {v : Value} (h : Rep C.P s p v) : Rep C.P s1 (down1 p) v := by
  cases p <;> first | exact .any v | (cases h; exact .val v)
theorem down_ok {s s1 : S} {p : PV} {v : Value} (h : Rep C.P s p v) : Rep C.P s1 (down p) v := by
  cases p with
  | val x => cases h; exact .val v
  | tup ps =>
    cases h
    rename_i vs hl hv
    refine .tup _ _ (by simpa using hl) fun j p v hp hv' => ?_
    rw [List.getElem?_map] at hp
    obtain ⟨q, h1, rfl⟩ := Option.map_eq_some_iff.1 hp
    exact down1_ok (hv j q v h1 hv')
  | agg ps =>
    cases h
    rename_i vs hl hv
    refine .agg _ _ (by simpa using hl) fun j p v hp hv' => ?_
    rw [List.getElem?_map] at hp
    obtain ⟨q, h1, rfl⟩ := Option.map_eq_some_iff.1 hp
    exact down1_ok (hv j q v h1 hv')
  | _ => exact .any v

/-- Does operation j wait for operation i, directly or through others? -/
def ancB (ops : Array Oper) : Nat → Nat → Nat → Bool
  | 0, _, _ => false
  | f + 1, j, i => match ops[j]? with
    | some o => o.after.any fun e => Region.binds .any e && (e.on == i || ancB ops f e.on i)
    | none => false

/-- Could one of T come behind operation j? -/
def needS (ops : Array Oper) (T : List Nat) (j : Nat) : Bool := T.any fun i => !ancB ops ops.size j i

/-- Whoever is listed, those that it waits for are listed. -/
def DC (ops : Array Oper) (listed : Array Bool) : Prop := ∀ j o, ops[j]? = some o → listed.getD j false = true → ∀ e ∈ o.after, Region.binds .any e = true → listed.getD e.on false = true

theorem DC.anc {ops : Array Oper} {listed : Array Bool} (h : DC ops listed) : ∀ (f j i : Nat), (∀ o, ops[j]? = some o → ∀ e ∈ o.after, Region.binds .any e = true → listed.getD e.on false = true) → ancB ops f j i = true → listed.getD i false = true
  | 0, _, _, _, hc => by cases hc
  | f + 1, j, i, hj, hc => by
    unfold ancB at hc
    split at hc
    · rename_i o ho
      obtain ⟨e, he, hb⟩ := Array.any_eq_true'.1 hc
      simp only [Bool.and_eq_true, Bool.or_eq_true, beq_iff_eq] at hb
      have hl := hj o ho e he hb.1
      rcases hb.2 with h1 | h1
      · rw [← h1]; exact hl
      · exact DC.anc h f e.on i (fun o' ho' => h e.on o' ho' hl) h1
    · cases hc

theorem DC.set {ops : Array Oper} {listed : Array Bool} (h : DC ops listed) {i : Nat} (hi : i ∈ Region.ready .any ops listed) : DC ops (listed.setIfInBounds i true) := by
  intro j o ho hj e he hb
  by_cases hij : i = j
  · subst hij
    obtain ⟨_, o', ho', hall⟩ := mem_ready.1 hi
    rw [ho] at ho'
    cases ho'
    exact getD_set_true (hall e he hb)
  · have : (listed.setIfInBounds i true).getD j false = listed.getD j false := getD_set_ne false hij
    rw [this] at hj
    exact getD_set_true (h j o ho hj e he hb)

theorem DC.start (ops : Array Oper) (n : Nat) : DC ops (Array.replicate n false) := by
  intro j o _ h
  simp only [Array.getD_eq_getD_getElem?, Array.getElem?_replicate] at h
  split at h <;> simp at h

/-- Whatever order is drawn from here on; S holds behind every operation that one of T may follow. -/
def anyT (P : Program) (ops : Array Oper) (Q : Exit → Act → World → Prop) (S : World → Prop) (T : List Nat) : Nat → Array Bool → Act → World → Prop
  | 0, listed, a, w => Region.ready .any ops listed = [] ∧ Q .normal a w
  | fuel + 1, listed, a, w =>
    (Region.ready .any ops listed = [] → Q .normal a w) ∧
    ∀ i ∈ Region.ready .any ops listed, wpOp P ops Q i (fun a' w' => (needS ops T i = true → S w') ∧ anyT P ops Q S T fuel (listed.setIfInBounds i true) a' w') a w

theorem anyT.any {P : Program} {ops : Array Oper} {Q : Exit → Act → World → Prop} {S : World → Prop} {T : List Nat} : ∀ (fuel : Nat) (listed : Array Bool) (a : Act) (w : World), anyT P ops Q S T fuel listed a w → wpAny P .any ops Q fuel listed a w
  | 0, _, _, _, h => h
  | fuel + 1, _, _, _, h => ⟨h.1, fun i hi => wpOp_mono (fun a' w' h' => anyT.any fuel _ a' w' h'.2) (h.2 i hi)⟩

theorem anyT.first {P : Program} {ops : Array Oper} {Q : Exit → Act → World → Prop} {S : World → Prop} {T : List Nat} {i : Nat} {oi : Oper} {v : Value} (hT : i ∈ T) (hi : ops[i]? = some oi) (hsel : Region.noSelect ops = true)
    (hQ : ∀ c a w, Q (.panic c) (a.put oi.dst v) w → Q (.panic c) a w) : ∀ (fuel : Nat) (listed : Array Bool) (a : Act) (w : World),
      (∀ j oj, ops[j]? = some oj → j ≠ i → listed.getD j true = false → (∀ e ∈ oj.after, Region.binds .any e = true → e.on ≠ i) → oi.apart ops oj = true) →
      DC ops listed → i ∈ Region.ready .any ops listed → YieldsIf P ops S oi v a → S w →
      anyT P ops Q S T fuel (listed.setIfInBounds i true) (a.put oi.dst v) w → anyT P ops Q S T (fuel + 1) listed a w := by
  have hs := Region.noSelect_spec hsel
  intro fuel
  induction fuel with
  | zero =>
    intro listed a w _ _ hr hy hS H
    refine ⟨fun h => (by rw [h] at hr; cases hr), fun j hj => ?_⟩
    by_cases e : j = i
    · subst e; exact hy.wpOp hi hS ⟨fun _ => hS, H⟩
    · have h0 := ready_mono hj e
      rw [H.1] at h0
      cases h0
  | succ fuel ih =>
    intro listed a w hfree hdc hr hy hS H
    have hu := (mem_ready.1 hr).1
    have hnl : listed.getD i false = true → False := fun h => by
      rcases Nat.lt_or_ge i listed.size with h' | h'
      · simp [h'] at h hu; rw [hu] at h; cases h
      · simp [Array.getElem?_eq_none h'] at h
    refine ⟨fun h => (by rw [h] at hr; cases hr), fun j hj => ?_⟩
    by_cases e : j = i
    · subst e; exact hy.wpOp hi hS ⟨fun _ => hS, H⟩
    · obtain ⟨hjun, oj, hoj, hall⟩ := mem_ready.1 hj
      have hne : i ≠ j := fun h => e h.symm
      have hwait : ∀ d ∈ oj.after, Region.binds .any d = true → d.on ≠ i := fun d hd hb heq => hnl (heq ▸ hall d hd hb)
      have hneed : needS ops T j = true := by
        refine List.any_eq_true.2 ⟨i, hT, ?_⟩
        rcases hb : ancB ops ops.size j i with _ | _
        · rfl
        · exact (hnl (hdc.anc ops.size j i (fun o ho => by rw [hoj] at ho; cases ho; exact hall) hb)).elim
      have h2 := wpOp_putIf hoj (hfree j oj hoj e hjun hwait) (fun cs b => hs i oi cs b hi) (fun cs b => hs j oj cs b hoj) hQ hy (H.2 j (ready_mono hj e))
      refine wpOp_mono (fun a' w' h3 => ?_) h2
      have hS' : S w' := h3.2.1 hneed
      refine ⟨fun _ => hS', ih (listed.setIfInBounds j true) a' w' (fun k ok hk hki hun hno => hfree k ok hk hki ?_ hno) (hdc.set hj) (ready_mono hr hne) h3.1 hS' ?_⟩
      · by_cases hjk : j = k
        · subst hjk; exact hjun
        · rw [getD_set_ne true hjk] at hun; exact hun
      · rw [Array.setIfInBounds_comm _ _ e]
        exact h3.2.2

structure HS (C : Cx) (F : Fx) (w0 : World) (base : Nat) (se s1 s : S) (σ1 σh : AS) (pf1 pf : PF) (σ : AS) (a : Act) (ops : Array Oper) (T : List Nat) (listed : Array Bool) (kp : Bool) : Prop where
  dc : DC ops listed
  at_ : At F se
  m1 : Mono C.P se s1
  i1 : Inv C w0 base σ1 s1
  i : Inv C w0 base σ s
  m : Mono C.P s1 s
  same : kp = true → Same C σh s1 s.w
  r1 : RepF C s1 F.N pf1 a
  r : RepF C s F.N pf a

def SH (C : Cx) (F : Fx) (ops : Array Oper) (Q : Post) (T : List Nat) (kp : Bool) (σ1 σh : AS) (fuel : Nat) (listed : Array Bool) (pf1 pf : PF) (σ : AS) : Prop :=
  ∀ w0 base se s1 s a, HS C F w0 base se s1 s σ1 σh pf1 pf σ a ops T listed kp → anyT C.P ops (Lift C F w0 base se Q) (Same C σh s1) T fuel listed a s.w

def SHo (C : Cx) (F : Fx) (ops : Array Oper) (Q : Post) (T : List Nat) (kp : Bool) (σ1 σh : AS) (i : Nat) (fuel : Nat) (listed : Array Bool) (pf1 pf : PF) (σ : AS) : Prop :=
  ∀ w0 base se s1 s a, HS C F w0 base se s1 s σ1 σh pf1 pf σ a ops T listed kp → i ∈ Region.ready .any ops listed → wpOp C.P ops (Lift C F w0 base se Q) i (fun a' w' => (needS ops T i = true → Same C σh s1 w') ∧ anyT C.P ops (Lift C F w0 base se Q) (Same C σh s1) T fuel (listed.setIfInBounds i true) a' w') a s.w

def NoPanic (Q : Post) : Prop := ∀ c pf σ, ¬ Q (.panic c) pf σ
def Sub0 (σh σ1 : AS) : Prop := ∀ (k : Nat) (ps : List PV), σh.bx[k]? = some ps → ps = [] ∨ σ1.bx[k]? = some ps
theorem Sub0.hid {σh σ1 : AS} (h : Sub0 σh σ1) : Hid σh σ1 := fun k hk => by
  unfold keep at hk
  split at hk
  · rename_i p r hp
    rcases h k _ hp with h | h
    · cases h
    · exact (List.getElem?_eq_some_iff.1 h).1
  · cases hk
theorem Sub0.rfl {σ : AS} : Sub0 σ σ := fun _ _ h => .inr h
theorem Sub0.set {σ : AS} (b : Nat) : Sub0 ⟨σ.bx.set b [], σ.tk⟩ σ := fun k ps h => by
  rw [List.getElem?_set] at h
  split at h
  · split at h
    · cases h; exact .inl (Eq.refl _)
    · cases h
  · exact .inr h

variable {F : Fx} {ops : Array Oper} {Q : Post} {T : List Nat} {kp : Bool} {σ1 σh : AS} {fuel : Nat} {listed : Array Bool} {pf1 pf : PF} {σ : AS}

theorem Same.kept {s1 s s' : S} (h : Same C σh s1 s.w) (m1 : Mono C.P s1 s) (m : Mono C.P s s') (k : KeptC σh s s'.w) : Same C σh s1 s'.w where
  box := fun i b ps hp hb j hj => by
    have hk : keep σh i = true := by
      unfold keep
      rw [hp]
      cases ps with
      | nil => simp at hj
      | cons x r => rfl
    rw [k i b hk (m1.bx i b hb) j, h.box i b ps hp hb j hj]
  cell := fun b hi' o v hst ho hv => (m1.trans m).cell b hi' o v hst ho hv

/-- An operation that only computes or reads what σh shows. -/
def takeOp (C : Cx) (σh : AS) (o : Oper) (pf : PF) : Option PV := match o.op with
  | .build t parts => match partsA C.GE pf parts.toList with
    | some ps => buildA C t ps
    | none => none
  | _ => pureOp C o pf σh

theorem takeOp_all {N : Nat} {o : Oper} {p : PV} {w0 : World} {base : Nat} {s : S} {a : Act} (h : takeOp C σh o pf = some p) (hi : Inv C w0 base σ s) (hr : RepF C s N pf a) (hs : Sub0 σh σ) :
    ∃ v, (∀ w : World, Same C σh s w → (execOp a.eval o).run C.P w = .ok (.value v) w) ∧ Rep C.P s p v := by
  unfold takeOp at h
  split at h
  · rename_i t parts ho
    split at h <;> try cases h
    rename_i ps hps
    obtain ⟨v, h1, h2⟩ := build_all ho hps h hi hr
    exact ⟨v, fun w _ => h1 w, h2⟩
  · exact pureOp_all h hi hr hs

theorem SH.take {i : Nat} {o : Oper} {p : PV} (hT : i ∈ T) (hi : ops[i]? = some o) (hs : Region.noSelect ops = true) (hf : Region.free .any ops listed i = true) (hr : (Region.ready .any ops listed).contains i = true)
    (hQ : NoPanic Q) (hs0 : Sub0 σh σ1) (hd : inN F.N o.dst = true) (hg : gd ops o pf1 = some true) (hp : takeOp C σh o pf1 = some p)
    (h : SH C F ops Q T true σ1 σh fuel (listed.setIfInBounds i true) (setd pf1 o.dst p) (setd pf o.dst p) σ) : SH C F ops Q T true σ1 σh (fuel + 1) listed pf1 pf σ := by
  intro w0 base se s1 s a H
  have hr' : i ∈ Region.ready .any ops listed := by simpa using hr
  have hS := H.same rfl
  obtain ⟨v, h1, h2⟩ := takeOp_all hp H.i1 H.r1 hs0
  refine anyT.first (v := v) hT hi hs ?_ fuel listed a s.w (Region.free_spec hi hf) H.dc hr' (.inl ⟨gd_ok H.r1 hg, fun w hw => h1 w hw⟩) hS
    (h w0 base se s1 s _ ⟨H.dc.set hr', H.at_, H.m1, H.i1, H.i, H.m, fun _ => hS, H.r1.put (inN_ok hd) h2, H.r.put (inN_ok hd) (h2.mono H.m)⟩)
  rintro c a' w' ⟨pf', σ', s', _, hq, _⟩
  exact absurd hq (hQ c pf' σ')

theorem SH.skip {i : Nat} {o : Oper} (hT : i ∈ T) (hi : ops[i]? = some o) (hs : Region.noSelect ops = true) (hf : Region.free .any ops listed i = true) (hr : (Region.ready .any ops listed).contains i = true)
    (hQ : NoPanic Q) (hd : inN F.N o.dst = true) (hg : gd ops o pf1 = some false)
    (h : SH C F ops Q T true σ1 σh fuel (listed.setIfInBounds i true) (setd pf1 o.dst (.val (.tuple #[]))) (setd pf o.dst (.val (.tuple #[]))) σ) : SH C F ops Q T true σ1 σh (fuel + 1) listed pf1 pf σ := by
  intro w0 base se s1 s a H
  have hr' : i ∈ Region.ready .any ops listed := by simpa using hr
  have hS := H.same rfl
  refine anyT.first (v := undef) hT hi hs ?_ fuel listed a s.w (Region.free_spec hi hf) H.dc hr' (.inr ⟨gd_ok H.r1 hg, rfl⟩) hS
    (h w0 base se s1 s _ ⟨H.dc.set hr', H.at_, H.m1, H.i1, H.i, H.m, fun _ => hS, H.r1.put (inN_ok hd) (.val _), H.r.put (inN_ok hd) (.val _)⟩)
  rintro c a' w' ⟨pf', σ', s', _, hq, _⟩
  exact absurd hq (hQ c pf' σ')

/-- Each of a list. -/
def AllL (p : Nat → Prop) : List Nat → Prop
  | [] => True
  | i :: r => p i ∧ AllL p r
theorem AllL.mem {p : Nat → Prop} : ∀ {l : List Nat}, AllL p l → ∀ i ∈ l, p i
  | _ :: _, h, _, .head _ => h.1
  | _ :: _, h, i, .tail _ hm => AllL.mem h.2 i hm

theorem SH.all (rs : List Nat) (hr : Region.ready .any ops listed = rs) (hne : rs ≠ []) (h : AllL (fun i => SHo C F ops Q T kp σ1 σh i fuel listed pf1 pf σ) rs) : SH C F ops Q T kp σ1 σh (fuel + 1) listed pf1 pf σ :=
  fun w0 base se s1 s a H => ⟨fun h0 => absurd (hr ▸ h0) hne, fun i hi => h.mem i (hr ▸ hi) w0 base se s1 s a H hi⟩

theorem SH.done (hr : Region.ready .any ops listed = []) (h : Q .normal pf σ) : SH C F ops Q T kp σ1 σh fuel listed pf1 pf σ := by
  intro w0 base se s1 s a H
  have hq : Lift C F w0 base se Q .normal a s.w := ⟨pf, σ, s, rfl, h, H.i, H.r, H.m1.trans H.m⟩
  cases fuel with
  | zero => exact ⟨hr, hq⟩
  | succ n => exact ⟨fun _ => hq, by rw [hr]; simp⟩

theorem SHo.skip {i : Nat} {o : Oper} (hi : ops[i]? = some o) (hd : inN F.N o.dst = true) (hg : gd ops o pf = some false)
    (h : SH C F ops Q T true σ1 σh fuel (listed.setIfInBounds i true) (setd pf1 o.dst (.val (.tuple #[]))) (setd pf o.dst (.val (.tuple #[]))) σ) : SHo C F ops Q T true σ1 σh i fuel listed pf1 pf σ := by
  intro w0 base se s1 s a H hri
  unfold wpOp
  simp only [hi, gd_ok H.r hg, Bool.false_eq_true, if_false]
  exact ⟨fun _ => H.same rfl, h w0 base se s1 s _ ⟨H.dc.set hri, H.at_, H.m1, H.i1, H.i, H.m, fun _ => H.same rfl, H.r1.put (inN_ok hd) (.val _), H.r.put (inN_ok hd) (.val _)⟩⟩

theorem SHo.eff {i : Nat} {o : Oper} {p : PV} {σ' : AS} (hi : ops[i]? = some o) (hh : Hid σh σ) (hd : inN F.N o.dst = true) (hg : gd ops o pf = some true) (he : effOp C σh o pf σ = some (p, σ'))
    (h : SH C F ops Q T true σ1 σh fuel (listed.setIfInBounds i true) (setd pf1 o.dst (down p)) (setd pf o.dst p) σ') : SHo C F ops Q T true σ1 σh i fuel listed pf1 pf σ := by
  intro w0 base se s1 s a H hri
  obtain ⟨v, s', h1, h2, h3, h4, h5⟩ := (effOp_ok (N := F.N) hh he).use H.i H.r
  have hS := (H.same rfl).kept H.m h4 h5
  have fin := h w0 base se s1 s' (a.put o.dst v) ⟨H.dc.set hri, H.at_, H.m1, H.i1, h3, H.m.trans h4, fun _ => hS, H.r1.put (inN_ok hd) (down_ok h2), (H.r.mono h4).put (inN_ok hd) h2⟩
  unfold wpOp
  simp only [hi, gd_ok H.r hg, if_true]
  refine .inl ?_
  unfold Oper.wp
  rcases h1 with h1 | ⟨h1, rfl⟩
  · rw [h1]; exact ⟨fun _ => hS, fin⟩
  · rw [h1]; exact ⟨fun _ => hS, fin⟩

/-- An operation behind which nothing is taken any more. -/
theorem SHo.last {i : Nat} {o : Oper} {p : PV} {σ' : AS} (hi : ops[i]? = some o) (hd : inN F.N o.dst = true) (hg : gd ops o pf = some true) (hn : needS ops T i = false) (he : stepOp C o pf σ = some (p, σ'))
    (h : SH C F ops Q T false σ1 σh fuel (listed.setIfInBounds i true) (setd pf1 o.dst (down p)) (setd pf o.dst p) σ') : SHo C F ops Q T kp σ1 σh i fuel listed pf1 pf σ := by
  intro w0 base se s1 s a H hri
  obtain ⟨v, s', h1, h2, h3, h4⟩ := stepOp_ok (N := F.N) he w0 base s a H.i H.r
  have fin := h w0 base se s1 s' (a.put o.dst v) ⟨H.dc.set hri, H.at_, H.m1, H.i1, h3, H.m.trans h4, (fun h => by cases h), H.r1.put (inN_ok hd) (down_ok h2), (H.r.mono h4).put (inN_ok hd) h2⟩
  unfold wpOp
  simp only [hi, gd_ok H.r hg, if_true]
  refine .inl ?_
  unfold Oper.wp
  have hnn : ∀ X : Prop, needS ops T i = true → X := fun X h => by rw [hn] at h; cases h
  rcases h1 with h1 | ⟨h1, rfl⟩
  · rw [h1]; exact ⟨hnn _, fin⟩
  · rw [h1]; exact ⟨hnn _, fin⟩

theorem SHo.enter {i : Nat} {o : Oper} {c : Call} {f : Operand} {k : FuncId} {caps ps : List PV} {R : PV → AS → Prop} {K : S → S → Prop} {w0 : World} {base : Nat} {se s1 s : S} {a : Act} (H : HS C F w0 base se s1 s σ1 σh pf1 pf σ a ops T listed kp) (hi : ops[i]? = some o) (hg : gd ops o pf = some true)
    (ho : o.op = .call c) (hc : c.callee = .value f) (hf : ev C.GE pf f = some (.fn k caps)) (ha : evs C.GE pf c.args.toList = some ps) (hgo : isGo C.P k = true)
    (hs : ∀ vs : List Value, (ps ++ caps).length = vs.length → (∀ (j : Nat) (p : PV) (v : Value), (ps ++ caps)[j]? = some p → vs[j]? = some v → Rep C.P s p v) →
      Calls C.P k vs.toArray s.w fun e w' => ∃ v r σ' s', e = .returned v ∧ s'.w = w' ∧ R r σ' ∧ Inv C w0 base σ' s' ∧ Rep C.P s' r v ∧ Mono C.P s s' ∧ K s s')
    {Z : Act → World → Prop} (h : ∀ v r σ' s', R r σ' → Inv C w0 base σ' s' → Rep C.P s' r v → Mono C.P s s' → K s s' → Z (a.put o.dst v) s'.w) : wpOp C.P ops (Lift C F w0 base se Q) i Z a s.w := by
  have hf' := ev_ok H.i H.r hf
  cases hfv : a.eval f <;> rw [hfv] at hf' <;> cases hf'
  rename_i cvs hcl hcr
  obtain ⟨e1, e2⟩ := evs_ok H.i H.r ha
  have hmap : c.args.map a.eval = (c.args.toList.map a.eval).toArray := by rw [← Array.toList_map, Array.toArray_toList]
  have hrun : (execOp a.eval o).run C.P s.w = .ok (.enter k (c.args.toList.map a.eval ++ cvs).toArray) s.w := by
    simp only [execOp, ho, resolve, hc, Deferred.ofValue, hfv, Sem.run_bind, Sem.run_pure, Result.andThen_ok, invoke]
    have : (#[] ++ c.args.map a.eval ++ cvs.toArray) = (c.args.toList.map a.eval ++ cvs).toArray := by rw [hmap]; simp
    rw [this, callFunc_ok hgo]
  unfold wpOp
  simp only [hi, gd_ok H.r hg, if_true]
  refine .inl ?_
  unfold Oper.wp
  rw [hrun, Oper.upon_enter]
  refine (hs _ (by simp only [List.length_append]; omega) (fun j p v hp hv => ?_)).mono ?_
  · rcases app_cases hp with ⟨a1, a2⟩ | ⟨a1, a2⟩
    · rw [List.getElem?_append_left (by omega)] at hv
      exact e2 j p v a2 hv
    · rw [List.getElem?_append_right (by omega)] at hv
      rw [← e1] at hv
      exact hcr _ p v a2 hv
  · rintro e w' ⟨v, r, σ', s', rfl, rfl, hR, hi', hr', hm', hk⟩
    exact h v r σ' s' hR hi' hr' hm' hk

theorem SHo.call {i : Nat} {o : Oper} {c : Call} {f : Operand} {k : FuncId} {caps ps : List PV} {R : PV → AS → Prop} (hi : ops[i]? = some o) (hd : inN F.N o.dst = true) (hg : gd ops o pf = some true)
    (ho : o.op = .call c) (hc : c.callee = .value f) (hf : ev C.GE pf f = some (.fn k caps)) (ha : evs C.GE pf c.args.toList = some ps) (hgo : isGo C.P k = true) (hs : FSC C k (ps ++ caps) σh σ R)
    (h : ∀ r σ', R r σ' → SH C F ops Q T true σ1 σh fuel (listed.setIfInBounds i true) (setd pf1 o.dst (down r)) (setd pf o.dst r) σ') : SHo C F ops Q T true σ1 σh i fuel listed pf1 pf σ := by
  intro w0 base se s1 s a H hri
  refine SHo.enter (K := fun s s' => KeptC σh s s'.w) H hi hg ho hc hf ha hgo (fun vs hl hv => hs.use H.i hl hv) ?_
  intro v r σ' s' hR hi' hr' hm' hk
  have hS := (H.same rfl).kept H.m hm' hk
  exact ⟨fun _ => hS, h r σ' hR w0 base se s1 s' _ ⟨H.dc.set hri, H.at_, H.m1, H.i1, hi', H.m.trans hm', fun _ => hS, H.r1.put (inN_ok hd) (down_ok hr'), (H.r.mono hm').put (inN_ok hd) hr'⟩⟩

/-- A call behind which nothing is taken any more. -/
theorem SHo.callLast {i : Nat} {o : Oper} {c : Call} {f : Operand} {k : FuncId} {caps ps : List PV} {R : PV → AS → Prop} (hi : ops[i]? = some o) (hd : inN F.N o.dst = true) (hg : gd ops o pf = some true) (hn : needS ops T i = false)
    (ho : o.op = .call c) (hc : c.callee = .value f) (hf : ev C.GE pf f = some (.fn k caps)) (ha : evs C.GE pf c.args.toList = some ps) (hgo : isGo C.P k = true) (hs : SC C k (ps ++ caps) σ R)
    (h : ∀ r σ', R r σ' → SH C F ops Q T false σ1 σh fuel (listed.setIfInBounds i true) (setd pf1 o.dst (down r)) (setd pf o.dst r) σ') : SHo C F ops Q T kp σ1 σh i fuel listed pf1 pf σ := by
  intro w0 base se s1 s a H hri
  refine SHo.enter (K := fun _ _ => True) H hi hg ho hc hf ha hgo (fun vs hl hv => (hs w0 base s vs H.i hl hv).mono fun e w' ⟨v, r, σ', s', h1, h2, h3, h4, h5, h6⟩ => ⟨v, r, σ', s', h1, h2, h3, h4, h5, h6, trivial⟩) ?_
  intro v r σ' s' hR hi' hr' hm' _
  exact ⟨(fun h => by rw [hn] at h; cases h), h r σ' hR w0 base se s1 s' _ ⟨H.dc.set hri, H.at_, H.m1, H.i1, hi', H.m.trans hm', (fun h => by cases h), H.r1.put (inN_ok hd) (down_ok hr'), (H.r.mono hm').put (inN_ok hd) hr'⟩⟩

theorem SW.held {id n : Nat} (hnd : noDefs ops = true) (hno : NoOut Q) (hm : C.P.follows .mixedOrders = true) (hn : ops.size = n) (T : List Nat) (σh : AS)
    (h : SH C F ops Q T true σ σh n (Array.replicate n false) pf pf σ) : SW C F (.region id ops true) Q pf σ := by
  intro w0 base se s a h1 h2 h3 h4
  obtain ⟨k1, k2⟩ := h3.drew
  subst hn
  refine wpIn_region_any hm (wpAny_in hnd hno.lift _ _ _ _ (anyT.any _ _ _ _ (h w0 base se _ ⟨s.g, s.tk, { s.w with drawn := s.w.drawn + 1 }⟩ a ⟨DC.start _ _, h1, h2.trans k2, k1, k1, Mono.refl _ _, fun _ => ⟨fun _ _ _ _ _ _ _ => rfl, fun _ _ _ _ _ _ h => h⟩, h4.mono k2, h4.mono k2⟩)))

/-- Contracts that leave the shown variables alone. -/
theorem FSC.quiet {f : FuncId} {ps : List PV} {r : PV} (h : ∀ σs : AS, SC1 C f ps σs r σs) : FSC C f ps σh σ fun r' σ' => r' = r ∧ σ' = σ := fun σs ha =>
  (h σs).mono fun r' σ' ⟨h1, h2⟩ => ⟨σ, ⟨h1, rfl⟩, by rw [h2]; exact ha.same⟩

theorem FSC.quietR {f : FuncId} {ps : List PV} {R : PV → Prop} (h : ∀ σs : AS, SC C f ps σs fun r σ' => R r ∧ σ' = σs) : FSC C f ps σh σ fun r' σ' => R r' ∧ σ' = σ := fun σs ha =>
  (h σs).mono fun r' σ' ⟨h1, h2⟩ => ⟨σ, ⟨h1, rfl⟩, by rw [h2]; exact ha.same⟩

/-- Contracts that change one variable, which is hidden. -/
theorem FSC.one {f : FuncId} {ps : List PV} {b : Nat} {x : List PV} {R : PV → List PV → Prop} (hb : keep σh b = false) (hx : σ.bx[b]? = some x)
    (h : ∀ σs : AS, σs.bx[b]? = some x → SC C f ps σs fun r σ' => ∃ y, R r y ∧ σ' = ⟨σs.bx.set b y, σs.tk⟩) : FSC C f ps σh σ fun r σ' => ∃ y, R r y ∧ σ' = ⟨σ.bx.set b y, σ.tk⟩ := fun σs ha =>
  (h σs (by rw [ha.hid b hb]; exact hx)).mono fun r σ' ⟨y, h1, h2⟩ => ⟨_, ⟨y, h1, rfl⟩, by rw [h2, ha.tk]; exact ha.set hb y _⟩

theorem FSC.mono {f : FuncId} {ps : List PV} {R R' : PV → AS → Prop} (h : FSC C f ps σh σ R) (hr : ∀ r σ, R r σ → R' r σ) : FSC C f ps σh σ R' := fun σs ha =>
  (h σs ha).mono fun _ _ ⟨σ', h1, h2⟩ => ⟨σ', hr _ _ h1, h2⟩

theorem keep_set (σ : AS) (b : Nat) : keep ⟨σ.bx.set b [], σ.tk⟩ b = false := by
  unfold keep
  dsimp only
  rw [List.getElem?_set_self']
  cases σ.bx[b]? <;> rfl
theorem Hid.mono {σ σ' : AS} (h : Hid σh σ) (hl : σ.bx.length ≤ σ'.bx.length) : Hid σh σ' := fun k hk => Nat.lt_of_lt_of_le (h k hk) hl
end
end Go.Sw

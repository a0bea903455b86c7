/- The logic Sw: literals, calls, whole functions, regions that draw their order, for any program. -/
import Derived.Test.YtbnapbegomemeaaDoorSwE
namespace Go.Sw
open Go.RowKit

section
variable {C : Cx}

theorem Wk.nil : Wk C (.val (.slice none 0 0)) (.sl none []) := by
  intro s v h
  cases h
  exact .sl none [] 0 0 0 0 none (fun _ _ => undef) (Nat.le_refl _) (by decide) (by simp) (by simp) (by simp) (by simp) (by simp) trivial

theorem eff_append {N : Nat} {o : Oper} {pf : PF} {σ σ' : AS} {c : Call} {x y : Operand} {t : TypeId} {k : Nat} {own : Option Nat} {xs ys : List (List PV)} {r : PV} (ho : o.op = .call c) (hc : c.callee = .builtin .append) (ha : c.args = #[x, y]) (hts : c.argTypes = #[t, t])
    (hx : ev C.GE pf x = some (.sl (some k) xs)) (hy : ev C.GE pf y = some (.sl own ys)) (h : appendA C σ t k xs ys = some (r, σ')) : Eff C N o pf σ r σ' := by
  intro w0 base s a hi hr
  obtain ⟨v, s', h1, h2, h3, h4⟩ := appendA_ok hi h (ev_ok hi hr hx) (ev_ok hi hr hy) o.type
  refine ⟨v, s', .inl ?_, h2, h3, h4⟩
  simp [execOp, ho, resolve, hc, ha, hts, invoke, builtin, h1]

theorem eff_append_str {N : Nat} {o : Oper} {pf : PF} {σ σ' : AS} {c : Call} {x y : Operand} {t u : TypeId} {k : Nat} {xs : List (List PV)} {b : ByteArray} {r : PV} (ho : o.op = .call c) (hc : c.callee = .builtin .append) (ha : c.args = #[x, y]) (hts : c.argTypes = #[t, u])
    (hx : ev C.GE pf x = some (.sl (some k) xs)) (hy : ev C.GE pf y = some (.val (.string b))) (h : appendS C σ t u k xs b = some (r, σ')) : Eff C N o pf σ r σ' := by
  intro w0 base s a hi hr
  have hyv : a.eval y = .string b := (ev_ok hi hr hy).val_eq
  obtain ⟨v, s', h1, h2, h3, h4⟩ := appendS_ok hi h (ev_ok hi hr hx) o.type
  refine ⟨v, s', .inl ?_, h2, h3, h4⟩
  simp [execOp, ho, resolve, hc, invoke, builtin, ha, hts, hyv, h1]

theorem eff_append_none {N : Nat} {o : Oper} {pf : PF} {σ σ' : AS} {c : Call} {x y : Operand} {t : TypeId} {k : Nat} {xs : List (List PV)} {r : PV} (ho : o.op = .call c) (hc : c.callee = .builtin .append) (ha : c.args = #[x, y]) (hts : c.argTypes = #[t, t])
    (hx : ev C.GE pf x = some (.sl (some k) xs)) (hy : ev C.GE pf y = some (.val (.slice none 0 0))) (h : appendA C σ t k xs [] = some (r, σ')) : Eff C N o pf σ r σ' := by
  intro w0 base s a hi hr
  obtain ⟨v, s', h1, h2, h3, h4⟩ := appendA_ok hi h (ev_ok hi hr hx) (Wk.nil s _ (ev_ok hi hr hy)) o.type
  refine ⟨v, s', .inl ?_, h2, h3, h4⟩
  simp [execOp, ho, resolve, hc, ha, hts, invoke, builtin, h1]

/-- append onto nil: a new token. -/
theorem eff_append_nil {N : Nat} {o : Oper} {pf : PF} {σ σ' : AS} {c : Call} {x y : Operand} {t e : TypeId} {own : Option Nat} {ys : List (List PV)} {r : PV} (ho : o.op = .call c) (hc : c.callee = .builtin .append) (ha : c.args = #[x, y]) (hts : c.argTypes = #[t, t])
    (hx : ev C.GE pf x = some (.val (.slice none 0 0))) (hy : ev C.GE pf y = some (.sl own ys)) (h : appendA C ⟨σ.bx, σ.tk ++ [(e, 0)]⟩ t σ.tk.length [] ys = some (r, σ')) : Eff C N o pf σ r σ' := by
  intro w0 base s a hi hr
  obtain ⟨i1, m1, r1⟩ := hi.token e
  have hx' : a.eval x = .slice none 0 0 := (ev_ok hi hr hx).val_eq
  obtain ⟨v, s', h1, h2, h3, h4⟩ := appendA_ok i1 h r1 ((ev_ok hi hr hy).mono m1) o.type
  refine ⟨v, s', .inl ?_, h2, h3, m1.trans h4⟩
  simp [execOp, ho, resolve, hc, ha, hts, invoke, builtin, hx', h1]

/-- A nil slice is given a token. -/
theorem SW.token {F : Fx} {Q : Post} {pf : PF} {σ : AS} {c : Code} (e : TypeId) (d : Nat) (hd : get pf d = some (.val (.slice none 0 0))) (h : SW C F c Q ((d, .sl (some σ.tk.length) []) :: pf) ⟨σ.bx, σ.tk ++ [(e, 0)]⟩) : SW C F c Q pf σ := by
  intro w0 base se s a h1 h2 h3 h4
  obtain ⟨i1, m1, r1⟩ := h3.token e
  refine h w0 base se ⟨⟨s.g.bx, s.g.rw ++ [none]⟩, s.tk ++ [(e, 0)], s.w⟩ a h1 (h2.trans m1) i1 ⟨h4.size, h4.defers, fun t p ht => ?_⟩
  simp only [get] at ht
  split at ht
  · rename_i hdt
    cases ht
    subst hdt
    obtain ⟨v, hv, hr⟩ := h4.at_ d _ hd
    have := hr.val_eq
    subst this
    exact ⟨_, hv, r1⟩
  · obtain ⟨v, hv, hr⟩ := h4.at_ t p ht
    exact ⟨v, hv, hr.mono m1⟩

/-- The same for a cell of a variable. -/
theorem Inv.wkcell {w0 : World} {base : Nat} {σ : AS} {s : S} (hi : Inv C w0 base σ s) {i j : Nat} {qs : List PV} {p q : PV} (hq : σ.bx[i]? = some qs) (hj : qs[j]? = some p) (hw : ∀ v, Rep C.P s p v → Rep C.P s q v) : Inv C w0 base ⟨σ.bx.set i (qs.set j q), σ.tk⟩ s where
  tk := hi.tk
  gx := hi.gx
  below := hi.below
  basele := hi.basele
  lbx := by simp [hi.lbx]
  lrw := hi.lrw
  bxinj := hi.bxinj
  rwinj := hi.rwinj
  apart := hi.apart
  rngb := hi.rngb
  rngr := hi.rngr
  box := fun i' b ps hb hp => by
    by_cases e : i' = i
    · subst e
      have hp' : (σ.bx.set i' (qs.set j q))[i']? = some ps := hp
      rw [List.getElem?_set_self (List.getElem?_eq_some_iff.1 hq).1] at hp'
      cases hp'
      obtain ⟨cs, T, h1, h2, h3⟩ := hi.box i' b qs hb hq
      refine ⟨cs, T, h1, by simpa using h2, fun k r v hk hv => ?_⟩
      by_cases ek : k = j
      · subst ek
        rw [List.getElem?_set_self (List.getElem?_eq_some_iff.1 hj).1] at hk
        cases hk
        exact hw v (h3 k p v hj hv)
      · rw [List.getElem?_set_ne (Ne.symm ek)] at hk
        exact h3 k r v hk hv
    · have hp' : (σ.bx.set i (qs.set j q))[i']? = some ps := hp
      rw [List.getElem?_set_ne (Ne.symm e)] at hp'
      exact hi.box i' b ps hb hp'
  glob := hi.glob

theorem SW.tokenbox {F : Fx} {Q : Post} {pf : PF} {σ : AS} {c : Code} (e : TypeId) (i j : Nat) (qs : List PV) (hq : σ.bx[i]? = some qs) (hj : qs[j]? = some (.val (.slice none 0 0)))
    (h : SW C F c Q pf ⟨σ.bx.set i (qs.set j (.sl (some σ.tk.length) [])), σ.tk ++ [(e, 0)]⟩) : SW C F c Q pf σ := by
  intro w0 base se s a h1 h2 h3 h4
  obtain ⟨i1, m1, r1⟩ := h3.token e
  exact h w0 base se ⟨⟨s.g.bx, s.g.rw ++ [none]⟩, s.tk ++ [(e, 0)], s.w⟩ a h1 (h2.trans m1) (Inv.wkcell i1 hq hj fun v hv => by have := hv.val_eq; subst this; exact r1) (h4.mono m1)

end

/-! ### Literals -/
section
variable {C : Cx}

theorem foldl_set (off : Nat) : ∀ (vs : List Value) (i : Nat) (cells : Array Value) (k : Nat), off + i + vs.length ≤ cells.size →
    ((vs.zipIdx i).foldl (fun cs (x : Value × Nat) => cs.setIfInBounds (off + x.2) x.1) cells)[k]? = if off + i ≤ k ∧ k < off + i + vs.length then vs[k - (off + i)]? else cells[k]?
  | [], i, cells, k, _ => by
    have : ¬ (off + i ≤ k ∧ k < off + i + ([] : List Value).length) := by simp
    rw [if_neg this]; rfl
  | v :: vs, i, cells, k, h => by
    simp only [List.zipIdx_cons, List.foldl_cons]
    simp only [List.length_cons] at h
    rw [foldl_set off vs (i + 1) _ k (by simp; omega)]
    by_cases h1 : off + (i + 1) ≤ k ∧ k < off + (i + 1) + vs.length
    · rw [if_pos h1, if_pos (by simp; omega)]
      rw [show k - (off + i) = (k - (off + (i + 1))) + 1 by omega]
      simp
    · rw [if_neg h1]
      by_cases h2 : k = off + i
      · subst h2
        rw [if_pos (by simp)]
        simp only [Nat.sub_self, List.getElem?_cons_zero]
        rw [Array.getElem?_setIfInBounds, if_pos rfl, if_pos (by omega)]
      · rw [if_neg (by simp; omega), Array.getElem?_setIfInBounds, if_neg (by omega)]

/-- Parts laid into a row of cells. -/
def fillA (place : Nat → Option (Nat × Nat)) : List PV → List (Nat × List PV) → Option (List PV)
  | cells, [] => some cells
  | cells, (i, ps) :: r =>
    match place i with
    | some (off, size) => if ps.length = size ∧ off + size ≤ cells.length then fillA place (cells.take off ++ ps ++ cells.drop (off + size)) r else none
    | none => none

theorem fill_ok {s : S} {place : Nat → Option (Nat × Nat)} : ∀ (parts : List (Nat × List PV)) (vparts : List (Nat × Value)) (cells : List PV) (vcells : Array Value) (out : List PV), fillA place cells parts = some out →
    cells.length = vcells.size → (∀ (j : Nat) (p : PV) (v : Value), cells[j]? = some p → vcells[j]? = some v → Rep C.P s p v) →
    parts.length = vparts.length → (∀ (k : Nat) (i : Nat) (ps : List PV) (i' : Nat) (v : Value), parts[k]? = some (i, ps) → vparts[k]? = some (i', v) → i = i' ∧ ∃ vs : List Value, v.cells = vs.toArray ∧ ps.length = vs.length ∧ ∀ (j : Nat) (p : PV) (u : Value), ps[j]? = some p → vs[j]? = some u → Rep C.P s p u) →
    ∃ vout, Instr.fill place vcells vparts = some vout ∧ out.length = vout.size ∧ ∀ (j : Nat) (p : PV) (v : Value), out[j]? = some p → vout[j]? = some v → Rep C.P s p v
  | [], [], cells, vcells, out, h, hl, hr, _, _ => by cases h; exact ⟨vcells, rfl, hl, hr⟩
  | (i, ps) :: parts, (i', v) :: vparts, cells, vcells, out, h, hl, hr, hlen, hp => by
    obtain ⟨rfl, vs, h1, h2, h3⟩ := hp 0 i ps i' v rfl rfl
    simp only [fillA] at h
    split at h
    · rename_i off size hpl
      split at h
      · rename_i hc
        obtain ⟨rfl, hc⟩ := hc
        have hcs : v.cells.size = ps.length := by rw [h1]; simp [h2]
        have hfold : ∀ k, (v.cells.zipIdx.foldl (fun cs (x : Value × Nat) => cs.setIfInBounds (off + x.2) x.1) vcells)[k]? = if off ≤ k ∧ k < off + vs.length then vs[k - off]? else vcells[k]? := by
          intro k
          rw [h1, ← Array.foldl_toList, Array.toList_zipIdx]
          have := foldl_set off vs 0 vcells k (by omega)
          simpa using this
        have hsz : (v.cells.zipIdx.foldl (fun cs (x : Value × Nat) => cs.setIfInBounds (off + x.2) x.1) vcells).size = vcells.size := by
          have : ∀ (l : List (Value × Nat)) (cs : Array Value), (l.foldl (fun cs (x : Value × Nat) => cs.setIfInBounds (off + x.2) x.1) cs).size = cs.size := by
            intro l
            induction l with
            | nil => intro cs; rfl
            | cons x l ih => intro cs; simp only [List.foldl_cons]; rw [ih]; simp
          rw [h1, ← Array.foldl_toList, Array.toList_zipIdx]
          exact this _ _
        obtain ⟨vout, k1, k2, k3⟩ := fill_ok parts vparts _ (v.cells.zipIdx.foldl (fun cs (x : Value × Nat) => cs.setIfInBounds (off + x.2) x.1) vcells) out h (by rw [hsz]; simp; omega) (fun j p u hj hu => by
          rw [hfold j] at hu
          rw [List.append_assoc] at hj
          rcases app_cases hj with ⟨a1, a2⟩ | ⟨a1, a2⟩
          · have hjo : j < off := by simp at a1; omega
            rw [if_neg (by omega)] at hu
            rw [List.getElem?_take, if_pos hjo] at a2
            exact hr j p u a2 hu
          · have e1 : (cells.take off).length = off := by simp; omega
            rw [e1] at a1 a2
            rcases app_cases a2 with ⟨b1, b2⟩ | ⟨b1, b2⟩
            · rw [if_pos (by omega)] at hu
              exact h3 _ p u b2 hu
            · rw [if_neg (by omega)] at hu
              rw [List.getElem?_drop] at b2
              rw [show off + ps.length + (j - off - ps.length) = j by omega] at b2
              exact hr j p u b2 hu) (by simpa using hlen) (fun k i ps i' v ha hb => hp (k + 1) i ps i' v (by simpa using ha) (by simpa using hb))
        refine ⟨vout, ?_, k2, k3⟩
        simp only [Instr.fill, hpl]
        rw [if_neg (by simp [hcs]; omega)]
        exact k1
      · cases h
    · cases h
  | [], _ :: _, _, _, _, _, _, _, h, _ => by simp at h
  | _ :: _, [], _, _, _, _, _, _, h, _ => by simp at h

/-- The parts of a literal. -/
def partsA (GE : Nat → Option PV) (pf : PF) : List (Nat × Operand) → Option (List (Nat × List PV))
  | [] => some []
  | (i, x) :: r => match ev GE pf x with
    | some p => match cellsPV p, partsA GE pf r with
      | some ps, some rs => some ((i, ps) :: rs)
      | _, _ => none
    | none => none

theorem partsA_ok {w0 : World} {base : Nat} {σ : AS} {s : S} {a : Act} {N : Nat} {pf : PF} (hi : Inv C w0 base σ s) (hr : RepF C s N pf a) : ∀ {l : List (Nat × Operand)} {rs : List (Nat × List PV)}, partsA C.GE pf l = some rs →
    rs.length = (l.map fun x => (x.1, a.eval x.2)).length ∧ ∀ (k : Nat) (i : Nat) (ps : List PV) (i' : Nat) (v : Value), rs[k]? = some (i, ps) → (l.map fun x => (x.1, a.eval x.2))[k]? = some (i', v) →
      i = i' ∧ ∃ vs : List Value, v.cells = vs.toArray ∧ ps.length = vs.length ∧ ∀ (j : Nat) (p : PV) (u : Value), ps[j]? = some p → vs[j]? = some u → Rep C.P s p u
  | [], rs, h => by cases h; exact ⟨rfl, fun k i ps i' v h => by simp at h⟩
  | (i, x) :: r, rs, h => by
    simp only [partsA] at h
    split at h <;> try cases h
    rename_i p hp
    split at h <;> try cases h
    rename_i ps rs hps hrs
    obtain ⟨h1, h2⟩ := partsA_ok hi hr hrs
    refine ⟨by simpa using h1, fun k i' ps' i'' v ha hb => ?_⟩
    cases k with
    | zero =>
      simp at ha hb
      obtain ⟨rfl, rfl⟩ := ha
      obtain ⟨rfl, rfl⟩ := hb
      exact ⟨rfl, cellsPV_ok hps (ev_ok hi hr hp)⟩
    | succ k => simp at ha hb; exact h2 k i' ps' i'' v ha (by simpa using hb)

def placesA (C : Cx) : List (Nat × TypeId) → Option (List (Nat × Nat))
  | [] => some []
  | (o, t) :: r => match C.T t, placesA C r with
    | some z, some l => some ((o, z.size) :: l)
    | _, _ => none

theorem placesA_ok : ∀ {l : List Field} {pl : List (Nat × Nat)}, placesA C (l.map fun f => (f.offset, f.type)) = some pl → l.mapM (fun f => (C.P.info? f.type).map fun i => (f.offset, i.size)) = some pl
  | [], pl, h => by cases h; rfl
  | f :: l, pl, h => by
    simp only [List.map_cons, placesA] at h
    split at h <;> try cases h
    rename_i z l' hz hl
    obtain ⟨i, h1, _, h2, _⟩ := info hz
    simp [List.mapM_cons, h1, placesA_ok hl, h2]

/-- A struct out of parts. -/
def buildA (C : Cx) (t : TypeId) (parts : List (Nat × List PV)) : Option PV :=
  match C.T t with
  | some y => match y.d with
    | .struct fs => match placesA C fs, cellsPV (.val y.zero) with
      | some pl, some zs => (fillA (fun i => pl[i]?) zs parts).map .agg
      | _, _ => none
    | .array _ e => match C.T e, cellsPV (.val y.zero) with
      | some z, some zs => (fillA (fun i => some (i * z.size, z.size)) zs parts).map .agg
      | _, _ => none
    | _ => none
  | none => none

theorem build_all {w0 : World} {base : Nat} {s : S} {a : Act} {N : Nat} {o : Oper} {pf : PF} {σ : AS} {t : TypeId} {parts : Array (Nat × Operand)} {ps : List (Nat × List PV)} {p : PV} (ho : o.op = .build t parts) (hp : partsA C.GE pf parts.toList = some ps) (h : buildA C t ps = some p) (hi : Inv C w0 base σ s) (hr : RepF C s N pf a) :
    ∃ v, (∀ w : World, (execOp a.eval o).run C.P w = .ok (.value v) w) ∧ Rep C.P s p v := by
  obtain ⟨e1, e2⟩ := partsA_ok hi hr hp
  have hmap : (parts.map fun (i, x) => (i, a.eval x)) = (parts.toList.map fun x => (x.1, a.eval x.2)).toArray := by
    rw [← Array.toArray_toList (xs := parts.map _), Array.toList_map]
  unfold buildA at h
  split at h <;> try cases h
  rename_i y hy
  obtain ⟨ti, hti, hzero, _, _⟩ := info hy
  split at h <;> try cases h
  · rename_i fs hd
    split at h <;> try cases h
    rename_i pl zs hpl hzs
    obtain ⟨out, hout, rfl⟩ := Option.map_eq_some_iff.1 h
    obtain ⟨l, hl, hm⟩ := und_struct hy hd
    subst hm
    obtain ⟨zv, z1, z2, z3⟩ := cellsPV_ok (C := C) (s := s) hzs (.val y.zero)
    obtain ⟨vout, k1, k2, k3⟩ := fill_ok (C := C) (s := s) ps (parts.toList.map fun x => (x.1, a.eval x.2)) zs y.zero.cells out hout (by rw [z1]; simpa using z2) (fun j p v h1 h2 => z3 j p v h1 (by rw [z1] at h2; simpa using h2)) e1 e2
    have hb : C.P.built t (parts.toList.map fun x => (x.1, a.eval x.2)) = some vout := by
      unfold Program.built
      simp only [hti, hl, hzero, placesA_ok hpl]
      simpa using k1
    refine ⟨.agg vout, ?_, ?_⟩
    · intro w
      simp only [execOp, ho, Sem.run_bind]
      rw [hmap, run_build w t _ vout (by simpa using hb)]
      rfl
    · have := Rep.agg (P := C.P) (s := s) out vout.toList (by simpa using k2) (fun j p v h1 h2 => k3 j p v h1 (by simpa using h2))
      simpa using this
  · rename_i n e hd
    split at h <;> try cases h
    rename_i z zs hz hzs
    obtain ⟨out, hout, rfl⟩ := Option.map_eq_some_iff.1 h
    obtain ⟨ie, hie, _, hisz, _⟩ := info hz
    obtain ⟨zv, z1, z2, z3⟩ := cellsPV_ok (C := C) (s := s) hzs (.val y.zero)
    obtain ⟨vout, k1, k2, k3⟩ := fill_ok (C := C) (s := s) ps (parts.toList.map fun x => (x.1, a.eval x.2)) zs y.zero.cells out hout (by rw [z1]; simpa using z2) (fun j p v h1 h2 => z3 j p v h1 (by rw [z1] at h2; simpa using h2)) e1 e2
    have hb : C.P.built t (parts.toList.map fun x => (x.1, a.eval x.2)) = some vout := by
      unfold Program.built
      simp only [hti, und_array hy hd, hzero, hie, hisz]
      simpa using k1
    refine ⟨.agg vout, ?_, ?_⟩
    · intro w
      simp only [execOp, ho, Sem.run_bind]
      rw [hmap, run_build w t _ vout (by simpa using hb)]
      rfl
    · have := Rep.agg (P := C.P) (s := s) out vout.toList (by simpa using k2) (fun j p v h1 h2 => k3 j p v h1 (by simpa using h2))
      simpa using this

theorem pure_build {N : Nat} {o : Oper} {pf : PF} {σ : AS} {t : TypeId} {parts : Array (Nat × Operand)} {ps : List (Nat × List PV)} {p : PV} (ho : o.op = .build t parts) (hp : partsA C.GE pf parts.toList = some ps) (h : buildA C t ps = some p) : Pure C N o pf σ p := by
  intro w0 base s a hi hr
  obtain ⟨v, h1, h2⟩ := build_all ho hp h hi hr
  exact ⟨v, h1 s.w, h2⟩

/-- n times the zero value's cells. -/
def zerosA (zs : List PV) : Nat → List PV
  | 0 => []
  | n + 1 => zs ++ zerosA zs n
/-- Cells cut into elements. -/
def chunkA (size : Nat) : Nat → List PV → List (List PV)
  | 0, _ => []
  | n + 1, l => l.take size :: chunkA size n (l.drop size)

theorem zerosA_len (zs : List PV) : ∀ n, (zerosA zs n).length = n * zs.length
  | 0 => by simp [zerosA]
  | n + 1 => by simp [zerosA, zerosA_len zs n, Nat.succ_mul, Nat.add_comm]
theorem zerosA_get (zs : List PV) (hz : 0 < zs.length) : ∀ (n k : Nat), k < n * zs.length → (zerosA zs n)[k]? = zs[k % zs.length]?
  | 0, k, h => by simp at h
  | n + 1, k, h => by
    simp only [zerosA]
    by_cases hk : k < zs.length
    · rw [List.getElem?_append_left hk, Nat.mod_eq_of_lt hk]
    · rw [List.getElem?_append_right (by omega), zerosA_get zs hz n (k - zs.length) (by rw [Nat.succ_mul] at h; omega)]
      congr 1
      exact (Nat.mod_eq_sub_mod (by omega)).symm
theorem chunkA_len (size : Nat) : ∀ (n : Nat) (l : List PV), (chunkA size n l).length = n
  | 0, _ => rfl
  | n + 1, l => by simp [chunkA, chunkA_len size n]
theorem chunkA_get (size : Nat) : ∀ (n : Nat) (l : List PV) (i : Nat) (x : List PV), (chunkA size n l)[i]? = some x → x = (l.drop (i * size)).take size
  | 0, _, i, x, h => by simp [chunkA] at h
  | n + 1, l, 0, x, h => by simp [chunkA] at h; simp [h]
  | n + 1, l, i + 1, x, h => by
    simp only [chunkA, List.getElem?_cons_succ] at h
    have := chunkA_get size n _ i x h
    rw [this, List.drop_drop, Nat.succ_mul, Nat.add_comm]

/-- A slice literal's elements. -/
def buildSliceA (C : Cx) (t : TypeId) (n : Nat) (parts : List (Nat × List PV)) : Option (TypeId × List (List PV)) :=
  match C.T t with
  | some y => match y.d with
    | .slice e => match C.T e with
      | some z => match cellsPV (.val z.zero) with
        | some zs => if n * z.size ≤ 16777216 ∧ 0 < z.size then (fillA (fun i => some (i * z.size, z.size)) (zerosA zs n) parts).map fun l => (e, chunkA z.size n l) else none
        | none => none
      | none => none
    | _ => none
  | none => none

theorem buildSlice_run {w0 : World} {base : Nat} {σ : AS} {s : S} {a : Act} {N : Nat} {pf : PF} (hi : Inv C w0 base σ s) (hr : RepF C s N pf a) {t e : TypeId} {n : Nat} {parts : Array (Nat × Operand)} {ps : List (Nat × List PV)} {xs : List (List PV)}
    (hp : partsA C.GE pf parts.toList = some ps) (h : buildSliceA C t n ps = some (e, xs)) :
    ∃ (z : TyI) (vs : List Value), C.T e = some z ∧ 0 < z.size ∧ (Instr.buildSlice t n (parts.map fun (i, x) => (i, a.eval x))).run C.P s.w = .ok (.slice (some ⟨s.w.heap.size, 0, none⟩) n n) (s.w.alloc (.cells vs.toArray e)) ∧
      vs.length = n * z.size ∧ xs.length = n ∧ n ≤ 16777216 ∧ (∀ x ∈ xs, x.length = z.size) ∧ ∀ (i j : Nat) (x : List PV) (p : PV), xs[i]? = some x → x[j]? = some p → ∃ u, vs[i * z.size + j]? = some u ∧ Rep C.P s p u := by
  obtain ⟨e1, e2⟩ := partsA_ok hi hr hp
  have hmap : (parts.map fun (i, x) => (i, a.eval x)) = (parts.toList.map fun x => (x.1, a.eval x.2)).toArray := by
    rw [← Array.toArray_toList (xs := parts.map _), Array.toList_map]
  unfold buildSliceA at h
  split at h <;> try cases h
  rename_i y hy
  split at h <;> try cases h
  rename_i e' hd
  split at h <;> try cases h
  rename_i z hz
  split at h <;> try cases h
  rename_i zs hzs
  split at h <;> try cases h
  rename_i hb
  obtain ⟨out, hout, heq⟩ := Option.map_eq_some_iff.1 h
  simp only [Prod.mk.injEq] at heq
  obtain ⟨rfl, rfl⟩ := heq
  obtain ⟨zv, z1, z2, z3⟩ := cellsPV_ok (C := C) (s := s) hzs (.val z.zero)
  have hzsz : z.zero.cells.size = z.size := (C.ok _ _ hz).2.2
  have hzl : zs.length = z.size := by rw [← hzsz, z1]; simpa using z2
  have hcells : (Array.map (fun x => z.zero.cells[x % z.zero.cells.size]!) (Array.range (n * z.size))).size = n * z.size := by simp
  obtain ⟨vout, k1, k2, k3⟩ := fill_ok (C := C) (s := s) ps (parts.toList.map fun x => (x.1, a.eval x.2)) (zerosA zs n) ((Array.range (n * z.size)).map (z.zero.cells[· % z.zero.cells.size]!)) out hout (by rw [zerosA_len, hcells, hzl]) (fun j p v h1 h2 => by
    have hj : j < n * z.size := by have := (Array.getElem?_eq_some_iff.1 h2).1; rwa [hcells] at this
    rw [zerosA_get zs (by omega) n j (by rw [hzl]; exact hj)] at h1
    rw [Array.getElem?_map, Array.getElem?_range, if_pos hj] at h2
    simp only [Option.map_some, Option.some.injEq] at h2
    have hm : j % zs.length < zv.length := by rw [← z2]; exact Nat.mod_lt _ (by omega)
    refine z3 (j % zs.length) p v h1 ?_
    rw [← h2, hzsz, hzl, z1]
    rw [hzl] at hm
    simp [hm]) e1 e2
  have hol : out.length = n * z.size := by
    have : ∀ (parts : List (Nat × List PV)) (cells out : List PV), fillA (fun i => some (i * z.size, z.size)) cells parts = some out → out.length = cells.length := by
      intro parts
      induction parts with
      | nil => intro cells out h; cases h; rfl
      | cons x parts ih =>
        intro cells out h
        obtain ⟨i, qs⟩ := x
        simp only [fillA] at h
        split at h
        · rename_i hc
          rw [ih _ _ h]
          simp
          omega
        · cases h
    rw [this _ _ _ hout, zerosA_len, hzl]
  refine ⟨z, vout.toList, hz, hb.2, ?_, by simp [← k2, hol], chunkA_len _ _ _, ?_, ?_, ?_⟩
  · rw [hmap]
    simp only [Instr.buildSlice, Sem.run_bind, run_underlying (und_slice hy hd), Result.andThen_ok, run_sizeOf hz]
    rw [if_neg (by have := hb.1; omega)]
    by_cases h0 : n * z.size = 0
    · rw [if_pos h0]
      have e : (Array.map (fun x => (#[] : Array Value)[x % (#[] : Array Value).size]!) (Array.range (n * z.size))) = (Array.map (fun x => z.zero.cells[x % z.zero.cells.size]!) (Array.range (n * z.size))) := by rw [h0]; simp
      simp only [Sem.run_bind, Sem.run_pure, Result.andThen_ok, e, k1]
      simp [newRow]
    · rw [if_neg h0]
      simp only [Sem.run_bind, run_zeroValue hz, Result.andThen_ok, Sem.run_pure, k1]
      simp [newRow]
  · have := hb.1
    exact Nat.le_trans (Nat.le_mul_of_pos_right _ hb.2) this
  · intro x hx
    obtain ⟨i, hi', rfl⟩ := List.getElem_of_mem hx
    have hin : i < n := by simpa [chunkA_len] using hi'
    rw [chunkA_get _ _ _ i _ (List.getElem?_eq_getElem hi')]
    have : i * z.size + z.size ≤ n * z.size := by rw [← Nat.succ_mul]; exact Nat.mul_le_mul_right _ hin
    simp
    omega
  · intro i j x p hx hp
    have := chunkA_get _ _ _ i _ hx
    subst this
    rw [List.getElem?_take] at hp
    split at hp
    · rw [List.getElem?_drop] at hp
      have hlt : i * z.size + j < vout.size := by rw [← k2]; exact (List.getElem?_eq_some_iff.1 hp).1
      exact ⟨vout[i * z.size + j], by simp [hlt], k3 _ p _ hp (Array.getElem?_eq_getElem hlt)⟩
    · cases hp

end
end Go.Sw

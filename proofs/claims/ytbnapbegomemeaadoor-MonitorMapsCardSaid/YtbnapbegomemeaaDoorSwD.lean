/- The logic Sw: the operations that make or turn memory, and calls, for any program. -/
import Derived.Test.YtbnapbegomemeaaDoorSwC
namespace Go.Sw
open Go.RowKit

section
variable {C : Cx} {w0 : World} {base : Nat} {σ : AS} {s : S}

theorem app_get {α : Type} {l r : List α} {i : Nat} {x : α} (h : l[i]? = some x) : (l ++ r)[i]? = some x := by
  rw [List.getElem?_append_left (List.getElem?_eq_some_iff.1 h).1]; exact h

theorem app_cases {α : Type} {l r : List α} {i : Nat} {x : α} (h : (l ++ r)[i]? = some x) : (i < l.length ∧ l[i]? = some x) ∨ (l.length ≤ i ∧ r[i - l.length]? = some x) := by
  rcases Nat.lt_or_ge i l.length with hi | hi
  · rw [List.getElem?_append_left hi] at h; exact .inl ⟨hi, h⟩
  · rw [List.getElem?_append_right hi] at h; exact .inr ⟨hi, h⟩

/-- Old blocks are as they were; new blocks may be owned. -/
theorem Mono.grow (hi : Inv C w0 base σ s) {w' : World} (hsz : s.w.heap.size ≤ w'.heap.size) (hold : ∀ k, k < s.w.heap.size → w'.heap[k]? = s.w.heap[k]?)
    (xb : List Nat) (xr : List (Option Nat)) (xt : List (TypeId × Nat)) (hxb : ∀ b ∈ xb, s.w.heap.size ≤ b) (hxr : ∀ b, some b ∈ xr → s.w.heap.size ≤ b) :
    Mono C.P s ⟨⟨s.g.bx ++ xb, s.g.rw ++ xr⟩, s.tk ++ xt, w'⟩ where
  heap := hsz
  bx := fun i b hb => app_get hb
  st := fun b hi' hb => by
    refine ⟨Nat.lt_of_lt_of_le hb.1 hsz, fun hm => ?_, fun t E m ht hm => ?_⟩
    · rcases List.mem_append.1 hm with h | h
      · exact hb.2.1 h
      · have := hxb b h; have := hb.1; omega
    · rcases app_cases ht with ⟨hl, ht'⟩ | ⟨hl, ht'⟩
      · have htk : t < s.tk.length := by rw [hi.tk]; have := hi.lrw; omega
        have hm' : s.tk[t]? = some (E, m) := by
          have : (s.tk ++ xt)[t]? = some (E, m) := hm
          rwa [List.getElem?_append_left htk] at this
        exact hb.2.2 t E m ht' hm'
      · have := hxr b (List.mem_of_getElem? ht'); have := hb.1; omega
  cell := fun b hi' o v hb ho hv => (World.cell?_of_block (hold b hb.1)).trans hv
  own := fun t E m ht => ⟨m, app_get ht, Nat.le_refl _, fun _ => by
    have htk : t < s.g.rw.length := by have := (List.getElem?_eq_some_iff.1 ht).1; rw [hi.tk] at this; have := hi.lrw; omega
    refine ⟨List.getElem?_append_left htk, fun b _ _ _ hb _ => hold b (hi.rngr t b hb).2⟩⟩
  obj := fun i b cs T hb hc => ⟨cs, (hold b (hi.rngb b (List.mem_of_getElem? hb)).2).trans hc, rfl⟩
  oth := ⟨hsz, fun k o hk _ => (hold k (Array.getElem?_eq_some_iff.1 hk).1).trans hk⟩

/-- A new block that nobody owns, or no new block at all. -/
theorem Inv.old (hi : Inv C w0 base σ s) {w' : World} (hsz : s.w.heap.size ≤ w'.heap.size) (hold : ∀ k, k < s.w.heap.size → w'.heap[k]? = s.w.heap[k]?) (hbel : Below base w0 w') :
    Inv C w0 base σ ⟨s.g, s.tk, w'⟩ ∧ Mono C.P s ⟨s.g, s.tk, w'⟩ := by
  have hm : Mono C.P s ⟨s.g, s.tk, w'⟩ := by
    have := Mono.grow hi hsz hold [] [] [] (by simp) (by simp)
    simpa using this
  refine ⟨⟨hi.tk, hi.gx, hbel, Nat.le_trans hi.basele hsz, hi.lbx, hi.lrw, hi.bxinj, hi.rwinj, hi.apart, fun b hb => ⟨(hi.rngb b hb).1, Nat.lt_of_lt_of_le (hi.rngb b hb).2 hsz⟩, fun i b hb => ⟨(hi.rngr i b hb).1, Nat.lt_of_lt_of_le (hi.rngr i b hb).2 hsz⟩, fun i b ps hb hp => ?_, fun k p hp => (hi.glob k p hp).mono hm⟩, hm⟩
  obtain ⟨cs, T, h1, h2, h3⟩ := hi.box i b ps hb hp
  exact ⟨cs, T, (hold b (hi.rngb b (List.mem_of_getElem? hb)).2).trans h1, h2, fun j p v hj hv => (h3 j p v hj hv).mono hm⟩

/-- A new variable. -/
theorem Inv.newbox (hi : Inv C w0 base σ s) (vs : List Value) (T : TypeId) (ps : List PV) (hl : ps.length = vs.length) (hr : ∀ (j : Nat) (p : PV) (v : Value), ps[j]? = some p → vs[j]? = some v → Rep C.P s p v) :
    Inv C w0 base ⟨σ.bx ++ [ps], σ.tk⟩ ⟨⟨s.g.bx ++ [s.w.heap.size], s.g.rw⟩, s.tk, s.w.alloc (.cells vs.toArray T)⟩ ∧
    Mono C.P s ⟨⟨s.g.bx ++ [s.w.heap.size], s.g.rw⟩, s.tk, s.w.alloc (.cells vs.toArray T)⟩ ∧
    Rep C.P ⟨⟨s.g.bx ++ [s.w.heap.size], s.g.rw⟩, s.tk, s.w.alloc (.cells vs.toArray T)⟩ (.ptr σ.bx.length 0) (.pointer (some ⟨s.w.heap.size, 0, none⟩)) := by
  have hsz : s.w.heap.size ≤ (s.w.alloc (.cells vs.toArray T)).heap.size := by simp
  have hold : ∀ k, k < s.w.heap.size → (s.w.alloc (.cells vs.toArray T)).heap[k]? = s.w.heap[k]? := fun k hk => allocOld _ _ k hk
  have hm : Mono C.P s ⟨⟨s.g.bx ++ [s.w.heap.size], s.g.rw⟩, s.tk, s.w.alloc (.cells vs.toArray T)⟩ := by
    have := Mono.grow hi hsz hold [s.w.heap.size] [] [] (by simp) (by simp)
    simpa using this
  have hlt : s.w.heap.size < (s.w.alloc (.cells vs.toArray T)).heap.size := by simp
  refine ⟨⟨hi.tk, hi.gx, hi.below.alloc hi.basele _, Nat.le_trans hi.basele hsz, by simp [hi.lbx], hi.lrw, ?_, hi.rwinj, ?_, ?_, fun i b hb => ⟨(hi.rngr i b hb).1, Nat.lt_of_lt_of_le (hi.rngr i b hb).2 hsz⟩, ?_, fun k p hp => (hi.glob k p hp).mono hm⟩, hm, ?_⟩
  · intro i j b h1 h2
    rcases app_cases h1 with ⟨a1, a2⟩ | ⟨a1, a2⟩ <;> rcases app_cases h2 with ⟨b1, b2⟩ | ⟨b1, b2⟩
    · exact hi.bxinj i j b a2 b2
    · have := (hi.rngb b (List.mem_of_getElem? a2)).2
      have := List.mem_of_getElem? b2
      simp at this; omega
    · have := (hi.rngb b (List.mem_of_getElem? b2)).2
      have := List.mem_of_getElem? a2
      simp at this; omega
    · have e1 := (List.getElem?_eq_some_iff.1 a2).1
      have e2 := (List.getElem?_eq_some_iff.1 b2).1
      simp at e1 e2; omega
  · intro i b h1 h2
    rcases List.mem_append.1 h2 with h | h
    · exact hi.apart i b h1 h
    · have := (hi.rngr i b h1).2; simp at h; omega
  · intro b hb
    rcases List.mem_append.1 hb with h | h
    · exact ⟨(hi.rngb b h).1, Nat.lt_of_lt_of_le (hi.rngb b h).2 hsz⟩
    · simp at h; subst h; exact ⟨hi.basele, hlt⟩
  · intro i b qs hb hp
    rcases app_cases hb with ⟨a1, a2⟩ | ⟨a1, a2⟩
    · have hp' : σ.bx[i]? = some qs := by
        have : (σ.bx ++ [ps])[i]? = some qs := hp
        rwa [List.getElem?_append_left (by rw [← hi.lbx]; exact a1)] at this
      obtain ⟨cs, T', h1, h2, h3⟩ := hi.box i b qs a2 hp'
      exact ⟨cs, T', (hold b (hi.rngb b (List.mem_of_getElem? a2)).2).trans h1, h2, fun j p v hj hv => (h3 j p v hj hv).mono hm⟩
    · have e1 := (List.getElem?_eq_some_iff.1 a2).1
      have hil : i = s.g.bx.length := by simp at e1; omega
      subst hil
      simp at a2
      subst a2
      have hp' : (σ.bx ++ [ps])[s.g.bx.length]? = some qs := hp
      rw [hi.lbx] at hp'
      simp at hp'
      subst hp'
      exact ⟨vs.toArray, T, heap_alloc_new _ _, by simp [hl], fun j p v hj hv => (hr j p v hj (by simpa using hv)).mono hm⟩
  · refine .ptr _ 0 _ ?_
    rw [← hi.lbx]
    simp

/-- A token for a nil slice. -/
theorem Inv.token (hi : Inv C w0 base σ s) (e : TypeId) :
    Inv C w0 base ⟨σ.bx, σ.tk ++ [(e, 0)]⟩ ⟨⟨s.g.bx, s.g.rw ++ [none]⟩, s.tk ++ [(e, 0)], s.w⟩ ∧ Mono C.P s ⟨⟨s.g.bx, s.g.rw ++ [none]⟩, s.tk ++ [(e, 0)], s.w⟩ ∧
    Rep C.P ⟨⟨s.g.bx, s.g.rw ++ [none]⟩, s.tk ++ [(e, 0)], s.w⟩ (.sl (some σ.tk.length) []) (.slice none 0 0) := by
  have hm : Mono C.P s ⟨⟨s.g.bx, s.g.rw ++ [none]⟩, s.tk ++ [(e, 0)], s.w⟩ := by
    have := Mono.grow hi (Nat.le_refl _) (fun _ _ => rfl) [] [none] [(e, 0)] (by simp) (by simp)
    simpa using this
  have hrw : ∀ (i b : Nat), (s.g.rw ++ [none])[i]? = some (some b) → s.g.rw[i]? = some (some b) := by
    intro i b h
    rcases app_cases h with ⟨_, h⟩ | ⟨_, h⟩
    · exact h
    · have := List.mem_of_getElem? h; simp at this
  refine ⟨⟨by simp [hi.tk], hi.gx, hi.below, hi.basele, hi.lbx, by simp [hi.lrw], hi.bxinj, fun i j b h1 h2 => hi.rwinj i j b (hrw i b h1) (hrw j b h2), fun i b h1 => hi.apart i b (hrw i b h1), hi.rngb, fun i b h1 => hi.rngr i b (hrw i b h1), fun i b ps hb hp => ?_, fun k p hp => (hi.glob k p hp).mono hm⟩, hm, ?_⟩
  · obtain ⟨cs, T, h1, h2, h3⟩ := hi.box i b ps hb hp
    exact ⟨cs, T, h1, h2, fun j p v hj hv => (h3 j p v hj hv).mono hm⟩
  · refine .sl _ [] 0 0 0 0 none (fun _ _ => undef) (Nat.le_refl _) (by decide) (by simp) (by simp) (by simp) (by simp) (by simp) ?_
    refine ⟨e, 0, ?_, Nat.le_refl _, fun _ => ⟨?_, [], World.ownsRow_nil _ _ _ _⟩⟩
    · show (s.tk ++ [(e, 0)])[σ.tk.length]? = _
      rw [← hi.tk]; simp
    · show (s.g.rw ++ [none])[σ.tk.length]? = _
      rw [← hi.lrw]; simp [Value.ownBlock]

end

section
variable {C : Cx}

/-- The cells of a value. -/
def cellsPV : PV → Option (List PV)
  | .any => none
  | .tup _ => none
  | .agg ps => some ps
  | .val (.agg cs) => some (cs.toList.map .val)
  | .val (.tuple _) => none
  | p => some [p]

def oneB : PV → Bool
  | .val v => v.oneCell'
  | .ptr .. | .rop .. | .sl .. | .fn .. | .bs .. | .pt .. => true
  | _ => false

theorem oneB_ok {s : S} {p : PV} {v : Value} (h : oneB p = true) (hr : Rep C.P s p v) : v.oneCell' = true := by
  cases hr <;> first | rfl | exact h | cases h

theorem cellsPV_ok {s : S} {p : PV} {ps : List PV} {v : Value} (h : cellsPV p = some ps) (hr : Rep C.P s p v) :
    ∃ vs : List Value, v.cells = vs.toArray ∧ ps.length = vs.length ∧ ∀ (j : Nat) (p : PV) (v : Value), ps[j]? = some p → vs[j]? = some v → Rep C.P s p v := by
  have one : ∀ v' : Value, v'.cells = #[v'] → Rep C.P s p v' → ∃ vs : List Value, v'.cells = vs.toArray ∧ [p].length = vs.length ∧ ∀ (j : Nat) (q : PV) (v : Value), [p][j]? = some q → vs[j]? = some v → Rep C.P s q v := by
    intro v' h1 h2
    refine ⟨[v'], by simp [h1], rfl, fun j q u hq hu => ?_⟩
    cases j with
    | zero => simp at hq hu; subst hq; subst hu; exact h2
    | succ j => simp at hq
  cases hr with
  | any v => cases h
  | val v =>
    cases v with
    | agg cs =>
      obtain ⟨vs, h1, h2, h3⟩ := aggOf_ok (C := C) (s := s) (p := .val (.agg cs)) (ps := ps) (by simpa [cellsPV, aggOf] using h) (.val _)
      cases h1
      exact ⟨vs, rfl, h2, h3⟩
    | tuple vs => cases h
    | _ => cases h; exact one _ rfl (.val _)
  | agg qs vs hl hv => cases h; exact ⟨vs, rfl, hl, hv⟩
  | tup => cases h
  | ptr i off b hb => cases h; exact one _ rfl (.ptr i off b hb)
  | rop cells off b o u h1 h2 h3 => cases h; exact one _ rfl (.rop cells off b o u h1 h2 h3)
  | sl own xs size b o c a u h1 h2 h3 h4 h5 h6 h7 h8 => cases h; exact one _ rfl (.sl own xs size b o c a u h1 h2 h3 h4 h5 h6 h7 h8)
  | fn f qs vs h1 h2 => cases h; exact one _ rfl (.fn f qs vs h1 h2)
  | bs E i n c b cs h1 h2 h3 h4 h5 => cases h; exact one _ rfl (.bs E i n c b cs h1 h2 h3 h4 h5)
  | pt T c i off b cs h1 h2 h3 => cases h; exact one _ rfl (.pt T c i off b cs h1 h2 h3)

theorem eff_box {N : Nat} {o : Oper} {pf : PF} {σ : AS} {t : TypeId} {x : Operand} {p : PV} {ps : List PV} (ho : o.op = .box t x) (hx : ev C.GE pf x = some p) (hp : cellsPV p = some ps) :
    Eff C N o pf σ (.ptr σ.bx.length 0) ⟨σ.bx ++ [ps], σ.tk⟩ := by
  intro w0 base s a hi hr
  obtain ⟨vs, h1, h2, h3⟩ := cellsPV_ok hp (ev_ok hi hr hx)
  obtain ⟨k1, k2, k3⟩ := hi.newbox vs t ps h2 h3
  refine ⟨_, _, .inl ?_, k3, k1, k2⟩
  simp [execOp, ho, Instr.box, newVar, newRow, h1]

theorem eff_alloc {N : Nat} {o : Oper} {pf : PF} {σ : AS} {t : TypeId} {y : TyI} {ps : List PV} (ho : o.op = .alloc t) (hy : C.T t = some y) (hp : cellsPV (.val y.zero) = some ps) :
    Eff C N o pf σ (.ptr σ.bx.length 0) ⟨σ.bx ++ [ps], σ.tk⟩ := by
  intro w0 base s a hi hr
  obtain ⟨vs, h1, h2, h3⟩ := cellsPV_ok (C := C) (s := s) hp (.val _)
  obtain ⟨k1, k2, k3⟩ := hi.newbox vs t ps h2 h3
  refine ⟨_, _, .inl ?_, k3, k1, k2⟩
  simp [execOp, ho, Instr.alloc, newVar, newRow, run_zeroValue hy, h1]

/-- A store into a variable. -/
theorem Inv.store {w0 : World} {base : Nat} {σ : AS} {s : S} (hi : Inv C w0 base σ s) {i off b : Nat} {qs ps : List PV} {vs : List Value} {cs : Array Value} {T : TypeId} (hb : s.g.bx[i]? = some b) (hq : σ.bx[i]? = some qs)
    (hcs : s.w.heap[b]? = some (.cells cs T (0, 0))) (hsz : cs.size = qs.length) (hrc : ∀ (j : Nat) (p : PV) (v : Value), qs[j]? = some p → cs[j]? = some v → Rep C.P s p v)
    (hl : ps.length = vs.length) (hr : ∀ (j : Nat) (p : PV) (v : Value), ps[j]? = some p → vs[j]? = some v → Rep C.P s p v) (hfit : off + ps.length ≤ qs.length) :
    Inv C w0 base ⟨σ.bx.set i (qs.take off ++ ps ++ qs.drop (off + ps.length)), σ.tk⟩ ⟨s.g, s.tk, s.w.setRow b (cs.toList.take off ++ vs ++ cs.toList.drop (off + vs.length)).toArray⟩ ∧
    Mono C.P s ⟨s.g, s.tk, s.w.setRow b (cs.toList.take off ++ vs ++ cs.toList.drop (off + vs.length)).toArray⟩ := by
  have hbm : b ∈ s.g.bx := List.mem_of_getElem? hb
  have hother : ∀ k, k ≠ b → (s.w.setRow b (cs.toList.take off ++ vs ++ cs.toList.drop (off + vs.length)).toArray).heap[k]? = s.w.heap[k]? := fun k hk => setRow_other _ _ _ _ hk
  have hm : Mono C.P s ⟨s.g, s.tk, s.w.setRow b (cs.toList.take off ++ vs ++ cs.toList.drop (off + vs.length)).toArray⟩ :=
    { oth := KeepsOthers.setRow' hcs _
      heap := by simp
      bx := fun i b h => h
      st := fun b' hi' h => ⟨by simpa using h.1, h.2.1, h.2.2⟩
      cell := fun b' hi' o v h ho hv => (World.cell?_of_block (hother b' (fun e => h.2.1 (e ▸ hbm)))).trans hv
      own := fun t E m ht => ⟨m, ht, Nat.le_refl _, fun _ => ⟨rfl, fun b' _ _ _ hb' _ => hother b' (fun e => hi.apart t b' hb' (e ▸ hbm))⟩⟩
      obj := fun i' b' cs' T' hb' hc' => by
        by_cases e : b' = b
        · subst e
          rw [hcs] at hc'
          cases hc'
          exact ⟨_, setRow_heap _ _ _ _ _ _ hcs, by simp; omega⟩
        · exact ⟨cs', (hother b' e).trans hc', rfl⟩ }
  refine ⟨⟨hi.tk, hi.gx, hi.below.trans ⟨rfl, rfl, rfl, by simp, fun k hk => hother k (fun e => by have := (hi.rngb b hbm).1; omega)⟩, by simpa using hi.basele, by simp [hi.lbx], hi.lrw, hi.bxinj, hi.rwinj, hi.apart, fun b' h => by simpa using hi.rngb b' h, fun j b' h => by simpa using hi.rngr j b' h, ?_, fun k p hp => (hi.glob k p hp).mono hm⟩, hm⟩
  intro j b' rs hb' hrs
  by_cases hj : j = i
  · subst hj
    have : b' = b := by
      have : some b' = some b := hb'.symm.trans hb
      simpa using this
    subst this
    have hlt : j < σ.bx.length := (List.getElem?_eq_some_iff.1 hq).1
    have : rs = qs.take off ++ ps ++ qs.drop (off + ps.length) := by
      have h := hrs
      rw [List.getElem?_set_self hlt] at h
      exact (Option.some.inj h).symm
    subst this
    refine ⟨_, T, setRow_heap _ _ _ _ _ _ hcs, by simp [hl]; omega, fun k p v hk hv => Rep.mono hm ?_⟩
    simp only [List.getElem?_toArray] at hv
    rw [List.append_assoc] at hk hv
    rcases app_cases hk with ⟨k1, k2⟩ | ⟨k1, k2⟩
    · have hko : k < off := by simp at k1; omega
      rw [List.getElem?_append_left (by simp; omega)] at hv
      rw [List.getElem?_take, if_pos hko] at k2 hv
      exact hrc k p v k2 (by simpa using hv)
    · have e1 : (qs.take off).length = off := by simp; omega
      have e2 : (cs.toList.take off).length = off := by simp; omega
      rw [e1] at k1 k2
      rw [List.getElem?_append_right (by rw [e2]; exact k1), e2] at hv
      rcases app_cases k2 with ⟨k3, k4⟩ | ⟨k3, k4⟩
      · rw [List.getElem?_append_left (by omega)] at hv
        exact hr _ p v k4 hv
      · rw [List.getElem?_append_right (by omega)] at hv
        rw [List.getElem?_drop] at k4 hv
        rw [← hl] at hv
        exact hrc _ p v k4 (by simpa using hv)
  · have hrs' : σ.bx[j]? = some rs := by
      have h := hrs
      rwa [List.getElem?_set_ne (Ne.symm hj)] at h
    obtain ⟨cs', T', h1, h2, h3⟩ := hi.box j b' rs hb' hrs'
    refine ⟨cs', T', (hother b' (fun e => hj ?_)).trans h1, h2, fun k p v hk hv => (h3 k p v hk hv).mono hm⟩
    subst e
    exact hi.bxinj j i b' hb' hb

theorem eff_store {N : Nat} {o : Oper} {pf : PF} {σ : AS} {t : TypeId} {x y : Operand} {i off : Nat} {p : PV} {qs ps : List PV} {ty : TyI} (ho : o.op = .store t x y) (hx : evu C.GE pf x = some (.ptr i off)) (hy : ev C.GE pf y = some p)
    (hp : cellsPV p = some ps) (hone : ps.all oneB = true) (ht : C.T t = some ty) (hsz : ps.length = ty.size) (hq : σ.bx[i]? = some qs) (hfit : off + ps.length ≤ qs.length) :
    Eff C N o pf σ .any ⟨σ.bx.set i (qs.take off ++ ps ++ qs.drop (off + ps.length)), σ.tk⟩ := by
  intro w0 base s a hi hr
  obtain ⟨vs, h1, h2, h3⟩ := cellsPV_ok hp (ev_ok hi hr hy)
  have hx' := evu_ok hi hr hx
  cases he : a.eval x <;> rw [he] at hx' <;> cases hx'
  rename_i b hb
  obtain ⟨cs, T, g1, g2, g3⟩ := hi.box i b qs hb hq
  obtain ⟨k1, k2⟩ := hi.store hb hq g1 g2 g3 h2 h3 hfit
  refine ⟨undef, _, .inr ⟨?_, rfl⟩, .any _, k1, k2⟩
  have hst := run_storeCells_at (P := C.P) b off T vs 0 cs s.w g1 (by omega) (fun v hv => by
    obtain ⟨j, hj, rfl⟩ := List.getElem_of_mem hv
    have hjp : ps[j]? = some (ps[j]'(by omega)) := List.getElem?_eq_getElem (by omega)
    exact oneB_ok (List.all_eq_true.1 hone _ (List.getElem_mem (by omega))) (h3 j _ _ hjp (List.getElem?_eq_getElem hj)))
  simp only [Nat.add_zero] at hst
  simp [execOp, ho, Instr.storeAt, he, Instr.sureAddr, storeVar, run_sizeOf ht, h1, ← hsz, h2, hst]

end
end Go.Sw

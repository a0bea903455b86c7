/- The logic Sw: literals' rows, calls, whole functions, regions that draw their order, for any program. -/
import Derived.Test.YtbnapbegomemeaaDoorSwF
namespace Go.Sw
open Go.RowKit

section
variable {C : Cx}

theorem eff_buildSlice {N : Nat} {o : Oper} {pf : PF} {σ : AS} {t e : TypeId} {n : Nat} {parts : Array (Nat × Operand)} {ps : List (Nat × List PV)} {xs : List (List PV)} (ho : o.op = .buildSlice t n parts)
    (hp : partsA C.GE pf parts.toList = some ps) (h : buildSliceA C t n ps = some (e, xs)) : Eff C N o pf σ (.sl none xs) σ := by
  intro w0 base s a hi hr
  obtain ⟨z, vs, hz, hpos, hrun, hvl, hxl, hn, hlen, hget⟩ := buildSlice_run hi hr hp h
  subst hxl
  have hold : ∀ k, k < s.w.heap.size → (s.w.alloc (.cells vs.toArray e)).heap[k]? = s.w.heap[k]? := fun k hk => allocOld _ _ k hk
  obtain ⟨k1, k2⟩ := hi.old (w' := s.w.alloc (.cells vs.toArray e)) (by simp) hold (hi.below.alloc hi.basele _)
  refine ⟨.slice (some ⟨s.w.heap.size, 0, none⟩) xs.length xs.length, ⟨s.g, s.tk, s.w.alloc (.cells vs.toArray e)⟩, .inl ?_, ?_, k1, k2⟩
  · simp [execOp, ho, hrun]
  · refine .sl none xs z.size s.w.heap.size 0 xs.length _ (fun i j => vs.getD (i * z.size + j) undef) (Nat.le_refl _) (by simp only [maxLen]; omega) (fun _ => rfl) hlen (fun _ => ?_) (fun i j hi' hj => ?_) (fun i j x p hx hp' => ?_) trivial
    · refine ⟨by simp, fun hb => ?_, fun t E m ht hm => ?_⟩
      · have := (hi.rngb _ hb).2; omega
      · have := (hi.rngr t _ ht).2; omega
    · have hlt : i * z.size + j < vs.length := by
        rw [hvl]
        have : i * z.size + z.size ≤ xs.length * z.size := by rw [← Nat.succ_mul]; exact Nat.mul_le_mul_right _ hi'
        omega
      have := heap_alloc_new s.w (.cells vs.toArray e)
      unfold World.cell?
      rw [this]
      simp [List.getElem?_eq_getElem hlt, List.getD]
    · obtain ⟨u, h1, h2⟩ := hget i j x p hx hp'
      rw [List.getD_eq_getElem?_getD, h1]
      exact h2.mono k2

/-- A new row that may be appended to. -/
theorem eff_buildSlice_own {N : Nat} {o : Oper} {pf : PF} {σ : AS} {t e : TypeId} {n : Nat} {parts : Array (Nat × Operand)} {ps : List (Nat × List PV)} {xs : List (List PV)} (ho : o.op = .buildSlice t n parts)
    (hp : partsA C.GE pf parts.toList = some ps) (h : buildSliceA C t n ps = some (e, xs)) : Eff C N o pf σ (.sl (some σ.tk.length) xs) ⟨σ.bx, σ.tk ++ [(e, xs.length)]⟩ := by
  intro w0 base s a hi hr
  obtain ⟨z, vs, hz, hpos, hrun, hvl, hxl, hn, hlen, hget⟩ := buildSlice_run hi hr hp h
  subst hxl
  have hold : ∀ k, k < s.w.heap.size → (s.w.alloc (.cells vs.toArray e)).heap[k]? = s.w.heap[k]? := fun k hk => allocOld _ _ k hk
  have hlt : s.w.heap.size < (s.w.alloc (.cells vs.toArray e)).heap.size := by simp
  have hm : Mono C.P s ⟨⟨s.g.bx, s.g.rw ++ [some s.w.heap.size]⟩, s.tk ++ [(e, xs.length)], s.w.alloc (.cells vs.toArray e)⟩ := by
    have := Mono.grow hi (w' := s.w.alloc (.cells vs.toArray e)) (by simp) hold [] [some s.w.heap.size] [(e, xs.length)] (by simp) (by simp)
    simpa using this
  have hrw : ∀ (i b : Nat), (s.g.rw ++ [some s.w.heap.size])[i]? = some (some b) → s.g.rw[i]? = some (some b) ∨ (i = s.g.rw.length ∧ b = s.w.heap.size) := by
    intro i b h
    rcases app_cases h with ⟨_, h⟩ | ⟨h1, h⟩
    · exact .inl h
    · have h2 := (List.getElem?_eq_some_iff.1 h).1
      have h3 := List.mem_of_getElem? h
      simp at h2 h3
      exact .inr ⟨by omega, h3⟩
  refine ⟨.slice (some ⟨s.w.heap.size, 0, none⟩) xs.length xs.length, ⟨⟨s.g.bx, s.g.rw ++ [some s.w.heap.size]⟩, s.tk ++ [(e, xs.length)], s.w.alloc (.cells vs.toArray e)⟩, .inl ?_, ?_, ?_, hm⟩
  · simp [execOp, ho, hrun]
  · refine .sl _ xs z.size s.w.heap.size 0 xs.length _ (fun i j => vs.getD (i * z.size + j) undef) (Nat.le_refl _) (by simp only [maxLen]; omega) (fun _ => rfl) hlen (fun _ => ?_) (fun i j hi' hj => ?_) (fun i j x p hx hp' => ?_) ?_
    · refine ⟨hlt, fun hb => ?_, fun t E m ht hm' => ?_⟩
      · have := (hi.rngb _ hb).2; omega
      · rcases hrw t _ ht with h | ⟨rfl, _⟩
        · have := (hi.rngr t _ h).2; omega
        · have hm'' : (s.tk ++ [(e, xs.length)])[s.g.rw.length]? = some (E, m) := hm'
          rw [hi.lrw, ← hi.tk] at hm''
          simp at hm''
          obtain ⟨rfl, rfl⟩ := hm''
          rw [cellsOf_ok hz]; omega
    · have hlt : i * z.size + j < vs.length := by
        rw [hvl]
        have : i * z.size + z.size ≤ xs.length * z.size := by rw [← Nat.succ_mul]; exact Nat.mul_le_mul_right _ hi'
        omega
      have := heap_alloc_new s.w (.cells vs.toArray e)
      unfold World.cell?
      rw [this]
      simp [List.getElem?_eq_getElem hlt, List.getD]
    · obtain ⟨u, h1, h2⟩ := hget i j x p hx hp'
      rw [List.getD_eq_getElem?_getD, h1]
      exact h2.mono hm
    · refine ⟨e, xs.length, ?_, Nat.le_refl _, fun _ => ⟨?_, vs, ?_⟩⟩
      · show (s.tk ++ [(e, xs.length)])[σ.tk.length]? = _
        rw [← hi.tk]; simp
      · show (s.g.rw ++ [some s.w.heap.size])[σ.tk.length]? = _
        rw [← hi.lrw]; simp [Value.ownBlock]
      · rw [cellsOf_ok hz]
        have := World.ownsRow_lit (base := 0) (e := e) (size := z.size) s.w vs.toArray xs.length (Nat.zero_le _) (by simp only [maxLen]; omega) (by simpa using hvl)
        simpa using this
  · refine ⟨by simp [hi.tk], hi.gx, hi.below.alloc hi.basele _, Nat.le_of_lt (Nat.lt_of_le_of_lt hi.basele hlt), hi.lbx, by simp [hi.lrw], hi.bxinj, fun i j b h1 h2 => ?_, fun i b h1 h2 => ?_, fun b h => ⟨(hi.rngb b h).1, Nat.lt_trans (hi.rngb b h).2 hlt⟩, fun i b h => ?_, fun i b qs hb hp => ?_, fun q p hp => (hi.glob q p hp).mono hm⟩
    · rcases hrw i b h1 with h1 | ⟨e1, e2⟩ <;> rcases hrw j b h2 with h2 | ⟨e3, e4⟩
      · exact hi.rwinj i j b h1 h2
      · have := (hi.rngr i b h1).2; omega
      · have := (hi.rngr j b h2).2; omega
      · omega
    · rcases hrw i b h1 with h1 | ⟨e1, e2⟩
      · exact hi.apart i b h1 h2
      · have := (hi.rngb b h2).2; omega
    · rcases hrw i b h with h1 | ⟨e1, e2⟩
      · exact ⟨(hi.rngr i b h1).1, Nat.lt_trans (hi.rngr i b h1).2 hlt⟩
      · subst e2; exact ⟨hi.basele, hlt⟩
    · obtain ⟨cs, T, h1, h2, h3⟩ := hi.box i b qs hb hp
      exact ⟨cs, T, (hold b (hi.rngb b (List.mem_of_getElem? hb)).2).trans h1, h2, fun j p v hj hv => (h3 j p v hj hv).mono hm⟩

/-! ### Calls -/
/-- f is a function of Go's own, with a body. -/
def isGo (P : Program) (f : FuncId) : Bool := match P.funcs[f]? with
  | some fn => !(fn.name == "runtime.NumGoroutine") && !fn.body.isNone
  | none => false

theorem callFunc_ok {P : Program} {f : FuncId} (h : isGo P f = true) (args : Array Value) (w : World) : (callFunc f args).run P w = .ok (.enter f args) w := by
  unfold isGo at h
  split at h
  · rename_i fn hf
    simp only [Bool.and_eq_true, Bool.not_eq_true'] at h
    have h1 : ¬ fn.name = "runtime.NumGoroutine" := by simpa using h.1
    have h2 : ¬ fn.body = none := by intro e; simp [e] at h
    simp [callFunc, program, Sem.run, hf, h1, h2]
  · cases h

theorem SL.call {F : Fx} {Q : Post} {pf : PF} {σ : AS} {ops : Array Oper} {o : Oper} {rest : List Oper} {c : Call} {f : Operand} {k : FuncId} {caps ps : List PV} {R : PV → AS → Prop} (hg : o.guard = none) (hd : inN F.N o.dst = true) (ho : o.op = .call c) (hc : c.callee = .value f)
    (hf : ev C.GE pf f = some (.fn k caps)) (ha : evs C.GE pf c.args.toList = some ps) (hgo : isGo C.P k = true) (hs : SC C k (ps ++ caps) σ R)
    (h : ∀ r σ', R r σ' → SL C F ops rest Q (setd pf o.dst r) σ') : SL C F ops (o :: rest) Q pf σ := by
  intro w0 base se s a h1 h2 h3 h4
  refine wpListIn_plain hg fun K hK => ?_
  have hf' := ev_ok h3 h4 hf
  cases hfv : a.eval f <;> rw [hfv] at hf' <;> cases hf'
  rename_i cvs hcl hcr
  obtain ⟨e1, e2⟩ := evs_ok h3 h4 ha
  have hmap : c.args.map a.eval = (c.args.toList.map a.eval).toArray := by rw [← Array.toList_map, Array.toArray_toList]
  have hrun : (execOp a.eval o).run C.P s.w = .ok (.enter k (c.args.toList.map a.eval ++ cvs).toArray) s.w := by
    simp only [execOp, ho, resolve, hc, Deferred.ofValue, hfv, Sem.run_bind, Sem.run_pure, Result.andThen_ok, invoke]
    have : (#[] ++ c.args.map a.eval ++ cvs.toArray) = (c.args.toList.map a.eval ++ cvs).toArray := by rw [hmap]; simp
    rw [this, callFunc_ok hgo]
  refine opIn_enter hrun ?_
  refine (hs w0 base s _ h3 (by simp only [List.length_append]; omega) (fun j p v hp hv => ?_)).mono ?_
  · rcases app_cases hp with ⟨a1, a2⟩ | ⟨a1, a2⟩
    · rw [List.getElem?_append_left (by omega)] at hv
      exact e2 j p v a2 hv
    · rw [List.getElem?_append_right (by omega)] at hv
      rw [← e1] at hv
      exact hcr _ p v a2 hv
  · rintro e w' ⟨v, r, σ', s', rfl, rfl, hR, hi', hr', hm'⟩
    exact hK _ _ (h r σ' hR w0 base se s' _ h1 (h2.trans hm') hi' ((h4.mono hm').put (inN_ok hd) hr'))

/-! ### Whole functions -/
/-- What stands for a value names only objects that there are. -/
theorem _root_.Go.Sw.Rep.cl {P : Program} {s : S} {p : PV} {v : Value} (h : Rep P s p v) : Cl s.g.bx.length s.tk.length p := by
  induction h with
  | any v => exact .any
  | val v => exact .val v
  | ptr i off b hb => exact .ptr i off (List.getElem?_eq_some_iff.1 hb).1
  | rop cells off b o u _ _ _ ih => exact .rop cells off ih
  | sl own xs size b o c a u _ _ _ _ _ _ _ ho ih =>
    refine .sl own xs (fun t ht => ?_) ih
    subst ht
    obtain ⟨E, m, h1, _⟩ := ho
    exact (List.getElem?_eq_some_iff.1 h1).1
  | agg ps vs hl hv ih => exact .agg ps fun j p hp => ih j p _ hp (List.getElem?_eq_getElem (Nat.lt_of_lt_of_eq (List.getElem?_eq_some_iff.1 hp).1 hl))
  | tup ps vs hl hv ih => exact .tup ps fun j p hp => ih j p _ hp (List.getElem?_eq_getElem (Nat.lt_of_lt_of_eq (List.getElem?_eq_some_iff.1 hp).1 hl))
  | fn f ps vs hl hv ih => exact .fn f ps fun j p hp => ih j p _ hp (List.getElem?_eq_getElem (Nat.lt_of_lt_of_eq (List.getElem?_eq_some_iff.1 hp).1 hl))
  | bs E i n c b cs hb _ _ _ _ => exact .bs E i n c (List.getElem?_eq_some_iff.1 hb).1
  | pt T c i off b cs hb _ _ => exact .pt T c i off (List.getElem?_eq_some_iff.1 hb).1

/-- The objects name nothing but one another. -/
def ClA (σ : AS) : Prop := ∀ (i : Nat) (ps : List PV), σ.bx[i]? = some ps → ∀ p ∈ ps, Cl σ.bx.length σ.tk.length p

theorem Inv.clA {w0 : World} {base : Nat} {σ : AS} {s : S} (hi : Inv C w0 base σ s) : ClA σ := by
  intro i ps hp p hpp
  have hib : i < s.g.bx.length := by rw [hi.lbx]; exact (List.getElem?_eq_some_iff.1 hp).1
  obtain ⟨cs, T, _, h2, h3⟩ := hi.box i _ ps (List.getElem?_eq_getElem hib) hp
  obtain ⟨j, hj, rfl⟩ := List.getElem_of_mem hpp
  have := (h3 j _ _ (List.getElem?_eq_getElem hj) (Array.getElem?_eq_getElem (by omega))).cl
  rwa [hi.lbx, hi.tk] at this

/-- The parameters' slots. -/
def params : Nat → List PV → PF
  | _, [] => []
  | i, p :: ps => (i, p) :: params (i + 1) ps

theorem params_get : ∀ (ps : List PV) (i t : Nat) (p : PV), get (params i ps) t = some p → i ≤ t ∧ ps[t - i]? = some p
  | [], _, _, _, h => by cases h
  | q :: ps, i, t, p, h => by
    simp only [params, get] at h
    split at h
    · rename_i e; cases h; subst e; simp
    · obtain ⟨h1, h2⟩ := params_get ps (i + 1) t p h
      refine ⟨by omega, ?_⟩
      rw [show t - i = (t - (i + 1)) + 1 by omega]
      simpa using h2

/-- A result's slot. -/
def resA (C : Cx) (pf : PF) (σ : AS) : ResultVar → Option PV
  | .tmp t => get pf t
  | .cell a t => match get pf a with
    | some (.ptr i off) => match σ.bx[i]? with
      | some ps => loadA C t ps off
      | none => none
    | _ => none
def ressA (C : Cx) (pf : PF) (σ : AS) : List ResultVar → Option (List PV)
  | [] => some []
  | x :: r => match resA C pf σ x, ressA C pf σ r with
    | some p, some ps => some (p :: ps)
    | _, _ => none
def resultA (C : Cx) (rs : List ResultVar) (pf : PF) (σ : AS) : Option PV :=
  match ressA C pf σ rs with
  | some [p] => some p
  | some ps => some (.tup ps)
  | none => none

/-- A result's value. -/
def rvS (tmps : Array Value) : ResultVar → Sem Value
  | .tmp t => Pure.pure (tmps.getD t undef)
  | .cell x t => do loadVar t (← asAddr (tmps.getD x undef))
theorem results_eq (fn : Func) (tmps : Array Value) : results fn tmps = (do
    let vs ← fn.results.mapM (rvS tmps)
    Pure.pure (if h : vs.size = 1 then vs[0] else .tuple vs)) := by
  unfold results
  have : (fun x => match x with
    | .tmp t => Pure.pure (tmps.getD t undef)
    | .cell a t => do loadVar t (← asAddr (tmps.getD a undef)) : ResultVar → Sem Value) = rvS tmps := by
    funext x; cases x <;> rfl
  rw [← this]
  rfl

theorem ressA_ok {w0 : World} {base : Nat} {σ : AS} {s : S} {a : Act} {N : Nat} {pf : PF} (hi : Inv C w0 base σ s) (hr : RepF C s N pf a) : ∀ {l : List ResultVar} {ps : List PV}, ressA C pf σ l = some ps →
    ∃ vs : List Value, (l.mapM (rvS a.tmps)).run C.P s.w = .ok vs s.w ∧ ps.length = vs.length ∧
      ∀ (j : Nat) (p : PV) (v : Value), ps[j]? = some p → vs[j]? = some v → Rep C.P s p v
  | [], ps, h => by cases h; exact ⟨[], rfl, rfl, fun j p v h => by simp at h⟩
  | x :: r, ps, h => by
    simp only [ressA] at h
    split at h <;> try cases h
    rename_i p ps hp hps
    obtain ⟨vs, h1, h2, h3⟩ := ressA_ok hi hr hps
    have one : ∃ v, (rvS a.tmps x).run C.P s.w = .ok v s.w ∧ Rep C.P s p v := by
      cases x with
      | tmp t =>
        obtain ⟨v, k1, k2⟩ := hr.at_ t p hp
        exact ⟨v, by simp [rvS, Array.getD_eq_getD_getElem?, k1], k2⟩
      | cell x t =>
        simp only [resA] at hp
        split at hp <;> try cases hp
        rename_i i off hx
        split at hp <;> try cases hp
        rename_i qs hq
        obtain ⟨v, k1, k2⟩ := hr.at_ x _ hx
        cases k2
        rename_i b hb
        obtain ⟨cs, T, g1, g2, g3⟩ := hi.box i b qs hb hq
        obtain ⟨v, h4, h5⟩ := load_ok (s := s) (b := b) (o := 0) (u := fun j => cs.getD j undef) hp (fun j p hp => by
          have hj := (List.getElem?_eq_some_iff.1 hp).1
          exact g3 j p _ hp (by simp [Array.getD, g2, hj]))
        have h4 := h4 s.w (fun j hj => by simp [World.cell?, g1, Array.getD, g2, hj])
        simp only [Nat.zero_add] at h4
        exact ⟨v, by simp [rvS, Array.getD_eq_getD_getElem?, k1, asAddr, h4], h5⟩
    obtain ⟨v, k1, k2⟩ := one
    refine ⟨v :: vs, ?_, by simp [h2], fun j q u hq hu => ?_⟩
    · rw [List.mapM_cons, Sem.run_bind, k1, Result.andThen_ok, Sem.run_bind, h1]; rfl
    · cases j with
      | zero => simp at hq hu; subst hq; subst hu; exact k2
      | succ j => simp at hq hu; exact h3 j q u hq hu

theorem resultA_ok {w0 : World} {base : Nat} {σ : AS} {s : S} {a : Act} {N : Nat} {pf : PF} {fn : Func} {r : PV} (hi : Inv C w0 base σ s) (hr : RepF C s N pf a) (h : resultA C fn.results.toList pf σ = some r) :
    ∃ v, (results fn a.tmps).run C.P s.w = .ok v s.w ∧ Rep C.P s r v := by
  unfold resultA at h
  have key : ∀ ps, ressA C pf σ fn.results.toList = some ps → ∃ vs : List Value, (results fn a.tmps).run C.P s.w = .ok (if h : vs.toArray.size = 1 then vs.toArray[0] else .tuple vs.toArray) s.w ∧ ps.length = vs.length ∧
      ∀ (j : Nat) (p : PV) (v : Value), ps[j]? = some p → vs[j]? = some v → Rep C.P s p v := by
    intro ps hps
    obtain ⟨vs, h1, h2, h3⟩ := ressA_ok hi hr hps
    refine ⟨vs, ?_, h2, h3⟩
    simp only [results_eq, Array.mapM_eq_mapM_toList, Sem.run_bind, Sem.run_map, h1, Result.andThen_ok, Sem.run_pure]
  split at h
  · rename_i p hps
    cases h
    obtain ⟨vs, h1, h2, h3⟩ := key _ hps
    match vs, h2 with
    | [v], _ => exact ⟨v, h1, h3 0 _ v rfl rfl⟩
  · rename_i ps hne hps
    cases h
    obtain ⟨vs, h1, h2, h3⟩ := key _ hps
    have hne' : ¬ vs.toArray.size = 1 := by
      intro e
      have : ps.length = 1 := by simp at e; omega
      match ps, this with
      | [p], _ => exact hne p rfl
    rw [dif_neg hne'] at h1
    exact ⟨_, h1, .tup ps vs h2 h3⟩
  · cases h

/-- r stands at s for what r' stands for behind the end of the call, where the variables from n on and the tokens from k on are forgotten. -/
def Frz (C : Cx) (σ : AS) (n k : Nat) (r r' : PV) : Prop := ∀ (w0 : World) (base : Nat) (s : S) (v : Value), Inv C w0 base σ s → Rep C.P s r v → Rep C.P (s.trunc n k) r' v
theorem Frz.wk {n k : Nat} {σ : AS} {r r' : PV} (hw : Wk C r r') (h : Cl n k r') : Frz C σ n k r r' := fun _ _ s v _ hr => (hw s v hr).trunc h
/-- What must hold at a function's end: R of the result and of the objects that are handed back (the caller's own, and what is made for him). -/
def RetP (C : Cx) (rs : List ResultVar) (n k : Nat) (R : PV → AS → Prop) : Post
  | .ret, pf, σ | .normal, pf, σ => ∃ r r' n' k', n ≤ n' ∧ k ≤ k' ∧ resultA C rs pf σ = some r ∧ Frz C σ n' k' r r' ∧ (∀ (i : Nat) (ps : List PV), i < n' → σ.bx[i]? = some ps → ∀ p ∈ ps, Cl n' k' p) ∧ R r' ⟨σ.bx.take n', σ.tk.take k'⟩
  | _, _, _ => False

theorem SC.body {f : FuncId} {fn : Func} {c : Code} {ps : List PV} {σ : AS} {R : PV → AS → Prop} (hf : C.P.funcs[f]? = some fn) (hb : fn.body = some c) (hn : ps.length ≤ fn.ntmps) (hdl : C.dl = []) (hG : ∀ (g : Nat) (p : PV), C.GE g = some p → Cl 0 0 p)
    (h : ClA σ → SW C ⟨fn.ntmps, σ.bx.length, σ.tk.length, none⟩ c (RetP C fn.results.toList σ.bx.length σ.tk.length R) (params 0 ps) σ) : SC C f ps σ R := by
  intro w0 base s vs hi hl hr
  refine calls_of_wp hf hb (wp_mono (wpIn_wide.1 <| h hi.clA w0 base s s { tmps := vs.toArray ++ Array.replicate (fn.ntmps - vs.toArray.size) undef, defers := [] } ⟨hi.lbx, by rw [hi.tk]⟩ (Mono.refl _ _) hi ⟨?_, hdl.symm, ?_⟩) ?_)
  · simp; omega
  · intro t p ht
    obtain ⟨_, h2⟩ := params_get ps 0 t p ht
    simp only [Nat.sub_zero] at h2
    have hlt : t < vs.length := by rw [← hl]; exact (List.getElem?_eq_some_iff.1 h2).1
    refine ⟨vs[t], ?_, hr t p _ h2 (List.getElem?_eq_getElem hlt)⟩
    rw [Array.getElem?_append_left (by simpa using hlt)]
    simp [hlt]
  · rintro e a w' ⟨pf, σ', s', rfl, hq, hi', hr', hm⟩
    have fin : (∃ r r' n' k', σ.bx.length ≤ n' ∧ σ.tk.length ≤ k' ∧ resultA C fn.results.toList pf σ' = some r ∧ Frz C σ' n' k' r r' ∧ (∀ (i : Nat) (ps : List PV), i < n' → σ'.bx[i]? = some ps → ∀ p ∈ ps, Cl n' k' p) ∧ R r' ⟨σ'.bx.take n', σ'.tk.take k'⟩) →
        a.defers = [] ∧ ∃ v, (results fn a.tmps).run C.P s'.w = .ok v s'.w ∧ ∃ v1 r σ1 s1, Ending.returned v = .returned v1 ∧ s1.w = s'.w ∧ R r σ1 ∧ Inv C w0 base σ1 s1 ∧ Rep C.P s1 r v1 ∧ Mono C.P s s1 := by
      rintro ⟨r, r', n', k', g1, g2, h1, h2, h4, h5⟩
      obtain ⟨v, k1, k2⟩ := resultA_ok hi' hr' h1
      refine ⟨hr'.defers.trans hdl, v, k1, v, r', _, s'.trunc n' k', rfl, rfl, h5, hi'.forget _ _ h4 (fun g p hp => (hG g p hp).le (Nat.zero_le _) (Nat.zero_le _)), h2 w0 base s' v hi' k2, hm.trunc ?_ ?_⟩
      · rw [hi.lbx]; exact g1
      · rw [hi.tk]; exact g2
    cases e with
    | ret => exact fin hq
    | normal => exact fin hq
    | exit id => exact hq.elim
    | goto l => exact hq.elim
    | panic ch => exact hq.elim
    | outgrown => exact hq.elim

/-! ### Regions that draw their order -/
theorem Inv.drew {w0 : World} {base : Nat} {σ : AS} {s : S} (hi : Inv C w0 base σ s) : Inv C w0 base σ ⟨s.g, s.tk, { s.w with drawn := s.w.drawn + 1 }⟩ ∧ Mono C.P s ⟨s.g, s.tk, { s.w with drawn := s.w.drawn + 1 }⟩ :=
  hi.old (Nat.le_refl _) (fun _ _ => rfl) (hi.below.trans ⟨rfl, rfl, rfl, Nat.le_refl _, fun _ _ => rfl⟩)

/-- A list of operations that only compute or read, in the text's order. -/
def runPure (C : Cx) (N : Nat) (ops : Array Oper) : List Oper → PF → AS → Option PF
  | [], pf, _ => some pf
  | o :: r, pf, σ =>
    if inN N o.dst = true then
      match gd ops o pf with
      | some true => match pureOp C o pf σ with
        | some p => runPure C N ops r (setd pf o.dst p) σ
        | none => none
      | some false => runPure C N ops r (setd pf o.dst (.val (.tuple #[]))) σ
      | none => none
    else none

theorem runPure_still {N : Nat} {ops : Array Oper} {w0 : World} {base : Nat} {σ : AS} {s : S} (hi : Inv C w0 base σ s) {Q : Act → Prop} : ∀ (l : List Oper) (pf pf' : PF) (a : Act), runPure C N ops l pf σ = some pf' → RepF C s N pf a →
    (∀ a', RepF C s N pf' a' → Q a') → wpStill C.P ops s.w Q l a
  | [], pf, pf', a, h, hr, hq => by cases h; exact hq a hr
  | o :: r, pf, pf', a, h, hr, hq => by
    simp only [runPure] at h
    split at h <;> try cases h
    rename_i hd
    unfold wpStill
    split at h <;> try cases h
    · rename_i hg
      rw [gd_ok hr hg, if_pos rfl]
      split at h <;> try cases h
      rename_i p hp
      obtain ⟨v, h1, h2⟩ := pureOp_ok hp w0 base s a hi hr
      unfold Oper.still
      rw [h1, Oper.stillUpon_value]
      exact runPure_still hi r _ pf' _ h (hr.put (inN_ok hd) h2) hq
    · rename_i hg
      rw [gd_ok hr hg]
      simp only [Bool.false_eq_true, if_false]
      exact runPure_still hi r _ pf' _ h (hr.put (inN_ok hd) (.val _)) hq

/-- Nothing ends outgrown. -/
def NoOut (Q : Post) : Prop := ∀ pf σ, ¬ Q .outgrown pf σ
theorem NoOut.lift {F : Fx} {Q : Post} (h : NoOut Q) {w0 : World} {base : Nat} {se : S} : ¬ LetsOut (Lift C F w0 base se Q) := fun ⟨_, _, pf, σ, _, _, hq, _⟩ => h pf σ hq
theorem wpIn_region_still {r : Option Nat} {n : Nat} {P : Program} {ops : Array Oper} {id : Nat} {Q : Exit → Act → World → Prop} {a : Act} {w : World} (hnd : noDefs ops = true) (hQ : ¬ LetsOut Q) (hm : P.follows .mixedOrders = true) (hB : Region.lexB .any ops = true)
    (h : wpStill P ops { w with drawn := w.drawn + 1 } (fun a' => Q .normal a' { w with drawn := w.drawn + 1 }) ops.toList a) : (Code.region id ops true).wpIn (rdF r) n P Q a w := by
  simp only [Region.lexB, Bool.and_eq_true] at hB
  refine wpIn_region_any hm (wpAny_in hnd hQ _ _ _ _ (wpAny_of_still (Q := fun a' => Q .normal a' { w with drawn := w.drawn + 1 }) (fun _ h => h) _ _ _ ?_))
  have := wpAnyS_lex (md := .any) hB.1 ops.toList 0 (Array.replicate ops.size false) a (by simp) (by simpa using hB.2) h
  simpa using this

theorem SW.draw {F : Fx} {Q : Post} {pf pf' : PF} {σ : AS} {id : Nat} {ops : Array Oper} (hnd : noDefs ops = true) (hno : NoOut Q) (hm : C.P.follows .mixedOrders = true) (hB : Region.lexB .any ops = true) (hr : runPure C F.N ops ops.toList pf σ = some pf') (h : Q .normal pf' σ) : SW C F (.region id ops true) Q pf σ := by
  intro w0 base se s a h1 h2 h3 h4
  obtain ⟨k1, k2⟩ := h3.drew
  exact wpIn_region_still hnd hno.lift hm hB (runPure_still k1 _ _ _ _ hr (h4.mono k2) fun a' ha' => ⟨pf', σ, _, rfl, h, k1, ha', h2.trans k2⟩)

end
end Go.Sw

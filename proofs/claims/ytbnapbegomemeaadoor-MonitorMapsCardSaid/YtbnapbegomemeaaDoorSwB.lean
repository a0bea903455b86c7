/- The logic Sw: the state that is kept, the judgements, the rules for code, for any program. -/
import Derived.Test.YtbnapbegomemeaaDoorSwA
import Derived.Tactics
import Derived.TacticsIn
import Derived.RangeFuncCalls
import Derived.Sort.LoopGhostIn
import Derived.OrdersIn
import Derived.Orders
namespace Go.Sw
open Go.RowKit

theorem allocOld (w : World) (o : Obj) (i : Nat) (h : i < w.heap.size) : (w.alloc o).heap[i]? = w.heap[i]? := by first | exact heap_alloc_old w o i h | exact heap_alloc_old w o h

/-- The abstract state: what the variables hold, and how far the rows that are appended to reach. -/
structure AS where
  bx : List (List PV)
  tk : List (TypeId × Nat)

structure Cx where
  P : Program
  dl : List Deferred
  W0 : World → Nat → Prop
  GE : Nat → Option PV
  T : TypeId → Option TyI
  ok : ∀ t y, T t = some y → tyOK P t y
  E : TypeId → Option Nat
  okE : ∀ t n, E t = some n → ∀ xs ys : List Int, xs.length = n → ys.length = n → ∀ (x y : Operand) (w : World),
    (do eqGuard .eql t x y (.agg (xs.map fun i => Value.int .i64 i).toArray) (.agg (ys.map fun i => Value.int .i64 i).toArray); binOp .eql t (.agg (xs.map fun i => Value.int .i64 i).toArray) (.agg (ys.map fun i => Value.int .i64 i).toArray) : Sem Value).run P w = .ok (.bool (xs == ys)) w ∧
    (do eqGuard .neq t x y (.agg (xs.map fun i => Value.int .i64 i).toArray) (.agg (ys.map fun i => Value.int .i64 i).toArray); binOp .neq t (.agg (xs.map fun i => Value.int .i64 i).toArray) (.agg (ys.map fun i => Value.int .i64 i).toArray) : Sem Value).run P w = .ok (.bool (!(xs == ys))) w

abbrev PF := List (Nat × PV)

def get : PF → Nat → Option PV
  | [], _ => none
  | (k, p) :: r, t => if k = t then some p else get r t

structure Inv (C : Cx) (w0 : World) (base : Nat) (σ : AS) (s : S) : Prop where
  tk : s.tk = σ.tk
  gx : C.W0 w0 base
  below : Below base w0 s.w
  basele : base ≤ s.w.heap.size
  lbx : s.g.bx.length = σ.bx.length
  lrw : s.g.rw.length = σ.tk.length
  bxinj : ∀ (i j b : Nat), s.g.bx[i]? = some b → s.g.bx[j]? = some b → i = j
  rwinj : ∀ (i j b : Nat), s.g.rw[i]? = some (some b) → s.g.rw[j]? = some (some b) → i = j
  apart : ∀ (i b : Nat), s.g.rw[i]? = some (some b) → b ∉ s.g.bx
  rngb : ∀ b ∈ s.g.bx, base ≤ b ∧ b < s.w.heap.size
  rngr : ∀ (i b : Nat), s.g.rw[i]? = some (some b) → base ≤ b ∧ b < s.w.heap.size
  box : ∀ (i b : Nat) (ps : List PV), s.g.bx[i]? = some b → σ.bx[i]? = some ps →
    ∃ cs T, s.w.heap[b]? = some (.cells cs T (0, 0)) ∧ cs.size = ps.length ∧ ∀ (j : Nat) (p : PV) (v : Value), ps[j]? = some p → cs[j]? = some v → Rep C.P s p v
  glob : ∀ (k : Nat) (p : PV), C.GE k = some p → Rep C.P s p (.pointer (some ⟨k, 0, none⟩))

structure RepF (C : Cx) (s : S) (N : Nat) (pf : PF) (a : Act) : Prop where
  size : a.tmps.size = N
  defers : a.defers = C.dl
  at_ : ∀ t p, get pf t = some p → ∃ v, a.tmps[t]? = some v ∧ Rep C.P s p v

theorem RepF.mono {C : Cx} {s s' : S} (m : Mono C.P s s') {N : Nat} {pf : PF} {a : Act} (h : RepF C s N pf a) : RepF C s' N pf a :=
  ⟨h.size, h.defers, fun t p ht => let ⟨v, h1, h2⟩ := h.at_ t p ht; ⟨v, h1, h2.mono m⟩⟩

/-- What is fixed while a call runs: the frame's size, how many variables and tokens there were at the begin; in a round of a range over a function: which loop's. -/
structure Fx where
  N : Nat
  n : Nat
  k : Nat
  rd : Option Nat

/-- The fence that asks nothing, in a round or not. -/
def rdF : Option Nat → Fence
  | none => Fence.wide
  | some l => Fence.wide.inRound l
theorem rdF_fn (r : Option Nat) (f : FuncId) : (rdF r).fn f := by cases r <;> trivial
theorem rdF_depth (r : Option Nat) : (rdF r).depth = none := by cases r <;> rfl
theorem rdF_round (r : Option Nat) : (rdF r).round = r := by cases r <;> rfl
theorem callsIn_rd {r : Option Nat} {n : Nat} {P : Program} {f : FuncId} {args : Array Value} {w : World} {R : Ending → World → Prop} (h : Calls P f args w R) : CallsIn (rdF r) n P f args w R := by
  cases r with
  | none => exact callsIn_wide.2 h
  | some l => exact CallsIn.inRound l (callsIn_wide.2 h)

/-- A defer statement gives no value. -/
theorem semAt_ok {r : Option Nat} {ρ : Operand → Value} {o : Oper} {P : Program} {w w' : World} {x : Next} (h : (execOp ρ o).run P w = .ok x w') (hx : ∀ d, x ≠ .defer d) : (Oper.semAt r ρ o).run P w = .ok x w' := by
  by_cases hd : ∃ c, o.op = .defer c
  · obtain ⟨c, hc⟩ := hd
    exfalso
    simp only [execOp, hc, Sem.run_bind] at h
    cases hr : (resolve ρ c o.type).run P w with
    | ok d w1 =>
      rw [hr] at h
      simp only [Result.andThen_ok, Sem.run_pure] at h
      cases h
      exact hx _ rfl
    | halt e w1 =>
      rw [hr] at h
      cases h
  · rw [Oper.semAt_eq _ _ _ (fun c hc => hd ⟨c, hc⟩)]
    exact h
section
variable {P : Program} {o : Oper} {a : Act} {w w' : World} {next : Act → World → Prop} {Q : Exit → Act → World → Prop} {r : Option Nat} {n : Nat}
theorem opIn_value {v : Value} (h : (execOp a.eval o).run P w = .ok (.value v) w') (hn : next (a.put o.dst v) w') : o.wpIn (rdF r) n P a w next Q := by
  refine ⟨fun f _ => rdF_fn r f, ?_⟩
  rw [rdF_round, semAt_ok h (fun _ h => by cases h)]
  exact hn
theorem opIn_skip (h : (execOp a.eval o).run P w = .ok .skip w') (hn : next (a.put o.dst undef) w') : o.wpIn (rdF r) n P a w next Q := by
  refine ⟨fun f _ => rdF_fn r f, ?_⟩
  rw [rdF_round, semAt_ok h (fun _ h => by cases h)]
  exact hn
theorem opIn_enter {f : FuncId} {args : Array Value} (h : (execOp a.eval o).run P w = .ok (.enter f args) w') (hn : Calls P f args w' fun
    | .returned v, w'' => next (a.put o.dst v) w''
    | .panicked chain, w'' => Q (.panic chain) a w''
    | .outgrown, _ => LetsOut Q) : o.wpIn (rdF r) n P a w next Q := by
  refine ⟨fun f _ => rdF_fn r f, ?_⟩
  rw [rdF_round, semAt_ok h (fun _ h => by cases h)]
  exact ⟨fun h => (by rw [rdF_depth] at h; cases h), callsIn_rd hn⟩
end

/-! ### Regions that draw their order, in a round -/
def noDef (o : Oper) : Bool := match o.op with
  | .defer _ => false
  | _ => true
def noDefs (ops : Array Oper) : Bool := ops.all noDef
theorem rowsIn_rd {r : Option Nat} {n : Nat} {P : Program} {row : String} {args : Array Value} {w : World} {R : Value → World → Prop} (h : Rows P row args w R) : RowsIn (rdF r) n P row args w R := by
  have hw : RowsIn Fence.wide n P row args w R := fun c cs _ => let ⟨v, w', hr, s⟩ := h c cs; ⟨v, w', hr, stepsIn_wide.2 s⟩
  cases r with
  | none => exact hw
  | some l => exact hw
section
variable {P : Program} {ops : Array Oper} {Q : Exit → Act → World → Prop} {r : Option Nat} {n : Nat}
theorem opIn_wp {o : Oper} {a : Act} {w : World} {next : Act → World → Prop} (hd : noDef o = true) (h : o.wp P a w next Q) : o.wpIn (rdF r) n P a w next Q := by
  refine ⟨fun f _ => rdF_fn r f, ?_⟩
  rw [rdF_round, Oper.semAt_eq _ _ _ (fun c hc => by unfold noDef at hd; rw [hc] at hd; cases hd)]
  unfold Oper.wp at h
  generalize (execOp a.eval o).run P w = x at h ⊢
  cases x with
  | ok x w' =>
    cases x <;> simp only [Oper.upon, Oper.uponIn] at h ⊢ <;> first
      | exact h
      | exact ⟨fun h => (by rw [rdF_depth] at h; cases h), callsIn_rd h⟩
      | exact ⟨fun h => (by rw [rdF_depth] at h; cases h), rowsIn_rd h⟩
      | exact h.elim
  | halt x w' => cases x <;> simp only [Oper.upon, Oper.uponIn] at h ⊢ <;> exact h
theorem wpAny_in {md : Region.Mode} (hnd : noDefs ops = true) (hQ : ¬ LetsOut Q) : ∀ (fuel : Nat) (listed : Array Bool) (a : Act) (w : World), wpAny P md ops Q fuel listed a w → wpAnyIn (rdF r) n P md ops Q fuel listed a w
  | 0, _, _, _, h => h
  | fuel + 1, listed, a, w, h => by
    refine ⟨h.1, fun i hi => ?_⟩
    have h2 := wpOp_mono (fun a' w' h' => wpAny_in hnd hQ fuel (listed.setIfInBounds i true) a' w' h') (h.2 i hi)
    unfold wpOp at h2
    unfold wpOpIn
    split at h2
    · rename_i ho; simp only [ho]; exact h2
    · rename_i o ho
      simp only [ho]
      split
      · rename_i hw
        rw [if_pos hw] at h2
        refine opIn_wp ?_ (h2.resolve_right fun h => hQ h.2)
        have := Array.all_eq_true'.1 hnd o (Array.mem_of_getElem? ho)
        exact this
      · rename_i hw
        rw [if_neg hw] at h2
        exact ⟨fun f _ => rdF_fn r f, h2⟩
end

structure At (F : Fx) (se : S) : Prop where
  n : se.g.bx.length = F.n
  k : se.tk.length = F.k

abbrev Post := Exit → PF → AS → Prop

def Lift (C : Cx) (F : Fx) (w0 : World) (base : Nat) (se : S) (Q : Post) : Exit → Act → World → Prop := fun e a w =>
  ∃ pf σ s, s.w = w ∧ Q e pf σ ∧ Inv C w0 base σ s ∧ RepF C s F.N pf a ∧ Mono C.P se s

/-- Code c, begun where the frame stands for pf and the objects for σ, ends as Q says. -/
def SW (C : Cx) (F : Fx) (c : Code) (Q : Post) (pf : PF) (σ : AS) : Prop :=
  ∀ w0 base se s a, At F se → Mono C.P se s → Inv C w0 base σ s → RepF C s F.N pf a → c.wpIn (rdF F.rd) 0 C.P (Lift C F w0 base se Q) a s.w

/-- The same for a list of operations of a region. -/
def SL (C : Cx) (F : Fx) (ops : Array Oper) (l : List Oper) (Q : Post) (pf : PF) (σ : AS) : Prop :=
  ∀ w0 base se s a, At F se → Mono C.P se s → Inv C w0 base σ s → RepF C s F.N pf a → wpListIn (rdF F.rd) 0 C.P ops (Lift C F w0 base se Q) l a s.w

section rules
variable {C : Cx} {F : Fx} {Q : Post} {pf : PF} {σ : AS}

theorem SW.mono {c : Code} {Q' : Post} (h : SW C F c Q pf σ) (hq : ∀ e pf σ, Q e pf σ → Q' e pf σ) : SW C F c Q' pf σ :=
  fun w0 base se s a h1 h2 h3 h4 => wpIn_mono (h w0 base se s a h1 h2 h3 h4) fun _ _ _ ⟨pf, σ, s, e1, e2, e3⟩ => ⟨pf, σ, s, e1, hq _ _ _ e2, e3⟩

theorem SW.skip (h : Q .normal pf σ) : SW C F .skip Q pf σ :=
  fun _ _ _ s _ _ h2 h3 h4 => wpIn_skip ⟨pf, σ, s, rfl, h, h3, h4, h2⟩
theorem SW.exit {id : Nat} (h : Q (.exit id) pf σ) : SW C F (.exit id) Q pf σ :=
  fun _ _ _ s _ _ h2 h3 h4 => wpIn_exit ⟨pf, σ, s, rfl, h, h3, h4, h2⟩
theorem SW.ret (h : Q .ret pf σ) : SW C F .ret Q pf σ :=
  fun _ _ _ s _ _ h2 h3 h4 => wpIn_ret ⟨pf, σ, s, rfl, h, h3, h4, h2⟩

def thenP (K : PF → AS → Prop) (Q : Post) : Post
  | .normal, pf, σ => K pf σ
  | e, pf, σ => Q e pf σ

theorem SW.seq {x y : Code} (h : SW C F x (thenP (fun pf σ => SW C F y Q pf σ) Q) pf σ) : SW C F (.seq x y) Q pf σ := by
  intro w0 base se s a h1 h2 h3 h4
  refine wpIn_seq (wpIn_mono (h w0 base se s a h1 h2 h3 h4) ?_)
  rintro e a' w' ⟨pf', σ', s', rfl, hq, hi, hr, hm⟩
  cases e with
  | normal => exact hq w0 base se s' a' h1 hm hi hr
  | exit id => exact ⟨pf', σ', s', rfl, hq, hi, hr, hm⟩
  | goto l => exact ⟨pf', σ', s', rfl, hq, hi, hr, hm⟩
  | ret => exact ⟨pf', σ', s', rfl, hq, hi, hr, hm⟩
  | panic ch => exact ⟨pf', σ', s', rfl, hq, hi, hr, hm⟩
  | outgrown => exact ⟨pf', σ', s', rfl, hq, hi, hr, hm⟩

/-- With what follows behind a name. -/
theorem SW.seq_k {x y : Code} (h : ∀ K : PF → AS → Prop, (∀ pf σ, SW C F y Q pf σ → K pf σ) → SW C F x (thenP K Q) pf σ) : SW C F (.seq x y) Q pf σ :=
  SW.seq (h _ fun _ _ h => h)

def ev (GE : Nat → Option PV) (pf : PF) : Operand → Option PV
  | .tmp t => get pf t
  | .const v => some (.val v)
  | .global g => GE g
  | .func f => some (.fn f [])

theorem ev_ok {w0 : World} {base : Nat} {s : S} {a : Act} {N : Nat} (hi : Inv C w0 base σ s) (hr : RepF C s N pf a) {x : Operand} {p : PV} (h : ev C.GE pf x = some p) : Rep C.P s p (a.eval x) := by
  cases x with
  | tmp t =>
    obtain ⟨v, h1, h2⟩ := hr.at_ t p h
    simpa [Act.eval, Array.getD_eq_getD_getElem?, h1] using h2
  | const v => cases h; exact .val v
  | global g => exact hi.glob g p h
  | func f => cases h; exact Rep.fn f [] [] rfl (fun j p v h => by simp at h)

theorem SW.cond {c : Operand} {x y : Code} {t : Bool} (hc : ev C.GE pf c = some (.val (.bool t))) (h1 : t = true → SW C F x Q pf σ) (h2 : t = false → SW C F y Q pf σ) : SW C F (.cond c x y) Q pf σ := by
  intro w0 base se s a g1 g2 g3 g4
  have := ev_ok g3 g4 hc
  cases he : a.eval c <;> rw [he] at this <;> cases this
  exact wpIn_cond_split he (fun e => h1 e w0 base se s a g1 g2 g3 g4) (fun e => h2 e w0 base se s a g1 g2 g3 g4)

def blockP (id : Nat) (Q : Post) : Post
  | .exit id', pf, σ => if id' = id then Q .normal pf σ else Q (.exit id') pf σ
  | e, pf, σ => Q e pf σ

theorem SW.block {id : Nat} {c : Code} (h : SW C F c (blockP id Q) pf σ) : SW C F (.block id c) Q pf σ := by
  intro w0 base se s a h1 h2 h3 h4
  refine wpIn_block (wpIn_mono (h w0 base se s a h1 h2 h3 h4) ?_)
  rintro e a' w' ⟨pf', σ', s', rfl, hq, hi, hr, hm⟩
  cases e with
  | exit id' =>
    by_cases e : id' = id
    · simp only [blockP, e, if_true] at hq
      simp only [Exit.inBlock, e, if_true]
      exact ⟨pf', σ', s', rfl, hq, hi, hr, hm⟩
    · simp only [blockP, e, if_false] at hq
      simp only [Exit.inBlock, e, if_false]
      exact ⟨pf', σ', s', rfl, hq, hi, hr, hm⟩
  | normal => exact ⟨pf', σ', s', rfl, hq, hi, hr, hm⟩
  | goto l => exact ⟨pf', σ', s', rfl, hq, hi, hr, hm⟩
  | ret => exact ⟨pf', σ', s', rfl, hq, hi, hr, hm⟩
  | panic ch => exact ⟨pf', σ', s', rfl, hq, hi, hr, hm⟩
  | outgrown => exact ⟨pf', σ', s', rfl, hq, hi, hr, hm⟩

/-- A loop: the invariant bears a number that every round lowers. -/
theorem SW.loop {c : Code} (I : Nat → PF → AS → Prop) (n : Nat) (h0 : I n pf σ)
    (round : ∀ n pf σ, I n pf σ → SW C F c (thenP (fun pf σ => ∃ n', n' < n ∧ I n' pf σ) Q) pf σ) : SW C F (.loop c) Q pf σ := by
  intro w0 base se s a h1 h2 h3 h4
  refine wpIn_loop_ghost (fun n a w => ∃ pf σ s, s.w = w ∧ I n pf σ ∧ Inv C w0 base σ s ∧ RepF C s F.N pf a ∧ Mono C.P se s) n ⟨pf, σ, s, rfl, h0, h3, h4, h2⟩ ?_
  rintro n a w ⟨pf, σ, s, rfl, hI, hi, hr, hm⟩
  refine wpIn_mono (round n pf σ hI w0 base se s a h1 hm hi hr) ?_
  rintro e a' w' ⟨pf', σ', s', rfl, hq, hi', hr', hm'⟩
  cases e with
  | normal =>
    obtain ⟨n', hlt, hI'⟩ := hq
    exact ⟨n', hlt, pf', σ', s', rfl, hI', hi', hr', hm'⟩
  | exit id => exact ⟨pf', σ', s', rfl, hq, hi', hr', hm'⟩
  | goto l => exact ⟨pf', σ', s', rfl, hq, hi', hr', hm'⟩
  | ret => exact ⟨pf', σ', s', rfl, hq, hi', hr', hm'⟩
  | panic ch => exact ⟨pf', σ', s', rfl, hq, hi', hr', hm'⟩
  | outgrown => exact ⟨pf', σ', s', rfl, hq, hi', hr', hm'⟩

/-- Slots may be forgotten. -/
theorem SW.sub {c : Code} {pf' : PF} (hs : ∀ t p, get pf' t = some p → get pf t = some p) (h : SW C F c Q pf' σ) : SW C F c Q pf σ :=
  fun w0 base se s a h1 h2 h3 h4 => h w0 base se s a h1 h2 h3 ⟨h4.size, h4.defers, fun t p ht => h4.at_ t p (hs t p ht)⟩

/-- p may be read as p'. -/
def Wk (C : Cx) (p p' : PV) : Prop := ∀ s v, Rep C.P s p v → Rep C.P s p' v
theorem Wk.rfl {p : PV} : Wk C p p := fun _ _ h => h
theorem Wk.unown {own : Option Nat} {xs : List (List PV)} : Wk C (.sl own xs) (.sl none xs) := fun _ _ h => h.unown
theorem Wk.any {p : PV} : Wk C p .any := fun _ v _ => .any v
theorem Wk.trans {p q r : PV} (h : Wk C p q) (k : Wk C q r) : Wk C p r := fun s v x => k s v (h s v x)

/-- Pointwise. -/
def WkL (C : Cx) : List PV → List PV → Prop
  | [], [] => True
  | p :: ps, q :: qs => Wk C p q ∧ WkL C ps qs
  | _, _ => False
theorem WkL.rfl : ∀ {ps : List PV}, WkL C ps ps
  | [] => trivial
  | _ :: _ => ⟨Wk.rfl, WkL.rfl⟩
theorem WkL.length : ∀ {ps qs : List PV}, WkL C ps qs → ps.length = qs.length
  | [], [], _ => _root_.rfl
  | _ :: _, _ :: _, h => by simp [WkL.length h.2]
  | [], _ :: _, h => h.elim
  | _ :: _, [], h => h.elim
theorem WkL.at_ : ∀ {ps qs : List PV}, WkL C ps qs → ∀ (j : Nat) (q : PV), qs[j]? = some q → ∃ p, ps[j]? = some p ∧ Wk C p q
  | p :: ps, q :: qs, h, 0, r, hr => by simp at hr; subst hr; exact ⟨p, by simp, h.1⟩
  | p :: ps, q :: qs, h, j + 1, r, hr => by
    simp only [List.getElem?_cons_succ] at hr ⊢
    exact WkL.at_ h.2 j r hr
  | [], [], _, j, r, hr => by simp at hr
  | [], _ :: _, h, _, _, _ => h.elim
  | _ :: _, [], h, _, _, _ => h.elim
theorem Wk.agg {ps qs : List PV} (h : WkL C ps qs) : Wk C (.agg ps) (.agg qs) := by
  intro s v hr
  cases hr
  rename_i vs hl hv
  refine .agg qs vs (h.length.symm.trans hl) fun j q v hq hv' => ?_
  obtain ⟨p, hp, hw⟩ := h.at_ j q hq
  exact hw s v (hv j p v hp hv')
theorem Wk.tup {ps qs : List PV} (h : WkL C ps qs) : Wk C (.tup ps) (.tup qs) := by
  intro s v hr
  cases hr
  rename_i vs hl hv
  refine .tup qs vs (h.length.symm.trans hl) fun j q v hq hv' => ?_
  obtain ⟨p, hp, hw⟩ := h.at_ j q hq
  exact hw s v (hv j p v hp hv')

def WkB (C : Cx) : List (List PV) → List (List PV) → Prop
  | [], [] => True
  | p :: ps, q :: qs => WkL C p q ∧ WkB C ps qs
  | _, _ => False
theorem WkB.rfl : ∀ {ps : List (List PV)}, WkB C ps ps
  | [] => trivial
  | _ :: _ => ⟨WkL.rfl, WkB.rfl⟩
theorem WkB.length : ∀ {ps qs : List (List PV)}, WkB C ps qs → ps.length = qs.length
  | [], [], _ => _root_.rfl
  | _ :: _, _ :: _, h => by simp [WkB.length h.2]
  | [], _ :: _, h => h.elim
  | _ :: _, [], h => h.elim
theorem WkB.at_ : ∀ {ps qs : List (List PV)}, WkB C ps qs → ∀ (j : Nat) (q : List PV), qs[j]? = some q → ∃ p, ps[j]? = some p ∧ WkL C p q
  | p :: ps, q :: qs, h, 0, r, hr => by simp at hr; subst hr; exact ⟨p, by simp, h.1⟩
  | p :: ps, q :: qs, h, j + 1, r, hr => by
    simp only [List.getElem?_cons_succ] at hr ⊢
    exact WkB.at_ h.2 j r hr
  | [], [], _, j, r, hr => by simp at hr
  | [], _ :: _, h, _, _, _ => h.elim
  | _ :: _, [], h, _, _, _ => h.elim

theorem Inv.wk {w0 : World} {base : Nat} {s : S} {bx' : List (List PV)} (h : Inv C w0 base σ s) (hb : WkB C σ.bx bx') : Inv C w0 base ⟨bx', σ.tk⟩ s where
  tk := h.tk
  gx := h.gx
  below := h.below
  basele := h.basele
  lbx := h.lbx.trans hb.length
  lrw := h.lrw
  bxinj := h.bxinj
  rwinj := h.rwinj
  apart := h.apart
  rngb := h.rngb
  rngr := h.rngr
  box := fun i b qs hi hq => by
    obtain ⟨ps, hp, hw⟩ := hb.at_ i qs hq
    obtain ⟨cs, T, h1, h2, h3⟩ := h.box i b ps hi hp
    refine ⟨cs, T, h1, h2.trans hw.length, fun j q v hq hv => ?_⟩
    obtain ⟨p, hp', hw'⟩ := hw.at_ j q hq
    exact hw' s v (h3 j p v hp' hv)
  glob := h.glob

/-- Frame and objects may be read otherwise. -/
theorem SW.wk {c : Code} {pf' : PF} {bx' : List (List PV)} (hf : ∀ t q, get pf' t = some q → ∃ p, get pf t = some p ∧ Wk C p q) (hb : WkB C σ.bx bx') (h : SW C F c Q pf' ⟨bx', σ.tk⟩) : SW C F c Q pf σ :=
  fun w0 base se s a h1 h2 h3 h4 => h w0 base se s a h1 h2 (h3.wk hb) ⟨h4.size, h4.defers, fun t q ht => by
    obtain ⟨p, hp, hw⟩ := hf t q ht
    obtain ⟨v, hv, hr⟩ := h4.at_ t p hp
    exact ⟨v, hv, hw s v hr⟩⟩

/-- Objects may be forgotten. -/
theorem Inv.forget {w0 : World} {base : Nat} {s : S} (h : Inv C w0 base σ s) (n k : Nat) (hb : ∀ (i : Nat) (ps : List PV), i < n → σ.bx[i]? = some ps → ∀ p ∈ ps, Cl n k p) (hg : ∀ (g : Nat) (p : PV), C.GE g = some p → Cl n k p) :
    Inv C w0 base ⟨σ.bx.take n, σ.tk.take k⟩ (s.trunc n k) where
  tk := by show s.tk.take k = _; rw [h.tk]
  gx := h.gx
  below := h.below
  basele := h.basele
  lbx := by show (s.g.bx.take n).length = (σ.bx.take n).length; simp [h.lbx]
  lrw := by show (s.g.rw.take k).length = (σ.tk.take k).length; simp [h.lrw]
  bxinj := fun i j b hi hj => h.bxinj i j b (get_take hi).2 (get_take hj).2
  rwinj := fun i j b hi hj => h.rwinj i j b (get_take hi).2 (get_take hj).2
  apart := fun i b hi hb => h.apart i b (get_take hi).2 (List.mem_of_mem_take hb)
  rngb := fun b hb => h.rngb b (List.mem_of_mem_take hb)
  rngr := fun i b hi => h.rngr i b (get_take hi).2
  box := fun i b ps hi hp => by
    obtain ⟨cs, T, h1, h2, h3⟩ := h.box i b ps (get_take hi).2 (get_take hp).2
    exact ⟨cs, T, h1, h2, fun j p v hp' hv => (h3 j p v hp' hv).trunc (hb i ps (get_take hi).1 (get_take hp).2 p (List.mem_of_getElem? hp'))⟩
  glob := fun k' p hp => (h.glob k' p hp).trunc (hg k' p hp)

theorem SW.forget {c : Code} (n k : Nat) (hn : F.n ≤ n) (hk : F.k ≤ k) (hf : ∀ t p, get pf t = some p → Cl n k p) (hb : ∀ (i : Nat) (ps : List PV), i < n → σ.bx[i]? = some ps → ∀ p ∈ ps, Cl n k p)
    (hg : ∀ (g : Nat) (p : PV), C.GE g = some p → Cl 0 0 p) (h : SW C F c Q pf ⟨σ.bx.take n, σ.tk.take k⟩) : SW C F c Q pf σ := by
  intro w0 base se s a h1 h2 h3 h4
  refine h w0 base se (s.trunc n k) a h1 (h2.trunc ?_ ?_) (h3.forget n k hb fun g p hp => (hg g p hp).le (Nat.zero_le _) (Nat.zero_le _)) ⟨h4.size, h4.defers, fun t p ht => ?_⟩
  · rw [h1.n]; exact hn
  · rw [h1.k]; exact hk
  · obtain ⟨v, hv, hr⟩ := h4.at_ t p ht
    exact ⟨v, hv, hr.trunc (hf t p ht)⟩

theorem SW.region {id : Nat} {ops : Array Oper} (h : SL C F ops ops.toList Q pf σ) : SW C F (.region id ops false) Q pf σ :=
  fun w0 base se s a h1 h2 h3 h4 => wpIn_region_list (h w0 base se s a h1 h2 h3 h4)

theorem SL.nil {ops : Array Oper} (h : Q .normal pf σ) : SL C F ops [] Q pf σ :=
  fun _ _ _ s _ _ h2 h3 h4 => wpListIn_nil ⟨pf, σ, s, rfl, h, h3, h4, h2⟩

theorem SL.sub {ops : Array Oper} {l : List Oper} {pf' : PF} (hs : ∀ t p, get pf' t = some p → get pf t = some p) (h : SL C F ops l Q pf' σ) : SL C F ops l Q pf σ :=
  fun w0 base se s a h1 h2 h3 h4 => h w0 base se s a h1 h2 h3 ⟨h4.size, h4.defers, fun t p ht => h4.at_ t p (hs t p ht)⟩

theorem SL.wk {ops : Array Oper} {l : List Oper} {pf' : PF} {bx' : List (List PV)} (hf : ∀ t q, get pf' t = some q → ∃ p, get pf t = some p ∧ Wk C p q) (hb : WkB C σ.bx bx') (h : SL C F ops l Q pf' ⟨bx', σ.tk⟩) : SL C F ops l Q pf σ :=
  fun w0 base se s a h1 h2 h3 h4 => h w0 base se s a h1 h2 (h3.wk hb) ⟨h4.size, h4.defers, fun t q ht => by
    obtain ⟨p, hp, hw⟩ := hf t q ht
    obtain ⟨v, hv, hr⟩ := h4.at_ t p hp
    exact ⟨v, hv, hw s v hr⟩⟩

end rules

/-- A call of f at arguments that stand for ps: what comes back stands for some r, the objects for some σ', as R says. -/
def SC (C : Cx) (f : FuncId) (ps : List PV) (σ : AS) (R : PV → AS → Prop) : Prop :=
  ∀ w0 base s (vs : List Value), Inv C w0 base σ s → ps.length = vs.length → (∀ (j : Nat) (p : PV) (v : Value), ps[j]? = some p → vs[j]? = some v → Rep C.P s p v) →
    Calls C.P f vs.toArray s.w fun e w' => ∃ v r σ' s', e = .returned v ∧ s'.w = w' ∧ R r σ' ∧ Inv C w0 base σ' s' ∧ Rep C.P s' r v ∧ Mono C.P s s'

theorem SC.mono {C : Cx} {f : FuncId} {ps : List PV} {σ : AS} {R R' : PV → AS → Prop} (h : SC C f ps σ R) (hr : ∀ r σ, R r σ → R' r σ) : SC C f ps σ R' :=
  fun w0 base s vs h1 h2 h3 => (h w0 base s vs h1 h2 h3).mono fun _ _ ⟨v, r, σ', s', e1, e2, e3, e4⟩ => ⟨v, r, σ', s', e1, e2, hr _ _ e3, e4⟩

/-- Operation o, a value put into its slot. -/
def setd (pf : PF) (d : Option Tmp) (p : PV) : PF :=
  match d with
  | some d => (d, p) :: pf
  | none => pf

theorem RepF.put {C : Cx} {s : S} {N : Nat} {pf : PF} {a : Act} (h : RepF C s N pf a) {d : Option Tmp} {p : PV} {v : Value} (hd : ∀ t, d = some t → t < N) (hv : Rep C.P s p v) : RepF C s N (setd pf d p) (a.put d v) := by
  cases d with
  | none => exact h
  | some d =>
    refine ⟨by simp [Act.put, h.size], h.defers, fun t q ht => ?_⟩
    simp only [setd, get] at ht
    have hlt := hd d rfl
    split at ht
    · rename_i e
      cases ht
      subst e
      exact ⟨v, by simp [Act.put, h.size, hlt], hv⟩
    · rename_i e
      obtain ⟨u, h1, h2⟩ := h.at_ t q ht
      refine ⟨u, ?_, h2⟩
      simp only [Act.put, Array.getElem?_setIfInBounds, if_neg e]
      exact h1

section ops
variable {C : Cx} {F : Fx} {Q : Post} {pf : PF} {σ : AS} {ops : Array Oper} {o : Oper} {rest : List Oper}

/-- An operation that only computes: whatever the state, it gives a value that stands for p. -/
def Pure (C : Cx) (N : Nat) (o : Oper) (pf : PF) (σ : AS) (p : PV) : Prop :=
  ∀ w0 base s a, Inv C w0 base σ s → RepF C s N pf a → ∃ v, (execOp a.eval o).run C.P s.w = .ok (.value v) s.w ∧ Rep C.P s p v

/-- An operation that works on the objects. -/
def Eff (C : Cx) (N : Nat) (o : Oper) (pf : PF) (σ : AS) (p : PV) (σ' : AS) : Prop :=
  ∀ w0 base s a, Inv C w0 base σ s → RepF C s N pf a → ∃ v s', ((execOp a.eval o).run C.P s.w = .ok (.value v) s'.w ∨ ((execOp a.eval o).run C.P s.w = .ok .skip s'.w ∧ v = undef)) ∧
    Rep C.P s' p v ∧ Inv C w0 base σ' s' ∧ Mono C.P s s'

def inN (N : Nat) : Option Tmp → Bool
  | some d => decide (d < N)
  | none => true
theorem inN_ok {N : Nat} {d : Option Tmp} (h : inN N d = true) : ∀ t, d = some t → t < N := by
  rintro t rfl; simpa [inN] using h

theorem SL.pure {p : PV} (hg : o.guard = none) (hd : inN F.N o.dst = true) (hp : Pure C F.N o pf σ p) (h : SL C F ops rest Q (setd pf o.dst p) σ) : SL C F ops (o :: rest) Q pf σ := by
  intro w0 base se s a h1 h2 h3 h4
  refine wpListIn_plain hg fun K hK => ?_
  obtain ⟨v, hr, hv⟩ := hp w0 base s a h3 h4
  exact opIn_value hr (hK _ _ (h w0 base se s _ h1 h2 h3 (h4.put (inN_ok hd) hv)))

theorem SL.eff {p : PV} {σ' : AS} (hg : o.guard = none) (hd : inN F.N o.dst = true) (hp : Eff C F.N o pf σ p σ') (h : SL C F ops rest Q (setd pf o.dst p) σ') : SL C F ops (o :: rest) Q pf σ := by
  intro w0 base se s a h1 h2 h3 h4
  refine wpListIn_plain hg fun K hK => ?_
  obtain ⟨v, s', hr, hv, hi, hm⟩ := hp w0 base s a h3 h4
  have hfin := hK _ _ (h w0 base se s' (a.put o.dst v) h1 (h2.trans hm) hi ((h4.mono hm).put (inN_ok hd) hv))
  rcases hr with hr | ⟨hr, rfl⟩
  · exact opIn_value hr hfin
  · exact opIn_skip hr hfin

/-- A guard's answer. -/
def gd (ops : Array Oper) (o : Oper) (pf : PF) : Option Bool :=
  match o.guard with
  | none => some true
  | some (j, want) =>
    match ((ops[j]?).bind (·.dst)).bind (get pf) with
    | some (.val (.bool b)) => some (b == want)
    | some (.val (.tuple _)) => some false
    | _ => none

theorem gd_ok {s : S} {N : Nat} {a : Act} {t : Bool} (h4 : RepF C s N pf a) (h : gd ops o pf = some t) : Region.wanted o (yielded ops a.tmps) = t := by
  unfold gd at h
  unfold Region.wanted
  split at h
  · rename_i hg; cases h; simp [hg]
  · rename_i j want hg
    simp only [hg]
    split at h
    · rename_i b hb
      cases h
      obtain ⟨d, hd, hb'⟩ := Option.bind_eq_some_iff.1 hb
      obtain ⟨v, hv, hr⟩ := h4.at_ d _ hb'
      cases hr
      simp [yielded, hd, hv]
    · rename_i vs hb
      cases h
      obtain ⟨d, hd, hb'⟩ := Option.bind_eq_some_iff.1 hb
      obtain ⟨v, hv, hr⟩ := h4.at_ d _ hb'
      cases hr
      simp [yielded, hd, hv]
    · cases h

theorem SL.guarded (hg : gd ops o pf = some true) (h : SL C F ops ({ o with guard := none } :: rest) Q pf σ) : SL C F ops (o :: rest) Q pf σ := by
  intro w0 base se s a h1 h2 h3 h4
  have h' := h w0 base se s a h1 h2 h3 h4
  unfold wpListIn at h' ⊢
  rw [gd_ok h4 hg, if_pos _root_.rfl]
  rw [if_pos (show Region.wanted { o with guard := none } (yielded ops a.tmps) = true from _root_.rfl)] at h'
  exact h'

theorem SL.skipped (hg : gd ops o pf = some false) (hd : inN F.N o.dst = true) (h : SL C F ops rest Q (setd pf o.dst (.val (.tuple #[]))) σ) : SL C F ops (o :: rest) Q pf σ := by
  intro w0 base se s a h1 h2 h3 h4
  unfold wpListIn
  rw [gd_ok h4 hg]
  simp only [Bool.false_eq_true, if_false]
  refine ⟨fun f _ => rdF_fn _ f, ?_⟩
  exact h w0 base se s _ h1 h2 h3 (h4.put (inN_ok hd) (.val _))

end ops
end Go.Sw

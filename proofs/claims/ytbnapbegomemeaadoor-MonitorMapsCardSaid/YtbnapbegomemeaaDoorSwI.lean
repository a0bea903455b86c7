/- The logic Sw: the walk, what follows kept in a list, for any program. -/
import Derived.Test.YtbnapbegomemeaaDoorSwH
namespace Go.Sw
open Go.RowKit

/-- What is still to come. -/
inductive KI where
  | code (c : Code)
  | blk (id : Nat)

def Cont (C : Cx) (F : Fx) (Q : Post) : List KI → Post
  | [] => Q
  | .code c :: k => thenP (fun pf σ => SW C F c (Cont C F Q k) pf σ) (Cont C F Q k)
  | .blk id :: k => blockP id (Cont C F Q k)

section
variable {C : Cx} {F : Fx} {Q : Post} {k : List KI} {pf : PF} {σ : AS}

theorem W.seq {x y : Code} (h : SW C F x (Cont C F Q (.code y :: k)) pf σ) : SW C F (.seq x y) (Cont C F Q k) pf σ := SW.seq h
theorem W.block {id : Nat} {c : Code} (h : SW C F c (Cont C F Q (.blk id :: k)) pf σ) : SW C F (.block id c) (Cont C F Q k) pf σ := SW.block h
theorem W.skip (h : Cont C F Q k .normal pf σ) : SW C F .skip (Cont C F Q k) pf σ := SW.skip h
theorem W.exit {id : Nat} (h : Cont C F Q k (.exit id) pf σ) : SW C F (.exit id) (Cont C F Q k) pf σ := SW.exit h
theorem W.ret (h : Cont C F Q k .ret pf σ) : SW C F .ret (Cont C F Q k) pf σ := SW.ret h
theorem W.next {c : Code} (h : SW C F c (Cont C F Q k) pf σ) : Cont C F Q (.code c :: k) .normal pf σ := h
theorem W.out {id : Nat} (h : Cont C F Q k .normal pf σ) : Cont C F Q (.blk id :: k) .normal pf σ := h
theorem W.exit_code {c : Code} {id : Nat} (h : Cont C F Q k (.exit id) pf σ) : Cont C F Q (.code c :: k) (.exit id) pf σ := h
theorem W.exit_here {id : Nat} (h : Cont C F Q k .normal pf σ) : Cont C F Q (.blk id :: k) (.exit id) pf σ := by
  show (if id = id then Cont C F Q k .normal pf σ else Cont C F Q k (.exit id) pf σ)
  rw [if_pos rfl]; exact h
theorem W.exit_on {id id' : Nat} (hne : id' ≠ id) (h : Cont C F Q k (.exit id') pf σ) : Cont C F Q (.blk id :: k) (.exit id') pf σ := by
  show (if id' = id then Cont C F Q k .normal pf σ else Cont C F Q k (.exit id') pf σ)
  rw [if_neg hne]; exact h
theorem W.ret_code {c : Code} (h : Cont C F Q k .ret pf σ) : Cont C F Q (.code c :: k) .ret pf σ := h
theorem W.ret_blk {id : Nat} (h : Cont C F Q k .ret pf σ) : Cont C F Q (.blk id :: k) .ret pf σ := h
theorem W.cond {c : Operand} {x y : Code} {t : Bool} (hc : ev C.GE pf c = some (.val (.bool t))) (h1 : t = true → SW C F x (Cont C F Q k) pf σ) (h2 : t = false → SW C F y (Cont C F Q k) pf σ) : SW C F (.cond c x y) (Cont C F Q k) pf σ := SW.cond hc h1 h2
theorem W.reg {id : Nat} {ops : Array Oper} {pf' : PF} {σ' : AS} {rest : List Oper} (h : runOps C F.N ops ops.toList pf σ = some (pf', σ', rest)) (hk : SL C F ops rest (Cont C F Q k) pf' σ') : SW C F (.region id ops false) (Cont C F Q k) pf σ := SW.reg h hk
theorem W.nil {ops : Array Oper} (h : Cont C F Q k .normal pf σ) : SL C F ops [] (Cont C F Q k) pf σ := SL.nil h
theorem W.run {ops : Array Oper} {l rest : List Oper} {pf' : PF} {σ' : AS} (h : runOps C F.N ops l pf σ = some (pf', σ', rest)) (hk : SL C F ops rest (Cont C F Q k) pf' σ') : SL C F ops l (Cont C F Q k) pf σ := SL.run h hk
theorem W.draw {id : Nat} {ops : Array Oper} {pf' : PF} (hnd : noDefs ops = true) (hno : NoOut (Cont C F Q k)) (hm : C.P.follows .mixedOrders = true) (hB : Region.lexB .any ops = true) (hr : runPure C F.N ops ops.toList pf σ = some pf') (h : Cont C F Q k .normal pf' σ) : SW C F (.region id ops true) (Cont C F Q k) pf σ := SW.draw hnd hno hm hB hr h
theorem W.sub {c : Code} {pf' : PF} (h : SW C F c (Cont C F Q k) pf' σ) (hs : ∀ t p, get pf' t = some p → get pf t = some p) : SW C F c (Cont C F Q k) pf σ := SW.sub hs h

/-- A loop whose rounds are counted down by the invariant's number. -/
theorem W.loop {c : Code} (I : Nat → PF → AS → Prop) (n : Nat) (h0 : I n pf σ) (round : ∀ n pf σ, I n pf σ → SW C F c (Cont C F (thenP (fun pf σ => ∃ n', n' < n ∧ I n' pf σ) (Cont C F Q k)) []) pf σ) : SW C F (.loop c) (Cont C F Q k) pf σ :=
  SW.loop I n h0 round
theorem W.round {n : Nat} {I : Nat → PF → AS → Prop} (h : ∃ n', n' < n ∧ I n' pf σ) : Cont C F (thenP (fun pf σ => ∃ n', n' < n ∧ I n' pf σ) (Cont C F Q k)) [] .normal pf σ := h
theorem W.leave_exit {K : PF → AS → Prop} {id : Nat} (h : Cont C F Q k (.exit id) pf σ) : Cont C F (thenP K (Cont C F Q k)) [] (.exit id) pf σ := h
theorem W.leave_ret {K : PF → AS → Prop} (h : Cont C F Q k .ret pf σ) : Cont C F (thenP K (Cont C F Q k)) [] .ret pf σ := h

/-- A whole function. -/
theorem W.body {f : FuncId} {fn : Func} {c : Code} {ps : List PV} {σ : AS} {R : PV → AS → Prop} (hf : C.P.funcs[f]? = some fn) (hb : fn.body = some c) (N : Nat) (hN : fn.ntmps = N) (rs : Array ResultVar) (hr : fn.results = rs) (hn : ps.length ≤ N) (hdl : C.dl = []) (hG : ∀ (g : Nat) (p : PV), C.GE g = some p → Cl 0 0 p)
    (h : ClA σ → SW C ⟨N, σ.bx.length, σ.tk.length, none⟩ c (Cont C ⟨N, σ.bx.length, σ.tk.length, none⟩ (RetP C rs.toList σ.bx.length σ.tk.length R) []) (params 0 ps) σ) : SC C f ps σ R := by
  subst hN
  subst hr
  exact SC.body hf hb hn hdl hG h

/-- The end. -/
theorem W.fin {rs : List ResultVar} {R : PV → AS → Prop} {n m : Nat} (r r' : PV) (h1 : resultA C rs pf σ = some r) (h2 : Wk C r r') (h3 : Cl n m r') (h4 : ∀ (i : Nat) (ps : List PV), i < n → σ.bx[i]? = some ps → ∀ p ∈ ps, Cl n m p) (h5 : R r' ⟨σ.bx.take n, σ.tk.take m⟩) : Cont C F (RetP C rs n m R) [] .ret pf σ :=
  ⟨r, r', n, m, Nat.le_refl _, Nat.le_refl _, h1, Frz.wk h2 h3, h4, h5⟩
theorem W.fin_normal {rs : List ResultVar} {R : PV → AS → Prop} {n m : Nat} (r r' : PV) (h1 : resultA C rs pf σ = some r) (h2 : Wk C r r') (h3 : Cl n m r') (h4 : ∀ (i : Nat) (ps : List PV), i < n → σ.bx[i]? = some ps → ∀ p ∈ ps, Cl n m p) (h5 : R r' ⟨σ.bx.take n, σ.tk.take m⟩) : Cont C F (RetP C rs n m R) [] .normal pf σ :=
  ⟨r, r', n, m, Nat.le_refl _, Nat.le_refl _, h1, Frz.wk h2 h3, h4, h5⟩
/-- The end, objects of the call's own handed back too. -/
theorem W.finK {rs : List ResultVar} {R : PV → AS → Prop} {n m : Nat} (n' m' : Nat) (r r' : PV) (hn : n ≤ n') (hm : m ≤ m') (h1 : resultA C rs pf σ = some r) (h2 : Wk C r r') (h3 : Cl n' m' r') (h4 : ∀ (i : Nat) (ps : List PV), i < n' → σ.bx[i]? = some ps → ∀ p ∈ ps, Cl n' m' p) (h5 : R r' ⟨σ.bx.take n', σ.tk.take m'⟩) : Cont C F (RetP C rs n m R) [] .ret pf σ :=
  ⟨r, r', n', m', hn, hm, h1, Frz.wk h2 h3, h4, h5⟩
/-- The end, where variables become rows that nobody writes. -/
theorem W.finZ {rs : List ResultVar} {R : PV → AS → Prop} {n m : Nat} (r r' : PV) (h1 : resultA C rs pf σ = some r) (h2 : Frz C σ n m r r') (h4 : ∀ (i : Nat) (ps : List PV), i < n → σ.bx[i]? = some ps → ∀ p ∈ ps, Cl n m p) (h5 : R r' ⟨σ.bx.take n, σ.tk.take m⟩) : Cont C F (RetP C rs n m R) [] .ret pf σ :=
  ⟨r, r', n, m, Nat.le_refl _, Nat.le_refl _, h1, h2, h4, h5⟩

end

section
variable {C : Cx} {F : Fx} {Q : Post} {k : List KI} {pf : PF} {σ σ' : AS}
/-- A call with one outcome. -/
theorem W.call1 {ops : Array Oper} {o : Oper} {rest : List Oper} {c : Call} {f : Operand} {n : FuncId} {caps ps args : List PV} {r : PV} (hgo : isGo C.P n = true) (ho : o.op = .call c) (hc : c.callee = .value f)
    (hf : ev C.GE pf f = some (.fn n caps)) (hg : gd ops o pf = some true) (hd : inN F.N o.dst = true) (ha : evs C.GE pf c.args.toList = some ps) (hargs : ps ++ caps = args) (hs : SC1 C n args σ r σ')
    (h : SL C F ops rest (Cont C F Q k) (setd pf o.dst r) σ') : SL C F ops (o :: rest) (Cont C F Q k) pf σ := by
  subst hargs
  exact SL.call1 hs hg hd ho hc hf ha hgo h
/-- A call with several outcomes. -/
theorem W.callR {ops : Array Oper} {o : Oper} {rest : List Oper} {c : Call} {f : Operand} {n : FuncId} {caps ps args : List PV} {R : PV → AS → Prop} (hgo : isGo C.P n = true) (ho : o.op = .call c) (hc : c.callee = .value f)
    (hf : ev C.GE pf f = some (.fn n caps)) (hg : gd ops o pf = some true) (hd : inN F.N o.dst = true) (ha : evs C.GE pf c.args.toList = some ps) (hargs : ps ++ caps = args) (hs : SC C n args σ R)
    (h : ∀ r σ', R r σ' → SL C F ops rest (Cont C F Q k) (setd pf o.dst r) σ') : SL C F ops (o :: rest) (Cont C F Q k) pf σ := by
  subst hargs
  exact SL.callg hg hd ho hc hf ha hgo hs h
end

/-- The slots of p are among those of q. -/
def Sub (p q : PF) : Prop := ∀ t v, get p t = some v → get q t = some v
theorem Sub_nil (q : PF) : Sub [] q ↔ True := ⟨fun _ => trivial, fun _ t v h => by simp [get] at h⟩
theorem Sub.cons {k : Nat} {v : PV} {p q : PF} (h : get q k = some v) (hs : Sub p q) : Sub ((k, v) :: p) q := by
  intro t u ht
  simp only [get] at ht
  split at ht
  · rename_i e; cases ht; subst e; exact h
  · exact hs t u ht
theorem Sub.nil {q : PF} : Sub [] q := fun t v h => by simp [get] at h

/-- What a round hands on. -/
def Hand {α : Type} (fr : α → PF) (ob : α → AS) (P : α → Prop) (μ : α → Nat) (n : Nat) (pf : PF) (σ : AS) : Prop := ∃ y, P y ∧ μ y < n ∧ Sub (fr y) pf ∧ ob y = σ

section
variable {C : Cx} {F : Fx} {Q : Post} {k : List KI} {pf : PF} {σ σ' : AS}
/-- A loop: at each round's head the slots and the objects are those of some x of which P holds; each round lowers μ. -/
theorem W.loopS {α : Type} {c : Code} (fr : α → PF) (ob : α → AS) (P : α → Prop) (μ : α → Nat) (x : α) (hP : P x) (hs : Sub (fr x) pf) (ho : ob x = σ)
    (round : ∀ x, P x → SW C F c (Cont C F (thenP (Hand fr ob P μ (μ x)) (Cont C F Q k)) []) (fr x) (ob x)) : SW C F (.loop c) (Cont C F Q k) pf σ := by
  refine SW.loop (fun n pf σ => ∃ x, P x ∧ μ x = n ∧ Sub (fr x) pf ∧ ob x = σ) (μ x) ⟨x, hP, rfl, hs, ho⟩ ?_
  rintro n pf σ ⟨x, hP, rfl, hs, rfl⟩
  refine SW.sub hs (SW.mono (round x hP) ?_)
  intro e pf σ h
  cases e <;> first | exact h | (obtain ⟨y, h1, h2, h3, h4⟩ := h; exact ⟨μ y, h2, y, h1, rfl, h3, h4⟩)
theorem W.hand {α : Type} {fr : α → PF} {ob : α → AS} {P : α → Prop} {μ : α → Nat} {n : Nat} (y : α) (hP : P y) (hμ : μ y < n) (hs : Sub (fr y) pf) (ho : ob y = σ) : Cont C F (thenP (Hand fr ob P μ n) (Cont C F Q k)) [] .normal pf σ :=
  ⟨y, hP, hμ, hs, ho⟩
theorem W.token {c : Code} (e : TypeId) (d : Nat) (hd : get pf d = some (.val (.slice none 0 0))) (h : SW C F c (Cont C F Q k) ((d, .sl (some σ.tk.length) []) :: pf) ⟨σ.bx, σ.tk ++ [(e, 0)]⟩) : SW C F c (Cont C F Q k) pf σ := SW.token e d hd h
theorem W.tokenbox {c : Code} (e : TypeId) (i j : Nat) (qs : List PV) (hq : σ.bx[i]? = some qs) (hj : qs[j]? = some (.val (.slice none 0 0))) (h : SW C F c (Cont C F Q k) pf ⟨σ.bx.set i (qs.set j (.sl (some σ.tk.length) [])), σ.tk ++ [(e, 0)]⟩) : SW C F c (Cont C F Q k) pf σ := SW.tokenbox e i j qs hq hj h
theorem W.forget {c : Code} (n m : Nat) (hn : F.n ≤ n) (hk : F.k ≤ m) (hf : ∀ t p, get pf t = some p → Cl n m p) (hb : ∀ (i : Nat) (ps : List PV), i < n → σ.bx[i]? = some ps → ∀ p ∈ ps, Cl n m p)
    (hg : ∀ (g : Nat) (p : PV), C.GE g = some p → Cl 0 0 p) (h : SW C F c (Cont C F Q k) pf ⟨σ.bx.take n, σ.tk.take m⟩) : SW C F c (Cont C F Q k) pf σ := SW.forget n m hn hk hf hb hg h
theorem W.wk {c : Code} {pf' : PF} {bx' : List (List PV)} (hf : ∀ t q, get pf' t = some q → ∃ p, get pf t = some p ∧ Wk C p q) (hb : WkB C σ.bx bx') (h : SW C F c (Cont C F Q k) pf' ⟨bx', σ.tk⟩) : SW C F c (Cont C F Q k) pf σ := SW.wk hf hb h
theorem W.runX {ops : Array Oper} {o : Oper} {l rest : List Oper} {pf' : PF} (_hc : isCall o = false) (h : runOps C F.N ops (o :: l) pf σ = some (pf', σ', rest)) (hk : SL C F ops rest (Cont C F Q k) pf' σ') : SL C F ops (o :: l) (Cont C F Q k) pf σ := SL.run h hk
theorem W.runG {ops : Array Oper} {o : Oper} {l rest : List Oper} {pf' : PF} (_hc : gd ops o pf = some false) (h : runOps C F.N ops (o :: l) pf σ = some (pf', σ', rest)) (hk : SL C F ops rest (Cont C F Q k) pf' σ') : SL C F ops (o :: l) (Cont C F Q k) pf σ := SL.run h hk
end

end Go.Sw

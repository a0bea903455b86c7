/- The abstract values of the logic Sw, and when a Go value stands for one (Rep), for any program. -/
import Derived.Calls
import Derived.Orders
import Derived.Still
import Derived.StillTail
import Derived.OrdersHeld
import Derived.Below
import Derived.Maps.AppendAt
import Derived.Deep.LoopGhost
import Derived.RangeFuncOwn
import Derived.RangeFuncCalls
namespace Go.Sw
open Go.RowKit

/-- An abstract value. -/
inductive PV where
  | any
  | val (v : Value)
  | ptr (i off : Nat)
  | rop (cells : List PV) (off : Nat)
  | sl (own : Option Nat) (xs : List (List PV))
  | agg (ps : List PV)
  | tup (ps : List PV)
  | fn (f : FuncId) (ps : List PV)
  | bs (E : TypeId) (i n c : Nat)
  | pt (T : TypeId) (c i off : Nat)
  deriving Inhabited

/-- The blocks of the objects that are owned: variables, and rows that are appended to. -/
structure G where
  bx : List Nat
  rw : List (Option Nat)

structure S where
  g : G
  tk : List (TypeId × Nat)
  w : World

/-- The cells of block b ahead of hi are never written again. -/
def Stab (P : Program) (s : S) (b hi : Nat) : Prop :=
  b < s.w.heap.size ∧ b ∉ s.g.bx ∧ ∀ (t : Nat) (E : TypeId) (m : Nat), s.g.rw[t]? = some (some b) → s.tk[t]? = some (E, m) → hi ≤ m * P.cellsOf E

/-- What a token says of the slice value that bears it. -/
def OwnOK (P : Program) (s : S) (own : Option Nat) (v : Value) (n : Nat) : Prop :=
  match own with
  | none => True
  | some t => ∃ E m, s.tk[t]? = some (E, m) ∧ n ≤ m ∧
      (n = m → s.g.rw[t]? = some v.ownBlock ∧ ∃ us, s.w.ownsRow 0 E (P.cellsOf E) v n us)

inductive Rep (P : Program) (s : S) : PV → Value → Prop where
  | any (v : Value) : Rep P s .any v
  | val (v : Value) : Rep P s (.val v) v
  | ptr (i off b : Nat) : s.g.bx[i]? = some b → Rep P s (.ptr i off) (.pointer (some ⟨b, off, none⟩))
  | rop (cells : List PV) (off b o : Nat) (u : Nat → Value) :
      Stab P s b (o + cells.length) →
      (∀ j, j < cells.length → s.w.cell? ⟨b, o + j, none⟩ = some (u j)) →
      (∀ (j : Nat) (p : PV), cells[j]? = some p → Rep P s p (u j)) →
      Rep P s (.rop cells off) (.pointer (some ⟨b, o + off, none⟩))
  | sl (own : Option Nat) (xs : List (List PV)) (size b o c : Nat) (a : Option Addr) (u : Nat → Nat → Value) :
      xs.length ≤ c → c ≤ maxLen →
      (0 < xs.length → a = some ⟨b, o, none⟩) →
      (∀ x ∈ xs, x.length = size) →
      (0 < xs.length → Stab P s b (o + xs.length * size)) →
      (∀ i j, i < xs.length → j < size → s.w.cell? ⟨b, o + i * size + j, none⟩ = some (u i j)) →
      (∀ (i j : Nat) (x : List PV) (p : PV), xs[i]? = some x → x[j]? = some p → Rep P s p (u i j)) →
      OwnOK P s own (.slice a xs.length c) xs.length →
      Rep P s (.sl own xs) (.slice a xs.length c)
  | agg (ps : List PV) (vs : List Value) : ps.length = vs.length →
      (∀ (j : Nat) (p : PV) (v : Value), ps[j]? = some p → vs[j]? = some v → Rep P s p v) → Rep P s (.agg ps) (.agg vs.toArray)
  | tup (ps : List PV) (vs : List Value) : ps.length = vs.length →
      (∀ (j : Nat) (p : PV) (v : Value), ps[j]? = some p → vs[j]? = some v → Rep P s p v) → Rep P s (.tup ps) (.tuple vs.toArray)
  | fn (f : FuncId) (ps : List PV) (vs : List Value) : ps.length = vs.length →
      (∀ (j : Nat) (p : PV) (v : Value), ps[j]? = some p → vs[j]? = some v → Rep P s p v) → Rep P s (.fn f ps) (.func (.func f) #[] vs.toArray)
  | bs (E : TypeId) (i n c b : Nat) (cs : Array Value) : s.g.bx[i]? = some b → s.w.heap[b]? = some (.cells cs E (0, 0)) → cs.size = c * P.cellsOf E → n ≤ c → c ≤ maxLen → Rep P s (.bs E i n c) (.slice (some ⟨b, 0, none⟩) n c)
  | pt (T : TypeId) (c i off b : Nat) (cs : Array Value) : s.g.bx[i]? = some b → s.w.heap[b]? = some (.cells cs T (0, 0)) → cs.size = c → Rep P s (.pt T c i off) (.pointer (some ⟨b, off, none⟩))

theorem _root_.Go.KeepsOthers.setRow' {w : World} {b : Nat} {cs : Array Value} {T : TypeId} {fr : Nat × Nat} (h : w.heap[b]? = some (.cells cs T fr)) (cs' : Array Value) : KeepsOthers w (w.setRow b cs') :=
  ⟨by simp, fun k o hk ho => by
    by_cases e : k = b
    · subst e; rw [h] at hk; cases hk; cases ho
    · exact (setRow_other _ _ _ _ e).trans hk⟩

/-- s' is a later state: what stood for an abstract value at s does so at s'. -/
structure Mono (P : Program) (s s' : S) : Prop where
  heap : s.w.heap.size ≤ s'.w.heap.size
  bx : ∀ (i b : Nat), s.g.bx[i]? = some b → s'.g.bx[i]? = some b
  st : ∀ b hi, Stab P s b hi → Stab P s' b hi
  cell : ∀ b hi o v, Stab P s b hi → o < hi → s.w.cell? ⟨b, o, none⟩ = some v → s'.w.cell? ⟨b, o, none⟩ = some v
  own : ∀ (t : Nat) (E : TypeId) (m : Nat), s.tk[t]? = some (E, m) → ∃ m' : Nat, s'.tk[t]? = some (E, m') ∧ m ≤ m' ∧
    (m' = m → s'.g.rw[t]? = s.g.rw[t]? ∧ ∀ (b : Nat) (cs : Array Value) (T : TypeId) (fr : Nat × Nat), s.g.rw[t]? = some (some b) → s.w.heap[b]? = some (.cells cs T fr) → s'.w.heap[b]? = s.w.heap[b]?)
  obj : ∀ (i b : Nat) (cs : Array Value) (T : TypeId), s.g.bx[i]? = some b → s.w.heap[b]? = some (.cells cs T (0, 0)) → ∃ cs', s'.w.heap[b]? = some (.cells cs' T (0, 0)) ∧ cs'.size = cs.size
  oth : KeepsOthers s.w s'.w

theorem Mono.refl (P : Program) (s : S) : Mono P s s :=
  ⟨Nat.le_refl _, fun _ _ h => h, fun _ _ h => h, fun _ _ _ _ _ _ h => h, fun _ _ m h => ⟨m, h, Nat.le_refl _, fun _ => ⟨rfl, fun _ _ _ _ _ _ => rfl⟩⟩, fun _ _ cs _ _ h => ⟨cs, h, rfl⟩, KeepsOthers.refl _⟩

theorem Mono.trans {P : Program} {a b c : S} (h : Mono P a b) (k : Mono P b c) : Mono P a c where
  heap := Nat.le_trans h.heap k.heap
  bx := fun i b hb => k.bx i b (h.bx i b hb)
  st := fun b hi hb => k.st b hi (h.st b hi hb)
  cell := fun b hi o v hb ho hv => k.cell b hi o v (h.st b hi hb) ho (h.cell b hi o v hb ho hv)
  own := fun t E m ht => by
    obtain ⟨m1, h1, l1, e1⟩ := h.own t E m ht
    obtain ⟨m2, h2, l2, e2⟩ := k.own t E m1 h1
    refine ⟨m2, h2, Nat.le_trans l1 l2, fun he => ?_⟩
    have q1 := e1 (by omega)
    have q2 := e2 (by omega)
    exact ⟨q2.1.trans q1.1, fun b cs T fr hb hc => (q2.2 b cs T fr (q1.1.trans hb) ((q1.2 b cs T fr hb hc).trans hc)).trans (q1.2 b cs T fr hb hc)⟩
  obj := fun i b cs T hb hc => by
    obtain ⟨c1, h1, h2⟩ := h.obj i b cs T hb hc
    obtain ⟨c2, h3, h4⟩ := k.obj i b c1 T (h.bx i b hb) h1
    exact ⟨c2, h3, h4.trans h2⟩
  oth := h.oth.trans k.oth

/-- Mono, but for what is said of what is no cells. -/
structure Mono0 (P : Program) (s s' : S) : Prop where
  heap : s.w.heap.size ≤ s'.w.heap.size
  bx : ∀ (i b : Nat), s.g.bx[i]? = some b → s'.g.bx[i]? = some b
  st : ∀ b hi, Stab P s b hi → Stab P s' b hi
  cell : ∀ b hi o v, Stab P s b hi → o < hi → s.w.cell? ⟨b, o, none⟩ = some v → s'.w.cell? ⟨b, o, none⟩ = some v
  own : ∀ (t : Nat) (E : TypeId) (m : Nat), s.tk[t]? = some (E, m) → ∃ m' : Nat, s'.tk[t]? = some (E, m') ∧ m ≤ m' ∧
    (m' = m → s'.g.rw[t]? = s.g.rw[t]? ∧ ∀ (b : Nat) (cs : Array Value) (T : TypeId) (fr : Nat × Nat), s.g.rw[t]? = some (some b) → s.w.heap[b]? = some (.cells cs T fr) → s'.w.heap[b]? = s.w.heap[b]?)
  obj : ∀ (i b : Nat) (cs : Array Value) (T : TypeId), s.g.bx[i]? = some b → s.w.heap[b]? = some (.cells cs T (0, 0)) → ∃ cs', s'.w.heap[b]? = some (.cells cs' T (0, 0)) ∧ cs'.size = cs.size
theorem Mono.to0 {P : Program} {s s' : S} (m : Mono P s s') : Mono0 P s s' := ⟨m.heap, m.bx, m.st, m.cell, m.own, m.obj⟩
theorem Mono0.trans {P : Program} {a b c : S} (h : Mono0 P a b) (k : Mono0 P b c) : Mono0 P a c where
  heap := Nat.le_trans h.heap k.heap
  bx := fun i b hb => k.bx i b (h.bx i b hb)
  st := fun b hi hb => k.st b hi (h.st b hi hb)
  cell := fun b hi o v hb ho hv => k.cell b hi o v (h.st b hi hb) ho (h.cell b hi o v hb ho hv)
  own := fun t E m ht => by
    obtain ⟨m1, h1, l1, e1⟩ := h.own t E m ht
    obtain ⟨m2, h2, l2, e2⟩ := k.own t E m1 h1
    refine ⟨m2, h2, Nat.le_trans l1 l2, fun he => ?_⟩
    have q1 := e1 (by omega)
    have q2 := e2 (by omega)
    exact ⟨q2.1.trans q1.1, fun b cs T fr hb hc => (q2.2 b cs T fr (q1.1.trans hb) ((q1.2 b cs T fr hb hc).trans hc)).trans (q1.2 b cs T fr hb hc)⟩
  obj := fun i b cs T hb hc => by
    obtain ⟨c1, h1, h2⟩ := h.obj i b cs T hb hc
    obtain ⟨c2, h3, h4⟩ := k.obj i b c1 T (h.bx i b hb) h1
    exact ⟨c2, h3, h4.trans h2⟩
theorem Mono.of0 {P : Program} {s s' : S} (m : Mono0 P s s') (h : KeepsOthers s.w s'.w) : Mono P s s' := ⟨m.heap, m.bx, m.st, m.cell, m.own, m.obj, h⟩

theorem OwnOK.mono0 {P : Program} {s s' : S} (m : Mono0 P s s') {own : Option Nat} {v : Value} {n : Nat} (h : OwnOK P s own v n) : OwnOK P s' own v n := by
  cases own with
  | none => trivial
  | some t =>
    obtain ⟨E, k, ht, hn, hk⟩ := h
    obtain ⟨k', ht', hle, he⟩ := m.own t E k ht
    refine ⟨E, k', ht', Nat.le_trans hn hle, fun e => ?_⟩
    obtain ⟨h1, us, h2⟩ := hk (by omega)
    obtain ⟨h3, h4⟩ := he (by omega)
    refine ⟨h3.trans h1, us, h2.1, ?_⟩
    rcases h2.2 with h2 | ⟨g, cap, cur, rfl, hb, hg, rest⟩
    · exact .inl h2
    · refine .inr ⟨g, cap, cur, rfl, hb, ?_, rest⟩
      rw [h4 g _ _ _ (by simpa [Value.ownBlock] using h1) hg]
      exact hg

theorem Rep.mono0 {P : Program} {s s' : S} (m : Mono0 P s s') {p : PV} {v : Value} (h : Rep P s p v) : Rep P s' p v := by
  induction h with
  | any v => exact .any v
  | val v => exact .val v
  | ptr i off b hb => exact .ptr i off b (m.bx i b hb)
  | rop cells off b o u hs hc _ ih => exact .rop cells off b o u (m.st _ _ hs) (fun j hj => m.cell _ _ _ _ hs (by omega) (hc j hj)) ih
  | sl own xs size b o c a u hl hm ha hx hs hc _ ho ih =>
    refine .sl own xs size b o c a u hl hm ha hx (fun h0 => m.st _ _ (hs h0)) (fun i j hi hj => ?_) ih (ho.mono0 m)
    have h0 : 0 < xs.length := by omega
    refine m.cell _ _ _ _ (hs h0) ?_ (hc i j hi hj)
    have : i * size + size ≤ xs.length * size := by
      rw [← Nat.succ_mul]; exact Nat.mul_le_mul_right _ hi
    omega
  | agg ps vs hl _ ih => exact .agg ps vs hl ih
  | tup ps vs hl _ ih => exact .tup ps vs hl ih
  | fn f ps vs hl _ ih => exact .fn f ps vs hl ih
  | bs E i n c b cs hb hcs hsz hn hc =>
    obtain ⟨cs', h1, h2⟩ := m.obj i b cs E hb hcs
    exact .bs E i n c b cs' (m.bx i b hb) h1 (h2.trans hsz) hn hc
  | pt T c i off b cs hb hcs hsz =>
    obtain ⟨cs', h1, h2⟩ := m.obj i b cs T hb hcs
    exact .pt T c i off b cs' (m.bx i b hb) h1 (h2.trans hsz)

theorem OwnOK.mono {P : Program} {s s' : S} (m : Mono P s s') {own : Option Nat} {v : Value} {n : Nat} (h : OwnOK P s own v n) : OwnOK P s' own v n := h.mono0 m.to0
theorem Rep.mono {P : Program} {s s' : S} (m : Mono P s s') {p : PV} {v : Value} (h : Rep P s p v) : Rep P s' p v := h.mono0 m.to0

/-- Nothing in the value names a variable from n on, or a token from k on. -/
inductive Cl (n k : Nat) : PV → Prop where
  | any : Cl n k .any
  | val (v : Value) : Cl n k (.val v)
  | ptr (i off : Nat) : i < n → Cl n k (.ptr i off)
  | rop (cells : List PV) (off : Nat) : (∀ (j : Nat) (p : PV), cells[j]? = some p → Cl n k p) → Cl n k (.rop cells off)
  | sl (own : Option Nat) (xs : List (List PV)) : (∀ t, own = some t → t < k) → (∀ (i j : Nat) (x : List PV) (p : PV), xs[i]? = some x → x[j]? = some p → Cl n k p) → Cl n k (.sl own xs)
  | agg (ps : List PV) : (∀ (j : Nat) (p : PV), ps[j]? = some p → Cl n k p) → Cl n k (.agg ps)
  | tup (ps : List PV) : (∀ (j : Nat) (p : PV), ps[j]? = some p → Cl n k p) → Cl n k (.tup ps)
  | fn (f : FuncId) (ps : List PV) : (∀ (j : Nat) (p : PV), ps[j]? = some p → Cl n k p) → Cl n k (.fn f ps)
  | bs (E : TypeId) (i m c : Nat) : i < n → Cl n k (.bs E i m c)
  | pt (T : TypeId) (c i off : Nat) : i < n → Cl n k (.pt T c i off)

theorem all_get {α : Type} {Q : α → Prop} {l : List α} : (∀ (j : Nat) (p : α), l[j]? = some p → Q p) ↔ ∀ p ∈ l, Q p := by
  constructor
  · intro h p hp
    obtain ⟨j, hj, rfl⟩ := List.getElem_of_mem hp
    exact h j _ (List.getElem?_eq_getElem hj)
  · intro h j p hp
    exact h p (List.mem_of_getElem? hp)

theorem Cl_any (n k : Nat) : Cl n k .any := .any
theorem Cl_val (n k : Nat) (v : Value) : Cl n k (.val v) := .val v
theorem Cl_ptr (n k i off : Nat) : Cl n k (.ptr i off) ↔ i < n := ⟨fun h => by cases h; assumption, fun h => .ptr i off h⟩
theorem Cl_bs (n k : Nat) (E : TypeId) (i m c : Nat) : Cl n k (.bs E i m c) ↔ i < n := ⟨fun h => by cases h; assumption, fun h => .bs E i m c h⟩
theorem Cl_pt (n k : Nat) (T : TypeId) (c i off : Nat) : Cl n k (.pt T c i off) ↔ i < n := ⟨fun h => by cases h; assumption, fun h => .pt T c i off h⟩
theorem Cl_agg (n k : Nat) (ps : List PV) : Cl n k (.agg ps) ↔ ∀ p ∈ ps, Cl n k p := ⟨fun h => by cases h; rename_i h; exact all_get.1 h, fun h => .agg ps (all_get.2 h)⟩
theorem Cl_tup (n k : Nat) (ps : List PV) : Cl n k (.tup ps) ↔ ∀ p ∈ ps, Cl n k p := ⟨fun h => by cases h; rename_i h; exact all_get.1 h, fun h => .tup ps (all_get.2 h)⟩
theorem Cl_fn (n k : Nat) (f : FuncId) (ps : List PV) : Cl n k (.fn f ps) ↔ ∀ p ∈ ps, Cl n k p := ⟨fun h => by cases h; rename_i h; exact all_get.1 h, fun h => .fn f ps (all_get.2 h)⟩
theorem Cl_rop (n k : Nat) (ps : List PV) (off : Nat) : Cl n k (.rop ps off) ↔ ∀ p ∈ ps, Cl n k p := ⟨fun h => by cases h; rename_i h; exact all_get.1 h, fun h => .rop ps off (all_get.2 h)⟩
theorem Cl_sl (n k : Nat) (own : Option Nat) (xs : List (List PV)) : Cl n k (.sl own xs) ↔ (∀ t, own = some t → t < k) ∧ ∀ x ∈ xs, ∀ p ∈ x, Cl n k p := by
  constructor
  · intro h
    cases h
    rename_i h1 h2
    refine ⟨h1, fun x hx p hp => ?_⟩
    obtain ⟨i, hi, rfl⟩ := List.getElem_of_mem hx
    obtain ⟨j, hj, rfl⟩ := List.getElem_of_mem hp
    exact h2 i j _ _ (List.getElem?_eq_getElem hi) (List.getElem?_eq_getElem hj)
  · rintro ⟨h1, h2⟩
    exact .sl own xs h1 fun i j x p hx hp => h2 x (List.mem_of_getElem? hx) p (List.mem_of_getElem? hp)

theorem Cl.le {n k n' k' : Nat} {p : PV} (h : Cl n k p) (hn : n ≤ n') (hk : k ≤ k') : Cl n' k' p := by
  induction h with
  | any => exact .any
  | val v => exact .val v
  | ptr i off hi => exact .ptr i off (by omega)
  | rop cells off _ ih => exact .rop cells off ih
  | sl own xs ht _ ih => exact .sl own xs (fun t h => by have := ht t h; omega) ih
  | agg ps _ ih => exact .agg ps ih
  | tup ps _ ih => exact .tup ps ih
  | fn f ps _ ih => exact .fn f ps ih
  | bs E i m c h => exact .bs E i m c (by omega)
  | pt T c i off h => exact .pt T c i off (by omega)

def S.trunc (s : S) (n k : Nat) : S := ⟨⟨s.g.bx.take n, s.g.rw.take k⟩, s.tk.take k, s.w⟩

theorem get_take {α : Type} {l : List α} {n i : Nat} {x : α} (h : (l.take n)[i]? = some x) : i < n ∧ l[i]? = some x := by
  rw [List.getElem?_take] at h
  split at h
  · exact ⟨‹_›, h⟩
  · cases h

theorem take_get {α : Type} {l : List α} {n i : Nat} {x : α} (hi : i < n) (h : l[i]? = some x) : (l.take n)[i]? = some x := by
  rw [List.getElem?_take, if_pos hi, h]

theorem Stab.trunc {P : Program} {s : S} {b hi n k : Nat} (h : Stab P s b hi) : Stab P (s.trunc n k) b hi :=
  ⟨h.1, fun hb => h.2.1 (List.mem_of_mem_take hb), fun t E m ht hm => h.2.2 t E m (get_take ht).2 (get_take hm).2⟩

theorem Rep.trunc {P : Program} {s : S} {p : PV} {v : Value} {n k : Nat} (h : Rep P s p v) (hc : Cl n k p) : Rep P (s.trunc n k) p v := by
  induction h with
  | any v => exact .any v
  | val v => exact .val v
  | ptr i off b hb => exact .ptr i off b (take_get ((Cl_ptr ..).1 hc) hb)
  | rop cells off b o u hs hcell _ ih => exact .rop cells off b o u hs.trunc hcell fun j p hp => ih j p hp ((Cl_rop ..).1 hc p (List.mem_of_getElem? hp))
  | sl own xs size b o c a u hl hm ha hx hs hcell _ ho ih =>
    obtain ⟨h1, h2⟩ := (Cl_sl ..).1 hc
    refine .sl own xs size b o c a u hl hm ha hx (fun h0 => (hs h0).trunc) hcell (fun i j x p hx hp => ih i j x p hx hp (h2 x (List.mem_of_getElem? hx) p (List.mem_of_getElem? hp))) ?_
    cases own with
    | none => trivial
    | some t =>
      obtain ⟨E, m, ht, hn, hk⟩ := ho
      have htk := h1 t rfl
      exact ⟨E, m, take_get htk ht, hn, fun e => ⟨take_get htk (hk e).1, (hk e).2⟩⟩
  | agg ps vs hl _ ih => exact .agg ps vs hl fun j p v hp hv => ih j p v hp hv ((Cl_agg ..).1 hc p (List.mem_of_getElem? hp))
  | tup ps vs hl _ ih => exact .tup ps vs hl fun j p v hp hv => ih j p v hp hv ((Cl_tup ..).1 hc p (List.mem_of_getElem? hp))
  | fn f ps vs hl _ ih => exact .fn f ps vs hl fun j p v hp hv => ih j p v hp hv ((Cl_fn ..).1 hc p (List.mem_of_getElem? hp))
  | bs E i m c b cs hb hcs hsz hn hm => exact .bs E i m c b cs (take_get ((Cl_bs ..).1 hc) hb) hcs hsz hn hm
  | pt T c i off b cs hb hcs hsz => exact .pt T c i off b cs (take_get ((Cl_pt ..).1 hc) hb) hcs hsz

/-- A token that is let go. -/
theorem Rep.unown {P : Program} {s : S} {own : Option Nat} {xs : List (List PV)} {v : Value} (h : Rep P s (.sl own xs) v) : Rep P s (.sl none xs) v := by
  cases h with
  | sl own xs size b o c a u hl hm ha hx hs hc hr ho => exact .sl none xs size b o c a u hl hm ha hx hs hc hr trivial

/-- A later state behind a call: the call's own objects are forgotten. -/
theorem Mono.trunc {P : Program} {s s' : S} (m : Mono P s s') {n k : Nat} (hn : s.g.bx.length ≤ n) (hk : s.tk.length ≤ k) : Mono P s (s'.trunc n k) where
  heap := m.heap
  bx := fun i b hb => take_get (by have := (List.getElem?_eq_some_iff.1 hb).1; omega) (m.bx i b hb)
  st := fun b hi hb => (m.st b hi hb).trunc
  cell := fun b hi o v hb ho hv => m.cell b hi o v hb ho hv
  own := fun t E mm ht => by
    obtain ⟨m', h1, h2, h3⟩ := m.own t E mm ht
    have htk : t < k := by have := (List.getElem?_eq_some_iff.1 ht).1; omega
    refine ⟨m', take_get htk h1, h2, fun e => ⟨?_, (h3 e).2⟩⟩
    show (s'.g.rw.take k)[t]? = _
    rw [List.getElem?_take, if_pos htk]
    exact (h3 e).1
  obj := m.obj
  oth := m.oth

/-- What the logic knows of a type. -/
inductive TyD where
  | bool | int (k : IntKind) | string | ptr (e : TypeId) | slice (e : TypeId) | map (k e : TypeId) | struct (fs : List (Nat × TypeId)) | array (n : Nat) (e : TypeId) | func | other

def shape : TypeDesc → TyD
  | .bool => .bool
  | .int k => .int k
  | .string => .string
  | .pointer e => .ptr e
  | .slice e => .slice e
  | .map k e => .map k e
  | .struct fs => .struct (fs.toList.map fun f => (f.offset, f.type))
  | .array n e => .array n e
  | .func .. => .func
  | _ => .other

structure TyI where
  d : TyD
  zero : Value
  size : Nat
  bytes : Nat

def tyOK (P : Program) (t : TypeId) (y : TyI) : Prop :=
  (P.info? t).map (fun i => (i.zero, i.size, i.bytes)) = some (some y.zero, y.size, y.bytes) ∧ (P.underlying t).map shape = some y.d ∧ y.zero.cells.size = y.size

/-- The types of a table. -/
def tyGet : List (TypeId × TyI) → TypeId → Option TyI
  | [], _ => none
  | (k, y) :: r, t => if k = t then some y else tyGet r t
def tysOK (P : Program) : List (TypeId × TyI) → Prop
  | [] => True
  | (t, y) :: r => tyOK P t y ∧ tysOK P r
theorem tysOK.get {P : Program} : ∀ {l : List (TypeId × TyI)}, tysOK P l → ∀ t y, tyGet l t = some y → tyOK P t y
  | (k, z) :: r, h, t, y, hy => by
    simp only [tyGet] at hy
    split at hy
    · rename_i e; cases hy; subst e; exact h.1
    · exact tysOK.get h.2 t y hy

end Go.Sw

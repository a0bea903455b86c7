/- The logic Sw: the operations that only compute or read, for any program. -/
import Derived.Test.YtbnapbegomemeaaDoorSwB
import Derived.Laws.Cells
import Derived.Laws.Rows
import Derived.WideLaws
import Derived.Laws.Strings
import Derived.Laws.Concat
import Derived.Laws.Slices
namespace Go.Sw
open Go.RowKit

section
variable {C : Cx}

theorem und {t : TypeId} {y : TyI} (h : C.T t = some y) : ∃ d, C.P.underlying t = some d ∧ shape d = y.d := by
  have := (C.ok t y h).2.1
  cases hu : C.P.underlying t with
  | none => rw [hu] at this; cases this
  | some d => rw [hu] at this; exact ⟨d, rfl, by simpa using this⟩
theorem und_slice {t e : TypeId} {y : TyI} (h : C.T t = some y) (hd : y.d = .slice e) : C.P.underlying t = some (.slice e) := by
  obtain ⟨d, h1, h2⟩ := und h
  rw [hd] at h2
  cases d <;> simp [shape] at h2
  rw [h1, h2]
theorem und_int {t : TypeId} {k : IntKind} {y : TyI} (h : C.T t = some y) (hd : y.d = .int k) : C.P.underlying t = some (.int k) := by
  obtain ⟨d, h1, h2⟩ := und h
  rw [hd] at h2
  cases d <;> simp [shape] at h2
  rw [h1, h2]
theorem und_bool {t : TypeId} {y : TyI} (h : C.T t = some y) (hd : y.d = .bool) : C.P.underlying t = some .bool := by
  obtain ⟨d, h1, h2⟩ := und h
  rw [hd] at h2
  cases d <;> simp [shape] at h2
  rw [h1]
theorem und_string {t : TypeId} {y : TyI} (h : C.T t = some y) (hd : y.d = .string) : C.P.underlying t = some .string := by
  obtain ⟨d, h1, h2⟩ := und h
  rw [hd] at h2
  cases d <;> simp [shape] at h2
  rw [h1]
theorem und_array {t e : TypeId} {n : Nat} {y : TyI} (h : C.T t = some y) (hd : y.d = .array n e) : C.P.underlying t = some (.array n e) := by
  obtain ⟨d, h1, h2⟩ := und h
  rw [hd] at h2
  cases d <;> simp [shape] at h2
  rw [h1, h2.1, h2.2]
theorem und_struct {t : TypeId} {fs : List (Nat × TypeId)} {y : TyI} (h : C.T t = some y) (hd : y.d = .struct fs) : ∃ l, C.P.underlying t = some (.struct l) ∧ l.toList.map (fun f => (f.offset, f.type)) = fs := by
  obtain ⟨d, h1, h2⟩ := und h
  rw [hd] at h2
  cases d <;> simp [shape] at h2
  exact ⟨_, h1, by simpa using h2⟩

theorem info {t : TypeId} {y : TyI} (h : C.T t = some y) : ∃ i, C.P.info? t = some i ∧ i.zero = some y.zero ∧ i.size = y.size ∧ i.bytes = y.bytes := by
  have := (C.ok t y h).1
  cases hu : C.P.info? t with
  | none => rw [hu] at this; cases this
  | some i => rw [hu] at this; simp at this; exact ⟨i, rfl, this⟩

theorem run_sizeOf {t : TypeId} {y : TyI} (h : C.T t = some y) (w : World) : (sizeOf t).run C.P w = .ok y.size w := by
  obtain ⟨i, h1, _, h2, _⟩ := info h
  simp [sizeOf, typeInfo, program, h1, h2, Sem.run]

theorem run_zeroValue {t : TypeId} {y : TyI} (h : C.T t = some y) (w : World) : (zeroValue t).run C.P w = .ok y.zero w := by
  obtain ⟨i, h1, h2, _, _⟩ := info h
  simp [zeroValue, typeInfo, program, h1, h2, Sem.run]

theorem cellsOf_ok {t : TypeId} {y : TyI} (h : C.T t = some y) : C.P.cellsOf t = y.size := by
  obtain ⟨i, h1, _, h2, _⟩ := info h
  simp [Program.cellsOf, h1, h2]

def TyD.agg : TyD → Bool
  | .struct _ | .array .. => true
  | _ => false
theorem run_isAgg {t : TypeId} {y : TyI} (h : C.T t = some y) (w : World) : (isAgg t).run C.P w = .ok y.d.agg w := by
  obtain ⟨d, h1, h2⟩ := und h
  simp only [isAgg, Sem.run_bind, run_underlying h1, Result.andThen_ok]
  rw [← h2]
  cases d <;> rfl

theorem add_plain (b o j : Nat) : (⟨b, o, none⟩ : Addr).add j = ⟨b, o + j, none⟩ := by unfold Addr.add; split <;> simp_all

def loadA (C : Cx) (t : TypeId) (ps : List PV) (off : Nat) : Option PV :=
  match C.T t with
  | some y => if y.d.agg then (if off + y.size ≤ ps.length then some (.agg ((ps.drop off).take y.size)) else none) else ps[off]?
  | none => none

theorem load_ok {s : S} {t : TypeId} {ps : List PV} {off b o : Nat} {u : Nat → Value} {p : PV} (h : loadA C t ps off = some p)
    (hr : ∀ (j : Nat) (p : PV), ps[j]? = some p → Rep C.P s p (u j)) :
    ∃ v, (∀ w : World, (∀ j, j < ps.length → w.cell? ⟨b, o + j, none⟩ = some (u j)) → (loadVar t ⟨b, o + off, none⟩).run C.P w = .ok v w) ∧ Rep C.P s p v := by
  unfold loadA at h
  cases hy : C.T t with
  | none => rw [hy] at h; cases h
  | some y =>
    simp only [hy] at h
    split at h
    · rename_i hagg
      split at h
      · rename_i hle
        cases h
        refine ⟨.agg ((List.range y.size).map fun j => u (off + j)).toArray, ?_, ?_⟩
        · intro w hc
          have hl := run_loadCells (P := C.P) w ⟨b, o + off, none⟩ y.size (fun j => u (off + j)) (fun j hj => by
            rw [add_plain, Nat.add_assoc]; exact hc _ (by omega))
          simp [loadVar, run_isAgg hy, hagg, run_sizeOf hy, hl]
        · refine .agg _ _ (by simp; omega) fun j p v hp hv => ?_
          simp only [List.getElem?_take, List.getElem?_drop] at hp
          split at hp
          · rename_i hj
            rw [List.getElem?_map, List.getElem?_range hj] at hv
            simp at hv
            subst hv
            exact hr _ _ hp
          · cases hp
      · cases h
    · rename_i hagg
      have hlt := (List.getElem?_eq_some_iff.1 h).1
      refine ⟨u off, fun w hc => ?_, hr _ _ h⟩
      simp [loadVar, run_isAgg hy, hagg, run_load, hc off hlt]

/-- The operators of two operands, of numbers, bools and strings. -/
def binV (C : Cx) (op : BinOp) (t : TypeId) : Value → Value → Option Value
  | .int k a, .int k' b =>
    match op with
    | .shl => if 0 ≤ b then some (.int k (k.wrap (a * 2 ^ min b.toNat k.bits))) else none
    | .shr => if 0 ≤ b then some (.int k (a.fdiv (2 ^ min b.toNat k.bits))) else none
    | _ => if k = k' then
        match op with
        | .add => some (.int k (k.wrap (a + b)))
        | .sub => some (.int k (k.wrap (a - b)))
        | .mul => some (.int k (k.wrap (a * b)))
        | .quo => if b = 0 then none else some (.int k (k.wrap (a.tdiv b)))
        | .rem => if b = 0 then none else some (.int k (a.tmod b))
        | .and => some (.int k (k.wrap (BitVec.ofInt k.bits a &&& BitVec.ofInt k.bits b).toNat))
        | .or => some (.int k (k.wrap (BitVec.ofInt k.bits a ||| BitVec.ofInt k.bits b).toNat))
        | .xor => some (.int k (k.wrap (BitVec.ofInt k.bits a ^^^ BitVec.ofInt k.bits b).toNat))
        | .eql => some (.bool (a == b))
        | .neq => some (.bool (a != b))
        | .lss => some (.bool (decide (a < b)))
        | .leq => some (.bool (decide (a ≤ b)))
        | .gtr => some (.bool (decide (a > b)))
        | .geq => some (.bool (decide (a ≥ b)))
        | _ => none
      else none
  | .bool a, .bool b =>
    match C.T t with
    | some y => match y.d with
      | .bool => match op with
        | .eql => some (.bool (a == b))
        | .neq => some (.bool (!(a == b)))
        | _ => none
      | _ => none
    | none => none
  | .string a, .string b =>
    match op with
    | .add => if a.size + b.size ≤ 9223372036854775807 then some (.string (a ++ b)) else none
    | .eql => some (.bool (a.toList == b.toList))
    | .neq => some (.bool (!(a.toList == b.toList)))
    | .lss => some (.bool (Op.bytesLess a.toList b.toList))
    | .leq => some (.bool (Op.bytesLess a.toList b.toList || a.toList == b.toList))
    | .gtr => some (.bool (!(Op.bytesLess a.toList b.toList || a.toList == b.toList)))
    | .geq => some (.bool (!(Op.bytesLess a.toList b.toList)))
    | _ => none
  | _, _ => none

theorem equalIn_bool (d : Nat) {t : TypeId} (hu : C.P.underlying t = some .bool) (a b : Bool) (w : World) : (Op.equalIn (d + 1) t (.bool a) (.bool b)).run C.P w = .ok (a == b) w := by
  simp only [Op.equalIn, Sem.run_bind, run_underlying hu, Result.andThen_ok]
  rfl

theorem binV_ok {op : BinOp} {t : TypeId} {x y : Operand} {a b v : Value} (h : binV C op t a b = some v) (w : World) :
    (do eqGuard op t x y a b; binOp op t a b : Sem Value).run C.P w = .ok v w := by
  have hg : (eqGuard op t x y a b).run C.P w = .ok () w := by
    cases a <;> first | (simp [binV] at h; done) | (cases b <;> first | (simp [binV] at h; done) | (cases op <;> rfl))
  rw [Sem.run_bind, hg, Result.andThen_ok]
  cases a <;> try (simp [binV] at h; done)
  case int k a =>
    cases b <;> try (simp [binV] at h; done)
    rename_i k' b
    by_cases hs : op = .shl ∨ op = .shr
    · rcases hs with rfl | rfl
      · simp only [binV] at h
        split at h
        · rename_i hb
          cases h
          have : ¬ b < 0 := by omega
          simp [binOp, Op.shift, this]
        · cases h
      · simp only [binV] at h
        split at h
        · rename_i hb
          cases h
          have : ¬ b < 0 := by omega
          simp [binOp, Op.shift, this]
        · cases h
    · by_cases hk : k = k'
      · subst hk
        cases op <;> first
          | (exact absurd (Or.inl rfl) hs)
          | (exact absurd (Or.inr rfl) hs)
          | (simp [binV] at h; subst h; simp [binOp, Op.intArith, Op.intBits, Op.intCmp]; done)
          | (simp [binV] at h; obtain ⟨h1, rfl⟩ := h; simp [binOp, Op.intDiv, h1]; done)
          | (simp [binV] at h; done)
      · exfalso
        cases op <;> simp [binV, hk] at h <;> simp at hs
  case bool a =>
    cases b <;> try (simp [binV] at h; done)
    rename_i b
    simp only [binV] at h
    split at h
    · rename_i y hy
      split at h
      · rename_i hd
        have hu := und_bool hy hd
        have he := equalIn_bool 9999 hu a b w
        cases op <;> simp only [Option.some.injEq, reduceCtorEq] at h
        · subst h
          show ((Op.equalIn (9999 + 1) t (.bool a) (.bool b)) >>= fun r => Pure.pure (Value.bool r)).run C.P w = _
          rw [Sem.run_bind, he]; rfl
        · subst h
          show ((Op.equalIn (9999 + 1) t (.bool a) (.bool b)) >>= fun r => Pure.pure (Value.bool (!r))).run C.P w = _
          rw [Sem.run_bind, he]; rfl
      · cases h
    · cases h
  case string a =>
    cases b <;> try (simp [binV] at h; done)
    rename_i b
    cases op <;> simp [binV] at h
    · obtain ⟨h1, rfl⟩ := h
      exact run_string_add_sum (P := C.P) w a b h1
    all_goals (subst h; simp [binOp, Op.stringOp])

def unV (op : UnOp) : Value → Option Value
  | .int k n => match op with
    | .neg => some (.int k (k.wrap (0 - n)))
    | _ => none
  | .bool b => match op with
    | .not => some (.bool (!b))
    | _ => none
  | _ => none
theorem unV_ok {op : UnOp} {a v : Value} (h : unV op a = some v) (w : World) : (Op.unary op a).run C.P w = .ok v w := by
  cases a <;> try (simp [unV] at h; done)
  all_goals (cases op <;> first | (simp [unV] at h; done) | (simp [unV] at h; subst h; simp [Op.unary, Op.intArith]))

/-- Conversions that look at no memory. -/
def convV (C : Cx) (src dst : TypeId) : Value → Option Value
  | .int _ n => match C.T src, C.T dst with
    | some _, some y => match y.d with
      | .int k => some (.int k (k.wrap n))
      | .string => some (.string (Utf8.encode n))
      | _ => none
    | _, _ => none
  | .string s => match C.T src, C.T dst with
    | some _, some y => match y.d with
      | .string => some (.string s)
      | _ => none
    | _, _ => none
  | _ => none
theorem convV_ok {src dst : TypeId} {a v : Value} (h : convV C src dst a = some v) (w : World) : (convert src dst a).run C.P w = .ok v w := by
  cases a <;> try (simp [convV] at h; done)
  · simp only [convV] at h
    split at h <;> try cases h
    rename_i z y hz hy
    obtain ⟨ds, hds, _⟩ := und hz
    split at h <;> try cases h
    · rename_i k hk
      simp only [convert, Sem.run_bind, run_underlying hds, run_underlying (und_int hy hk), Result.andThen_ok]
      cases ds <;> rfl
    · rename_i hk
      simp only [convert, Sem.run_bind, run_underlying hds, run_underlying (und_string hy hk), Result.andThen_ok]
      cases ds <;> rfl
  · simp only [convV] at h
    split at h <;> try cases h
    rename_i z y hz hy
    obtain ⟨ds, hds, _⟩ := und hz
    split at h <;> try cases h
    rename_i hk
    simp only [convert, Sem.run_bind, run_underlying hds, run_underlying (und_string hy hk), Result.andThen_ok]
    cases ds <;> rfl

/-- The place of a field. -/
def fieldOff (C : Cx) (t : TypeId) (f : Nat) : Option (Nat × TypeId) :=
  match C.T t with
  | some y => match y.d with
    | .struct fs => match fs[f]? with
      | some (o, ft) => match C.T ft with
        | some z => if z.size = 0 then none else some (o, ft)
        | none => none
      | none => none
    | _ => none
  | none => none

theorem fieldOff_ok {t : TypeId} {f o : Nat} {ft : TypeId} (h : fieldOff C t f = some (o, ft)) :
    ∃ l fd z, C.P.underlying t = some (.struct l) ∧ l[f]? = some fd ∧ fd.offset = o ∧ fd.type = ft ∧ C.T ft = some z ∧ z.size ≠ 0 := by
  unfold fieldOff at h
  split at h <;> try cases h
  rename_i y hy
  split at h <;> try cases h
  rename_i fs hd
  split at h <;> try cases h
  rename_i o' ft' hf
  split at h <;> try cases h
  rename_i z hz
  split at h <;> try cases h
  rename_i hne
  obtain ⟨l, hl, hm⟩ := und_struct hy hd
  subst hm
  rw [List.getElem?_map] at hf
  obtain ⟨fd, h1, h2⟩ := Option.map_eq_some_iff.1 hf
  simp only [Prod.mk.injEq] at h2
  exact ⟨l, fd, z, hl, by simpa using h1, h2.1, h2.2, hz, hne⟩

def fieldAddrA (C : Cx) (t : TypeId) (f : Nat) (p : PV) : Option PV :=
  match fieldOff C t f with
  | some (o, _) => match p with
    | .ptr i off => some (.ptr i (off + o))
    | .rop ps off => some (.rop ps (off + o))
    | .pt T c i off => some (.pt T c i (off + o))
    | _ => none
  | none => none

theorem run_fieldAt {t : TypeId} {f o : Nat} {ft : TypeId} (h : fieldOff C t f = some (o, ft)) (b off : Nat) (w : World) :
    (Instr.fieldAt t (.pointer (some ⟨b, off, none⟩)) f).run C.P w = .ok (.pointer (some ⟨b, off + o, none⟩)) w := by
  obtain ⟨l, fd, z, h1, h2, rfl, rfl, h3, h4⟩ := fieldOff_ok h
  simp [Instr.fieldAt, run_underlying h1, h2, Instr.sureAddr, fieldPlace, run_sizeOf h3, h4, add_plain]

theorem fieldAddrA_ok {s : S} {t : TypeId} {f : Nat} {p q : PV} {v : Value} (h : fieldAddrA C t f p = some q) (hr : Rep C.P s p v) :
    ∃ u, (∀ w : World, (Instr.fieldAt t v f).run C.P w = .ok u w) ∧ Rep C.P s q u := by
  unfold fieldAddrA at h
  split at h <;> try cases h
  rename_i o ft ho
  split at h <;> try cases h
  · cases hr
    rename_i i off b hb
    exact ⟨_, fun w => run_fieldAt ho _ _ w, .ptr i (off + o) b hb⟩
  · cases hr
    rename_i ps off b o' u hst hc hu
    exact ⟨_, fun w => run_fieldAt ho _ _ w, by rw [Nat.add_assoc]; exact .rop ps (off + o) b o' u hst hc hu⟩
  · cases hr with
    | pt T c i off b cs hb hcs hsz => exact ⟨_, fun w => run_fieldAt ho _ _ w, .pt _ _ _ _ b cs hb hcs hsz⟩

/-- A pointer whose type is known, read as a pointer. -/
def unp : PV → PV
  | .pt _ _ i off => .ptr i off
  | p => p
theorem unp_ok {s : S} {p : PV} {v : Value} (h : Rep C.P s p v) : Rep C.P s (unp p) v := by
  cases p <;> first | exact h | skip
  cases h with
  | pt T c i off b cs hb hcs hsz => exact .ptr _ _ _ hb
def evu (GE : Nat → Option PV) (pf : PF) (x : Operand) : Option PV := (ev GE pf x).map unp
theorem evu_ok {w0 : World} {base : Nat} {σ : AS} {s : S} {a : Act} {N : Nat} {pf : PF} (hi : Inv C w0 base σ s) (hr : RepF C s N pf a) {x : Operand} {p : PV} (h : evu C.GE pf x = some p) : Rep C.P s p (a.eval x) := by
  obtain ⟨q, hq, rfl⟩ := Option.map_eq_some_iff.1 h
  exact unp_ok (ev_ok hi hr hq)

/-- A part of an aggregate. -/
def partA (C : Cx) (t : TypeId) (ps : List PV) (off : Nat) : Option PV := loadA C t ps off
theorem partA_ok {s : S} {t : TypeId} {ps : List PV} {vs : List Value} {off : Nat} {p : PV} (h : partA C t ps off = some p) (hl : ps.length = vs.length)
    (hr : ∀ (j : Nat) (p : PV) (v : Value), ps[j]? = some p → vs[j]? = some v → Rep C.P s p v) : ∃ v, (∀ w : World, (part t vs.toArray off).run C.P w = .ok v w) ∧ Rep C.P s p v := by
  unfold partA loadA at h
  cases hy : C.T t with
  | none => rw [hy] at h; cases h
  | some y =>
    simp only [hy] at h
    split at h
    · rename_i hagg
      split at h
      · rename_i hle
        cases h
        refine ⟨.agg ((vs.drop off).take y.size).toArray, ?_, .agg _ _ (by simp; omega) fun j p v hp hv => ?_⟩
        · intro w; simp [part, run_isAgg hy, hagg, run_sizeOf hy, List.extract_toArray]
        · simp only [List.getElem?_take, List.getElem?_drop] at hp hv
          split at hp
          · rename_i hj
            rw [if_pos hj] at hv
            exact hr _ _ _ hp hv
          · cases hp
      · cases h
    · rename_i hagg
      have hlt := (List.getElem?_eq_some_iff.1 h).1
      have hv : vs[off]? = some (vs[off]'(by omega)) := List.getElem?_eq_getElem (by omega)
      refine ⟨vs[off]'(by omega), fun w => ?_, hr _ _ _ h hv⟩
      simp [part, run_isAgg hy, hagg, hv]

def aggOf : PV → Option (List PV)
  | .agg ps => some ps
  | .val (.agg cs) => some (cs.toList.map .val)
  | _ => none
theorem aggOf_ok {s : S} {p : PV} {ps : List PV} {v : Value} (h : aggOf p = some ps) (hr : Rep C.P s p v) :
    ∃ vs : List Value, v = .agg vs.toArray ∧ ps.length = vs.length ∧ ∀ (j : Nat) (p : PV) (v : Value), ps[j]? = some p → vs[j]? = some v → Rep C.P s p v := by
  unfold aggOf at h
  split at h <;> try cases h
  · cases hr
    rename_i vs hl hv
    exact ⟨vs, rfl, hl, hv⟩
  · cases hr
    rename_i cs
    refine ⟨cs.toList, by simp, by simp, fun j p v hp hv => ?_⟩
    rw [List.getElem?_map, hv] at hp
    simp at hp
    subst hp
    exact .val v

def fieldA (C : Cx) (t : TypeId) (f : Nat) (p : PV) : Option PV :=
  match C.T t with
  | some y => match y.d with
    | .struct fs => match fs[f]?, aggOf p with
      | some (o, ft), some ps => partA C ft ps o
      | _, _ => none
    | _ => none
  | none => none
theorem fieldA_ok {s : S} {t : TypeId} {f : Nat} {p q : PV} {v : Value} (h : fieldA C t f p = some q) (hr : Rep C.P s p v) :
    ∃ u, (∀ w : World, (Instr.field t v f).run C.P w = .ok u w) ∧ Rep C.P s q u := by
  unfold fieldA at h
  split at h <;> try cases h
  rename_i y hy
  split at h <;> try cases h
  rename_i fs hd
  split at h <;> try cases h
  rename_i o ft ps hf hp
  obtain ⟨l, hl, hm⟩ := und_struct hy hd
  subst hm
  rw [List.getElem?_map] at hf
  obtain ⟨fd, h1, h2⟩ := Option.map_eq_some_iff.1 hf
  simp only [Prod.mk.injEq] at h2
  obtain ⟨rfl, rfl⟩ := h2
  obtain ⟨vs, rfl, hlen, hv⟩ := aggOf_ok hp hr
  obtain ⟨u, hu, hru⟩ := partA_ok h hlen hv
  exact ⟨u, fun w => by simp [Instr.field, run_underlying hl, (by simpa using h1 : l[f]? = some fd), asAgg, hu], hru⟩

def extractA (i : Nat) : PV → Option PV
  | .tup ps => ps[i]?
  | .val (.tuple vs) => vs[i]?.map .val
  | _ => none
theorem extractA_ok {s : S} {i : Nat} {p q : PV} {v : Value} (h : extractA i p = some q) (hr : Rep C.P s p v) :
    ∃ u, (∀ w : World, (Instr.extract v i).run C.P w = .ok u w) ∧ Rep C.P s q u := by
  unfold extractA at h
  split at h <;> try cases h
  · cases hr
    rename_i ps vs hl hv
    have hlt := (List.getElem?_eq_some_iff.1 h).1
    have hvi : vs[i]? = some (vs[i]'(by omega)) := List.getElem?_eq_getElem (by omega)
    exact ⟨_, fun w => by simp [Instr.extract, hvi], hv i q _ h hvi⟩
  · cases hr
    rename_i vs
    obtain ⟨u, h1, rfl⟩ := Option.map_eq_some_iff.1 h
    exact ⟨u, fun w => by simp [Instr.extract, h1], .val u⟩

/-- xs[i] as an address. -/
def indexAddrA (C : Cx) (t : TypeId) (p q : PV) : Option PV :=
  match C.T t, p, q with
  | some y, .sl _ xs, .val (.int _ i) => match y.d with
    | .slice e => match C.T e with
      | some z => if 0 ≤ i ∧ i < xs.length then (if (xs.getD i.toNat []).length = z.size then some (.rop (xs.getD i.toNat []) 0) else none) else none
      | none => none
    | _ => none
  | some y, .rop ps off, .val (.int _ i) => match y.d with
    | .array n e => match C.T e with
      | some z => if 0 ≤ i ∧ i < n then some (.rop ps (off + i.toNat * z.size)) else none
      | none => none
    | _ => none
  | some y, .ptr b off, .val (.int _ i) => match y.d with
    | .array n e => match C.T e with
      | some z => if 0 ≤ i ∧ i < n then some (.ptr b (off + i.toNat * z.size)) else none
      | none => none
    | _ => none
  | some y, .bs _ b n _, .val (.int _ i) => match y.d with
    | .slice e => match C.T e with
      | some z => if 0 ≤ i ∧ i < n then some (.ptr b (if z.size = 1 then i.toNat else i.toNat * z.size)) else none
      | none => none
    | _ => none
  | _, _, _ => none

theorem Rep.val_eq {s : S} {x v : Value} (h : Rep C.P s (.val x) v) : v = x := by cases h; rfl
theorem Rep.int {s : S} {k : IntKind} {i : Int} {v : Value} (h : Rep C.P s (.val (.int k i)) v) : v = .int k i := by cases h; rfl

theorem indexAddrA_ok {s : S} {t : TypeId} {p q r : PV} {v u : Value} (h : indexAddrA C t p q = some r) (hp : Rep C.P s p v) (hq : Rep C.P s q u) :
    ∃ x, (∀ w : World, (Instr.indexAt t v u).run C.P w = .ok x w) ∧ Rep C.P s r x := by
  unfold indexAddrA at h
  split at h <;> try cases h
  · rename_i _ _ _ y own xs k i hy
    obtain rfl := hq.int
    split at h <;> try cases h
    rename_i e hd
    split at h <;> try cases h
    rename_i z hz
    split at h <;> try cases h
    rename_i hi
    split at h <;> try cases h
    rename_i hlen
    cases hp
    rename_i size b o c a u hl hm ha hx hs hc hr ho
    have h0 : 0 < xs.length := by omega
    have hin : i.toNat < xs.length := by omega
    have hget : xs.getD i.toNat [] = xs[i.toNat] := by rw [List.getD_eq_getElem?_getD, List.getElem?_eq_getElem hin]; rfl
    have hsz : size = z.size := by rw [← hlen, hget]; exact (hx _ (List.getElem_mem hin)).symm
    obtain rfl := ha h0
    refine ⟨.pointer (some ⟨b, o + i.toNat * z.size, none⟩), ?_, ?_⟩
    · have hi2 : 0 ≤ i ∧ i < (xs.length : Int) := hi
      intro w; simp [Instr.indexAt, asIntOf, run_underlying (und_slice hy hd), hi2.1, hi2.2, run_sizeOf hz, add_plain]
    · have := Rep.rop (P := C.P) (s := s) (xs.getD i.toNat []) 0 b (o + i.toNat * z.size) (u i.toNat) ?_ ?_ ?_
      · simpa using this
      · have hst := hs h0
        refine ⟨hst.1, hst.2.1, fun t E m h1 h2 => Nat.le_trans ?_ (hst.2.2 t E m h1 h2)⟩
        rw [hlen, ← hsz]
        have : i.toNat * size + size ≤ xs.length * size := by rw [← Nat.succ_mul]; exact Nat.mul_le_mul_right _ hin
        omega
      · intro j hj
        rw [← hsz]
        exact hc _ _ hin (by omega)
      · intro j p hp
        rw [hget] at hp
        exact hr i.toNat j _ p (List.getElem?_eq_getElem hin) hp
  · rename_i _ _ _ y ps off k i hy
    obtain rfl := hq.int
    split at h <;> try cases h
    rename_i n e hd
    split at h <;> try cases h
    rename_i z hz
    split at h <;> try cases h
    rename_i hi
    cases hp
    rename_i b o u hs hc hr
    refine ⟨.pointer (some ⟨b, o + off + i.toNat * z.size, none⟩), ?_, by have := Rep.rop (P := C.P) ps (off + i.toNat * z.size) b o u hs hc hr; rwa [← Nat.add_assoc] at this⟩
    have hi2 : 0 ≤ i ∧ i < (n : Int) := hi
    intro w; simp [Instr.indexAt, asIntOf, run_underlying (und_array hy hd), Instr.sureAddr, hi2.1, hi2.2, run_sizeOf hz, add_plain]
  · rename_i _ _ _ y bi off k i hy
    obtain rfl := hq.int
    split at h <;> try cases h
    rename_i n e hd
    split at h <;> try cases h
    rename_i z hz
    split at h <;> try cases h
    rename_i hi
    cases hp
    rename_i b hb
    refine ⟨_, ?_, .ptr bi (off + i.toNat * z.size) b hb⟩
    have hi2 : 0 ≤ i ∧ i < (n : Int) := hi
    intro w; simp [Instr.indexAt, asIntOf, run_underlying (und_array hy hd), Instr.sureAddr, hi2.1, hi2.2, run_sizeOf hz, add_plain]
  · rename_i _ _ _ y E bi n c k i hy
    obtain rfl := hq.int
    split at h <;> try cases h
    rename_i e hd
    split at h <;> try cases h
    rename_i z hz
    split at h <;> try cases h
    rename_i hi
    cases hp
    rename_i b cs _ _ hb _ _
    have hi2 : 0 ≤ i ∧ i < (n : Int) := hi
    refine ⟨_, ?_, .ptr bi (if z.size = 1 then i.toNat else i.toNat * z.size) b (by assumption)⟩
    intro w
    have e : z.size = 1 → i.toNat * z.size = i.toNat := fun h => by rw [h, Nat.mul_one]
    simp [Instr.indexAt, asIntOf, run_underlying (und_slice hy hd), hi2.1, hi2.2, run_sizeOf hz, add_plain]
    exact e

/-- A byte of a string; an element of an array. -/
def indexA (C : Cx) (t : TypeId) (p q : PV) : Option PV :=
  match C.T t, q with
  | some y, .val (.int _ i) => match y.d, p with
    | .string, .val (.string s) => if 0 ≤ i ∧ i < s.size then some (.val (.int .u8 (s.data.toList.getD i.toNat 0).toNat)) else none
    | .array n e, p => match C.T e, aggOf p with
      | some z, some ps => if 0 ≤ i ∧ i < n then partA C e ps (i.toNat * z.size) else none
      | _, _ => none
    | _, _ => none
  | _, _ => none
theorem indexA_ok {s : S} {t : TypeId} {p q r : PV} {v u : Value} (h : indexA C t p q = some r) (hp : Rep C.P s p v) (hq : Rep C.P s q u) :
    ∃ x, (∀ w : World, (Instr.index t v u).run C.P w = .ok x w) ∧ Rep C.P s r x := by
  unfold indexA at h
  split at h <;> try cases h
  rename_i y k i hy
  obtain rfl := hq.int
  split at h <;> try cases h
  · rename_i str hd
    split at h <;> try cases h
    rename_i hi
    cases hp
    refine ⟨_, fun w => ?_, .val _⟩
    have hlt : i.toNat < str.size := by omega
    have h1 : str[i.toNat]? = some str[i.toNat] := by simp [hlt]
    have h2 : (str.data.toList.getD i.toNat 0) = str[i.toNat] := by
      rw [List.getD_eq_getElem?_getD, List.getElem?_eq_getElem (by simpa using hlt)]; rfl
    simp only [Instr.index, asIntOf, Sem.run_bind, Sem.run_pure, Result.andThen_ok, run_underlying (und_string hy hd), if_pos hi.1, h1, h2]
  · rename_i n e hd
    split at h <;> try cases h
    rename_i z ps hz hps
    split at h <;> try cases h
    rename_i hi
    obtain ⟨vs, rfl, hlen, hv⟩ := aggOf_ok hps hp
    obtain ⟨x, hx, hrx⟩ := partA_ok h hlen hv
    refine ⟨x, fun w => ?_, hrx⟩
    have hi2 : 0 ≤ i ∧ i < (n : Int) := hi
    simp [Instr.index, asIntOf, run_underlying (und_array hy hd), hi2.1, hi2.2, run_sizeOf hz, hx]

def lenA (C : Cx) (t : TypeId) (p : PV) : Option PV :=
  match C.T t with
  | some y => match y.d, p with
    | .string, .val (.string s) => some (.val (.int .i64 s.size))
    | .slice _, .sl _ xs => some (.val (.int .i64 xs.length))
    | .slice _, .bs _ _ n _ => some (.val (.int .i64 n))
    | .slice _, .val (.slice _ n _) => some (.val (.int .i64 n))
    | .array n _, _ => some (.val (.int .i64 n))
    | _, _ => none
  | none => none
theorem lenA_ok {s : S} {t ty : TypeId} {p r : PV} {v : Value} (h : lenA C t p = some r) (hp : Rep C.P s p v) :
    ∃ x, (∀ w : World, (Builtin.len_ #[t] ty #[v]).run C.P w = .ok x w) ∧ Rep C.P s r x := by
  unfold lenA at h
  split at h <;> try cases h
  rename_i y hy
  split at h <;> try cases h
  · rename_i hd
    cases hp
    exact ⟨_, fun w => by simp [Builtin.len_, run_underlying (und_string hy hd), goInt], .val _⟩
  · rename_i hd
    cases hp
    exact ⟨_, fun w => by simp [Builtin.len_, run_underlying (und_slice hy hd), goInt], .val _⟩
  · rename_i hd
    cases hp
    exact ⟨_, fun w => by simp [Builtin.len_, run_underlying (und_slice hy hd), goInt], .val _⟩
  · rename_i hd
    cases hp
    exact ⟨_, fun w => by simp [Builtin.len_, run_underlying (und_slice hy hd), goInt], .val _⟩
  · rename_i hd
    exact ⟨_, fun w => by simp [Builtin.len_, run_underlying (und_array hy hd), goInt], .val _⟩

/-- A bound of a slice expression. -/
def bnd (d : Nat) : Option PV → Option Nat
  | none => some d
  | some (.val (.int _ i)) => if 0 ≤ i then some i.toNat else none
  | _ => none

def sliceA (C : Cx) (t : TypeId) (p : PV) (lo hi : Option PV) : Option PV :=
  match C.T t with
  | some y => match y.d, p with
    | .string, .val (.string s) => match bnd 0 lo, bnd s.size hi with
      | some l, some h => if l ≤ h ∧ h ≤ s.size then some (.val (.string (s.extract l h))) else none
      | _, _ => none
    | .slice e, .sl _ xs => match C.T e with
      | some z => match bnd 0 lo, bnd xs.length hi with
        | some l, some h => if l ≤ h ∧ h ≤ xs.length then (if xs.all (fun x => x.length == z.size) then some (.sl none ((xs.take h).drop l)) else none) else none
        | _, _ => none
      | none => none
    | _, _ => none
  | none => none

/-- The value of a bound. -/
def RepB (P : Program) (s : S) (p : Option PV) (v : Option Value) : Prop :=
  match p, v with
  | none, none => True
  | some p, some v => Rep P s p v
  | _, _ => False

theorem bnd_ok {s : S} {d l : Nat} {p : Option PV} {v : Option Value} (h : bnd d p = some l) (hr : RepB C.P s p v) :
    (p = none ∧ v = none ∧ l = d) ∨ ∃ k i, v = some (.int k i) ∧ 0 ≤ i ∧ l = i.toNat := by
  cases p with
  | none =>
    cases v with
    | none => simp only [bnd, Option.some.injEq] at h; exact .inl ⟨rfl, rfl, h.symm⟩
    | some v => exact hr.elim
  | some p =>
    cases v with
    | none => exact hr.elim
    | some v =>
      unfold bnd at h
      split at h
      · rename_i e; cases e
      · rename_i k i e
        cases e
        split at h
        · cases h; obtain rfl := Rep.int hr; exact .inr ⟨k, i, rfl, ‹_›, rfl⟩
        · cases h
      · cases h

def ob (v : Option Value) (d y : Nat) (code : BoundsCode) : Sem Nat :=
  match v with
  | some v => Instr.sliceBound v y code
  | none => Pure.pure d
theorem ob_ok {s : S} {d l y : Nat} {p : Option PV} {v : Option Value} {code : BoundsCode} (h : bnd d p = some l) (hr : RepB C.P s p v) (hle : l ≤ y) (w : World) : (ob v d y code).run C.P w = .ok l w := by
  rcases bnd_ok h hr with ⟨_, rfl, rfl⟩ | ⟨k, i, rfl, h0, rfl⟩
  · rfl
  · exact run_sliceBound (P := C.P) w k i y _ h0 (by omega)

theorem run_sliceBounds_two {s : S} {isSlice : Bool} {len cap : Nat} {lo hi : Option Value} {plo phi : Option PV} {l h : Nat} (hl : bnd 0 plo = some l) (hh : bnd len phi = some h) (rl : RepB C.P s plo lo) (rh : RepB C.P s phi hi)
    (h1 : l ≤ h) (h2 : h ≤ len) (h3 : len ≤ cap) (w : World) : (Instr.sliceBounds isSlice len cap lo hi none).run C.P w = .ok (l, h, cap) w := by
  have e : Instr.sliceBounds isSlice len cap lo hi none = (do
      let h ← ob hi len cap (if isSlice then .sliceAcap else .sliceAlen)
      let l ← ob lo 0 h .sliceB
      Pure.pure (l, h, cap)) := by
    cases hi <;> cases lo <;> rfl
  rw [e, Sem.run_bind, ob_ok hh rh (by omega), Result.andThen_ok, Sem.run_bind, ob_ok hl rl h1]
  rfl

theorem sliceA_ok {s : S} {t : TypeId} {p r : PV} {v : Value} {plo phi : Option PV} {lo hi : Option Value} (h : sliceA C t p plo phi = some r) (hp : Rep C.P s p v) (rl : RepB C.P s plo lo) (rh : RepB C.P s phi hi) :
    ∃ x, (∀ w : World, (Instr.sliceAt t v lo hi none).run C.P w = .ok x w) ∧ Rep C.P s r x := by
  unfold sliceA at h
  split at h <;> try cases h
  rename_i y hy
  split at h <;> try cases h
  · rename_i str hd
    split at h <;> try cases h
    rename_i l hh el eh
    split at h <;> try cases h
    rename_i hb
    cases hp
    refine ⟨_, fun w => ?_, .val _⟩
    simp only [Instr.sliceAt, Sem.run_bind, run_underlying (und_string hy hd), Result.andThen_ok, Instr.slice]
    rw [show (Option.isSome (none : Option Value)) = false from rfl]
    simp only [Bool.false_eq_true, if_false, Sem.run_bind, Sem.run_pure, Result.andThen_ok, run_sliceBounds_two el eh rl rh hb.1 hb.2 (Nat.le_refl _)]
  · rename_i e own xs hd
    split at h <;> try cases h
    rename_i z hz
    split at h <;> try cases h
    rename_i l hh el eh
    split at h <;> try cases h
    rename_i hb
    split at h <;> try cases h
    rename_i hall
    cases hp
    rename_i size b o c a u hl hm ha hx hs hc hr ho
    have hlen : ((xs.take hh).drop l).length = hh - l := by simp; omega
    refine ⟨.slice (if c = l then a else a.map (·.add (l * z.size))) (hh - l) (c - l), ?_, ?_⟩
    · intro w; simp only [Instr.sliceAt, Sem.run_bind, run_underlying (und_slice hy hd), Result.andThen_ok, Instr.slice, run_sliceBounds_two (cap := c) el eh rl rh hb.1 hb.2 ‹xs.length ≤ c›, run_sizeOf hz, Sem.run_pure]
    · have key := Rep.sl (P := C.P) (s := s) none ((xs.take hh).drop l) z.size b (o + l * z.size) (c - l) (if c = l then a else a.map (·.add (l * z.size))) (fun i j => u (l + i) j) (by omega) (by omega) ?_ ?_ ?_ ?_ ?_ trivial
      · rw [hlen] at key; exact key
      · intro h0
        have h0' : 0 < xs.length := by omega
        have : c ≠ l := by omega
        rw [if_neg this, ha h0']
        simp [add_plain]
      · intro x hx'
        have := List.all_eq_true.1 hall x (List.mem_of_mem_take (List.mem_of_mem_drop hx'))
        simpa using this
      · intro h0
        have h0' : 0 < xs.length := by omega
        have hst := hs h0'
        have hsz : size = z.size := by
          have h1 := hx _ (List.getElem_mem h0')
          have h2 := List.all_eq_true.1 hall _ (List.getElem_mem h0')
          simp at h2
          omega
        refine ⟨hst.1, hst.2.1, fun t E m h1 h2 => Nat.le_trans ?_ (hst.2.2 t E m h1 h2)⟩
        rw [hlen, hsz]
        have : l * z.size + (hh - l) * z.size ≤ xs.length * z.size := by rw [← Nat.add_mul]; exact Nat.mul_le_mul_right _ (by omega)
        omega
      · intro i j hi hj
        have h0' : 0 < xs.length := by omega
        have hsz : size = z.size := by
          have h1 := hx _ (List.getElem_mem h0')
          have h2 := List.all_eq_true.1 hall _ (List.getElem_mem h0')
          simp at h2
          omega
        have := hc (l + i) j (by omega) (by omega)
        rw [hsz, Nat.add_mul, ← Nat.add_assoc] at this
        exact this
      · intro i j x p hxi hpj
        simp only [List.getElem?_drop, List.getElem?_take] at hxi
        split at hxi
        · exact hr _ j x p hxi hpj
        · cases hxi

/-- min and max of two integers. -/
def minmaxA (mx : Bool) : PV → PV → Option PV
  | .val (.int k a), .val (.int _ b) => some (.val (.int k (if mx then (if b > a then b else a) else (if b < a then b else a))))
  | _, _ => none
theorem minA_ok {s : S} {p q r : PV} {v u : Value} (h : minmaxA false p q = some r) (hp : Rep C.P s p v) (hq : Rep C.P s q u) (ts : Array TypeId) (ty : TypeId) :
    ∃ x, (∀ w : World, (Builtin.min_ ts ty #[v, u]).run C.P w = .ok x w) ∧ Rep C.P s r x := by
  unfold minmaxA at h
  split at h <;> try cases h
  obtain rfl := hp.int
  obtain rfl := hq.int
  exact ⟨_, fun _ => rfl, .val _⟩
theorem maxA_ok {s : S} {p q r : PV} {v u : Value} (h : minmaxA true p q = some r) (hp : Rep C.P s p v) (hq : Rep C.P s q u) (ts : Array TypeId) (ty : TypeId) :
    ∃ x, (∀ w : World, (Builtin.max_ ts ty #[v, u]).run C.P w = .ok x w) ∧ Rep C.P s r x := by
  unfold minmaxA at h
  split at h <;> try cases h
  obtain rfl := hp.int
  obtain rfl := hq.int
  exact ⟨_, fun _ => rfl, .val _⟩

def evs (GE : Nat → Option PV) (pf : PF) : List Operand → Option (List PV)
  | [] => some []
  | x :: r => match ev GE pf x, evs GE pf r with
    | some p, some ps => some (p :: ps)
    | _, _ => none
theorem evs_ok {w0 : World} {base : Nat} {σ : AS} {s : S} {a : Act} {N : Nat} {pf : PF} (hi : Inv C w0 base σ s) (hr : RepF C s N pf a) : ∀ {l : List Operand} {ps : List PV}, evs C.GE pf l = some ps →
    ps.length = (l.map a.eval).length ∧ ∀ (j : Nat) (p : PV) (v : Value), ps[j]? = some p → (l.map a.eval)[j]? = some v → Rep C.P s p v
  | [], ps, h => by cases h; exact ⟨rfl, fun j p v h => by simp at h⟩
  | x :: r, ps, h => by
    simp only [evs] at h
    split at h <;> try cases h
    rename_i p ps hp hps
    obtain ⟨h1, h2⟩ := evs_ok hi hr hps
    refine ⟨by simpa using h1, fun j q v hq hv => ?_⟩
    cases j with
    | zero => simp at hq hv; subst hq; subst hv; exact ev_ok hi hr hp
    | succ j => simp at hq hv; exact h2 j q v hq (by simpa using hv)

def intsOf : List PV → Option (List Int)
  | [] => some []
  | .val (.int .i64 i) :: r => match intsOf r with
    | some l => some (i :: l)
    | none => none
  | _ :: _ => none
theorem intsOf_ok {s : S} : ∀ {ps : List PV} {l : List Int} {vs : List Value}, intsOf ps = some l → ps.length = vs.length →
    (∀ (j : Nat) (p : PV) (v : Value), ps[j]? = some p → vs[j]? = some v → Rep C.P s p v) → vs = l.map (fun i => .int .i64 i)
  | [], l, vs, h, hl, _ => by cases h; cases vs <;> simp at hl ⊢
  | .val (.int .i64 i) :: r, l, vs, h, hl, hr => by
    simp only [intsOf] at h
    split at h <;> try cases h
    rename_i l' hl'
    cases vs with
    | nil => simp at hl
    | cons v vs =>
      have h1 : v = .int .i64 i := (hr 0 _ v rfl rfl).val_eq
      have h2 := intsOf_ok (vs := vs) hl' (by simpa using hl) (fun j p v hp hv => hr (j + 1) p v (by simpa using hp) (by simpa using hv))
      rw [h1, h2]; rfl

/-- Two structs of integers compared. -/
def eqA (C : Cx) (op : BinOp) (t : TypeId) (ps qs : List PV) : Option PV :=
  match C.E t, intsOf ps, intsOf qs with
  | some n, some xs, some ys => if xs.length = n ∧ ys.length = n then (match op with
      | .eql => some (.val (.bool (xs == ys)))
      | .neq => some (.val (.bool (!(xs == ys))))
      | _ => none) else none
  | _, _, _ => none
theorem eqA_ok {s : S} {op : BinOp} {t : TypeId} {x y : Operand} {ps qs : List PV} {p : PV} {va vb : Value} (h : eqA C op t ps qs = some p) (h1 : Rep C.P s (.agg ps) va) (h2 : Rep C.P s (.agg qs) vb) :
    ∃ v, (∀ w : World, (do eqGuard op t x y va vb; binOp op t va vb : Sem Value).run C.P w = .ok v w) ∧ Rep C.P s p v := by
  unfold eqA at h
  split at h <;> try cases h
  rename_i n xs ys hn hx hy
  split at h <;> try cases h
  rename_i hc
  cases h1
  rename_i vs hl hv
  cases h2
  rename_i us hl' hu
  obtain rfl := intsOf_ok hx hl hv
  obtain rfl := intsOf_ok hy hl' hu
  have hE := C.okE t n hn xs ys hc.1 hc.2
  split at h <;> try cases h
  · exact ⟨_, fun w => (hE x y w).1, .val _⟩
  · exact ⟨_, fun w => (hE x y w).2, .val _⟩

/-- What an operation that only computes or reads gives. -/
def pureOp (C : Cx) (o : Oper) (pf : PF) (σ : AS) : Option PV :=
  match o.op with
  | .move x => ev C.GE pf x
  | .assign x => ev C.GE pf x
  | .pick c a b => match ev C.GE pf c with
    | some (.val (.bool t)) => if t = true then ev C.GE pf a else ev C.GE pf b
    | _ => none
  | .nilCheck x => match ev C.GE pf x with
    | some (.ptr i off) => some (.ptr i off)
    | some (.rop ps off) => some (.rop ps off)
    | some (.fn f ps) => some (.fn f ps)
    | some (.pt T c i off) => some (.pt T c i off)
    | _ => none
  | .load t a => match evu C.GE pf a with
    | some (.ptr i off) => match σ.bx[i]? with
      | some ps => loadA C t ps off
      | none => none
    | some (.rop ps off) => loadA C t ps off
    | _ => none
  | .binOp op t x y _ => match ev C.GE pf x, ev C.GE pf y with
    | some (.val a), some (.val b) => (binV C op t a b).map .val
    | some (.agg ps), some (.agg qs) => eqA C op t ps qs
    | _, _ => none
  | .unOp op _ x => match ev C.GE pf x with
    | some (.val a) => (unV op a).map .val
    | _ => none
  | .convert s d x => match ev C.GE pf x with
    | some (.val a) => (convV C s d a).map .val
    | _ => none
  | .slice t x lo hi mx => match mx, ev C.GE pf x with
    | none, some p => match lo, hi with
      | none, none => sliceA C t p none none
      | some l, none => match ev C.GE pf l with
        | some q => sliceA C t p (some q) none
        | none => none
      | none, some h => match ev C.GE pf h with
        | some q => sliceA C t p none (some q)
        | none => none
      | some l, some h => match ev C.GE pf l, ev C.GE pf h with
        | some q, some r => sliceA C t p (some q) (some r)
        | _, _ => none
    | _, _ => none
  | .fieldAddr t x f => match ev C.GE pf x with
    | some p => fieldAddrA C t f p
    | none => none
  | .field t x f => match ev C.GE pf x with
    | some p => fieldA C t f p
    | none => none
  | .indexAddr t x i => match ev C.GE pf x, ev C.GE pf i with
    | some p, some q => indexAddrA C t p q
    | _, _ => none
  | .index t x i => match ev C.GE pf x, ev C.GE pf i with
    | some p, some q => indexA C t p q
    | _, _ => none
  | .extract x i => match ev C.GE pf x with
    | some p => extractA i p
    | none => none
  | .call c => match c.callee with
    | .builtin b => match b, evs C.GE pf c.args.toList, c.argTypes.toList with
      | .len, some [p], [t] => lenA C t p
      | .min, some [p, q], _ => minmaxA false p q
      | .max, some [p, q], _ => minmaxA true p q
      | _, _, _ => none
    | _ => none
  | .makeFunc fn first caps => match fn, first.toList, evs C.GE pf caps.toList with
    | .func f, [], some ps => some (.fn f ps)
    | _, _, _ => none
  | _ => none

/-- The world w has the cells that s knows of: those of the variables that σ' shows, and those that nobody writes. -/
structure Same (C : Cx) (σ' : AS) (s : S) (w : World) : Prop where
  box : ∀ (k b : Nat) (ps : List PV), σ'.bx[k]? = some ps → s.g.bx[k]? = some b → ∀ j, j < ps.length → w.cell? ⟨b, j, none⟩ = s.w.cell? ⟨b, j, none⟩
  cell : ∀ b hi o v, Stab C.P s b hi → o < hi → s.w.cell? ⟨b, o, none⟩ = some v → w.cell? ⟨b, o, none⟩ = some v

theorem pureOp_all {N : Nat} {o : Oper} {pf : PF} {σ σ' : AS} {p : PV} {w0 : World} {base : Nat} {s : S} {a : Act} (h : pureOp C o pf σ' = some p) (hi : Inv C w0 base σ s) (hr : RepF C s N pf a)
    (hs : ∀ (k : Nat) (ps : List PV), σ'.bx[k]? = some ps → ps = [] ∨ σ.bx[k]? = some ps) : ∃ v, (∀ w : World, Same C σ' s w → (execOp a.eval o).run C.P w = .ok (.value v) w) ∧ Rep C.P s p v := by
  unfold pureOp at h
  unfold execOp
  split at h
  · rename_i x ho; simp only [ho]; exact ⟨_, fun _ _ => rfl, ev_ok hi hr h⟩
  · rename_i x ho; simp only [ho]; exact ⟨_, fun _ _ => rfl, ev_ok hi hr h⟩
  · rename_i c x y ho
    simp only [ho]
    split at h <;> try cases h
    rename_i t hc
    have hb := ev_ok hi hr hc
    have hb' : a.eval c = .bool t := hb.val_eq
    cases t
    · exact ⟨_, fun w _ => by simp only [Sem.run_bind, hb', asBool, Sem.run_pure, Result.andThen_ok]; rfl, ev_ok hi hr h⟩
    · exact ⟨_, fun w _ => by simp only [Sem.run_bind, hb', asBool, Sem.run_pure, Result.andThen_ok]; rfl, ev_ok hi hr h⟩
  · rename_i x ho
    simp only [ho]
    split at h <;> try cases h
    · rename_i hx
      have := ev_ok hi hr hx
      cases he : a.eval x <;> rw [he] at this <;> cases this
      exact ⟨_, fun _ _ => rfl, .ptr _ _ _ ‹_›⟩
    · rename_i hx
      have := ev_ok hi hr hx
      cases he : a.eval x <;> rw [he] at this <;> cases this
      exact ⟨_, fun _ _ => rfl, .rop _ _ _ _ _ ‹_› ‹_› ‹_›⟩
    · rename_i hx
      have := ev_ok hi hr hx
      cases he : a.eval x <;> rw [he] at this <;> cases this
      exact ⟨_, fun _ _ => rfl, .fn _ _ _ ‹_› ‹_›⟩
    · rename_i hx
      have := ev_ok hi hr hx
      cases he : a.eval x <;> rw [he] at this <;> cases this
      exact ⟨_, fun _ _ => rfl, .pt _ _ _ _ _ _ ‹_› ‹_› ‹_›⟩
  · rename_i t x ho
    simp only [ho]
    split at h <;> try cases h
    · rename_i i off hx
      split at h <;> try cases h
      rename_i ps hps
      have hx := evu_ok hi hr hx
      cases he : a.eval x <;> rw [he] at hx <;> cases hx
      rename_i b hb
      rcases hs i ps hps with rfl | hps'
      · obtain ⟨v, h4, h5⟩ := load_ok (s := s) (b := b) (o := 0) (u := fun _ => undef) h (fun j p hp => by simp at hp)
        refine ⟨v, fun w _ => ?_, h5⟩
        have h4 := h4 w (fun j hj => by simp at hj)
        simp only [Nat.zero_add] at h4
        simp [Instr.loadAt, Instr.sureAddr, h4]
      obtain ⟨cs, T, h1, h2, h3⟩ := hi.box i b ps hb hps'
      obtain ⟨v, h4, h5⟩ := load_ok (s := s) (b := b) (o := 0) (u := fun j => cs.getD j undef) h (fun j p hp => by
        have hj := (List.getElem?_eq_some_iff.1 hp).1
        exact h3 j p _ hp (by simp [Array.getD, h2, hj]))
      refine ⟨v, fun w hw => ?_, h5⟩
      have h4 := h4 w (fun j hj => by rw [Nat.zero_add, hw.box i b ps hps hb j hj]; simp [World.cell?, h1, Array.getD, h2, hj])
      simp only [Nat.zero_add] at h4
      simp [Instr.loadAt, Instr.sureAddr, h4]
    · rename_i ps off hx
      have hx := evu_ok hi hr hx
      cases he : a.eval x <;> rw [he] at hx <;> cases hx
      rename_i b o u hst hc hu
      obtain ⟨v, h4, h5⟩ := load_ok (s := s) (b := b) (o := o) (u := u) h hu
      refine ⟨v, fun w hw => ?_, h5⟩
      have h4 := h4 w (fun j hj => hw.cell b _ _ _ hst (by omega) (hc j hj))
      simp [Instr.loadAt, Instr.sureAddr, h4]
  · rename_i op t x y yt ho
    simp only [ho]
    split at h <;> try cases h
    · rename_i va vb hx hy
      obtain ⟨v, hv, rfl⟩ := Option.map_eq_some_iff.1 h
      have h1 : a.eval x = va := (ev_ok hi hr hx).val_eq
      have h2 : a.eval y = vb := (ev_ok hi hr hy).val_eq
      refine ⟨v, fun w _ => ?_, .val v⟩
      have := binV_ok (x := x) (y := y) hv w
      simp only [h1, h2, Sem.run_bind] at this ⊢
      rw [this]; rfl
    · rename_i ps qs hx hy
      obtain ⟨v, h1, h2⟩ := eqA_ok (x := x) (y := y) h (ev_ok hi hr hx) (ev_ok hi hr hy)
      refine ⟨v, fun w _ => ?_, h2⟩
      have := h1 w
      simp only [Sem.run_bind] at this ⊢
      rw [this]; rfl
  · rename_i op t x ho
    simp only [ho]
    split at h <;> try cases h
    rename_i va hx
    obtain ⟨v, hv, rfl⟩ := Option.map_eq_some_iff.1 h
    have h1 : a.eval x = va := (ev_ok hi hr hx).val_eq
    exact ⟨v, fun w _ => by simp [h1, unV_ok hv], .val v⟩
  · rename_i sr ds x ho
    simp only [ho]
    split at h <;> try cases h
    rename_i va hx
    obtain ⟨v, hv, rfl⟩ := Option.map_eq_some_iff.1 h
    have h1 : a.eval x = va := (ev_ok hi hr hx).val_eq
    exact ⟨v, fun w _ => by simp [h1, convV_ok hv], .val v⟩
  · rename_i t x lo hi' mx ho
    simp only [ho]
    split at h <;> try cases h
    rename_i p' hx
    have hx := ev_ok hi hr hx
    split at h
    · obtain ⟨v, h1, h2⟩ := sliceA_ok (lo := none) (hi := none) h hx trivial trivial
      exact ⟨v, fun w _ => by simp [h1], h2⟩
    · split at h <;> try cases h
      rename_i l _ q hq
      obtain ⟨v, h1, h2⟩ := sliceA_ok (lo := some (a.eval l)) (hi := none) h hx (ev_ok hi hr hq) trivial
      exact ⟨v, fun w _ => by simp [h1], h2⟩
    · split at h <;> try cases h
      rename_i l _ q hq
      obtain ⟨v, h1, h2⟩ := sliceA_ok (lo := none) (hi := some (a.eval l)) h hx trivial (ev_ok hi hr hq)
      exact ⟨v, fun w _ => by simp [h1], h2⟩
    · split at h <;> try cases h
      rename_i l l' _ _ q r hq hr'
      obtain ⟨v, h1, h2⟩ := sliceA_ok (lo := some (a.eval l)) (hi := some (a.eval l')) h hx (ev_ok hi hr hq) (ev_ok hi hr hr')
      exact ⟨v, fun w _ => by simp [h1], h2⟩
  · rename_i t x f ho
    simp only [ho]
    split at h <;> try cases h
    rename_i p' hx
    obtain ⟨v, h1, h2⟩ := fieldAddrA_ok h (ev_ok hi hr hx)
    exact ⟨v, fun w _ => by simp [h1], h2⟩
  · rename_i t x f ho
    simp only [ho]
    split at h <;> try cases h
    rename_i p' hx
    obtain ⟨v, h1, h2⟩ := fieldA_ok h (ev_ok hi hr hx)
    exact ⟨v, fun w _ => by simp [h1], h2⟩
  · rename_i t x i ho
    simp only [ho]
    split at h <;> try cases h
    rename_i p' q' hx hy
    obtain ⟨v, h1, h2⟩ := indexAddrA_ok h (ev_ok hi hr hx) (ev_ok hi hr hy)
    exact ⟨v, fun w _ => by simp [h1], h2⟩
  · rename_i t x i ho
    simp only [ho]
    split at h <;> try cases h
    rename_i p' q' hx hy
    obtain ⟨v, h1, h2⟩ := indexA_ok h (ev_ok hi hr hx) (ev_ok hi hr hy)
    exact ⟨v, fun w _ => by simp [h1], h2⟩
  · rename_i x i ho
    simp only [ho]
    split at h <;> try cases h
    rename_i p' hx
    obtain ⟨v, h1, h2⟩ := extractA_ok h (ev_ok hi hr hx)
    exact ⟨v, fun w _ => by simp [h1], h2⟩
  · rename_i c ho
    simp only [ho]
    split at h <;> try cases h
    rename_i b hb
    split at h
    · rename_i hbb q t hargs hts
      obtain ⟨e1, e2⟩ := evs_ok hi hr hargs
      have hmap : c.args.map a.eval = (c.args.toList.map a.eval).toArray := by rw [← Array.toList_map, Array.toArray_toList]
      have hts' : c.argTypes = #[t] := by rw [← Array.toArray_toList (xs := c.argTypes), hts]
      generalize hvs : c.args.toList.map a.eval = vs at *
      match vs, e1 with
      | [v], _ =>
        obtain ⟨x, h1, h2⟩ := lenA_ok (ty := o.type) h (e2 0 q v rfl rfl)
        exact ⟨x, fun w _ => by simp [resolve, hb, hmap, invoke, builtin, hts', h1], h2⟩
    · rename_i hbb q r hargs
      obtain ⟨e1, e2⟩ := evs_ok hi hr hargs
      have hmap : c.args.map a.eval = (c.args.toList.map a.eval).toArray := by rw [← Array.toList_map, Array.toArray_toList]
      generalize hvs : c.args.toList.map a.eval = vs at *
      match vs, e1 with
      | [v, u], _ =>
        obtain ⟨x, h1, h2⟩ := minA_ok h (e2 0 q v rfl rfl) (e2 1 r u rfl rfl) c.argTypes o.type
        exact ⟨x, fun w _ => by simp [resolve, hb, hmap, invoke, builtin, h1], h2⟩
    · rename_i hbb q r hargs
      obtain ⟨e1, e2⟩ := evs_ok hi hr hargs
      have hmap : c.args.map a.eval = (c.args.toList.map a.eval).toArray := by rw [← Array.toList_map, Array.toArray_toList]
      generalize hvs : c.args.toList.map a.eval = vs at *
      match vs, e1 with
      | [v, u], _ =>
        obtain ⟨x, h1, h2⟩ := maxA_ok h (e2 0 q v rfl rfl) (e2 1 r u rfl rfl) c.argTypes o.type
        exact ⟨x, fun w _ => by simp [resolve, hb, hmap, invoke, builtin, h1], h2⟩
    · cases h
  · rename_i fn first caps ho
    simp only [ho]
    split at h <;> try cases h
    rename_i f ps hf hps
    obtain ⟨e1, e2⟩ := evs_ok hi hr hps
    have hmap : caps.map a.eval = (caps.toList.map a.eval).toArray := by rw [← Array.toList_map, Array.toArray_toList]
    have hf' : first = #[] := by rw [← Array.toArray_toList (xs := first), hf]
    exact ⟨_, fun w _ => by rw [hmap]; simp only [Instr.makeFunc, hf', List.map_toArray, List.map_nil, Sem.run_bind, Sem.run_pure, Result.andThen_ok], .fn f ps (caps.toList.map a.eval) e1 e2⟩
  · cases h

theorem pureOp_ok {N : Nat} {o : Oper} {pf : PF} {σ : AS} {p : PV} (h : pureOp C o pf σ = some p) : Pure C N o pf σ p := by
  intro w0 base s a hi hr
  obtain ⟨v, h1, h2⟩ := pureOp_all h hi hr (fun k ps h => .inr h)
  exact ⟨v, h1 s.w ⟨fun _ _ _ _ _ _ _ => rfl, fun _ _ _ _ _ _ h => h⟩, h2⟩

end
end Go.Sw

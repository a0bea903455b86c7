/- The table with one thing changed: bent. -/
import Derived.Test.YtgabnlkkjmepnaaDoorS23
import Derived.Test.YtgabnlkkjmepnaaDoorS16
import Derived.Test.YtgabnlkkjmepnaaDoorSwM
import Derived.Test.YtgabnlkkjmepnaaDoorSwQ
import Derived.IntWalk
namespace Go.Proofs.YtgabnlkkjmepnaaDoor
open Go.Sw
set_option linter.unusedSimpArgs false
set_option linter.unusedVariables false
attribute [local simp] runOps stepOp pureOp gd isCall inN setd Sw.get params ev evs binV unV convV loadA cellsPV oneB storeA fieldAddrA fieldOff fieldA partA aggOf extractA indexAddrA indexA lenA minmaxA sliceA bnd partsA buildA placesA fillA buildSliceA zerosA chunkA TyD.agg Value.oneCell' Value.cells runPure appA appendA okRow_nil okRow_cons okRow_append resultA ressA resA List.getElem?_append List.set_append Cl_any Cl_val Cl_ptr Cl_agg Cl_tup Cl_fn Cl_rop Cl_sl Sw.take_set Sw.take_set_app Sw.take_app

attribute [local simp] encI encE encS encT okRow_encE okRow_encS okRow_encI
/-- The variables of bent: the source, the table, whose lists lie in variables ie and js. -/
structure BS (σ : AS) (b : Nat) (L : List Int) (u : Tab) (ie ce js cs : Nat) (B : List (List PV)) : Prop where
  len : σ.bx.length + 2 ≤ B.length
  src : ∃ a, a ≤ L.length ∧ B[b]? = some (srcB L a)
  oth : ∀ j, j < σ.bx.length → j ≠ b → B[j]? = σ.bx[j]?
  tab : B[σ.bx.length]? = some [i64 u.version, .bs 23 ie u.entries.length ce, .bs 49 js u.seqs.length cs]
  res : B[σ.bx.length + 1]? = some zeroT
  hie : σ.bx.length + 2 ≤ ie
  hjs : σ.bx.length + 2 ≤ js
  ne : ie ≠ js
  er : ∃ q, B[ie]? = some q ∧ q.length = ce * 5 ∧ u.entries.length ≤ ce ∧ RowsIn 5 q (u.entries.map encE)
  sr : ∃ q, B[js]? = some q ∧ q.length = cs * 2 ∧ u.seqs.length ≤ cs ∧ RowsIn 2 q (u.seqs.map encS)
theorem BS.setsrc {σ : AS} {b : Nat} {L : List Int} {u : Tab} {ie ce js cs : Nat} {B : List (List PV)} (h : BS σ b L u ie ce js cs B) (hb : b < σ.bx.length) {a : Nat} (ha : a ≤ L.length) : BS σ b L u ie ce js cs (B.set b (srcB L a)) where
  len := by simpa using h.len
  src := ⟨a, ha, by have := h.len; rw [List.getElem?_set_self (by omega)]⟩
  oth := fun j hj hne => by rw [List.getElem?_set_ne (Ne.symm hne)]; exact h.oth j hj hne
  tab := by rw [List.getElem?_set_ne (by omega)]; exact h.tab
  res := by rw [List.getElem?_set_ne (by omega)]; exact h.res
  hie := h.hie
  hjs := h.hjs
  ne := h.ne
  er := by have := h.hie; rw [List.getElem?_set_ne (by omega)]; exact h.er
  sr := by have := h.hjs; rw [List.getElem?_set_ne (by omega)]; exact h.sr
theorem BS.setver {σ : AS} {b : Nat} {L : List Int} {u : Tab} {ie ce js cs : Nat} {B : List (List PV)} (h : BS σ b L u ie ce js cs B) (hb : b < σ.bx.length) (v : Int) : BS σ b L ⟨v, u.entries, u.seqs⟩ ie ce js cs (B.set σ.bx.length [i64 v, .bs 23 ie u.entries.length ce, .bs 49 js u.seqs.length cs]) where
  len := by simpa using h.len
  src := let ⟨a, h1, h2⟩ := h.src; ⟨a, h1, by rw [List.getElem?_set_ne (by omega)]; exact h2⟩
  oth := fun j hj hne => by rw [List.getElem?_set_ne (by omega)]; exact h.oth j hj hne
  tab := by have := h.len; rw [List.getElem?_set_self (by omega)]
  res := by rw [List.getElem?_set_ne (by omega)]; exact h.res
  hie := h.hie
  hjs := h.hjs
  ne := h.ne
  er := by have := h.hie; rw [List.getElem?_set_ne (by omega)]; exact h.er
  sr := by have := h.hjs; rw [List.getElem?_set_ne (by omega)]; exact h.sr
theorem BS.setent {σ : AS} {b : Nat} {L : List Int} {u : Tab} {ie ce js cs : Nat} {B : List (List PV)} (h : BS σ b L u ie ce js cs B) (hb : b < σ.bx.length) {k f : Nat} {e e' : Ent} {p : PV} {q : List PV} (hq : B[ie]? = some q) (hk : u.entries[k]? = some e) (hf : f < 5) (he : encE e' = (encE e).set f p) :
    BS σ b L ⟨u.version, u.entries.set k e', u.seqs⟩ ie ce js cs (B.set ie (q.take (k * 5 + f) ++ [p] ++ q.drop (k * 5 + f + 1))) where
  len := by simpa using h.len
  src := let ⟨a, h1, h2⟩ := h.src; ⟨a, h1, by have := h.hie; rw [List.getElem?_set_ne (by omega)]; exact h2⟩
  oth := fun j hj hne => by have := h.hie; rw [List.getElem?_set_ne (by omega)]; exact h.oth j hj hne
  tab := by have := h.hie; rw [List.getElem?_set_ne (by omega), List.length_set]; exact h.tab
  res := by have := h.hie; rw [List.getElem?_set_ne (by omega)]; exact h.res
  hie := h.hie
  hjs := h.hjs
  ne := h.ne
  er := by
    obtain ⟨q', h1, h2, h3, h4⟩ := h.er
    rw [hq] at h1
    cases h1
    have hlt := (List.getElem?_eq_some_iff.1 hq).1
    have hkl := (List.getElem?_eq_some_iff.1 hk).1
    have hkf := mulAdd_lt hkl hf
    have hce : u.entries.length * 5 ≤ q.length := by rw [h2]; exact Nat.mul_le_mul_right _ h3
    refine ⟨_, List.getElem?_set_self hlt, by simp; omega, by simpa using h3, ?_⟩
    have := h4.set (k := k) (f := f) (x := encE e) p (by rw [List.getElem?_map, hk]; rfl) hf (by simpa using hce)
    rwa [← he, ← List.map_set] at this
  sr := by have := h.ne; rw [List.getElem?_set_ne this]; exact h.sr
theorem BS.push {σ : AS} {b : Nat} {L : List Int} {u : Tab} {ie ce js cs : Nat} {B : List (List PV)} (h : BS σ b L u ie ce js cs B) (x : List (List PV)) (hb : b < σ.bx.length) : BS σ b L u ie ce js cs (B ++ x) where
  len := by have := h.len; simp; omega
  src := let ⟨a, h1, h2⟩ := h.src; ⟨a, h1, get_app_of h2 _⟩
  oth := fun j hj hne => by have := h.len; rw [List.getElem?_append_left (by omega)]; exact h.oth j hj hne
  tab := get_app_of h.tab _
  res := get_app_of h.res _
  hie := h.hie
  hjs := h.hjs
  ne := h.ne
  er := let ⟨q, h1, h2⟩ := h.er; ⟨q, get_app_of h1 _, h2⟩
  sr := let ⟨q, h1, h2⟩ := h.sr; ⟨q, get_app_of h1 _, h2⟩
/-- Behind an append to the sequences, the table's cell stored. -/
theorem BS.appS {σ : AS} {b : Nat} {L : List Int} {u : Tab} {ie ce js cs : Nat} {B : List (List PV)} (h : BS σ b L u ie ce js cs B) (hb : b < σ.bx.length) {q : List PV} (hq : B[js]? = some q) (x : Sq) {tk : List (TypeId × Nat)} {p : PV} {σ' : AS} (hA : AppZ 49 2 u.seqs.length cs js q [encS x] ⟨B, tk⟩ p σ') :
    ∃ js' cs', p = .bs 49 js' (u.seqs.length + 1) cs' ∧ σ'.tk = tk ∧ σ'.bx[σ.bx.length]? = some [i64 u.version, .bs 23 ie u.entries.length ce, .bs 49 js u.seqs.length cs] ∧ BS σ b L ⟨u.version, u.entries, u.seqs ++ [x]⟩ ie ce js' cs' (σ'.bx.set σ.bx.length [i64 u.version, .bs 23 ie u.entries.length ce, .bs 49 js' (u.seqs.length + 1) cs']) := by
  obtain ⟨q', h1, h2, h3, h4⟩ := h.sr
  rw [hq] at h1
  cases h1
  have hie := h.hie
  have hjs := h.hjs
  have hne := h.ne
  have hlen := h.len
  have hl5 : ∀ y ∈ [encS x], y.length = 2 := by intro y hy; simp at hy; subst hy; rfl
  have hql : u.seqs.length * 2 ≤ q.length := by rw [h2]; exact Nat.mul_le_mul_right _ h3
  rcases hA with ⟨h0, _⟩ | ⟨_, hc, rfl, rfl⟩ | ⟨_, c', hc, rfl, rfl⟩
  · cases h0
  · refine ⟨js, cs, rfl, rfl, by rw [List.getElem?_set_ne (by omega)]; exact h.tab, ?_⟩
    refine ⟨by simpa using hlen, let ⟨a, k1, k2⟩ := h.src; ⟨a, k1, by rw [List.getElem?_set_ne (by omega), List.getElem?_set_ne (by omega)]; exact k2⟩, fun j hj hne => by rw [List.getElem?_set_ne (by omega), List.getElem?_set_ne (by omega)]; exact h.oth j hj hne, by rw [List.getElem?_set_self (by simp; omega)]; simp, by rw [List.getElem?_set_ne (by omega), List.getElem?_set_ne (by omega)]; exact h.res, hie, hjs, hne, by rw [List.getElem?_set_ne (by omega), List.getElem?_set_ne (by omega)]; exact h.er, ?_⟩
    have hlt := (List.getElem?_eq_some_iff.1 hq).1
    refine ⟨cellsZ 2 u.seqs.length cs q [encS x], by rw [List.getElem?_set_ne (by omega), List.getElem?_set_self hlt], cellsZ_len hl5 hql hc, by simpa using hc, ?_⟩
    have := h4.app (c := cs) (by simp) hl5 hql
    simpa using this
  · refine ⟨B.length, c', rfl, rfl, get_app_of h.tab _, ?_⟩
    have hB := h.push [cellsZ 2 u.seqs.length c' q [encS x]] hb
    refine ⟨by rw [List.length_set]; exact hB.len, let ⟨a, k1, k2⟩ := hB.src; ⟨a, k1, by rw [List.getElem?_set_ne (by omega)]; exact k2⟩, fun j hj hne => by rw [List.getElem?_set_ne (by omega)]; exact hB.oth j hj hne, by rw [List.getElem?_set_self (by simp; omega)]; simp, by rw [List.getElem?_set_ne (by omega)]; exact hB.res, hie, hlen, ?_, by rw [List.getElem?_set_ne (by omega)]; exact hB.er, ?_⟩
    · obtain ⟨qe, k1, _⟩ := h.er
      have := (List.getElem?_eq_some_iff.1 k1).1
      omega
    refine ⟨cellsZ 2 u.seqs.length c' q [encS x], by rw [List.getElem?_set_ne (by omega)]; simp, cellsZ_len hl5 hql hc, by simpa using hc, ?_⟩
    have := h4.app (c := c') (by simp) hl5 hql
    simpa using this
/-- Behind an append to the entries, the table's cell stored. -/
theorem BS.appE {σ : AS} {b : Nat} {L : List Int} {u : Tab} {ie ce js cs : Nat} {B : List (List PV)} (h : BS σ b L u ie ce js cs B) (hb : b < σ.bx.length) {q : List PV} (hq : B[ie]? = some q) (x : Ent) {tk : List (TypeId × Nat)} {p : PV} {σ' : AS} (hA : AppZ 23 5 u.entries.length ce ie q [encE x] ⟨B, tk⟩ p σ') :
    ∃ ie' ce', p = .bs 23 ie' (u.entries.length + 1) ce' ∧ σ'.tk = tk ∧ σ'.bx[σ.bx.length]? = some [i64 u.version, .bs 23 ie u.entries.length ce, .bs 49 js u.seqs.length cs] ∧ BS σ b L ⟨u.version, u.entries ++ [x], u.seqs⟩ ie' ce' js cs (σ'.bx.set σ.bx.length [i64 u.version, .bs 23 ie' (u.entries.length + 1) ce', .bs 49 js u.seqs.length cs]) := by
  obtain ⟨q', h1, h2, h3, h4⟩ := h.er
  rw [hq] at h1
  cases h1
  have hie := h.hie
  have hjs := h.hjs
  have hne := h.ne
  have hlen := h.len
  have hl5 : ∀ y ∈ [encE x], y.length = 5 := by intro y hy; simp at hy; subst hy; rfl
  have hql : u.entries.length * 5 ≤ q.length := by rw [h2]; exact Nat.mul_le_mul_right _ h3
  rcases hA with ⟨h0, _⟩ | ⟨_, hc, rfl, rfl⟩ | ⟨_, c', hc, rfl, rfl⟩
  · cases h0
  · refine ⟨ie, ce, rfl, rfl, by rw [List.getElem?_set_ne (by omega)]; exact h.tab, ?_⟩
    refine ⟨by simpa using hlen, let ⟨a, k1, k2⟩ := h.src; ⟨a, k1, by rw [List.getElem?_set_ne (by omega), List.getElem?_set_ne (by omega)]; exact k2⟩, fun j hj hne => by rw [List.getElem?_set_ne (by omega), List.getElem?_set_ne (by omega)]; exact h.oth j hj hne, by rw [List.getElem?_set_self (by simp; omega)]; simp, by rw [List.getElem?_set_ne (by omega), List.getElem?_set_ne (by omega)]; exact h.res, hie, hjs, hne, ?_, by rw [List.getElem?_set_ne (by omega), List.getElem?_set_ne (by omega)]; exact h.sr⟩
    have hlt := (List.getElem?_eq_some_iff.1 hq).1
    refine ⟨cellsZ 5 u.entries.length ce q [encE x], by rw [List.getElem?_set_ne (by omega), List.getElem?_set_self hlt], cellsZ_len hl5 hql hc, by simpa using hc, ?_⟩
    have := h4.app (c := ce) (by simp) hl5 hql
    simpa using this
  · refine ⟨B.length, c', rfl, rfl, get_app_of h.tab _, ?_⟩
    have hB := h.push [cellsZ 5 u.entries.length c' q [encE x]] hb
    refine ⟨by rw [List.length_set]; exact hB.len, let ⟨a, k1, k2⟩ := hB.src; ⟨a, k1, by rw [List.getElem?_set_ne (by omega)]; exact k2⟩, fun j hj hne => by rw [List.getElem?_set_ne (by omega)]; exact hB.oth j hj hne, by rw [List.getElem?_set_self (by simp; omega)]; simp, by rw [List.getElem?_set_ne (by omega)]; exact hB.res, hlen, hjs, ?_, ?_, by rw [List.getElem?_set_ne (by omega)]; exact hB.sr⟩
    · obtain ⟨qe, k1, _⟩ := h.sr
      have := (List.getElem?_eq_some_iff.1 k1).1
      omega
    refine ⟨cellsZ 5 u.entries.length c' q [encE x], by rw [List.getElem?_set_ne (by omega)]; simp, cellsZ_len hl5 hql hc, by simpa using hc, ?_⟩
    have := h4.app (c := c') (by simp) hl5 hql
    simpa using this

theorem BS.frz {σ : AS} {b : Nat} {L : List Int} {u : Tab} {ie ce js cs : Nat} {B : List (List PV)} (h : BS σ b L u ie ce js cs B) (x : List PV) (tk : List (TypeId × Nat)) (k : Nat) :
    Frz Cc ⟨B.set (σ.bx.length + 1) x, tk⟩ σ.bx.length k (.agg [i64 u.version, .bs 23 ie u.entries.length ce, .bs 49 js u.seqs.length cs]) (.agg (encT u)) := by
  have hie := h.hie
  have hjs := h.hjs
  obtain ⟨q1, a1, a2, a3, a4⟩ := h.er
  obtain ⟨q2, b1, b2, b3, b4⟩ := h.sr
  refine Frz.agg (show FrzL Cc _ _ _ [i64 u.version, .bs 23 ie u.entries.length ce, .bs 49 js u.seqs.length cs] [i64 u.version, .sl none (u.entries.map encE), .sl none (u.seqs.map encS)] from ⟨Frz.cl (.val _), ?_, ?_, trivial⟩)
  · exact Frz.bz T23 (by omega) (ps := q1) (by show (B.set _ x)[ie]? = _; rw [List.getElem?_set_ne (by omega)]; exact a1) a4 (by simp) (frzB_refl (encEs_in _ _ _))
  · exact Frz.bz T49 (by omega) (ps := q2) (by show (B.set _ x)[js]? = _; rw [List.getElem?_set_ne (by omega)]; exact b1) b4 (by simp) (frzB_refl (encSs_in _ _ _))
theorem TabOK.setver {u : Tab} (h : TabOK u) {v : Int} (hv : I64 v) : TabOK ⟨v, u.entries, u.seqs⟩ := ⟨hv, h.entries, h.seqs, h.elen, h.slen⟩
theorem TabOK.setent {u : Tab} (h : TabOK u) (k : Nat) {e : Ent} (he : EntOK e) : TabOK ⟨u.version, u.entries.set k e, u.seqs⟩ := ⟨h.version, fun x hx => by
  rcases List.mem_or_eq_of_mem_set hx with hx | rfl
  · exact h.entries x hx
  · exact he, h.seqs, by simpa using h.elen, h.slen⟩
theorem TabOK.appS {u : Tab} (h : TabOK u) {x : Sq} (hx : SqOK x) (hl : u.seqs.length ≤ 999999) : TabOK ⟨u.version, u.entries, u.seqs ++ [x]⟩ := ⟨h.version, h.entries, fun y hy => by
  rcases List.mem_append.1 hy with hy | hy
  · exact h.seqs y hy
  · simp at hy; subst hy; exact hx, h.elen, by simp; omega⟩
theorem TabOK.appE {u : Tab} (h : TabOK u) {x : Ent} (hx : EntOK x) (hl : u.entries.length ≤ 999999) : TabOK ⟨u.version, u.entries ++ [x], u.seqs⟩ := ⟨h.version, fun y hy => by
  rcases List.mem_append.1 hy with hy | hy
  · exact h.entries y hy
  · simp at hy; subst hy; exact hx, h.seqs, by simp; omega, h.slen⟩

theorem Cs_fsc {args : List PV} {σh σ : AS} {b : Nat} {L : List Int} {a : Nat} {n : Int} (hk : keep σh b = false) (hx : σ.bx[b]? = some (srcB L a)) (h : ∀ σs : AS, σs.bx[b]? = some (srcB L a) → SC Cc 17 args σs (Cs b L σs n)) : FSC Cc 17 args σh σ (Cs b L σ n) :=
  FSC.box (R := fun r y => ∃ (xs : List Int) (a' : Nat), xs.length ≤ n.toNat ∧ (∀ x ∈ xs, drawn x) ∧ a' ≤ L.length ∧ r = .sl none (xs.map encI) ∧ y = srcB L a') hk hx (fun σs h1 => (h σs h1).mono fun r σ' ⟨v, a', p1, p2, p3, p4, p5⟩ => ⟨_, ⟨v, a', p1, p2, p3, p4, rfl⟩, p5⟩) (fun r y ⟨v, a', p1, p2, p3, p4, p5⟩ => ⟨v, a', p1, p2, p3, p4, by rw [p5]⟩)
abbrev BA := Nat × Nat × Nat × Nat × List (List PV)
theorem bent_sc (b : Nat) (L : List Int) (a : Nat) (t : Tab) (σ : AS) (hb : σ.bx[b]? = some (srcB L a)) (ha : a ≤ L.length) (hL : L.length ≤ 2000) (ht : TabOK t) (hel : t.entries.length = 11) (hsl : t.seqs.length ≤ 3) :
    SC Cc 24 [.ptr b 0, .agg (encT t)] σ (fun r σ' => ∃ (u : Tab) (a' : Nat), TabOK u ∧ a' ≤ L.length ∧ r = .agg (encT u) ∧ σ' = ⟨σ.bx.set b (srcB L a'), σ.tk⟩) := by
  have hbl := (List.getElem?_eq_some_iff.1 hb).1
  refine W.body Tryd.func24 rfl 109 Tryd.ntmps24 _ Tryd.results24 (by simp) GEt_cl fun hσ => ?_
  with_reducible refine W.seq ?_
  with_reducible apply W.reg
  case h => simp [T30, T3, T27, T28]; exact ⟨rfl, rfl, rfl⟩
  with_reducible refine W.nil ?_
  with_reducible refine W.next ?_
  have hE5 : ∀ y ∈ t.entries.map encE, y.length = 5 := okRow_len (okRow_encE t.entries)
  have hS2 : ∀ y ∈ t.seqs.map encS, y.length = 2 := okRow_len (okRow_encS t.seqs)
  refine W.seqM (α := Nat × List PV) (fun _ => [(0, .ptr b 0), (3, .ptr σ.bx.length 0), (4, .ptr (σ.bx.length + 1) 0)]) (fun x => ⟨σ.bx ++ [[i64 t.version, .bs 23 (σ.bx.length + 3) t.entries.length x.1, .sl none (t.seqs.map encS)], zeroT, [], x.2], σ.tk⟩) (fun x => t.entries.length ≤ x.1 ∧ x.2 = cellsZ 5 0 x.1 [] (t.entries.map encE)) ?_ ?_
  · with_reducible apply W.regN 0
    case h => simp [T27]; exact ⟨rfl, rfl⟩
    refine W.list (by simp only [List.drop_succ_cons, List.drop_zero]; rfl) ?_
    with_reducible apply W.lit0
    case ho => rfl
    case hb => simp [T27, T23]; rfl
    case hg => rfl
    case hdst => rfl
    with_reducible apply W.runN 2
    case h => simp [T27, T30]; exact ⟨rfl, rfl⟩
    refine W.list (by simp only [List.drop_succ_cons, List.drop_zero]; rfl) ?_
    with_reducible apply W.appZ
    case ho => rfl
    case hc => rfl
    case hA => rfl
    case hT => rfl
    case hy => exact T27
    case hd => rfl
    case hz => exact T23
    case hzp => decide
    case hzb => decide
    case hg => rfl
    case hdst => rfl
    case hx => rfl
    case hq => simp; rfl
    case hu => rfl
    case hys => exact okRow_encE t.entries
    case hbytes => show (0 + (t.entries.map encE).length) * 40 ≤ 140737488355328; rw [List.length_map, hel]; decide
    rintro _ _ (⟨h, _⟩ | ⟨_, h, _⟩ | ⟨_, c, hc, rfl, rfl⟩)
    · exfalso; have h := congrArg List.length h; simp [hel] at h
    · exfalso; simp [hel] at h
    · repeat' (first
        | with_reducible refine W.seq ?_
        | with_reducible refine W.next ?_
        | with_reducible refine W.nil ?_
        | with_reducible refine W.skip ?_
        | with_reducible refine W.ret ?_
        | with_reducible refine W.ret_code ?_
        | with_reducible refine W.block ?_
        | with_reducible refine W.out ?_
        | with_reducible refine W.ret_blk ?_
        | with_reducible refine W.exit ?_
        | with_reducible refine W.exit_code ?_
        | with_reducible refine W.exit_here ?_
        | with_reducible refine W.leave_exit ?_
        | with_reducible refine W.leave_ret ?_
        | ((with_reducible refine W.exit_on ?h ?_); (case h => decide))
        | ((with_reducible apply W.reg); (case h => simp [T27, T30]; exact ⟨rfl, rfl, rfl⟩))
        | ((with_reducible apply W.draw mixed); (case hB => kernel_rfl); (case hr => simp [T27, T30]; rfl))
        | ((with_reducible apply W.cond); (case hc => simp; rfl); all_goals (intro hc_; try (cases hc_; done)))
        | ((with_reducible apply W.runX); (case _hc => rfl); (case h => simp [T27, T30]; exact ⟨rfl, rfl, rfl⟩))
        | fail)
      refine W.mid (c, cellsZ 5 0 c [] (t.entries.map encE)) ⟨by simpa using hc, rfl⟩ ?_ rfl
      repeat (first | exact Sw.Sub.nil | refine Sw.Sub.cons (by simp) ?_)
  rintro ⟨ce, qe⟩ ⟨hce, hqe⟩
  dsimp only at hce hqe ⊢
  have hqel : qe.length = ce * 5 := by rw [hqe]; exact cellsZ_len hE5 (by simp) (by simpa using hce)
  have hqer : RowsIn 5 qe (t.entries.map encE) := by
    have := RowsIn.app (c := ce) (RowsIn.nil 5 []) rfl hE5 (by simp)
    rw [hqe]
    simpa using this
  clear hqe
  refine W.seqM (α := BA) (fun _ => [(0, .ptr b 0), (3, .ptr σ.bx.length 0), (4, .ptr (σ.bx.length + 1) 0)]) (fun x => ⟨x.2.2.2.2, σ.tk⟩) (fun x => BS σ b L t x.1 x.2.1 x.2.2.1 x.2.2.2.1 x.2.2.2.2) ?_ ?_
  · with_reducible apply W.regN 0
    case h => simp [T27]; exact ⟨rfl, rfl⟩
    refine W.list (by simp only [List.drop_succ_cons, List.drop_zero]; rfl) ?_
    with_reducible apply W.lit0
    case ho => rfl
    case hb => simp [T28, T49]; rfl
    case hg => rfl
    case hdst => rfl
    with_reducible apply W.runN 2
    case h => simp [T28, T30]; exact ⟨rfl, rfl⟩
    refine W.list (by simp only [List.drop_succ_cons, List.drop_zero]; rfl) ?_
    with_reducible apply W.appZ
    case ho => rfl
    case hc => rfl
    case hA => rfl
    case hT => rfl
    case hy => exact T28
    case hd => rfl
    case hz => exact T49
    case hzp => decide
    case hzb => decide
    case hg => rfl
    case hdst => rfl
    case hx => rfl
    case hq => simp; rfl
    case hu => rfl
    case hys => exact okRow_encS t.seqs
    case hbytes => show (0 + (t.seqs.map encS).length) * 32 ≤ 140737488355328; rw [List.length_map]; omega
    have hoth : ∀ (x : List (List PV)), (∀ j, j < σ.bx.length → j ≠ b → (σ.bx ++ x)[j]? = σ.bx[j]?) := fun x j hj _ => List.getElem?_append_left hj
    rintro _ _ (⟨h, rfl, rfl⟩ | ⟨_, h, _⟩ | ⟨h, c, hc, rfl, rfl⟩)
    · have h0 : t.seqs = [] := by simpa using h
      repeat' (first
        | with_reducible refine W.seq ?_
        | with_reducible refine W.next ?_
        | with_reducible refine W.nil ?_
        | with_reducible refine W.skip ?_
        | with_reducible refine W.ret ?_
        | with_reducible refine W.ret_code ?_
        | with_reducible refine W.block ?_
        | with_reducible refine W.out ?_
        | with_reducible refine W.ret_blk ?_
        | with_reducible refine W.exit ?_
        | with_reducible refine W.exit_code ?_
        | with_reducible refine W.exit_here ?_
        | with_reducible refine W.leave_exit ?_
        | with_reducible refine W.leave_ret ?_
        | ((with_reducible refine W.exit_on ?h ?_); (case h => decide))
        | ((with_reducible apply W.reg); (case h => simp [T28, T30]; exact ⟨rfl, rfl, rfl⟩))
        | ((with_reducible apply W.draw mixed); (case hB => kernel_rfl); (case hr => simp [T28, T30]; rfl))
        | ((with_reducible apply W.cond); (case hc => simp; rfl); all_goals (intro hc_; try (cases hc_; done)))
        | ((with_reducible apply W.runX); (case _hc => rfl); (case h => simp [T28, T30]; exact ⟨rfl, rfl, rfl⟩))
        | fail)
      refine W.mid (σ.bx.length + 3, ce, σ.bx.length + 4, 0, _) ?_ ?_ rfl
      · dsimp only
        refine ⟨by simp, ⟨a, ha, get_app_of hb _⟩, hoth _, by simp [h0], by simp [zeroT], by omega, by omega, by omega, ⟨qe, by simp, hqel, hce, hqer⟩, ⟨[], by simp, by simp, by simp [h0], by rw [h0]; exact RowsIn.nil _ _⟩⟩
      · repeat (first | exact Sw.Sub.nil | refine Sw.Sub.cons (by simp) ?_)
    · exfalso
      have h1 : (t.seqs.map encS).length = 0 := by omega
      exact absurd (List.eq_nil_of_length_eq_zero h1) (by assumption)
    · repeat' (first
        | with_reducible refine W.seq ?_
        | with_reducible refine W.next ?_
        | with_reducible refine W.nil ?_
        | with_reducible refine W.skip ?_
        | with_reducible refine W.ret ?_
        | with_reducible refine W.ret_code ?_
        | with_reducible refine W.block ?_
        | with_reducible refine W.out ?_
        | with_reducible refine W.ret_blk ?_
        | with_reducible refine W.exit ?_
        | with_reducible refine W.exit_code ?_
        | with_reducible refine W.exit_here ?_
        | with_reducible refine W.leave_exit ?_
        | with_reducible refine W.leave_ret ?_
        | ((with_reducible refine W.exit_on ?h ?_); (case h => decide))
        | ((with_reducible apply W.reg); (case h => simp [T28, T30]; exact ⟨rfl, rfl, rfl⟩))
        | ((with_reducible apply W.draw mixed); (case hB => kernel_rfl); (case hr => simp [T28, T30]; rfl))
        | ((with_reducible apply W.cond); (case hc => simp; rfl); all_goals (intro hc_; try (cases hc_; done)))
        | ((with_reducible apply W.runX); (case _hc => rfl); (case h => simp [T28, T30]; exact ⟨rfl, rfl, rfl⟩))
        | fail)
      refine W.mid (σ.bx.length + 3, ce, σ.bx.length + 5, c, _) ?_ ?_ rfl
      · have hX : RowsIn 2 (cellsZ 2 0 c [] (t.seqs.map encS)) (t.seqs.map encS) := by simpa using RowsIn.app (c := c) (RowsIn.nil 2 []) rfl hS2 (by simp)
        have hXl : (cellsZ 2 0 c [] (t.seqs.map encS)).length = c * 2 := cellsZ_len hS2 (by simp) (by simpa using hc)
        dsimp only
        exact ⟨by simp, ⟨a, ha, get_app_of hb _⟩, hoth _, by simp, by simp [zeroT], by omega, by omega, by omega, ⟨qe, by simp, hqel, hce, hqer⟩, ⟨_, by simp, hXl, by simpa using hc, hX⟩⟩
      · repeat (first | exact Sw.Sub.nil | refine Sw.Sub.cons (by simp) ?_)
  rintro ⟨ie, ce, js, cs, B⟩ hB
  dsimp only at hB ⊢
  clear hqer hqel hce qe
  obtain ⟨a1, ha1, hsrc⟩ := hB.src
  have hTab := hB.tab
  refine W.seqM (α := Nat × List (List PV)) (fun x => [(0, .ptr b 0), (3, .ptr σ.bx.length 0), (4, .ptr (σ.bx.length + 1) 0), (5, .ptr ie (x.1 * 5))]) (fun x => ⟨x.2, σ.tk⟩) (fun x => x.1 < t.entries.length ∧ BS σ b L t ie ce js cs x.2) ?_ ?_
  · with_reducible apply W.heldB mixed (b) 9 [0, 1, 2, 3, 4, 5]
    case hn => rfl
    have hbn : ∀ x, (B.set b x)[σ.bx.length]? = some [i64 t.version, .bs 23 ie t.entries.length ce, .bs 49 js t.seqs.length cs] := fun x => by rw [List.getElem?_set_ne (by omega)]; exact hTab
    with_reducible apply SH.takes [0, 1, 2, 3, 4, 5] 3
    case hfu => rfl
    case hs => kernel_rfl
    case hB => kernel_rfl
    case hQ => first | exact fun _ _ _ h => h | exact fun _ _ _ h => hNP _ _ _ h
    case hs0 => exact Sub0.hideB _ _
    case hr => simp [T3, T23, T27, T30, hTab, hbn, runTakes, takeOp, effA, effOp, down, down1, hideB, keep]; exact ⟨rfl, rfl⟩
    with_reducible apply SH.one 6
    case hr => kernel_rfl
    with_reducible apply SHo.callX go10
    case hi => rfl
    case ho => rfl
    case hc => rfl
    case hf => rfl
    case hg => first | rfl | simp [T3, T23, T27, T30, hTab, hbn, runTakes, takeOp, effA, effOp, down, down1, hideB, keep]
    case hd => rfl
    case ha => simp [T3, T23, T27, T30, hTab, hbn, runTakes, takeOp, effA, effOp, down, down1, hideB, keep]; rfl
    case hargs => rfl
    case hs => exact Nx_fsc (keep_hideB _ _) hsrc (fun σs h => N_sc b L a1 _ σs h ha1 hL)
    rintro _ _ ⟨w, a2, hw, ha2, rfl, rfl⟩
    have hw := hw.2 (by omega) (by omega)
    have hw0 := hw.1
    have hwn := hw.2
    with_reducible apply SH.one 7
    case hr => kernel_rfl
    with_reducible apply SHo.lastX
    case hnd => kernel_rfl
    case he => simp [T3, T23, T27, T30, hTab, hbn, hw0, hwn, runTakes, takeOp, effA, effOp, down, down1, hideB, keep, lastA]; exact ⟨rfl, rfl, rfl⟩
    with_reducible apply SH.one 8
    case hr => kernel_rfl
    with_reducible apply SHo.lastX
    case hnd => kernel_rfl
    case he => simp [T3, T23, T27, T30, hTab, hbn, hw0, hwn, runTakes, takeOp, effA, effOp, down, down1, hideB, keep, lastA]; exact ⟨rfl, rfl, rfl⟩
    refine SH.done (by kernel_rfl) ?_
    refine W.mid (w.toNat, B.set b (srcB L a2)) ⟨by dsimp only; omega, hB.setsrc hbl ha2⟩ ?_ rfl
    repeat (first | exact Sw.Sub.nil | refine Sw.Sub.cons (by simp) ?_)
  clear hTab hsrc ha1 a1 hB B
  rintro ⟨k, B⟩ ⟨hk, hB⟩
  dsimp only at hk hB ⊢
  obtain ⟨a1, ha1, hsrc⟩ := hB.src
  have hTab := hB.tab
  refine W.seqM (α := Tab × BA) (fun x => [(0, .ptr b 0), (3, .ptr σ.bx.length 0), (4, .ptr (σ.bx.length + 1) 0)]) (fun x => ⟨x.2.2.2.2.2, σ.tk⟩) (fun x => TabOK x.1 ∧ BS σ b L x.1 x.2.1 x.2.2.1 x.2.2.2.1 x.2.2.2.2.1 x.2.2.2.2.2) ?_ ?_
  · skip
    obtain ⟨e, he⟩ : ∃ e, t.entries[k]? = some e := ⟨_, List.getElem?_eq_getElem hk⟩
    have heo : EntOK e := ht.entries e (List.mem_of_getElem? he)
    have hset : ∀ (f : Nat) (x : PV) (q : List PV), q.take (k * 5 + f) ++ [x] ++ q.drop (k * 5 + f + 1) = q.take (k * 5 + f) ++ x :: q.drop (k * 5 + f + 1) := fun f x q => by simp
    repeat' (first
      | with_reducible refine W.seq ?_
      | with_reducible refine W.next ?_
      | with_reducible refine W.nil ?_
      | with_reducible refine W.skip ?_
      | with_reducible refine W.ret ?_
      | with_reducible refine W.ret_code ?_
      | with_reducible refine W.block ?_
      | with_reducible refine W.out ?_
      | with_reducible refine W.ret_blk ?_
      | with_reducible refine W.exit ?_
      | with_reducible refine W.exit_code ?_
      | with_reducible refine W.exit_here ?_
      | with_reducible refine W.leave_exit ?_
      | with_reducible refine W.leave_ret ?_
      | ((with_reducible refine W.exit_on ?h ?_); (case h => decide))
      | ((with_reducible apply W.reg); (case h => simp [T3, T23, T24, T27, T28, T30, T49]; exact ⟨rfl, rfl, rfl⟩))
      | ((with_reducible apply W.draw mixed); (case hB => kernel_rfl); (case hr => simp [T3, T23, T24, T27, T28, T30, T49]; rfl))
      | ((with_reducible apply W.cond); (case hc => simp; rfl); all_goals (intro hc_; try (cases hc_; done)))
      | ((with_reducible apply W.runX); (case _hc => rfl); (case h => simp [T3, T23, T24, T27, T28, T30, T49]; exact ⟨rfl, rfl, rfl⟩))
      | ((with_reducible apply W.callR go10); (case ho => rfl); (case hc => rfl); (case hf => rfl); (case hg => first | rfl | simp [T3, T23, T24, T27, T28, T30, T49]); (case hd => rfl); (case ha => simp [T3, T23, T24, T27, T28, T30, T49]; rfl); (case hargs => rfl); (case hs => exact N_sc b L a1 _ _ hsrc ha1 hL); rintro _ _ ⟨w, a2, hw, ha2, rfl, rfl⟩; have hw := hw.2 (by omega) (by omega); have hB2 := hB.setsrc hbl ha2; generalize B.set b (srcB L a2) = B2 at *; obtain ⟨a3, ha3, hsrc3⟩ := hB2.src; have hTab2 := hB2.tab)
      | fail)
    · skip
      repeat' (first
        | with_reducible refine W.seq ?_
        | with_reducible refine W.next ?_
        | with_reducible refine W.nil ?_
        | with_reducible refine W.skip ?_
        | with_reducible refine W.ret ?_
        | with_reducible refine W.ret_code ?_
        | with_reducible refine W.block ?_
        | with_reducible refine W.out ?_
        | with_reducible refine W.ret_blk ?_
        | with_reducible refine W.exit ?_
        | with_reducible refine W.exit_code ?_
        | with_reducible refine W.exit_here ?_
        | with_reducible refine W.leave_exit ?_
        | with_reducible refine W.leave_ret ?_
        | ((with_reducible refine W.exit_on ?h ?_); (case h => decide))
        | ((with_reducible apply W.reg); (case h => simp [T3, T23, T24, T27, T28, T30, T49]; exact ⟨rfl, rfl, rfl⟩))
        | ((with_reducible apply W.draw mixed); (case hB => kernel_rfl); (case hr => simp [T3, T23, T24, T27, T28, T30, T49]; rfl))
        | ((with_reducible apply W.cond); (case hc => simp; rfl); all_goals (intro hc_; try (cases hc_; done)))
        | ((with_reducible apply W.runX); (case _hc => rfl); (case h => simp [T3, T23, T24, T27, T28, T30, T49]; exact ⟨rfl, rfl, rfl⟩))
        | ((with_reducible apply W.callR go30); (case ho => rfl); (case hc => rfl); (case hf => rfl); (case hg => first | rfl | simp [T3, T23, T24, T27, T28, T30, T49]); (case hd => rfl); (case ha => simp [T3, T23, T24, T27, T28, T30, T49]; rfl); (case hargs => rfl); (case hs => exact Pick_sc b L a3 [0, 1, 99, 100] _ hsrc3 ha3 hL (by decide) (by decide)); rintro _ _ ⟨w2, a4, hw2, ha4, rfl, rfl⟩; have hB4 := hB2.setsrc hbl ha4; generalize B2.set b (srcB L a4) = B4 at *; have hTab4 := hB4.tab)
        | fail)
      have hwb : I64 w2 := by
        simp only [List.mem_cons, List.not_mem_nil, or_false] at hw2
        unfold I64
        omega
      repeat' (first
        | with_reducible refine W.seq ?_
        | with_reducible refine W.next ?_
        | with_reducible refine W.nil ?_
        | with_reducible refine W.skip ?_
        | with_reducible refine W.ret ?_
        | with_reducible refine W.ret_code ?_
        | with_reducible refine W.block ?_
        | with_reducible refine W.out ?_
        | with_reducible refine W.ret_blk ?_
        | with_reducible refine W.exit ?_
        | with_reducible refine W.exit_code ?_
        | with_reducible refine W.exit_here ?_
        | with_reducible refine W.leave_exit ?_
        | with_reducible refine W.leave_ret ?_
        | ((with_reducible refine W.exit_on ?h ?_); (case h => decide))
        | ((with_reducible apply W.reg); (case h => simp [T3, T23, T24, T27, T28, T30, T49, hTab4]; exact ⟨rfl, rfl, rfl⟩))
        | ((with_reducible apply W.draw mixed); (case hB => kernel_rfl); (case hr => simp [T3, T23, T24, T27, T28, T30, T49, hTab4]; rfl))
        | ((with_reducible apply W.cond); (case hc => simp; rfl); all_goals (intro hc_; try (cases hc_; done)))
        | ((with_reducible apply W.runX); (case _hc => rfl); (case h => simp [T3, T23, T24, T27, T28, T30, T49, hTab4]; exact ⟨rfl, rfl, rfl⟩))
        | fail)
      refine W.mid (⟨w2, t.entries, t.seqs⟩, ie, ce, js, cs, _) ⟨ht.setver hwb, hB4.setver hbl w2⟩ ?_ (by first | rfl | simp)
      repeat (first | exact Sw.Sub.nil | refine Sw.Sub.cons (by simp) ?_)
    · skip
      repeat' (first
        | with_reducible refine W.seq ?_
        | with_reducible refine W.next ?_
        | with_reducible refine W.nil ?_
        | with_reducible refine W.skip ?_
        | with_reducible refine W.ret ?_
        | with_reducible refine W.ret_code ?_
        | with_reducible refine W.block ?_
        | with_reducible refine W.out ?_
        | with_reducible refine W.ret_blk ?_
        | with_reducible refine W.exit ?_
        | with_reducible refine W.exit_code ?_
        | with_reducible refine W.exit_here ?_
        | with_reducible refine W.leave_exit ?_
        | with_reducible refine W.leave_ret ?_
        | ((with_reducible refine W.exit_on ?h ?_); (case h => decide))
        | ((with_reducible apply W.reg); (case h => simp [T3, T23, T24, T27, T28, T30, T49]; exact ⟨rfl, rfl, rfl⟩))
        | ((with_reducible apply W.draw mixed); (case hB => kernel_rfl); (case hr => simp [T3, T23, T24, T27, T28, T30, T49]; rfl))
        | ((with_reducible apply W.cond); (case hc => simp; rfl); all_goals (intro hc_; try (cases hc_; done)))
        | ((with_reducible apply W.runX); (case _hc => rfl); (case h => simp [T3, T23, T24, T27, T28, T30, T49]; exact ⟨rfl, rfl, rfl⟩))
        | ((with_reducible apply W.callR go30); (case ho => rfl); (case hc => rfl); (case hf => rfl); (case hg => first | rfl | simp [T3, T23, T24, T27, T28, T30, T49]); (case hd => rfl); (case ha => simp [T3, T23, T24, T27, T28, T30, T49]; rfl); (case hargs => rfl); (case hs => exact Pick_sc b L a3 [1, 2, 24, 25] _ hsrc3 ha3 hL (by decide) (by decide)); rintro _ _ ⟨w2, a4, hw2, ha4, rfl, rfl⟩; have hB4 := hB2.setsrc hbl ha4; generalize B2.set b (srcB L a4) = B4 at *; have hTab4 := hB4.tab)
        | fail)
      have hwb : I64 w2 := by
        simp only [List.mem_cons, List.not_mem_nil, or_false] at hw2
        unfold I64
        omega
      obtain ⟨q, hq, hql, hec, hqr⟩ := hB4.er
      have hfit : k * 5 + 2 + 1 ≤ q.length := by rw [hql]; have := Nat.mul_le_mul_right 5 (Nat.le_trans (Nat.succ_le_of_lt hk) hec); omega
      repeat' (first
        | with_reducible refine W.seq ?_
        | with_reducible refine W.next ?_
        | with_reducible refine W.nil ?_
        | with_reducible refine W.skip ?_
        | with_reducible refine W.ret ?_
        | with_reducible refine W.ret_code ?_
        | with_reducible refine W.block ?_
        | with_reducible refine W.out ?_
        | with_reducible refine W.ret_blk ?_
        | with_reducible refine W.exit ?_
        | with_reducible refine W.exit_code ?_
        | with_reducible refine W.exit_here ?_
        | with_reducible refine W.leave_exit ?_
        | with_reducible refine W.leave_ret ?_
        | ((with_reducible refine W.exit_on ?h ?_); (case h => decide))
        | ((with_reducible apply W.reg); (case h => simp [T3, T23, T24, T27, T28, T30, T49, hTab4, hq, hfit]; exact ⟨rfl, rfl, rfl⟩))
        | ((with_reducible apply W.draw mixed); (case hB => kernel_rfl); (case hr => simp [T3, T23, T24, T27, T28, T30, T49, hTab4, hq, hfit]; rfl))
        | ((with_reducible apply W.cond); (case hc => simp; rfl); all_goals (intro hc_; try (cases hc_; done)))
        | ((with_reducible apply W.runX); (case _hc => rfl); (case h => simp [T3, T23, T24, T27, T28, T30, T49, hTab4, hq, hfit]; exact ⟨rfl, rfl, rfl⟩))
        | fail)
      refine W.mid (⟨t.version, t.entries.set k ⟨e.code, e.element, w2, e.scale, e.least⟩, t.seqs⟩, ie, ce, js, cs, _) ⟨ht.setent k ⟨heo.code, heo.element, hwb, heo.scale, heo.least⟩, hB4.setent (f := 2) (p := i64 w2) hbl hq he (by decide) rfl⟩ ?_ (by first | rfl | simp)
      repeat (first | exact Sw.Sub.nil | refine Sw.Sub.cons (by simp) ?_)
    · skip
      repeat' (first
        | with_reducible refine W.seq ?_
        | with_reducible refine W.next ?_
        | with_reducible refine W.nil ?_
        | with_reducible refine W.skip ?_
        | with_reducible refine W.ret ?_
        | with_reducible refine W.ret_code ?_
        | with_reducible refine W.block ?_
        | with_reducible refine W.out ?_
        | with_reducible refine W.ret_blk ?_
        | with_reducible refine W.exit ?_
        | with_reducible refine W.exit_code ?_
        | with_reducible refine W.exit_here ?_
        | with_reducible refine W.leave_exit ?_
        | with_reducible refine W.leave_ret ?_
        | ((with_reducible refine W.exit_on ?h ?_); (case h => decide))
        | ((with_reducible apply W.reg); (case h => simp [T3, T23, T24, T27, T28, T30, T49]; exact ⟨rfl, rfl, rfl⟩))
        | ((with_reducible apply W.draw mixed); (case hB => kernel_rfl); (case hr => simp [T3, T23, T24, T27, T28, T30, T49]; rfl))
        | ((with_reducible apply W.cond); (case hc => simp; rfl); all_goals (intro hc_; try (cases hc_; done)))
        | ((with_reducible apply W.runX); (case _hc => rfl); (case h => simp [T3, T23, T24, T27, T28, T30, T49]; exact ⟨rfl, rfl, rfl⟩))
        | ((with_reducible apply W.callR go30); (case ho => rfl); (case hc => rfl); (case hf => rfl); (case hg => first | rfl | simp [T3, T23, T24, T27, T28, T30, T49]); (case hd => rfl); (case ha => simp [T3, T23, T24, T27, T28, T30, T49]; rfl); (case hargs => rfl); (case hs => exact Pick_sc b L a3 [0, 1, 1000, 1001] _ hsrc3 ha3 hL (by decide) (by decide)); rintro _ _ ⟨w2, a4, hw2, ha4, rfl, rfl⟩; have hB4 := hB2.setsrc hbl ha4; generalize B2.set b (srcB L a4) = B4 at *; have hTab4 := hB4.tab)
        | fail)
      have hwb : I64 w2 := by
        simp only [List.mem_cons, List.not_mem_nil, or_false] at hw2
        unfold I64
        omega
      obtain ⟨q, hq, hql, hec, hqr⟩ := hB4.er
      have hfit : k * 5 + 3 + 1 ≤ q.length := by rw [hql]; have := Nat.mul_le_mul_right 5 (Nat.le_trans (Nat.succ_le_of_lt hk) hec); omega
      repeat' (first
        | with_reducible refine W.seq ?_
        | with_reducible refine W.next ?_
        | with_reducible refine W.nil ?_
        | with_reducible refine W.skip ?_
        | with_reducible refine W.ret ?_
        | with_reducible refine W.ret_code ?_
        | with_reducible refine W.block ?_
        | with_reducible refine W.out ?_
        | with_reducible refine W.ret_blk ?_
        | with_reducible refine W.exit ?_
        | with_reducible refine W.exit_code ?_
        | with_reducible refine W.exit_here ?_
        | with_reducible refine W.leave_exit ?_
        | with_reducible refine W.leave_ret ?_
        | ((with_reducible refine W.exit_on ?h ?_); (case h => decide))
        | ((with_reducible apply W.reg); (case h => simp [T3, T23, T24, T27, T28, T30, T49, hTab4, hq, hfit]; exact ⟨rfl, rfl, rfl⟩))
        | ((with_reducible apply W.draw mixed); (case hB => kernel_rfl); (case hr => simp [T3, T23, T24, T27, T28, T30, T49, hTab4, hq, hfit]; rfl))
        | ((with_reducible apply W.cond); (case hc => simp; rfl); all_goals (intro hc_; try (cases hc_; done)))
        | ((with_reducible apply W.runX); (case _hc => rfl); (case h => simp [T3, T23, T24, T27, T28, T30, T49, hTab4, hq, hfit]; exact ⟨rfl, rfl, rfl⟩))
        | fail)
      refine W.mid (⟨t.version, t.entries.set k ⟨e.code, e.element, e.width, w2, e.least⟩, t.seqs⟩, ie, ce, js, cs, _) ⟨ht.setent k ⟨heo.code, heo.element, heo.width, hwb, heo.least⟩, hB4.setent (f := 3) (p := i64 w2) hbl hq he (by decide) rfl⟩ ?_ (by first | rfl | simp)
      repeat (first | exact Sw.Sub.nil | refine Sw.Sub.cons (by simp) ?_)
    · skip
      repeat' (first
        | with_reducible refine W.seq ?_
        | with_reducible refine W.next ?_
        | with_reducible refine W.nil ?_
        | with_reducible refine W.skip ?_
        | with_reducible refine W.ret ?_
        | with_reducible refine W.ret_code ?_
        | with_reducible refine W.block ?_
        | with_reducible refine W.out ?_
        | with_reducible refine W.ret_blk ?_
        | with_reducible refine W.exit ?_
        | with_reducible refine W.exit_code ?_
        | with_reducible refine W.exit_here ?_
        | with_reducible refine W.leave_exit ?_
        | with_reducible refine W.leave_ret ?_
        | ((with_reducible refine W.exit_on ?h ?_); (case h => decide))
        | ((with_reducible apply W.reg); (case h => simp [T3, T23, T24, T27, T28, T30, T49]; exact ⟨rfl, rfl, rfl⟩))
        | ((with_reducible apply W.draw mixed); (case hB => kernel_rfl); (case hr => simp [T3, T23, T24, T27, T28, T30, T49]; rfl))
        | ((with_reducible apply W.cond); (case hc => simp; rfl); all_goals (intro hc_; try (cases hc_; done)))
        | ((with_reducible apply W.runX); (case _hc => rfl); (case h => simp [T3, T23, T24, T27, T28, T30, T49]; exact ⟨rfl, rfl, rfl⟩))
        | ((with_reducible apply W.callR go30); (case ho => rfl); (case hc => rfl); (case hf => rfl); (case hg => first | rfl | simp [T3, T23, T24, T27, T28, T30, T49]); (case hd => rfl); (case ha => simp [T3, T23, T24, T27, T28, T30, T49]; rfl); (case hargs => rfl); (case hs => exact Pick_sc b L a3 [-100001, -100000, 100000, 100001] _ hsrc3 ha3 hL (by decide) (by decide)); rintro _ _ ⟨w2, a4, hw2, ha4, rfl, rfl⟩; have hB4 := hB2.setsrc hbl ha4; generalize B2.set b (srcB L a4) = B4 at *; have hTab4 := hB4.tab)
        | fail)
      have hwb : I64 w2 := by
        simp only [List.mem_cons, List.not_mem_nil, or_false] at hw2
        unfold I64
        omega
      obtain ⟨q, hq, hql, hec, hqr⟩ := hB4.er
      have hfit : k * 5 + 4 + 1 ≤ q.length := by rw [hql]; have := Nat.mul_le_mul_right 5 (Nat.le_trans (Nat.succ_le_of_lt hk) hec); omega
      repeat' (first
        | with_reducible refine W.seq ?_
        | with_reducible refine W.next ?_
        | with_reducible refine W.nil ?_
        | with_reducible refine W.skip ?_
        | with_reducible refine W.ret ?_
        | with_reducible refine W.ret_code ?_
        | with_reducible refine W.block ?_
        | with_reducible refine W.out ?_
        | with_reducible refine W.ret_blk ?_
        | with_reducible refine W.exit ?_
        | with_reducible refine W.exit_code ?_
        | with_reducible refine W.exit_here ?_
        | with_reducible refine W.leave_exit ?_
        | with_reducible refine W.leave_ret ?_
        | ((with_reducible refine W.exit_on ?h ?_); (case h => decide))
        | ((with_reducible apply W.reg); (case h => simp [T3, T23, T24, T27, T28, T30, T49, hTab4, hq, hfit]; exact ⟨rfl, rfl, rfl⟩))
        | ((with_reducible apply W.draw mixed); (case hB => kernel_rfl); (case hr => simp [T3, T23, T24, T27, T28, T30, T49, hTab4, hq, hfit]; rfl))
        | ((with_reducible apply W.cond); (case hc => simp; rfl); all_goals (intro hc_; try (cases hc_; done)))
        | ((with_reducible apply W.runX); (case _hc => rfl); (case h => simp [T3, T23, T24, T27, T28, T30, T49, hTab4, hq, hfit]; exact ⟨rfl, rfl, rfl⟩))
        | fail)
      refine W.mid (⟨t.version, t.entries.set k ⟨e.code, e.element, e.width, e.scale, w2⟩, t.seqs⟩, ie, ce, js, cs, _) ⟨ht.setent k ⟨heo.code, heo.element, heo.width, heo.scale, hwb⟩, hB4.setent (f := 4) (p := i64 w2) hbl hq he (by decide) rfl⟩ ?_ (by first | rfl | simp)
      repeat (first | exact Sw.Sub.nil | refine Sw.Sub.cons (by simp) ?_)
    · skip
      repeat' (first
        | with_reducible refine W.seq ?_
        | with_reducible refine W.next ?_
        | with_reducible refine W.nil ?_
        | with_reducible refine W.skip ?_
        | with_reducible refine W.ret ?_
        | with_reducible refine W.ret_code ?_
        | with_reducible refine W.block ?_
        | with_reducible refine W.out ?_
        | with_reducible refine W.ret_blk ?_
        | with_reducible refine W.exit ?_
        | with_reducible refine W.exit_code ?_
        | with_reducible refine W.exit_here ?_
        | with_reducible refine W.leave_exit ?_
        | with_reducible refine W.leave_ret ?_
        | ((with_reducible refine W.exit_on ?h ?_); (case h => decide))
        | ((with_reducible apply W.reg); (case h => simp [T3, T23, T24, T27, T28, T30, T49]; exact ⟨rfl, rfl, rfl⟩))
        | ((with_reducible apply W.draw mixed); (case hB => kernel_rfl); (case hr => simp [T3, T23, T24, T27, T28, T30, T49]; rfl))
        | ((with_reducible apply W.cond); (case hc => simp; rfl); all_goals (intro hc_; try (cases hc_; done)))
        | ((with_reducible apply W.runX); (case _hc => rfl); (case h => simp [T3, T23, T24, T27, T28, T30, T49]; exact ⟨rfl, rfl, rfl⟩))
        | ((with_reducible apply W.callR go30); (case ho => rfl); (case hc => rfl); (case hf => rfl); (case hg => first | rfl | simp [T3, T23, T24, T27, T28, T30, T49]); (case hd => rfl); (case ha => simp [T3, T23, T24, T27, T28, T30, T49]; rfl); (case hargs => rfl); (case hs => exact Pick_sc b L a3 [0, 1, 100, 9999, 10000] _ hsrc3 ha3 hL (by decide) (by decide)); rintro _ _ ⟨w2, a4, hw2, ha4, rfl, rfl⟩; have hB4 := hB2.setsrc hbl ha4; generalize B2.set b (srcB L a4) = B4 at *; have hTab4 := hB4.tab)
        | fail)
      have hwb : I64 w2 := by
        simp only [List.mem_cons, List.not_mem_nil, or_false] at hw2
        unfold I64
        omega
      obtain ⟨q, hq, hql, hec, hqr⟩ := hB4.er
      have hfit : k * 5 + 1 ≤ q.length := by rw [hql]; have := Nat.mul_le_mul_right 5 (Nat.le_trans (Nat.succ_le_of_lt hk) hec); omega
      repeat' (first
        | with_reducible refine W.seq ?_
        | with_reducible refine W.next ?_
        | with_reducible refine W.nil ?_
        | with_reducible refine W.skip ?_
        | with_reducible refine W.ret ?_
        | with_reducible refine W.ret_code ?_
        | with_reducible refine W.block ?_
        | with_reducible refine W.out ?_
        | with_reducible refine W.ret_blk ?_
        | with_reducible refine W.exit ?_
        | with_reducible refine W.exit_code ?_
        | with_reducible refine W.exit_here ?_
        | with_reducible refine W.leave_exit ?_
        | with_reducible refine W.leave_ret ?_
        | ((with_reducible refine W.exit_on ?h ?_); (case h => decide))
        | ((with_reducible apply W.reg); (case h => simp [T3, T23, T24, T27, T28, T30, T49, hTab4, hq, hfit]; exact ⟨rfl, rfl, rfl⟩))
        | ((with_reducible apply W.draw mixed); (case hB => kernel_rfl); (case hr => simp [T3, T23, T24, T27, T28, T30, T49, hTab4, hq, hfit]; rfl))
        | ((with_reducible apply W.cond); (case hc => simp; rfl); all_goals (intro hc_; try (cases hc_; done)))
        | ((with_reducible apply W.runX); (case _hc => rfl); (case h => simp [T3, T23, T24, T27, T28, T30, T49, hTab4, hq, hfit]; exact ⟨rfl, rfl, rfl⟩))
        | fail)
      refine W.mid (⟨t.version, t.entries.set k ⟨w2, e.element, e.width, e.scale, e.least⟩, t.seqs⟩, ie, ce, js, cs, _) ⟨ht.setent k ⟨hwb, heo.element, heo.width, heo.scale, heo.least⟩, hB4.setent (f := 0) (p := i64 w2) hbl hq he (by decide) rfl⟩ ?_ (by first | rfl | simp)
      repeat (first | exact Sw.Sub.nil | refine Sw.Sub.cons (by simp) ?_)
    · skip
      repeat' (first
        | with_reducible refine W.seq ?_
        | with_reducible refine W.next ?_
        | with_reducible refine W.nil ?_
        | with_reducible refine W.skip ?_
        | with_reducible refine W.ret ?_
        | with_reducible refine W.ret_code ?_
        | with_reducible refine W.block ?_
        | with_reducible refine W.out ?_
        | with_reducible refine W.ret_blk ?_
        | with_reducible refine W.exit ?_
        | with_reducible refine W.exit_code ?_
        | with_reducible refine W.exit_here ?_
        | with_reducible refine W.leave_exit ?_
        | with_reducible refine W.leave_ret ?_
        | ((with_reducible refine W.exit_on ?h ?_); (case h => decide))
        | ((with_reducible apply W.reg); (case h => simp [T3, T23, T24, T27, T28, T30, T49]; exact ⟨rfl, rfl, rfl⟩))
        | ((with_reducible apply W.draw mixed); (case hB => kernel_rfl); (case hr => simp [T3, T23, T24, T27, T28, T30, T49]; rfl))
        | ((with_reducible apply W.cond); (case hc => simp; rfl); all_goals (intro hc_; try (cases hc_; done)))
        | ((with_reducible apply W.runX); (case _hc => rfl); (case h => simp [T3, T23, T24, T27, T28, T30, T49]; exact ⟨rfl, rfl, rfl⟩))
        | ((with_reducible apply W.callR go30); (case ho => rfl); (case hc => rfl); (case hf => rfl); (case hg => first | rfl | simp [T3, T23, T24, T27, T28, T30, T49]); (case hd => rfl); (case ha => simp [T3, T23, T24, T27, T28, T30, T49]; rfl); (case hargs => rfl); (case hs => exact Pick_sc b L a3 [0, 1, 11, 12] _ hsrc3 ha3 hL (by decide) (by decide)); rintro _ _ ⟨w2, a4, hw2, ha4, rfl, rfl⟩; have hB4 := hB2.setsrc hbl ha4; generalize B2.set b (srcB L a4) = B4 at *; have hTab4 := hB4.tab)
        | fail)
      have hwb : I64 w2 := by
        simp only [List.mem_cons, List.not_mem_nil, or_false] at hw2
        unfold I64
        omega
      obtain ⟨q, hq, hql, hec, hqr⟩ := hB4.er
      have hfit : k * 5 + 1 + 1 ≤ q.length := by rw [hql]; have := Nat.mul_le_mul_right 5 (Nat.le_trans (Nat.succ_le_of_lt hk) hec); omega
      repeat' (first
        | with_reducible refine W.seq ?_
        | with_reducible refine W.next ?_
        | with_reducible refine W.nil ?_
        | with_reducible refine W.skip ?_
        | with_reducible refine W.ret ?_
        | with_reducible refine W.ret_code ?_
        | with_reducible refine W.block ?_
        | with_reducible refine W.out ?_
        | with_reducible refine W.ret_blk ?_
        | with_reducible refine W.exit ?_
        | with_reducible refine W.exit_code ?_
        | with_reducible refine W.exit_here ?_
        | with_reducible refine W.leave_exit ?_
        | with_reducible refine W.leave_ret ?_
        | ((with_reducible refine W.exit_on ?h ?_); (case h => decide))
        | ((with_reducible apply W.reg); (case h => simp [T3, T23, T24, T27, T28, T30, T49, hTab4, hq, hfit]; exact ⟨rfl, rfl, rfl⟩))
        | ((with_reducible apply W.draw mixed); (case hB => kernel_rfl); (case hr => simp [T3, T23, T24, T27, T28, T30, T49, hTab4, hq, hfit]; rfl))
        | ((with_reducible apply W.cond); (case hc => simp; rfl); all_goals (intro hc_; try (cases hc_; done)))
        | ((with_reducible apply W.runX); (case _hc => rfl); (case h => simp [T3, T23, T24, T27, T28, T30, T49, hTab4, hq, hfit]; exact ⟨rfl, rfl, rfl⟩))
        | fail)
      refine W.mid (⟨t.version, t.entries.set k ⟨e.code, w2, e.width, e.scale, e.least⟩, t.seqs⟩, ie, ce, js, cs, _) ⟨ht.setent k ⟨heo.code, hwb, heo.width, heo.scale, heo.least⟩, hB4.setent (f := 1) (p := i64 w2) hbl hq he (by decide) rfl⟩ ?_ (by first | rfl | simp)
      repeat (first | exact Sw.Sub.nil | refine Sw.Sub.cons (by simp) ?_)
    · skip
      have hbn : ∀ x, (B2.set b x)[σ.bx.length]? = some [i64 t.version, .bs 23 ie t.entries.length ce, .bs 49 js t.seqs.length cs] := fun x => by rw [List.getElem?_set_ne (by omega)]; exact hTab2
      with_reducible apply W.heldB mixed (b) 12 [0, 1, 2, 5]
      case hn => rfl
      with_reducible apply SH.takes [0, 1, 2, 5] 8
      case hfu => rfl
      case hs => kernel_rfl
      case hB => kernel_rfl
      case hQ => first | exact fun _ _ _ h => h | exact fun _ _ _ h => hNP _ _ _ h
      case hs0 => exact Sub0.hideB _ _
      case hr => simp [T3, T23, T24, T27, T28, T30, T49, hTab2, hbn, runTakes, takeOp, effA, effOp, down, down1, hideB, keep]; exact ⟨rfl, rfl⟩
      with_reducible apply SH.one 3
      case hr => kernel_rfl
      with_reducible apply SHo.effX
      case hh => exact (Sub0.hideB _ _).hid.mono (by first | (simp; done) | (simp; omega))
      case he => simp [T3, T23, T24, T27, T28, T30, T49, hTab2, hbn, runTakes, takeOp, effA, effOp, down, down1, hideB, keep]; exact ⟨rfl, rfl, rfl⟩
      with_reducible apply SH.one 4
      case hr => kernel_rfl
      with_reducible apply SHo.callX go30
      case hi => rfl
      case ho => rfl
      case hc => rfl
      case hf => rfl
      case hg => first | rfl | simp [T3, T23, T24, T27, T28, T30, T49, hTab2, hbn, runTakes, takeOp, effA, effOp, down, down1, hideB, keep]
      case hd => rfl
      case ha => simp [T3, T23, T24, T27, T28, T30, T49, hTab2, hbn, runTakes, takeOp, effA, effOp, down, down1, hideB, keep]; rfl
      case hargs => rfl
      case hs => exact Nx_fsc (keep_hideB _ _) hsrc3 (fun σs h => Pick_sc b L a3 [9999, 10000, 19999, 20000] σs h ha3 hL (by decide) (by decide))
      rintro _ _ ⟨w2, a4, hw2, ha4, rfl, rfl⟩
      have hB4 := hB2.setsrc hbl ha4
      have hl4 : (B2.set b (srcB L a4)).length = B2.length := by simp
      generalize B2.set b (srcB L a4) = B4 at *
      obtain ⟨a5, ha5, hsrc5⟩ := hB4.src
      with_reducible apply SH.one 6
      case hr => kernel_rfl
      with_reducible apply SHo.callX go17
      case hi => rfl
      case ho => rfl
      case hc => rfl
      case hf => rfl
      case hg => first | rfl | simp [T3, T23, T24, T27, T28, T30, T49, runTakes, takeOp, effA, effOp, down, down1, hideB, keep]
      case hd => rfl
      case ha => simp [T3, T23, T24, T27, T28, T30, T49, runTakes, takeOp, effA, effOp, down, down1, hideB, keep]; rfl
      case hargs => rfl
      case hs => exact Cs_fsc (keep_hideB _ _) hsrc5 (fun σs h => codes_sc b L a5 3 σs h ha5 hL ⟨by decide, by decide⟩)
      rintro _ _ ⟨xs, a6, hxl, hxd, ha6, rfl, rfl⟩
      have hB6 := hB4.setsrc hbl ha6
      have hl6 : (B4.set b (srcB L a6)).length = B4.length := by simp
      generalize B4.set b (srcB L a6) = B6 at *
      with_reducible apply SH.one 7
      case hr => kernel_rfl
      with_reducible apply SHo.effX
      case hh => exact (Sub0.hideB _ _).hid.mono (by first | (simp; done) | (simp; omega))
      case he => simp [T3, T23, T24, T27, T28, T30, T49, runTakes, takeOp, effA, effOp, down, down1, hideB, keep]; exact ⟨rfl, rfl, rfl⟩
      with_reducible apply SH.one 8
      case hr => kernel_rfl
      with_reducible apply SHo.effX
      case hh => exact (Sub0.hideB _ _).hid.mono (by first | (simp; done) | (simp; omega))
      case he => simp [T3, T23, T24, T27, T28, T30, T49, runTakes, takeOp, effA, effOp, down, down1, hideB, keep]; exact ⟨rfl, rfl, rfl⟩
      have hwb : I64 w2 := by
        simp only [List.mem_cons, List.not_mem_nil, or_false] at hw2
        unfold I64
        omega
      have hso : SqOK ⟨w2, xs⟩ := ⟨hwb, fun c hc => by obtain ⟨h1, h2, _⟩ := hxd c hc; exact ⟨by omega, by omega⟩, by simp at hxl; dsimp only; omega⟩
      obtain ⟨q, hq, hql, hqc, hqr⟩ := hB6.sr
      with_reducible apply SH.one 9
      case hr => kernel_rfl
      with_reducible apply SHo.appZ
      case hi => rfl
      case ho => rfl
      case hc => rfl
      case hA => rfl
      case hT => rfl
      case hy => exact T28
      case hd => rfl
      case hz => exact T49
      case hzp => decide
      case hzb => decide
      case hg => rfl
      case hdst => rfl
      case hn => kernel_rfl
      case hx => rfl
      case hq => exact hq
      case hu => rfl
      case hys => rfl
      case hbytes => show (t.seqs.length + 1) * 32 ≤ 140737488355328; omega
      intro p σ5 hA
      obtain ⟨js5, cs5, rfl, htk, htb, hB5⟩ := hB6.appS hbl hq ⟨w2, xs⟩ hA
      obtain ⟨B5, tk5⟩ := σ5
      dsimp only at htk htb hB5
      subst htk
      with_reducible apply SH.one 10
      case hr => kernel_rfl
      with_reducible apply SHo.lastX
      case hnd => kernel_rfl
      case he => simp [T3, T23, T24, T27, T28, T30, T49, htb, runTakes, takeOp, effA, effOp, down, down1, hideB, keep, lastA]; exact ⟨rfl, rfl, rfl⟩
      with_reducible apply SH.one 11
      case hr => kernel_rfl
      with_reducible apply SHo.lastX
      case hnd => kernel_rfl
      case he => simp [T3, T23, T24, T27, T28, T30, T49, htb, runTakes, takeOp, effA, effOp, down, down1, hideB, keep, lastA]; exact ⟨rfl, rfl, rfl⟩
      refine SH.done (by kernel_rfl) ?_
      with_reducible refine W.out ?_
      refine W.mid (⟨t.version, t.entries, t.seqs ++ [⟨w2, xs⟩]⟩, ie, ce, js5, cs5, _) ⟨ht.appS hso (by omega), hB5⟩ ?_ (by first | rfl | simp)
      repeat (first | exact Sw.Sub.nil | refine Sw.Sub.cons (by simp) ?_)
    · skip
      obtain ⟨q, hq, hql, hqc, hqr⟩ := hB2.sr
      with_reducible apply W.regN 5
      case h => simp [T3, T23, T24, T27, T28, T30, T49, hTab2]; exact ⟨rfl, rfl⟩
      refine W.list (by simp only [List.drop_succ_cons, List.drop_zero]; rfl) ?_
      with_reducible apply W.appZ
      case ho => rfl
      case hc => rfl
      case hA => rfl
      case hT => rfl
      case hy => exact T28
      case hd => rfl
      case hz => exact T49
      case hzp => decide
      case hzb => decide
      case hg => rfl
      case hdst => rfl
      case hx => rfl
      case hq => exact hq
      case hu => rfl
      case hys => rfl
      case hbytes => show (t.seqs.length + 1) * 32 ≤ 140737488355328; omega
      intro p σ5 hA
      have hso : SqOK ⟨15000, [20120, 15000]⟩ := ⟨by unfold I64; decide, by unfold I64; decide, by decide⟩
      obtain ⟨js5, cs5, rfl, htk, htb, hB5⟩ := hB2.appS hbl hq ⟨15000, [20120, 15000]⟩ hA
      obtain ⟨B5, tk5⟩ := σ5
      dsimp only at htk htb hB5
      subst htk
      repeat' (first
        | with_reducible refine W.seq ?_
        | with_reducible refine W.next ?_
        | with_reducible refine W.nil ?_
        | with_reducible refine W.skip ?_
        | with_reducible refine W.ret ?_
        | with_reducible refine W.ret_code ?_
        | with_reducible refine W.block ?_
        | with_reducible refine W.out ?_
        | with_reducible refine W.ret_blk ?_
        | with_reducible refine W.exit ?_
        | with_reducible refine W.exit_code ?_
        | with_reducible refine W.exit_here ?_
        | with_reducible refine W.leave_exit ?_
        | with_reducible refine W.leave_ret ?_
        | ((with_reducible refine W.exit_on ?h ?_); (case h => decide))
        | ((with_reducible apply W.reg); (case h => simp [T3, T23, T24, T27, T28, T30, T49, htb]; exact ⟨rfl, rfl, rfl⟩))
        | ((with_reducible apply W.draw mixed); (case hB => kernel_rfl); (case hr => simp [T3, T23, T24, T27, T28, T30, T49, htb]; rfl))
        | ((with_reducible apply W.cond); (case hc => simp; rfl); all_goals (intro hc_; try (cases hc_; done)))
        | ((with_reducible apply W.runX); (case _hc => rfl); (case h => simp [T3, T23, T24, T27, T28, T30, T49, htb]; exact ⟨rfl, rfl, rfl⟩))
        | fail)
      refine W.mid (⟨t.version, t.entries, t.seqs ++ [⟨15000, [20120, 15000]⟩]⟩, ie, ce, js5, cs5, _) ⟨ht.appS hso (by omega), hB5⟩ ?_ (by first | rfl | simp)
      repeat (first | exact Sw.Sub.nil | refine Sw.Sub.cons (by simp) ?_)
    · skip
      with_reducible refine W.loopS (α := List Ent × Nat × Nat × List (List PV)) (fun x => [(0, .ptr b 0), (3, .ptr σ.bx.length 0), (4, .ptr (σ.bx.length + 1) 0)]) (fun x => ⟨x.2.2.2, σ.tk⟩) (fun x => TabOK ⟨t.version, x.1, t.seqs⟩ ∧ x.1.length ≤ 41 ∧ BS σ b L ⟨t.version, x.1, t.seqs⟩ x.2.1 x.2.2.1 js cs x.2.2.2) (fun x => 41 - x.1.length) (t.entries, ie, ce, B2) ?_ ?_ ?_ ?_
      · exact ⟨ht, by dsimp only; omega, hB2⟩
      · repeat (first | exact Sw.Sub.nil | refine Sw.Sub.cons (by simp) ?_)
      · rfl
      rintro ⟨es, ie, ce, B3⟩ ⟨hto, hes, hB3⟩
      dsimp only at hto hes hB3 ⊢
      have hTab3 := hB3.tab
      dsimp only at hTab3
      by_cases hlt : es.length < 41
      · have hlt' : (es.length : Int) < 41 := by omega
        have hw2 : IntKind.i64.wrap (2000 + (es.length : Int)) = 2000 + (es.length : Int) := wrap64 (by omega)
        obtain ⟨q, hq, hql, hqc, hqr⟩ := hB3.er
        repeat' (first
          | with_reducible refine W.seq ?_
          | with_reducible refine W.next ?_
          | with_reducible refine W.nil ?_
          | with_reducible refine W.skip ?_
          | with_reducible refine W.ret ?_
          | with_reducible refine W.ret_code ?_
          | with_reducible refine W.block ?_
          | with_reducible refine W.out ?_
          | with_reducible refine W.ret_blk ?_
          | with_reducible refine W.exit ?_
          | with_reducible refine W.exit_code ?_
          | with_reducible refine W.exit_here ?_
          | with_reducible refine W.leave_exit ?_
          | with_reducible refine W.leave_ret ?_
          | ((with_reducible refine W.exit_on ?h ?_); (case h => decide))
          | ((with_reducible apply W.reg); (case h => simp [T3, T23, T24, T27, T28, T30, T49, hTab3, hlt']; exact ⟨rfl, rfl, rfl⟩))
          | ((with_reducible apply W.draw mixed); (case hB => kernel_rfl); (case hr => simp [T3, T23, T24, T27, T28, T30, T49, hTab3, hlt']; rfl))
          | ((with_reducible apply W.cond); (case hc => simp; rfl); all_goals (intro hc_; try (cases hc_; done)))
          | ((with_reducible apply W.runX); (case _hc => rfl); (case h => simp [T3, T23, T24, T27, T28, T30, T49, hTab3, hlt']; exact ⟨rfl, rfl, rfl⟩))
          | fail)
        with_reducible apply W.regN 8
        case h => simp [T3, T23, T24, T27, T28, T30, T49, hTab3, hw2]; exact ⟨rfl, rfl⟩
        refine W.list (by simp only [List.drop_succ_cons, List.drop_zero]; rfl) ?_
        with_reducible apply W.appZ
        case ho => rfl
        case hc => rfl
        case hA => rfl
        case hT => rfl
        case hy => exact T27
        case hd => rfl
        case hz => exact T23
        case hzp => decide
        case hzb => decide
        case hg => rfl
        case hdst => rfl
        case hx => rfl
        case hq => exact hq
        case hu => rfl
        case hys => rfl
        case hbytes => show (es.length + 1) * 40 ≤ 140737488355328; omega
        intro p σ5 hA
        have hso : EntOK ⟨2000 + (es.length : Int), 1, 8, 1, 0⟩ := by constructor <;> (unfold I64; dsimp only; omega)
        obtain ⟨ie5, ce5, rfl, htk, htb, hB5⟩ := hB3.appE hbl hq ⟨2000 + (es.length : Int), 1, 8, 1, 0⟩ hA
        obtain ⟨B5, tk5⟩ := σ5
        dsimp only at htk htb hB5
        subst htk
        repeat' (first
          | with_reducible refine W.seq ?_
          | with_reducible refine W.next ?_
          | with_reducible refine W.nil ?_
          | with_reducible refine W.skip ?_
          | with_reducible refine W.ret ?_
          | with_reducible refine W.ret_code ?_
          | with_reducible refine W.block ?_
          | with_reducible refine W.out ?_
          | with_reducible refine W.ret_blk ?_
          | with_reducible refine W.exit ?_
          | with_reducible refine W.exit_code ?_
          | with_reducible refine W.exit_here ?_
          | with_reducible refine W.leave_exit ?_
          | with_reducible refine W.leave_ret ?_
          | ((with_reducible refine W.exit_on ?h ?_); (case h => decide))
          | ((with_reducible apply W.reg); (case h => simp [T3, T23, T24, T27, T28, T30, T49, htb]; exact ⟨rfl, rfl, rfl⟩))
          | ((with_reducible apply W.draw mixed); (case hB => kernel_rfl); (case hr => simp [T3, T23, T24, T27, T28, T30, T49, htb]; rfl))
          | ((with_reducible apply W.cond); (case hc => simp; rfl); all_goals (intro hc_; try (cases hc_; done)))
          | ((with_reducible apply W.runX); (case _hc => rfl); (case h => simp [T3, T23, T24, T27, T28, T30, T49, htb]; exact ⟨rfl, rfl, rfl⟩))
          | fail)
        refine W.hand (es ++ [⟨2000 + (es.length : Int), 1, 8, 1, 0⟩], ie5, ce5, _) ⟨hto.appE hso (by dsimp only; omega), by simp; omega, hB5⟩ (by simp; omega) ?_ (by first | rfl | simp)
        repeat (first | exact Sw.Sub.nil | refine Sw.Sub.cons (by simp) ?_)
      · have hlt' : ¬ (es.length : Int) < 41 := by omega
        repeat' (first
          | with_reducible refine W.seq ?_
          | with_reducible refine W.next ?_
          | with_reducible refine W.nil ?_
          | with_reducible refine W.skip ?_
          | with_reducible refine W.ret ?_
          | with_reducible refine W.ret_code ?_
          | with_reducible refine W.block ?_
          | with_reducible refine W.out ?_
          | with_reducible refine W.ret_blk ?_
          | with_reducible refine W.exit ?_
          | with_reducible refine W.exit_code ?_
          | with_reducible refine W.exit_here ?_
          | with_reducible refine W.leave_exit ?_
          | with_reducible refine W.leave_ret ?_
          | ((with_reducible refine W.exit_on ?h ?_); (case h => decide))
          | ((with_reducible apply W.reg); (case h => simp [T3, T23, T24, T27, T28, T30, T49, hTab3, hlt']; exact ⟨rfl, rfl, rfl⟩))
          | ((with_reducible apply W.draw mixed); (case hB => kernel_rfl); (case hr => simp [T3, T23, T24, T27, T28, T30, T49, hTab3, hlt']; rfl))
          | ((with_reducible apply W.cond); (case hc => simp; rfl); all_goals (intro hc_; try (cases hc_; done)))
          | ((with_reducible apply W.runX); (case _hc => rfl); (case h => simp [T3, T23, T24, T27, T28, T30, T49, hTab3, hlt']; exact ⟨rfl, rfl, rfl⟩))
          | fail)
        refine W.mid (⟨t.version, es, t.seqs⟩, ie, ce, js, cs, B3) ⟨hto, hB3⟩ ?_ (by first | rfl | simp)
        repeat (first | exact Sw.Sub.nil | refine Sw.Sub.cons (by simp) ?_)
  clear hTab hsrc ha1 a1 hB B hk k
  rintro ⟨u, ie, ce, js, cs, B⟩ ⟨hu, hB⟩
  dsimp only at hu hB ⊢
  have hTab := hB.tab
  have hres := hB.res
  obtain ⟨a9, ha9, hsB⟩ := hB.src
  repeat' (first
    | with_reducible refine W.seq ?_
    | with_reducible refine W.next ?_
    | with_reducible refine W.nil ?_
    | with_reducible refine W.skip ?_
    | with_reducible refine W.ret ?_
    | with_reducible refine W.ret_code ?_
    | with_reducible refine W.block ?_
    | with_reducible refine W.out ?_
    | with_reducible refine W.ret_blk ?_
    | with_reducible refine W.exit ?_
    | with_reducible refine W.exit_code ?_
    | with_reducible refine W.exit_here ?_
    | with_reducible refine W.leave_exit ?_
    | with_reducible refine W.leave_ret ?_
    | ((with_reducible refine W.exit_on ?h ?_); (case h => decide))
    | ((with_reducible apply W.reg); (case h => simp [T3, T24, T27, T28, T30, T49, hTab, hres, zeroT]; exact ⟨rfl, rfl, rfl⟩))
    | ((with_reducible apply W.draw mixed); (case hB => kernel_rfl); (case hr => simp [T3, T24, T27, T28, T30, T49, hTab, hres, zeroT]; rfl))
    | ((with_reducible apply W.cond); (case hc => simp; rfl); all_goals (intro hc_; try (cases hc_; done)))
    | ((with_reducible apply W.runX); (case _hc => rfl); (case h => simp [T3, T24, T27, T28, T30, T49, hTab, hres, zeroT]; exact ⟨rfl, rfl, rfl⟩))
    | fail)
  have hBn : ∀ i, i < σ.bx.length → B[i]? = (σ.bx.set b (srcB L a9))[i]? := by
    intro i hi
    by_cases hib : i = b
    · subst hib; rw [hsB, List.getElem?_set_self hbl]
    · rw [hB.oth i hi hib, List.getElem?_set_ne (fun e => hib e.symm)]
  refine W.finZ (.agg [i64 u.version, .bs 23 ie u.entries.length ce, .bs 49 js u.seqs.length cs]) (.agg (encT u)) (by simp [T30, getset hres]) (hB.frz _ _ _) ?_ ⟨u, a9, hu, ha9, rfl, ?_⟩
  · intro i ps hi hp p hpp
    rw [List.getElem?_set_ne (by omega), hBn i hi] at hp
    exact (hσ.clB.set (cl_srcB _ _ L a9) i ps hi hp p hpp)
  · have hlB := hB.len
    have e1 : ∀ x : List PV, (B.set (σ.bx.length + 1) x).take σ.bx.length = σ.bx.set b (srcB L a9) := by
      intro x
      apply List.ext_getElem?
      intro i
      by_cases hi : i < σ.bx.length
      · rw [List.getElem?_take, if_pos hi, List.getElem?_set_ne (by omega), hBn i hi]
      · rw [List.getElem?_eq_none (by simp; omega), List.getElem?_eq_none (by simp; omega)]
    simp [e1]


end Go.Proofs.YtgabnlkkjmepnaaDoor

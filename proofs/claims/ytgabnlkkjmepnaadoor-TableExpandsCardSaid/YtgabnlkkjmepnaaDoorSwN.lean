/- The logic Sw: maps from integers to bools that one call makes, fills and counts, for any program. -/
import Derived.Test.YtgabnlkkjmepnaaDoorSwM
import Derived.Carry
namespace Go.Sw
open Go.RowKit
section
variable {C : Cx} {w0 : World} {base : Nat} {σ : AS} {s : S}

theorem mapOK_made {w : World} {E k e : TypeId} (h1 : C.P.underlying E = some (.map k e)) (h2 : C.P.underlying k = some (.int .i64)) (h3 : C.P.underlying e = some .bool) : MapOK C.P (w.alloc (.map #[] 0)) E w.heap.size [] :=
  ⟨k, e, h1, h2, h3, World.ownsMap_made w C.P k (plainElem C.P e)⟩

/-- A new map, with its token. -/
theorem Inv.newmap (hi : Inv C w0 base σ s) {E k e : TypeId} (h1 : C.P.underlying E = some (.map k e)) (h2 : C.P.underlying k = some (.int .i64)) (h3 : C.P.underlying e = some .bool) :
    Inv C w0 base ⟨σ.bx, σ.tk ++ [(E, 0)]⟩ ⟨⟨s.g.bx, s.g.rw ++ [some s.w.heap.size]⟩, s.tk ++ [(E, 0)], s.w.alloc (.map #[] 0)⟩ ∧
    Mono C.P s ⟨⟨s.g.bx, s.g.rw ++ [some s.w.heap.size]⟩, s.tk ++ [(E, 0)], s.w.alloc (.map #[] 0)⟩ ∧
    Rep C.P ⟨⟨s.g.bx, s.g.rw ++ [some s.w.heap.size]⟩, s.tk ++ [(E, 0)], s.w.alloc (.map #[] 0)⟩ (.mp σ.tk.length []) (.map (some s.w.heap.size)) := by
  have hsz : s.w.heap.size ≤ (s.w.alloc (.map #[] 0)).heap.size := by simp
  have hlt : s.w.heap.size < (s.w.alloc (.map #[] 0)).heap.size := by simp
  have hold : ∀ k, k < s.w.heap.size → (s.w.alloc (.map #[] 0)).heap[k]? = s.w.heap[k]? := fun k hk => heap_alloc_old _ _ k hk
  have hm : Mono C.P s ⟨⟨s.g.bx, s.g.rw ++ [some s.w.heap.size]⟩, s.tk ++ [(E, 0)], s.w.alloc (.map #[] 0)⟩ := by
    have := Mono.grow hi hsz hold [] [some s.w.heap.size] [(E, 0)] (by simp) (by simp)
    simpa using this
  have hrw : ∀ (i b : Nat), (s.g.rw ++ [some s.w.heap.size])[i]? = some (some b) → s.g.rw[i]? = some (some b) ∨ (b = s.w.heap.size ∧ i = s.g.rw.length) := by
    intro i b h
    rcases app_cases h with ⟨_, h⟩ | ⟨hl, h⟩
    · exact .inl h
    · have e1 := (List.getElem?_eq_some_iff.1 h).1
      have := List.mem_of_getElem? h
      simp at this e1
      exact .inr ⟨this, by omega⟩
  refine ⟨⟨by simp [hi.tk], hi.below.alloc hi.basele _, Nat.le_trans hi.basele hsz, hi.lbx, by simp [hi.lrw], hi.bxinj, fun i j b g1 g2 => ?_, fun i b g1 g2 => ?_, fun b g => ⟨(hi.rngb b g).1, Nat.lt_of_lt_of_le (hi.rngb b g).2 hsz⟩, fun i b g1 => ?_, fun i b ps hb hp => ?_, fun k p hp => (hi.glob k p hp).mono hm⟩, hm, ?_⟩
  · rcases hrw i b g1 with a1 | ⟨a1, a2⟩ <;> rcases hrw j b g2 with b1 | ⟨b1, b2⟩
    · exact hi.rwinj i j b a1 b1
    · have := (hi.rngr i b a1).2; omega
    · have := (hi.rngr j b b1).2; omega
    · omega
  · rcases hrw i b g1 with a1 | ⟨a1, a2⟩
    · exact hi.apart i b a1 g2
    · have := (hi.rngb b g2).2; omega
  · rcases hrw i b g1 with a1 | ⟨a1, a2⟩
    · exact ⟨(hi.rngr i b a1).1, Nat.lt_of_lt_of_le (hi.rngr i b a1).2 hsz⟩
    · subst a1; exact ⟨hi.basele, hlt⟩
  · obtain ⟨cs, T, g1, g2, g3⟩ := hi.box i b ps hb hp
    exact ⟨cs, T, (hold b (hi.rngb b (List.mem_of_getElem? hb)).2).trans g1, g2, fun j p v hj hv => (g3 j p v hj hv).mono hm⟩
  · refine .mp _ [] E 0 _ ?_ (Nat.le_refl _) fun _ => ⟨_, rfl, ?_, mapOK_made h1 h2 h3⟩
    · show (s.tk ++ [(E, 0)])[σ.tk.length]? = _
      rw [← hi.tk]; simp
    · show (s.g.rw ++ [some s.w.heap.size])[σ.tk.length]? = _
      rw [← hi.lrw]; simp

variable {F : Fx} {ops : Array Oper} {Q : Post} {pf : PF}

theorem SL.makeMap {o : Oper} {rest : List Oper} {E k e : TypeId} (hg : o.guard = none) (hd : inN F.N o.dst = true) (ho : o.op = .makeMap E none) (h1 : C.P.underlying E = some (.map k e)) (h2 : C.P.underlying k = some (.int .i64)) (h3 : C.P.underlying e = some .bool)
    (h : SL C F ops rest Q (setd pf o.dst (.mp σ.tk.length [])) ⟨σ.bx, σ.tk ++ [(E, 0)]⟩) : SL C F ops (o :: rest) Q pf σ := by
  refine SL.eff (p := .mp σ.tk.length []) hg hd ?_ h
  intro w0 base s a hi hr
  obtain ⟨k1, k2, k3⟩ := hi.newmap h1 h2 h3
  refine ⟨_, _, .inl ?_, k3, k1, k2⟩
  simp [execOp, ho, run_makeMap]

/-- What a map value knows behind an entry. -/
def bump (t n : Nat) (key : Int) : PV → PV
  | .mp t' ks => if t' = t ∧ ks.length = n then .mp t' (ks ++ [key]) else .mp t' ks
  | p => p

theorem get_bump (t n : Nat) (key : Int) : ∀ (pf : PF) (d : Nat), get (pf.map fun x => (x.1, bump t n key x.2)) d = (get pf d).map (bump t n key)
  | [], d => rfl
  | (k, p) :: r, d => by
    simp only [List.map_cons, get]
    split
    · rfl
    · exact get_bump t n key r d

theorem keyOf_i64 {k : TypeId} (h2 : C.P.underlying k = some (.int .i64)) {key : Int} (h : -9223372036854775808 ≤ key ∧ key ≤ 9223372036854775807) : keyOf C.P k (.int .i64 key) = some (.int .i64 key) := by
  refine Maps.keyOf_int_mk h2 ?_
  simp [Lit.wf, IntKind.min, IntKind.max, IntKind.signed, IntKind.bits]
  omega

theorem SL.mapUpdate {o : Oper} {rest : List Oper} {E : TypeId} {mo x v : Operand} {t : Nat} {ks : List Int} {key : Int} (hg : o.guard = none) (hd : o.dst = none) (ho : o.op = .mapUpdate E mo x v) (hm : ev C.GE pf mo = some (.mp t ks)) (hx : ev C.GE pf x = some (.val (.int .i64 key))) (hv : ev C.GE pf v = some (.val (.bool true)))
    (hkey : -9223372036854775808 ≤ key ∧ key ≤ 9223372036854775807) (htk : σ.tk[t]? = some (E, ks.length)) (hn : ks.length < maxLen)
    (h : SL C F ops rest Q (pf.map fun x => (x.1, bump t ks.length key x.2)) ⟨σ.bx, σ.tk.set t (E, ks.length + 1)⟩) : SL C F ops (o :: rest) Q pf σ := by
  intro w0 base se s a h1 h2 hi hr
  refine wpList_plain hg fun K hK => ?_
  have hstk : s.tk[t]? = some (E, ks.length) := by rw [hi.tk]; exact htk
  have htlt : t < s.tk.length := (List.getElem?_eq_some_iff.1 hstk).1
  -- what the map is at the begin, for whoever knows it
  have know : ∀ (ks' : List Int) (u : Value), ks'.length = ks.length → Rep C.P s (.mp t ks') u → ∃ b, u = .map (some b) ∧ s.g.rw[t]? = some (some b) ∧ MapOK C.P s.w E b ks' := by
    intro ks' u hl hu
    cases hu
    rename_i E' m' hE hle hk
    rw [hstk] at hE
    cases hE
    exact hk hl
  obtain ⟨b, hmv, hrw, hok⟩ := know ks _ rfl (ev_ok hi hr hm)
  have hxv : a.eval x = .int .i64 key := (ev_ok hi hr hx).val_eq
  have hvv : a.eval v = .bool true := (ev_ok hi hr hv).val_eq
  have step : ∀ ks' : List Int, ks'.length = ks.length → MapOK C.P s.w E b ks' → ∃ w', (Instr.mapUpdate E (.map (some b)) (.int .i64 key) (.bool true)).run C.P s.w = .ok () w' ∧ MapOK C.P w' E b (ks' ++ [key]) ∧ s.w.grownBy w' (some b) := by
    intro ks' hl hok'
    obtain ⟨k, e, a1, a2, a3, a4⟩ := hok'
    obtain ⟨w', b1, b2, b3⟩ := World.ownsMap.update a4 (Maps.int_keyed a2) a1 (by rw [hl]; exact hn) (keyOf_i64 a2 hkey) (plainElem_bool a3 true)
    refine ⟨w', b1, ⟨k, e, a1, a2, a3, ?_⟩, b3⟩
    rw [List.map_append, List.map_cons, List.map_nil, Maps.setOf_snoc, List.length_append]
    exact b2
  obtain ⟨w', hrun, hok', hgrow⟩ := step ks rfl hok
  have hother : ∀ c, c < s.w.heap.size → c ≠ b → w'.heap[c]? = s.w.heap[c]? := fun c hc hne => hgrow.block c hc (by simpa using hne)
  have hsz : s.w.heap.size ≤ w'.heap.size := hgrow.size
  obtain ⟨_, _, _, _, _, es, clock, hblk, _⟩ := hok
  have hm' : Mono C.P s ⟨s.g, s.tk.set t (E, ks.length + 1), w'⟩ :=
    { heap := hsz
      bx := fun i b h => h
      st := fun c hi' hc => by
        refine ⟨Nat.lt_of_lt_of_le hc.1 hsz, hc.2.1, fun t' E' m' g1 g2 => ?_⟩
        by_cases e : t' = t
        · subst e
          have g2' : (s.tk.set t' (E, ks.length + 1))[t']? = some (E', m') := g2
          rw [List.getElem?_set_self htlt] at g2'
          cases g2'
          exact Nat.le_trans (hc.2.2 t' E _ g1 hstk) (Nat.mul_le_mul_right _ (Nat.le_succ _))
        · have g2' : (s.tk.set t (E, ks.length + 1))[t']? = some (E', m') := g2
          rw [List.getElem?_set_ne (Ne.symm e)] at g2'
          exact hc.2.2 t' E' m' g1 g2'
      cell := fun c hi' o v hc ho hv => by
        by_cases e : c = b
        · subst e
          simp [World.cell?, hblk] at hv
        · exact (World.cell?_of_block (hother c hc.1 e)).trans hv
      own := fun t' E' m' ht => by
        by_cases e : t' = t
        · subst e
          rw [hstk] at ht
          cases ht
          exact ⟨ks.length + 1, List.getElem?_set_self htlt, Nat.le_succ _, fun h => by omega⟩
        · refine ⟨m', ?_, Nat.le_refl _, fun _ => ⟨rfl, fun c hc => hother c (hi.rngr t' c hc).2 (fun ec => e ?_)⟩⟩
          · show (s.tk.set t (E, ks.length + 1))[t']? = _
            rw [List.getElem?_set_ne (Ne.symm e)]
            exact ht
          · subst ec
            exact hi.rwinj t' t c hc hrw
      obj := fun i c cs T hb hc => ⟨cs, (hother c (hi.rngb c (List.mem_of_getElem? hb)).2 (fun e => hi.apart t b hrw (e ▸ List.mem_of_getElem? hb))).trans hc, rfl⟩ }
  have hi' : Inv C w0 base ⟨σ.bx, σ.tk.set t (E, ks.length + 1)⟩ ⟨s.g, s.tk.set t (E, ks.length + 1), w'⟩ := by
    have hbase := (hi.rngr t b hrw).1
    refine ⟨by simp [hi.tk], hi.below.trans ⟨hgrow.os, hgrow.tape, hgrow.output, hsz, fun c hc => hother c (by have := hi.basele; omega) (by omega)⟩, Nat.le_trans hi.basele hsz, hi.lbx, by simp [hi.lrw], hi.bxinj, hi.rwinj, hi.apart, fun c h => ⟨(hi.rngb c h).1, Nat.lt_of_lt_of_le (hi.rngb c h).2 hsz⟩, fun j c h => ⟨(hi.rngr j c h).1, Nat.lt_of_lt_of_le (hi.rngr j c h).2 hsz⟩, fun i c ps hb hp => ?_, fun q p hp => (hi.glob q p hp).mono hm'⟩
    obtain ⟨cs, T, g1, g2, g3⟩ := hi.box i c ps hb hp
    exact ⟨cs, T, (hother c (hi.rngb c (List.mem_of_getElem? hb)).2 (fun e => hi.apart t b hrw (e ▸ List.mem_of_getElem? hb))).trans g1, g2, fun j p v hj hv => (g3 j p v hj hv).mono hm'⟩
  have hr' : RepF C.P ⟨s.g, s.tk.set t (E, ks.length + 1), w'⟩ F.N (pf.map fun x => (x.1, bump t ks.length key x.2)) a := by
    refine ⟨hr.size, hr.defers, fun d p hp => ?_⟩
    rw [get_bump] at hp
    obtain ⟨q, hq, rfl⟩ := Option.map_eq_some_iff.1 hp
    obtain ⟨u, hu1, hu2⟩ := hr.at_ d q hq
    refine ⟨u, hu1, ?_⟩
    unfold bump
    split
    · rename_i t' ks'
      split
      · rename_i hc
        obtain ⟨rfl, hl⟩ := hc
        obtain ⟨b', c1, c2, c3⟩ := know ks' u hl hu2
        rw [hrw] at c2
        cases c2
        obtain ⟨w2, d1, d2, _⟩ := step ks' hl c3
        rw [hrun] at d1
        cases d1
        refine .mp _ _ E (ks.length + 1) u (List.getElem?_set_self htlt) (by simp [hl]) fun _ => ⟨b, c1, hrw, d2⟩
      · exact hu2.mono hm'
    · exact hu2.mono hm'
  unfold Oper.wp
  simp [execOp, ho, hmv, hxv, hvv, hrun, Result.andThen]
  refine hK _ _ (h w0 base se ⟨s.g, s.tk.set t (E, ks.length + 1), w'⟩ _ h1 (h2.trans hm') hi' ?_)
  rw [hd]
  exact hr'

/-- How many keys there are, each counted once. -/
def keyCount (ks : List Int) : Nat := Maps.size (H := Unit) (Maps.setOf (.lit (.bool true)) (ks.map (Lit.int .i64 ·)))

def addI (l : List Int) (x : Int) : List Int := if x ∈ l then l else l ++ [x]
theorem addKey_int (l : List Int) (x : Int) : Maps.addKey (l.map (Lit.int .i64 ·)) (.int .i64 x) = (addI l x).map (Lit.int .i64 ·) := by
  have : ((l.map (Lit.int .i64 ·)).any fun y => y.sameKey (.int .i64 x)) = decide (x ∈ l) := by
    induction l with
    | nil => rfl
    | cons a r ih =>
      simp only [List.map_cons, List.any_cons, ih]
      by_cases h : a = x
      · subst h
        simp [WideAt.sameKey_self (show WideAt.IsKeyLit (.int .i64 a) from trivial)]
      · have : (Lit.int .i64 a).sameKey (.int .i64 x) = false := by
          rcases hb : (Lit.int .i64 a).sameKey (.int .i64 x) with _ | _
          · rfl
          · have := WideAt.sameKey_eq hb; simp at this; exact absurd this h
        simp [this, Ne.symm h]
  unfold Maps.addKey addI
  rw [this]
  by_cases h : x ∈ l <;> simp [h]
theorem foldl_addI (xs : List Int) : ∀ l : List Int, (xs.map (Lit.int .i64 ·)).foldl Maps.addKey (l.map (Lit.int .i64 ·)) = (xs.foldl addI l).map (Lit.int .i64 ·) := by
  induction xs with
  | nil => intro l; rfl
  | cons x r ih => intro l; simp only [List.map_cons, List.foldl_cons, addKey_int, ih]
theorem addI_len (xs : List Int) : ∀ l : List Int, (xs.foldl addI l).length ≤ l.length + xs.length ∧ ((xs.foldl addI l).length = l.length + xs.length ↔ xs.Nodup ∧ ∀ x ∈ xs, x ∉ l) := by
  induction xs with
  | nil => intro l; simp
  | cons x r ih =>
    intro l
    simp only [List.foldl_cons, List.length_cons]
    obtain ⟨h1, h2⟩ := ih (addI l x)
    by_cases h : x ∈ l
    · have e : addI l x = l := by simp [addI, h]
      rw [e] at h1 h2 ⊢
      refine ⟨by omega, ⟨fun h3 => by omega, fun h3 => absurd h (h3.2 x (by simp))⟩⟩
    · have e : addI l x = l ++ [x] := by simp [addI, h]
      rw [e] at h1 h2 ⊢
      simp only [List.length_append, List.length_cons, List.length_nil, Nat.zero_add] at h1 h2
      refine ⟨by omega, ?_⟩
      have : ((r.foldl addI (l ++ [x])).length = l.length + (r.length + 1)) ↔ ((r.foldl addI (l ++ [x])).length = l.length + 1 + r.length) := by omega
      rw [this, h2]
      simp only [List.nodup_cons, List.mem_append, not_or, List.mem_cons, List.not_mem_nil, not_false_eq_true, and_true]
      constructor
      · rintro ⟨a1, a2⟩
        refine ⟨⟨fun hx => (a2 x hx).2 rfl, a1⟩, ?_⟩
        rintro y (rfl | hy)
        · exact h
        · exact (a2 y hy).1
      · rintro ⟨⟨a1, a2⟩, a3⟩
        exact ⟨a2, fun y hy => ⟨a3 y (.inr hy), fun e => a1 (by rw [← e]; exact hy)⟩⟩
theorem keyCount_eq (ks : List Int) : keyCount ks = (ks.foldl addI []).length := by
  unfold keyCount
  rw [Maps.size_setOf _ _ (by intro x hx; obtain ⟨y, _, rfl⟩ := List.mem_map.1 hx; trivial)]
  have := foldl_addI ks []
  simp only [List.map_nil] at this
  rw [this, List.length_map]
theorem keyCount_le (ks : List Int) : keyCount ks ≤ ks.length := by
  have := (addI_len ks []).1
  rw [keyCount_eq]; simpa using this
theorem keyCount_lt (ks : List Int) : keyCount ks < ks.length ↔ ¬ ks.Nodup := by
  obtain ⟨h1, h2⟩ := addI_len ks []
  rw [keyCount_eq]
  simp only [List.length_nil, Nat.zero_add, List.not_mem_nil, not_false_eq_true, implies_true, and_true] at h1 h2
  constructor
  · intro h hn
    have := h2.2 hn
    omega
  · intro h
    have : (ks.foldl addI []).length ≠ ks.length := fun e => h (h2.1 e)
    omega

theorem SL.mapLen {o : Oper} {rest : List Oper} {E : TypeId} {c : Call} {mo : Operand} {t : Nat} {ks : List Int} (hg : o.guard = none) (hd : inN F.N o.dst = true) (ho : o.op = .call c) (hc : c.callee = .builtin .len) (hA : c.args = #[mo]) (hT : c.argTypes = #[E])
    (hm : ev C.GE pf mo = some (.mp t ks)) (htk : σ.tk[t]? = some (E, ks.length)) (h : SL C F ops rest Q (setd pf o.dst (.val (.int .i64 (keyCount ks)))) σ) : SL C F ops (o :: rest) Q pf σ := by
  refine SL.eff hg hd ?_ h
  intro w0 base s a hi hr
  have hu := ev_ok hi hr hm
  generalize hav : a.eval mo = u at hu
  cases hu
  rename_i E' m' hE hle hk
  rw [hi.tk, htk] at hE
  cases hE
  obtain ⟨b, rfl, hrw, k, e, a1, a2, a3, a4⟩ := hk rfl
  refine ⟨_, s, .inl ?_, .val _, hi, Mono.refl _ _⟩
  have := World.ownsMap.len a4 a1 o.type
  simp [execOp, ho, resolve, hc, hA, hT, hav, invoke, builtin, this, keyCount]
theorem SL.runN {l2 : List Oper} : ∀ {l : List Oper} {pf pf' : PF} {σ σ' : AS}, runOps C F.N ops l pf σ = some (pf', σ', []) → SL C F ops l2 Q pf' σ' → SL C F ops (l ++ l2) Q pf σ
  | [], pf, pf', σ, σ', h, hk => by cases h; exact hk
  | o :: r, pf, pf', σ, σ', h, hk => by
    simp only [runOps] at h
    split at h <;> try cases h
    · rename_i hg
      split at h
      · cases h
      · split at h <;> try cases h
        rename_i hd
        split at h <;> try cases h
        rename_i p σ1 hs
        exact SL.guarded hg (SL.eff (o := { o with guard := none }) rfl hd (stepOp_ok hs) (SL.runN h hk))
    · rename_i hg
      split at h <;> try cases h
      rename_i hd
      exact SL.skipped hg hd (SL.runN h hk)

/-- The first n operations of a region. -/
theorem W.regN {k : List KI} {id : Nat} {pf' : PF} {σ' : AS} (n : Nat) (h : runOps C F.N ops (ops.toList.take n) pf σ = some (pf', σ', [])) (hk : SL C F ops (ops.toList.drop n) (Cont C F Q k) pf' σ') : SW C F (.region id ops false) (Cont C F Q k) pf σ := by
  refine SW.region ?_
  rw [← List.take_append_drop n ops.toList]
  exact SL.runN h hk
theorem W.runN {k : List KI} {l : List Oper} {pf' : PF} {σ' : AS} (n : Nat) (h : runOps C F.N ops (l.take n) pf σ = some (pf', σ', [])) (hk : SL C F ops (l.drop n) (Cont C F Q k) pf' σ') : SL C F ops l (Cont C F Q k) pf σ := by
  rw [← List.take_append_drop n l]
  exact SL.runN h hk
/-- A list of operations that is drawn out. -/
theorem W.list {k : List KI} {l l' : List Oper} (e : l = l') (h : SL C F ops l' (Cont C F Q k) pf σ) : SL C F ops l (Cont C F Q k) pf σ := by rw [e]; exact h
/-- What a round hands over, where objects of the round are let go. -/
def HandF (F : Fx) {α : Type} (fr : α → PF) (ob : α → AS) (P : α → Prop) (μ : α → Nat) (n : Nat) (pf : PF) (σ : AS) : Prop :=
  ∃ y n' k', P y ∧ μ y < n ∧ Sub (fr y) pf ∧ F.n ≤ n' ∧ F.k ≤ k' ∧ (∀ d p, get (fr y) d = some p → Cl n' k' p) ∧ ClB n' k' σ.bx ∧ ob y = ⟨σ.bx.take n', σ.tk.take k'⟩
theorem W.loopF {k : List KI} {α : Type} {c : Code} (hG : ∀ (g : Nat) (p : PV), C.GE g = some p → Cl 0 0 p) (fr : α → PF) (ob : α → AS) (P : α → Prop) (μ : α → Nat) (x : α) (hP : P x) (hs : Sub (fr x) pf) (ho : ob x = σ)
    (round : ∀ x, P x → SW C F c (Cont C F (thenP (HandF F fr ob P μ (μ x)) (Cont C F Q k)) []) (fr x) (ob x)) : SW C F (.loop c) (Cont C F Q k) pf σ := by
  refine SW.loop (fun n pf σ => (∃ x n' k', P x ∧ μ x = n ∧ Sub (fr x) pf ∧ F.n ≤ n' ∧ F.k ≤ k' ∧ (∀ d p, get (fr x) d = some p → Cl n' k' p) ∧ ClB n' k' σ.bx ∧ ob x = ⟨σ.bx.take n', σ.tk.take k'⟩) ∨ ∃ x, P x ∧ μ x = n ∧ Sub (fr x) pf ∧ ob x = σ) (μ x) (.inr ⟨x, hP, rfl, hs, ho⟩) ?_
  have body : ∀ x, P x → SW C F c (thenP (fun pf σ => ∃ n', n' < μ x ∧ ((∃ x n'' k', P x ∧ μ x = n' ∧ Sub (fr x) pf ∧ F.n ≤ n'' ∧ F.k ≤ k' ∧ (∀ d p, get (fr x) d = some p → Cl n'' k' p) ∧ ClB n'' k' σ.bx ∧ ob x = ⟨σ.bx.take n'', σ.tk.take k'⟩) ∨ ∃ x, P x ∧ μ x = n' ∧ Sub (fr x) pf ∧ ob x = σ)) (Cont C F Q k)) (fr x) (ob x) := by
    intro x hP
    refine SW.mono (round x hP) ?_
    intro e pf σ h
    cases e <;> first | exact h | (obtain ⟨y, n1, k1, h1, h2, h3⟩ := h; exact ⟨μ y, h2, .inl ⟨y, n1, k1, h1, rfl, h3⟩⟩)
  rintro n pf σ (⟨x, n', k', hP, rfl, hs, hn, hk, hc, hb, ho⟩ | ⟨x, hP, rfl, hs, rfl⟩)
  · refine SW.sub hs (SW.forget n' k' hn hk hc hb hG ?_)
    have := body x hP
    rwa [ho] at this
  · exact SW.sub hs (body x hP)
theorem W.handF {k : List KI} {α : Type} {fr : α → PF} {ob : α → AS} {P : α → Prop} {μ : α → Nat} {n : Nat} (y : α) (n' k' : Nat) (hP : P y) (hμ : μ y < n) (hs : Sub (fr y) pf) (hn : F.n ≤ n') (hk : F.k ≤ k')
    (hc : ∀ d p, get (fr y) d = some p → Cl n' k' p) (hb : ClB n' k' σ.bx) (ho : ob y = ⟨σ.bx.take n', σ.tk.take k'⟩) : Cont C F (thenP (HandF F fr ob P μ n) (Cont C F Q k)) [] .normal pf σ :=
  ⟨y, n', k', hP, hμ, hs, hn, hk, hc, hb, ho⟩
/-- Every slot of a frame names only what there is. -/
def ClPF (n k : Nat) : PF → Prop
  | [] => True
  | (_, p) :: r => Cl n k p ∧ ClPF n k r
theorem ClPF.get {n k : Nat} : ∀ {pf : PF}, ClPF n k pf → ∀ d p, get pf d = some p → Cl n k p
  | [], _, d, p, h => by simp [Sw.get] at h
  | (i, q) :: r, hc, d, p, h => by
    simp only [Sw.get] at h
    split at h
    · cases h; exact hc.1
    · exact ClPF.get hc.2 d p h
end
end Go.Sw

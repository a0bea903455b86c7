/- The logic Sw: slices over variables that are appended to element by element, for any program. -/
import Derived.Test.YtbnapbegomemeaaDoorSwO
namespace Go.Sw
open Go.RowKit
section
variable {C : Cx} {F : Fx} {Q : Post} {ops : Array Oper} {pf : PF} {σ σ' : AS} {k : List KI}

/-- A variable's cells are written anew. -/
theorem Inv.setbox {w0 : World} {base : Nat} {s : S} (hi : Inv C w0 base σ s) {i b : Nat} {qs ps : List PV} {cs cs' : Array Value} {T : TypeId} (hb : s.g.bx[i]? = some b) (hq : σ.bx[i]? = some qs)
    (hcs : s.w.heap[b]? = some (.cells cs T (0, 0))) (hsz : cs'.size = cs.size) (hl : ps.length = cs'.size) (hr : ∀ (j : Nat) (p : PV) (v : Value), ps[j]? = some p → cs'[j]? = some v → Rep C.P s p v) :
    Inv C w0 base ⟨σ.bx.set i ps, σ.tk⟩ ⟨s.g, s.tk, s.w.setRow b cs'⟩ ∧ Mono C.P s ⟨s.g, s.tk, s.w.setRow b cs'⟩ := by
  have hbm : b ∈ s.g.bx := List.mem_of_getElem? hb
  have hother : ∀ k, k ≠ b → (s.w.setRow b cs').heap[k]? = s.w.heap[k]? := fun k hk => setRow_other _ _ _ _ hk
  have hm : Mono C.P s ⟨s.g, s.tk, s.w.setRow b cs'⟩ :=
    { oth := KeepsOthers.setRow' hcs _
      heap := by simp
      bx := fun i b h => h
      st := fun b' hi' h => ⟨by simpa using h.1, h.2.1, h.2.2⟩
      cell := fun b' hi' o v h ho hv => (World.cell?_of_block (hother b' (fun e => h.2.1 (e ▸ hbm)))).trans hv
      own := fun t E m ht => ⟨m, ht, Nat.le_refl _, fun _ => ⟨rfl, fun b' _ _ _ hb' _ => hother b' (fun e => hi.apart t b' hb' (e ▸ hbm))⟩⟩
      obj := fun i' b' c1 T' hb' hc' => by
        by_cases e : b' = b
        · subst e
          rw [hcs] at hc'
          cases hc'
          exact ⟨_, setRow_heap _ _ _ _ _ _ hcs, hsz⟩
        · exact ⟨c1, (hother b' e).trans hc', rfl⟩ }
  refine ⟨⟨hi.tk, hi.gx, hi.below.trans ⟨rfl, rfl, rfl, by simp, fun k hk => hother k (fun e => by have := (hi.rngb b hbm).1; omega)⟩, by simpa using hi.basele, by simp [hi.lbx], hi.lrw, hi.bxinj, hi.rwinj, hi.apart, fun b' h => by simpa using hi.rngb b' h, fun j b' h => by simpa using hi.rngr j b' h, ?_, fun k p hp => (hi.glob k p hp).mono hm⟩, hm⟩
  intro j b' rs hb' hrs
  by_cases hj : j = i
  · subst hj
    have e : b' = b := by
      have : some b' = some b := hb'.symm.trans hb
      simpa using this
    subst e
    have hlt : j < σ.bx.length := (List.getElem?_eq_some_iff.1 hq).1
    have e : rs = ps := by
      have h := hrs
      rw [List.getElem?_set_self hlt] at h
      exact (Option.some.inj h).symm
    subst e
    exact ⟨_, T, setRow_heap _ _ _ _ _ _ hcs, hl.symm, fun k p v hk hv => (hr k p v hk hv).mono hm⟩
  · have h := hrs
    rw [List.getElem?_set_ne (Ne.symm hj)] at h
    have hne : b' ≠ b := fun e => hj (hi.bxinj j i b' hb' (e ▸ hb))
    obtain ⟨c1, T', h1, h2, h3⟩ := hi.box j b' rs hb' h
    exact ⟨c1, T', (hother b' hne).trans h1, h2, fun k p v hk hv => (h3 k p v hk hv).mono hm⟩

/-- An operation on the objects with several outcomes. -/
def EffR (C : Cx) (N : Nat) (o : Oper) (pf : PF) (σ : AS) (R : PV → AS → Prop) : Prop :=
  ∀ w0 base s a, Inv C w0 base σ s → RepF C s N pf a → ∃ v s' p σ', R p σ' ∧ (execOp a.eval o).run C.P s.w = .ok (.value v) s'.w ∧ Rep C.P s' p v ∧ Inv C w0 base σ' s' ∧ Mono C.P s s'

theorem SL.effR {o : Oper} {rest : List Oper} {R : PV → AS → Prop} (hg : o.guard = none) (hd : inN F.N o.dst = true) (hp : EffR C F.N o pf σ R) (h : ∀ p σ', R p σ' → SL C F ops rest Q (setd pf o.dst p) σ') : SL C F ops (o :: rest) Q pf σ := by
  intro w0 base se s a h1 h2 h3 h4
  refine wpListIn_plain hg fun K hK => ?_
  obtain ⟨v, s', p, σ', hR, hr, hv, hi, hm⟩ := hp w0 base s a h3 h4
  exact opIn_value hr (hK _ _ (h p σ' hR w0 base se s' (a.put o.dst v) h1 (h2.trans hm) hi ((h4.mono hm).put (inN_ok hd) hv)))

theorem SHo.effRLast {T : List Nat} {kp : Bool} {σ1 σh : AS} {m : Nat} {listed : Array Bool} {pf1 : PF} {i : Nat} {o : Oper} {R : PV → AS → Prop} (hi : ops[i]? = some o) (hd : inN F.N o.dst = true) (hg : gd ops o pf = some true) (hn : needS ops T i = false) (he : EffR C F.N o pf σ R)
    (h : ∀ p σ', R p σ' → SH C F ops Q T false σ1 σh m (listed.setIfInBounds i true) (setd pf1 o.dst (down p)) (setd pf o.dst p) σ') : SHo C F ops Q T kp σ1 σh i m listed pf1 pf σ := by
  intro w0 base se s1 s a H hri
  obtain ⟨v, s', p, σ', hR, h1, h2, h3, h4⟩ := he w0 base s a H.i H.r
  have fin := h p σ' hR w0 base se s1 s' (a.put o.dst v) ⟨H.dc.set hri, H.at_, H.m1, H.i1, h3, H.m.trans h4, (fun h => by cases h), H.r1.put (inN_ok hd) (down_ok h2), (H.r.mono h4).put (inN_ok hd) h2⟩
  unfold wpOp
  simp only [hi, gd_ok H.r hg, if_true]
  refine .inl ?_
  unfold Oper.wp
  rw [h1]
  exact ⟨(fun h => by rw [hn] at h; cases h), fin⟩

/-- What append gives of a slice over a variable (or of no slice) and one element. -/
def AppR (E : TypeId) (n : Nat) (qs : List PV) (old : Option (Nat × Nat)) (x : PV) (σ : AS) (p : PV) (σ' : AS) : Prop :=
  (∃ i c, old = some (i, c) ∧ n < c ∧ p = .bs E i (n + 1) c ∧ σ' = ⟨σ.bx.set i (qs.take n ++ [x] ++ List.replicate (c - n - 1) .any), σ.tk⟩) ∨
  (∃ c, n + 1 ≤ c ∧ p = .bs E σ.bx.length (n + 1) c ∧ σ' = ⟨σ.bx ++ [qs.take n ++ [x] ++ List.replicate (c - n - 1) .any], σ.tk⟩)

theorem appR_ok {w0 : World} {base : Nat} {s : S} {t E : TypeId} {y z : TyI} {n : Nat} {qs : List PV} {old : Option (Nat × Nat)} {x : PV} {own : Option Nat} {v u : Value} (hi : Inv C w0 base σ s) (hy : C.T t = some y) (hd : y.d = .slice E) (hz : C.T E = some z) (hz1 : z.size = 1) (hzb : 0 < z.bytes) (hbytes : (n + 1) * z.bytes ≤ 140737488355328)
    (hold : (old = none ∧ n = 0 ∧ qs = [] ∧ v = .slice none 0 0) ∨ (∃ i c, old = some (i, c) ∧ σ.bx[i]? = some qs ∧ Rep C.P s (.bs E i n c) v)) (hu : Rep C.P s (.sl own [[x]]) u) (hx : oneB x = true) (ty : TypeId) :
    ∃ r s' p σ', AppR E n qs old x σ p σ' ∧ (Builtin.append_ #[t, t] ty #[v, u]).run C.P s.w = .ok r s'.w ∧ Rep C.P s' p r ∧ Inv C w0 base σ' s' ∧ Mono C.P s s' := by
  obtain ⟨ti, hti, hzero, hsize, hby⟩ := info hz
  have hzs := (C.ok _ _ hz).2.2
  obtain ⟨ay, cy, news, rfl, hnl, hna, hnc, hnr⟩ := hu.flat (size := z.size) (by intro y hy; simp at hy; subst hy; simp [hz1])
  simp only [List.length_cons, List.length_nil, Nat.zero_add] at hnl
  obtain ⟨nv, rfl⟩ : ∃ nv, news = [nv] := by
    match news, hnl with
    | [nv], _ => exact ⟨nv, rfl⟩
    | [], h => rw [hz1] at h; cases h
    | _ :: _ :: _, h => rw [hz1] at h; simp at h
  have hxv : Rep C.P s x nv := by
    obtain ⟨u', h1, h2⟩ := hnr 0 0 [x] x rfl rfl
    simp at h1
    subst h1
    exact h2
  have hone : ∀ u ∈ [nv], u.oneCell' = true := by
    intro u' hu'
    simp at hu'
    subst hu'
    exact oneB_ok hx hxv
  have hbytes' : (n + 1) * z.bytes ≤ 140737488355328 := hbytes
  have hn63 : n + 1 ≤ maxLen := by
    have : n + 1 ≤ (n + 1) * z.bytes := Nat.le_mul_of_pos_right _ hzb
    simp only [maxLen]; omega
  -- the row at the begin
  obtain ⟨xs, hxl, hxr, hown, hold'⟩ : ∃ xs : List Value, xs.length = n ∧ (∀ (j : Nat) (p : PV) (u : Value), (qs.take n)[j]? = some p → xs[j]? = some u → Rep C.P s p u) ∧ s.w.ownsRow 0 E z.size v n xs ∧
      ((v.ownBlock = none ∧ old = none) ∨ ∃ i c b cs, old = some (i, c) ∧ v.ownBlock = some b ∧ σ.bx[i]? = some qs ∧ s.g.bx[i]? = some b ∧ s.w.heap[b]? = some (.cells cs E (0, 0)) ∧ cs.size = c ∧ qs.length = c ∧ n ≤ c ∧ c ≤ maxLen ∧
        ∀ (j : Nat) (p : PV) (v : Value), qs[j]? = some p → cs[j]? = some v → Rep C.P s p v) := by
    rcases hold with ⟨rfl, rfl, rfl, rfl⟩ | ⟨i, c, rfl, hq, hv⟩
    · exact ⟨[], rfl, fun j p u hp => by simp at hp, World.ownsRow_nil _ _ _ _, .inl ⟨rfl, rfl⟩⟩
    · obtain ⟨b, cs, rfl, hb, hcs, hsz, hn, hc⟩ : ∃ b cs, v = .slice (some ⟨b, 0, none⟩) n c ∧ s.g.bx[i]? = some b ∧ s.w.heap[b]? = some (.cells cs E (0, 0)) ∧ cs.size = c ∧ n ≤ c ∧ c ≤ maxLen := by
        cases hv with
        | bs _ _ _ _ b cs hb hcs hsz hn hc => exact ⟨b, cs, rfl, hb, hcs, by rw [hsz, cellsOf_ok hz, hz1, Nat.mul_one], hn, hc⟩
      obtain ⟨cs1, T, g1, g2, g3⟩ := hi.box i b qs hb hq
      rw [hcs] at g1
      cases g1
      refine ⟨cs.toList.take n, by simp; omega, fun j p u hp hu => ?_, ⟨by simp [hz1]; omega, .inr ⟨b, c, cs, rfl, Nat.zero_le _, hcs, hn, hc, by rw [hz1]; omega, by rw [hz1, Nat.mul_one]⟩⟩, .inr ⟨i, c, b, cs, rfl, rfl, hq, hb, hcs, hsz, by omega, hn, hc, g3⟩⟩
      rw [List.getElem?_take] at hp hu
      split at hp
      · rename_i hj
        rw [if_pos hj] at hu
        exact g3 j p u hp (by simpa using hu)
      · cases hp
  obtain ⟨r, w', hrun, hown', hways⟩ := run_append_cases (P := C.P) s.w t ty E ti z.zero z.size z.bytes (und_slice hy hd) hti hzero hsize hby hzs v n xs hown ay 1 cy [nv] (by rw [hz1]; rfl) hna hnc hone hn63 hbytes'
  -- the cells of the result
  obtain ⟨g, cap, cur, hrv, hg, hcapn, hcapm, hcaps, htake⟩ : ∃ (g cap : Nat) (cur : Array Value), r = .slice (some ⟨g, 0, none⟩) (n + 1) cap ∧ w'.heap[g]? = some (.cells cur E (0, 0)) ∧ n + 1 ≤ cap ∧ cap ≤ maxLen ∧ cur.size = cap ∧ cur.toList.take (n + 1) = xs ++ [nv] := by
    rcases hown'.2 with ⟨_, h0⟩ | ⟨g, cap, cur, h1, _, h2, h3, h4, h5, h6⟩
    · omega
    · exact ⟨g, cap, cur, h1, h2, h3, h4, by rw [h5, hz1, Nat.mul_one], by rw [hz1, Nat.mul_one] at h6; exact h6⟩
  subst hrv
  have hps : (qs.take n).length = n := by
    rcases hold' with ⟨_, ho⟩ | ⟨_, _, _, _, _, _, _, _, _, _, h1, h2, _, _⟩
    · rcases hold with ⟨_, h0, h1, _⟩ | ⟨_, _, h1, _⟩
      · subst h1; subst h0; rfl
      · rw [ho] at h1; cases h1
    · simp; omega
  have hcells : ∀ (j : Nat) (p : PV) (u : Value), (qs.take n ++ [x] ++ List.replicate (cap - n - 1) PV.any)[j]? = some p → cur[j]? = some u → Rep C.P s p u := by
    intro j p u hp hu
    by_cases hj : j < n + 1
    · have h1 : (xs ++ [nv])[j]? = some u := by rw [← htake, List.getElem?_take, if_pos hj]; simpa using hu
      rw [List.getElem?_append_left (by simp [hps]; omega)] at hp
      by_cases hjn : j < n
      · rw [List.getElem?_append_left (by omega)] at hp h1
        exact hxr j p u hp h1
      · have : j = n := by omega
        subst this
        rw [List.getElem?_append_right (by omega)] at hp h1
        simp [hps, hxl] at hp h1
        subst hp; subst h1
        exact hxv
    · rw [List.getElem?_append_right (by simp [hps]; omega)] at hp
      have := List.mem_of_getElem? hp
      rw [List.mem_replicate] at this
      rw [this.2]
      exact .any u
  have hlen : (qs.take n ++ [x] ++ List.replicate (cap - n - 1) PV.any).length = cap := by simp [hps]; omega
  rcases hways with ⟨h0, _, _⟩ | ⟨_, g', cur', cs', hg1, hg2, hg3, rfl, _, hsz'⟩ | ⟨_, hg2, o, rfl⟩
  · omega
  · have hgg : g' = g := by simpa [Value.ownBlock] using hg2.symm
    subst hgg
    rcases hold' with ⟨h1, _⟩ | ⟨i, c, b, cs, rfl, h1, h2, h3, h4, h5, h6, h7, h8, h9⟩
    · rw [h1] at hg1; cases hg1
    · have hbg : b = g' := by rw [h1] at hg1; exact Option.some.inj hg1
      subst hbg
      rw [h4] at hg3
      cases hg3
      have hcur : cur = cs' := by
        have := setRow_heap s.w b _ cs' _ _ h4
        rw [hg] at this
        cases this
        rfl
      subst hcur
      have hcc : cap = c := by omega
      subst hcc
      obtain ⟨k1, k2⟩ := hi.setbox (ps := qs.take n ++ [x] ++ List.replicate (cap - n - 1) PV.any) h3 h2 h4 hsz' (by rw [hlen]; omega) hcells
      exact ⟨_, ⟨s.g, s.tk, s.w.setRow b cur⟩, _, _, .inl ⟨i, cap, rfl, by omega, rfl, rfl⟩, hrun, .bs E i (n + 1) cap b cur h3 hg (by rw [hcaps, cellsOf_ok hz, hz1, Nat.mul_one]) hcapn hcapm, k1, k2⟩
  · have hgg : g = s.w.heap.size := by simpa [Value.ownBlock] using hg2
    subst hgg
    have ho : o = .cells cur E (0, 0) := by
      have h1 : (s.w.drew.alloc o).heap[s.w.heap.size]? = some o := heap_alloc_new s.w.drew o
      rw [hg] at h1
      exact (Option.some.inj h1).symm
    subst ho
    obtain ⟨i1, m1⟩ := hi.drew
    obtain ⟨k1, k2, k3⟩ := i1.newbox cur.toList E (qs.take n ++ [x] ++ List.replicate (cap - n - 1) PV.any) (by rw [hlen]; simp [hcaps]) (fun j p u hp hu => (hcells j p u hp (by simpa using hu)).mono m1)
    cases k3
    rename_i hb
    refine ⟨_, _, _, _, .inr ⟨cap, hcapn, rfl, rfl⟩, hrun, ?_, k1, m1.trans k2⟩
    exact .bs E _ (n + 1) cap _ cur hb (by simpa using hg) (by rw [hcaps, cellsOf_ok hz, hz1, Nat.mul_one]) hcapn hcapm

theorem eff_appR {N : Nat} {o : Oper} {c : Call} {xo yo : Operand} {t E : TypeId} {y z : TyI} {n : Nat} {qs : List PV} {old : Option (Nat × Nat)} {x : PV} {own : Option Nat} (ho : o.op = .call c) (hc : c.callee = .builtin .append) (hA : c.args = #[xo, yo]) (hT : c.argTypes = #[t, t])
    (hy : C.T t = some y) (hd : y.d = .slice E) (hz : C.T E = some z) (hz1 : z.size = 1) (hzb : 0 < z.bytes) (hbytes : (n + 1) * z.bytes ≤ 140737488355328)
    (hold : (old = none ∧ n = 0 ∧ qs = [] ∧ ev C.GE pf xo = some (.val (.slice none 0 0))) ∨ (∃ i c, old = some (i, c) ∧ σ.bx[i]? = some qs ∧ ev C.GE pf xo = some (.bs E i n c))) (hu : ev C.GE pf yo = some (.sl own [[x]])) (hx : oneB x = true) :
    EffR C N o pf σ (AppR E n qs old x σ) := by
  intro w0 base s a hi hr
  obtain ⟨r, s', p, σ', h1, h2, h3, h4, h5⟩ := appR_ok (v := a.eval xo) (u := a.eval yo) hi hy hd hz hz1 hzb hbytes (by
    rcases hold with ⟨h1, h2, h3, h4⟩ | ⟨i, c, h1, h2, h3⟩
    · exact .inl ⟨h1, h2, h3, (ev_ok hi hr h4).val_eq⟩
    · exact .inr ⟨i, c, h1, h2, ev_ok hi hr h3⟩) (ev_ok hi hr hu) hx o.type
  refine ⟨r, s', p, σ', h1, ?_, h3, h4, h5⟩
  simp [execOp, ho, resolve, hc, hA, hT, invoke, builtin, h2]

/-! ### Variables that become rows nobody writes, when a call ends -/
theorem Frz.cl {n k : Nat} {r : PV} (h : Cl n k r) : Frz C σ n k r r := fun _ _ _ _ _ hr => hr.trunc h
def FrzL (C : Cx) (σ : AS) (n k : Nat) : List PV → List PV → Prop
  | [], [] => True
  | p :: ps, q :: qs => Frz C σ n k p q ∧ FrzL C σ n k ps qs
  | _, _ => False
theorem FrzL.length {n k : Nat} : ∀ {ps qs : List PV}, FrzL C σ n k ps qs → ps.length = qs.length
  | [], [], _ => rfl
  | _ :: _, _ :: _, h => by simp [FrzL.length h.2]
theorem FrzL.at_ {n k : Nat} : ∀ {ps qs : List PV}, FrzL C σ n k ps qs → ∀ (j : Nat) (q : PV), qs[j]? = some q → ∃ p, ps[j]? = some p ∧ Frz C σ n k p q
  | [], [], _, j, q, hq => by simp at hq
  | _ :: _, _ :: _, h, 0, q, hq => by simp at hq; subst hq; exact ⟨_, rfl, h.1⟩
  | _ :: _, _ :: _, h, j + 1, q, hq => by simpa using FrzL.at_ h.2 j q (by simpa using hq)
theorem Frz.agg {n k : Nat} {ps qs : List PV} (h : FrzL C σ n k ps qs) : Frz C σ n k (.agg ps) (.agg qs) := by
  intro w0 base s v hi hr
  cases hr with
  | agg _ vs hl hv =>
    refine .agg qs vs (by rw [← h.length]; exact hl) fun j q v hq hu => ?_
    obtain ⟨p, h1, h2⟩ := h.at_ j q hq
    exact h2 w0 base s v hi (hv j p v h1 hu)
def FrzB (C : Cx) (σ : AS) (n k : Nat) : List (List PV) → List (List PV) → Prop
  | [], [] => True
  | p :: ps, q :: qs => FrzL C σ n k p q ∧ FrzB C σ n k ps qs
  | _, _ => False
theorem FrzB.length {n k : Nat} : ∀ {ps qs : List (List PV)}, FrzB C σ n k ps qs → ps.length = qs.length
  | [], [], _ => rfl
  | _ :: _, _ :: _, h => by simp [FrzB.length h.2]
theorem FrzB.at_ {n k : Nat} : ∀ {ps qs : List (List PV)}, FrzB C σ n k ps qs → ∀ (j : Nat) (q : List PV), qs[j]? = some q → ∃ p, ps[j]? = some p ∧ FrzL C σ n k p q
  | [], [], _, j, q, hq => by simp at hq
  | _ :: _, _ :: _, h, 0, q, hq => by simp at hq; subst hq; exact ⟨_, rfl, h.1⟩
  | _ :: _, _ :: _, h, j + 1, q, hq => by simpa using FrzB.at_ h.2 j q (by simpa using hq)
/-- A row whose parts are frozen. -/
theorem Frz.sl {n k : Nat} {own : Option Nat} {xs ys : List (List PV)} (h : FrzB C σ n k xs ys) : Frz C σ n k (.sl own xs) (.sl none ys) := by
  intro w0 base s v hi hr
  cases hr with
  | sl _ _ size b o c a u hl hm ha hx hs hc hr ho =>
    rw [h.length] at hl ha hs hc ⊢
    refine .sl none ys size b o c a u hl hm ha (fun y hy => ?_) (fun h0 => (hs h0).trunc) hc (fun i j y q hy hq => ?_) trivial
    · obtain ⟨j, hj, rfl⟩ := List.getElem_of_mem hy
      obtain ⟨p, h1, h2⟩ := h.at_ j _ (List.getElem?_eq_getElem hj)
      rw [← h2.length]
      exact hx p (List.mem_of_getElem? h1)
    · obtain ⟨x, h1, h2⟩ := h.at_ i y hy
      obtain ⟨p, h3, h4⟩ := h2.at_ j q hq
      exact h4 w0 base s _ hi (hr i j x p h1 h3)
/-- A slice over a variable that is forgotten. -/
theorem Frz.bs {n k : Nat} {E : TypeId} {z : TyI} {i m c : Nat} {ps qs : List PV} (hz : C.T E = some z) (hz1 : z.size = 1) (hi : n ≤ i) (hp : σ.bx[i]? = some ps) (h : FrzL C σ n k (ps.take m) qs) : Frz C σ n k (.bs E i m c) (.sl none (qs.map fun q => [q])) := by
  intro w0 base s v hI hr
  cases hr with
  | bs _ _ _ _ b cs hb hcs hsz hn hc =>
    rw [cellsOf_ok hz, hz1, Nat.mul_one] at hsz
    obtain ⟨cs1, T, g1, g2, g3⟩ := hI.box i b ps hb hp
    rw [hcs] at g1
    cases g1
    have hql : qs.length = m := by rw [← h.length]; simp; omega
    have key := Rep.sl (P := C.P) (s := s.trunc n k) none (qs.map fun q => [q]) 1 b 0 c (some ⟨b, 0, none⟩) (fun i _ => cs.getD i undef) (by simp [hql]; exact hn) hc (fun _ => rfl) (fun x hx => by obtain ⟨q, _, rfl⟩ := List.mem_map.1 hx; rfl) ?_ ?_ ?_ trivial
    · simp only [List.length_map, hql] at key
      exact key
    · intro h0
      refine ⟨(hI.rngb b (List.mem_of_getElem? hb)).2, fun hm => ?_, fun t E' m' h1 h2 => ?_⟩
      · obtain ⟨j, hj, hje⟩ := List.getElem_of_mem hm
        have h1 : (s.trunc n k).g.bx[j]? = some b := by rw [List.getElem?_eq_getElem hj, hje]
        obtain ⟨h2, h3⟩ := get_take (l := s.g.bx) h1
        have := hI.bxinj i j b hb h3
        omega
      · exact absurd (List.mem_of_getElem? hb) (hI.apart t b (get_take h1).2)
    · intro j j' hj hj'
      simp only [List.length_map, hql] at hj
      have : j' = 0 := by omega
      subst this
      have hlt : j < cs.size := by omega
      show s.w.cell? ⟨b, 0 + j * 1 + 0, none⟩ = _
      simp [World.cell?, hcs, Array.getD, hlt]
    · intro j j' x q hx hq
      rw [List.getElem?_map] at hx
      obtain ⟨q', h1, rfl⟩ := Option.map_eq_some_iff.1 hx
      have : j' = 0 := by
        have := (List.getElem?_eq_some_iff.1 hq).1
        simpa using this
      subst this
      simp at hq
      subst hq
      obtain ⟨p, h2, h3⟩ := h.at_ j q' h1
      rw [List.getElem?_take] at h2
      split at h2
      · rename_i hj
        have hlt : j < cs.size := by omega
        exact h3 w0 base s _ hI (g3 j p _ h2 (by simp [Array.getD, hlt]))
      · cases h2
end
end Go.Sw

/- The logic Sw: rows of elements of several cells that are written after they have been appended to, for any program. -/
import Derived.Test.YtbnapbegomemeaaDoorSwP
import Derived.Test.YtbnapbegomemeaaDoorSwJ
namespace Go.Sw
open Go.RowKit

/-- The row qs begins with the elements xs, of z cells each. -/
def RowsIn (z : Nat) (qs : List PV) (xs : List (List PV)) : Prop := ∀ (j : Nat) (x : List PV), xs[j]? = some x → x.length = z ∧ ∀ f, f < z → qs[j * z + f]? = x[f]?

theorem RowsIn.nil (z : Nat) (qs : List PV) : RowsIn z qs [] := fun j x h => by simp at h

theorem flat_at {z : Nat} : ∀ {ys : List (List PV)}, (∀ y ∈ ys, y.length = z) → ∀ (j : Nat) (y : List PV), ys[j]? = some y → ∀ f, f < z → ys.flatten[j * z + f]? = y[f]?
  | [], _, j, y, h, _, _ => by simp at h
  | x :: ys, hl, 0, y, h, f, hf => by
    simp at h; subst h
    have := hl x (by simp)
    rw [List.flatten_cons, List.getElem?_append_left (by omega)]
    simp
  | x :: ys, hl, j + 1, y, h, f, hf => by
    have hx := hl x (by simp)
    have e : (j + 1) * z + f = x.length + (j * z + f) := by rw [Nat.succ_mul, hx]; omega
    rw [List.flatten_cons, e, List.getElem?_append_right (Nat.le_add_right _ _), Nat.add_sub_cancel_left]
    exact flat_at (fun y hy => hl y (by simp [hy])) j y (by simpa using h) f hf

theorem flat_len {z : Nat} : ∀ {ys : List (List PV)}, (∀ y ∈ ys, y.length = z) → ys.flatten.length = ys.length * z
  | [], _ => by simp
  | x :: ys, hl => by
    rw [List.flatten_cons, List.length_append, flat_len (fun y hy => hl y (by simp [hy])), hl x (by simp), List.length_cons, Nat.succ_mul]; omega

theorem mulAdd_lt {i z f n : Nat} (hi : i < n) (hf : f < z) : i * z + f < n * z := by
  have : i * z + z ≤ n * z := by rw [← Nat.succ_mul]; exact Nat.mul_le_mul_right _ hi
  omega

theorem mulAdd_inj {i j z f g : Nat} (hf : f < z) (hg : g < z) (h : i * z + f = j * z + g) : i = j ∧ f = g := by
  have e1 : (i * z + f) / z = i := by rw [Nat.mul_comm, Nat.mul_add_div (by omega), Nat.div_eq_of_lt hf]; omega
  have e2 : (j * z + g) / z = j := by rw [Nat.mul_comm, Nat.mul_add_div (by omega), Nat.div_eq_of_lt hg]; omega
  have : i = j := by rw [← e1, h, e2]
  subst this
  exact ⟨rfl, by omega⟩

/-- A cell of an element is written. -/
theorem RowsIn.set {z : Nat} {qs : List PV} {xs : List (List PV)} (h : RowsIn z qs xs) {k f : Nat} {x : List PV} (p : PV) (hx : xs[k]? = some x) (hf : f < z) (hq : xs.length * z ≤ qs.length) :
    RowsIn z (qs.take (k * z + f) ++ [p] ++ qs.drop (k * z + f + 1)) (xs.set k (x.set f p)) := by
  have hk : k < xs.length := (List.getElem?_eq_some_iff.1 hx).1
  have hkf := mulAdd_lt hk hf
  have e : qs.take (k * z + f) ++ [p] ++ qs.drop (k * z + f + 1) = qs.set (k * z + f) p := by
    rw [List.set_eq_take_append_cons_drop, if_pos (by omega)]; simp
  rw [e]
  intro j y hy
  by_cases hj : k = j
  · subst hj
    rw [List.getElem?_set_self hk] at hy
    obtain rfl := (Option.some.inj hy).symm
    obtain ⟨h1, h2⟩ := h k x hx
    refine ⟨by simpa using h1, fun g hg => ?_⟩
    by_cases hfg : f = g
    · subst hfg
      rw [List.getElem?_set_self (by omega), List.getElem?_set_self (by omega)]
    · rw [List.getElem?_set_ne (by omega), List.getElem?_set_ne hfg]
      exact h2 g hg
  · rw [List.getElem?_set_ne hj] at hy
    obtain ⟨h1, h2⟩ := h j y hy
    refine ⟨h1, fun g hg => ?_⟩
    rw [List.getElem?_set_ne (fun e => hj (mulAdd_inj hf hg e).1)]
    exact h2 g hg

/-- The cells of a row behind an append. -/
def cellsZ (z n c : Nat) (qs : List PV) (ys : List (List PV)) : List PV := qs.take (n * z) ++ ys.flatten ++ List.replicate ((c - n - ys.length) * z) .any

theorem cellsZ_len {z n c : Nat} {qs : List PV} {ys : List (List PV)} (hys : ∀ y ∈ ys, y.length = z) (hq : n * z ≤ qs.length) (hc : n + ys.length ≤ c) : (cellsZ z n c qs ys).length = c * z := by
  simp only [cellsZ, List.length_append, List.length_take, List.length_replicate, flat_len hys, Nat.min_eq_left hq, ← Nat.add_mul]
  congr 1
  omega

theorem RowsIn.app {z n c : Nat} {qs : List PV} {xs ys : List (List PV)} (h : RowsIn z qs xs) (hx : xs.length = n) (hys : ∀ y ∈ ys, y.length = z) (hq : n * z ≤ qs.length) : RowsIn z (cellsZ z n c qs ys) (xs ++ ys) := by
  subst hx
  intro j y hy
  rcases app_cases hy with ⟨h1, h2⟩ | ⟨h1, h2⟩
  · obtain ⟨h3, h4⟩ := h j y h2
    refine ⟨h3, fun f hf => ?_⟩
    have := mulAdd_lt h1 hf
    unfold cellsZ
    rw [List.append_assoc, List.getElem?_append_left (by simp; omega), List.getElem?_take, if_pos this]
    exact h4 f hf
  · refine ⟨hys y (List.mem_of_getElem? h2), fun f hf => ?_⟩
    have hl : (qs.take (xs.length * z)).length = xs.length * z := by simp; omega
    have e : j * z + f = xs.length * z + ((j - xs.length) * z + f) := by rw [← Nat.add_assoc, ← Nat.add_mul]; congr 2; omega
    have hlt := mulAdd_lt (List.getElem?_eq_some_iff.1 h2).1 hf
    unfold cellsZ
    rw [List.append_assoc, List.getElem?_append_right (by rw [hl, e]; omega), hl, e, Nat.add_sub_cancel_left, List.getElem?_append_left (by rw [flat_len hys]; exact hlt)]
    exact flat_at hys _ y h2 f hf

theorem RowsIn.load {z : Nat} {qs : List PV} {xs : List (List PV)} (h : RowsIn z qs xs) {k : Nat} {x : List PV} (hx : xs[k]? = some x) : (qs.drop (k * z)).take z = x := by
  obtain ⟨h1, h2⟩ := h k x hx
  apply List.ext_getElem?
  intro f
  rw [List.getElem?_take]
  split
  · rename_i hf
    rw [List.getElem?_drop]
    exact h2 f hf
  · rw [List.getElem?_eq_none (by omega)]

theorem cl_cellsZ {m t : Nat} {z n c : Nat} {qs : List PV} {ys : List (List PV)} (hq : ∀ p ∈ qs, Cl m t p) (hy : ∀ y ∈ ys, ∀ p ∈ y, Cl m t p) : ∀ p ∈ cellsZ z n c qs ys, Cl m t p := by
  intro p hp
  unfold cellsZ at hp
  rcases List.mem_append.1 hp with hp | hp
  · rcases List.mem_append.1 hp with hp | hp
    · exact hq p (List.mem_of_mem_take hp)
    · obtain ⟨y, h1, h2⟩ := List.mem_flatten.1 hp
      exact hy y h1 p h2
  · rw [List.mem_replicate] at hp
    rw [hp.2]
    exact .any

/-- All that is there, and more. -/
theorem ClA.clBs {σ : AS} {r : List (List PV)} (h : ClA σ) (n : Nat) (hn : n = σ.bx.length + r.length) (hr : ∀ x ∈ r, ∀ p ∈ x, Cl n σ.tk.length p) : ClB n σ.tk.length (σ.bx ++ r) := by
  intro i ps _ hp p hpp
  rcases app_cases hp with ⟨_, h2⟩ | ⟨_, h2⟩
  · exact (h i ps h2 p hpp).le (by omega) (Nat.le_refl _)
  · exact hr ps (List.mem_of_getElem? h2) p hpp

section
variable {C : Cx} {F : Fx} {Q : Post} {pf : PF} {σ : AS} {ops : Array Oper}

/-- What append gives of a slice over a variable. -/
def AppZ (E : TypeId) (z n c i : Nat) (qs : List PV) (ys : List (List PV)) (σ : AS) (p : PV) (σ' : AS) : Prop :=
  (ys = [] ∧ p = .bs E i n c ∧ σ' = σ) ∨
  (ys ≠ [] ∧ n + ys.length ≤ c ∧ p = .bs E i (n + ys.length) c ∧ σ' = ⟨σ.bx.set i (cellsZ z n c qs ys), σ.tk⟩) ∨
  (ys ≠ [] ∧ ∃ c', n + ys.length ≤ c' ∧ p = .bs E σ.bx.length (n + ys.length) c' ∧ σ' = ⟨σ.bx ++ [cellsZ z n c' qs ys], σ.tk⟩)

theorem appZ_ok {w0 : World} {base : Nat} {s : S} {t E : TypeId} {y z : TyI} {n c i : Nat} {qs : List PV} {ys : List (List PV)} {own : Option Nat} {v u : Value} (hi : Inv C w0 base σ s) (hy : C.T t = some y) (hd : y.d = .slice E) (hz : C.T E = some z) (hzp : 0 < z.size) (hzb : 0 < z.bytes) (hbytes : (n + ys.length) * z.bytes ≤ 140737488355328)
    (hq : σ.bx[i]? = some qs) (hv : Rep C.P s (.bs E i n c) v) (hu : Rep C.P s (.sl own ys) u) (hys : okRow z.size ys = true) (ty : TypeId) :
    ∃ r s' p σ', AppZ E z.size n c i qs ys σ p σ' ∧ (Builtin.append_ #[t, t] ty #[v, u]).run C.P s.w = .ok r s'.w ∧ Rep C.P s' p r ∧ Inv C w0 base σ' s' ∧ Mono C.P s s' := by
  obtain ⟨ti, hti, hzero, hsize, hby⟩ := info hz
  have hzs := (C.ok _ _ hz).2.2
  have hyl := okRow_len hys
  obtain ⟨ay, cy, news, rfl, hnl, hna, hnc, hnr⟩ := hu.flat (size := z.size) hyl
  have hnone : ∀ u ∈ news, u.oneCell' = true := by
    intro u hu'
    obtain ⟨j, hj, rfl⟩ := List.getElem_of_mem hu'
    have hj' : j < ys.length * z.size := by omega
    have h1 : j / z.size < ys.length := (Nat.div_lt_iff_lt_mul hzp).2 hj'
    have h2 : j % z.size < (ys[j / z.size]).length := by rw [hyl _ (List.getElem_mem h1)]; exact Nat.mod_lt _ hzp
    obtain ⟨u, h3, h4⟩ := hnr (j / z.size) (j % z.size) _ _ (List.getElem?_eq_getElem h1) (List.getElem?_eq_getElem h2)
    rw [Nat.mul_comm, Nat.div_add_mod, List.getElem?_eq_getElem hj] at h3
    cases h3
    exact oneB_ok (okRow_one hys _ (List.getElem_mem h1) _ (List.getElem_mem h2)) h4
  have hn63 : n + ys.length ≤ maxLen := by
    have : n + ys.length ≤ (n + ys.length) * z.bytes := Nat.le_mul_of_pos_right _ hzb
    simp only [maxLen]; omega
  obtain ⟨b, cs, rfl, hb, hcs, hsz, hn, hc⟩ : ∃ b cs, v = .slice (some ⟨b, 0, none⟩) n c ∧ s.g.bx[i]? = some b ∧ s.w.heap[b]? = some (.cells cs E (0, 0)) ∧ cs.size = c * z.size ∧ n ≤ c ∧ c ≤ maxLen := by
    cases hv with
    | bs _ _ _ _ b cs hb hcs hsz hn hc => exact ⟨b, cs, rfl, hb, hcs, by rw [hsz, cellsOf_ok hz], hn, hc⟩
  obtain ⟨cs1, T, g1, g2, g3⟩ := hi.box i b qs hb hq
  rw [hcs] at g1
  cases g1
  have hnc' : n * z.size ≤ cs.size := by rw [hsz]; exact Nat.mul_le_mul_right _ hn
  have hql : n * z.size ≤ qs.length := by omega
  have hown : s.w.ownsRow 0 E z.size (.slice (some ⟨b, 0, none⟩) n c) n (cs.toList.take (n * z.size)) :=
    ⟨by simp; omega, .inr ⟨b, c, cs, rfl, Nat.zero_le _, hcs, hn, hc, hsz, rfl⟩⟩
  obtain ⟨r, w', hrun, hown', hways⟩ := run_append_cases (P := C.P) s.w t ty E ti z.zero z.size z.bytes (und_slice hy hd) hti hzero hsize hby hzs _ n _ hown ay ys.length cy news hnl hna hnc hnone hn63 hbytes
  by_cases hys0 : ys = []
  · subst hys0
    rcases hways with ⟨_, rfl, rfl⟩ | ⟨h0, _⟩ | ⟨h0, _⟩
    · exact ⟨_, s, _, _, .inl ⟨rfl, rfl, rfl⟩, hrun, hv, hi, Mono.refl _ _⟩
    · exact absurd h0 (by simp)
    · exact absurd h0 (by simp)
  have hm0 : 0 < ys.length := List.length_pos_iff.2 hys0
  obtain ⟨g, cap, cur, hrv, hg, hcapn, hcapm, hcaps, htake⟩ : ∃ (g cap : Nat) (cur : Array Value), r = .slice (some ⟨g, 0, none⟩) (n + ys.length) cap ∧ w'.heap[g]? = some (.cells cur E (0, 0)) ∧ n + ys.length ≤ cap ∧ cap ≤ maxLen ∧ cur.size = cap * z.size ∧ cur.toList.take ((n + ys.length) * z.size) = cs.toList.take (n * z.size) ++ news := by
    rcases hown'.2 with ⟨_, h0⟩ | ⟨g, cap, cur, h1, _, h2, h3, h4, h5, h6⟩
    · omega
    · exact ⟨g, cap, cur, h1, h2, h3, h4, h5, h6⟩
  subst hrv
  have hl1 : (qs.take (n * z.size)).length = n * z.size := by simp; omega
  have hl2 : (cs.toList.take (n * z.size)).length = n * z.size := by simp; omega
  have hl3 : ys.flatten.length = ys.length * z.size := flat_len hyl
  have hcells : ∀ (j : Nat) (p : PV) (u : Value), (cellsZ z.size n cap qs ys)[j]? = some p → cur[j]? = some u → Rep C.P s p u := by
    intro j p u hp hu
    unfold cellsZ at hp
    rw [List.append_assoc] at hp
    by_cases hj : j < (n + ys.length) * z.size
    · have h1 : (cs.toList.take (n * z.size) ++ news)[j]? = some u := by rw [← htake, List.getElem?_take, if_pos hj]; simpa using hu
      rcases app_cases hp with ⟨k1, k2⟩ | ⟨k1, k2⟩
      · rw [hl1] at k1
        rw [List.getElem?_append_left (by omega), List.getElem?_take, if_pos k1] at h1
        rw [List.getElem?_take, if_pos k1] at k2
        exact g3 j p u k2 (by simpa using h1)
      · rw [hl1] at k1 k2
        rw [List.getElem?_append_right (by omega), hl2] at h1
        rw [Nat.add_mul] at hj
        have hj2 : j - n * z.size < ys.length * z.size := by omega
        rw [List.getElem?_append_left (by omega)] at k2
        have e1 : (j - n * z.size) / z.size < ys.length := (Nat.div_lt_iff_lt_mul hzp).2 hj2
        have e2 := Nat.mod_lt (j - n * z.size) hzp
        have e3 : (j - n * z.size) / z.size * z.size + (j - n * z.size) % z.size = j - n * z.size := by rw [Nat.mul_comm]; exact Nat.div_add_mod _ _
        have h2 := flat_at hyl _ _ (List.getElem?_eq_getElem e1) _ e2
        rw [e3, k2] at h2
        obtain ⟨u', h3, h4⟩ := hnr _ _ _ p (List.getElem?_eq_getElem e1) h2.symm
        rw [e3, h1] at h3
        cases h3
        exact h4
    · rw [List.getElem?_append_right (by rw [hl1]; rw [Nat.add_mul] at hj; omega), List.getElem?_append_right (by rw [hl1, hl3]; rw [Nat.add_mul] at hj; omega)] at hp
      have := List.mem_of_getElem? hp
      rw [List.mem_replicate] at this
      rw [this.2]
      exact .any u
  have hlen : (cellsZ z.size n cap qs ys).length = cap * z.size := cellsZ_len hyl hql hcapn
  rcases hways with ⟨h0, _, _⟩ | ⟨_, g', cur', cs', hg1, hg2, hg3, rfl, _, hsz'⟩ | ⟨_, hg2, o, rfl⟩
  · omega
  · have hgg : g' = g := by simpa [Value.ownBlock] using hg2.symm
    subst hgg
    have hbg : b = g' := by simpa [Value.ownBlock] using hg1
    subst hbg
    rw [hcs] at hg3
    cases hg3
    have hcur : cur = cs' := by
      have := setRow_heap s.w b _ cs' _ _ hcs
      rw [hg] at this
      cases this
      rfl
    subst hcur
    have hcc : cap = c := by
      have h1 : cap * z.size = c * z.size := by omega
      exact Nat.eq_of_mul_eq_mul_right hzp h1
    subst hcc
    obtain ⟨k1, k2⟩ := hi.setbox (ps := cellsZ z.size n cap qs ys) hb hq hcs hsz' (by rw [hlen]; omega) hcells
    exact ⟨_, ⟨s.g, s.tk, s.w.setRow b cur⟩, _, _, .inr (.inl ⟨hys0, hcapn, rfl, rfl⟩), hrun, .bs E i (n + ys.length) cap b cur hb hg (by rw [hcaps, cellsOf_ok hz]) hcapn hcapm, k1, k2⟩
  · have hgg : g = s.w.heap.size := by simpa [Value.ownBlock] using hg2
    subst hgg
    have ho : o = .cells cur E (0, 0) := by
      have h1 : (s.w.drew.alloc o).heap[s.w.heap.size]? = some o := heap_alloc_new s.w.drew o
      rw [hg] at h1
      exact (Option.some.inj h1).symm
    subst ho
    obtain ⟨i1, m1⟩ := hi.drew
    obtain ⟨k1, k2, k3⟩ := i1.newbox cur.toList E (cellsZ z.size n cap qs ys) (by rw [hlen]; simp [hcaps]) (fun j p u hp hu => (hcells j p u hp (by simpa using hu)).mono m1)
    cases k3
    rename_i hb'
    refine ⟨_, _, _, _, .inr (.inr ⟨hys0, cap, hcapn, rfl, rfl⟩), hrun, ?_, k1, m1.trans k2⟩
    exact .bs E _ (n + ys.length) cap _ cur hb' (by simpa using hg) (by rw [hcaps, cellsOf_ok hz]) hcapn hcapm

theorem eff_appZ {N : Nat} {o : Oper} {c : Call} {xo yo : Operand} {t E : TypeId} {y z : TyI} {n cp i : Nat} {qs : List PV} {ys : List (List PV)} {own : Option Nat} (ho : o.op = .call c) (hc : c.callee = .builtin .append) (hA : c.args = #[xo, yo]) (hT : c.argTypes = #[t, t])
    (hy : C.T t = some y) (hd : y.d = .slice E) (hz : C.T E = some z) (hzp : 0 < z.size) (hzb : 0 < z.bytes) (hbytes : (n + ys.length) * z.bytes ≤ 140737488355328)
    (hx : ev C.GE pf xo = some (.bs E i n cp)) (hq : σ.bx[i]? = some qs) (hu : ev C.GE pf yo = some (.sl own ys)) (hys : okRow z.size ys = true) :
    EffR C N o pf σ (AppZ E z.size n cp i qs ys σ) := by
  intro w0 base s a hi hr
  obtain ⟨r, s', p, σ', h1, h2, h3, h4, h5⟩ := appZ_ok (v := a.eval xo) (u := a.eval yo) hi hy hd hz hzp hzb hbytes hq (ev_ok hi hr hx) (ev_ok hi hr hu) hys o.type
  refine ⟨r, s', p, σ', h1, ?_, h3, h4, h5⟩
  simp [execOp, ho, resolve, hc, hA, hT, invoke, builtin, h2]

/-- An empty literal, as a slice over a variable of no cells. -/
theorem eff_lit0 {N : Nat} {o : Oper} {pf : PF} {σ : AS} {t e : TypeId} (ho : o.op = .buildSlice t 0 #[]) (h : buildSliceA C t 0 [] = some (e, [])) : Eff C N o pf σ (.bs e σ.bx.length 0 0) ⟨σ.bx ++ [[]], σ.tk⟩ := by
  intro w0 base s a hi hr
  obtain ⟨z, vs, hz, hpos, hrun, hvl, hxl, hn, hlen, hget⟩ := buildSlice_run (parts := #[]) hi hr (by simp [partsA]) h
  have hvs : vs = [] := List.eq_nil_of_length_eq_zero (by simpa using hvl)
  subst hvs
  obtain ⟨k1, k2, k3⟩ := hi.newbox [] e [] rfl (fun j p v hp => by simp at hp)
  cases k3
  rename_i hb
  refine ⟨.slice (some ⟨s.w.heap.size, 0, none⟩) 0 0, ⟨⟨s.g.bx ++ [s.w.heap.size], s.g.rw⟩, s.tk, s.w.alloc (.cells #[] e)⟩, .inl ?_, ?_, k1, k2⟩
  · simp only [Array.map_empty] at hrun
    simp [execOp, ho, hrun]
  · exact .bs e _ 0 0 _ #[] hb (heap_alloc_new _ _) (by simp) (Nat.le_refl _) (by decide)

/-- A slice over a variable that is forgotten: a row that nobody writes. -/
theorem Frz.bz {n k : Nat} {E : TypeId} {z : TyI} {i m c : Nat} {ps : List PV} {xs ys : List (List PV)} (hz : C.T E = some z) (hi : n ≤ i) (hp : σ.bx[i]? = some ps) (hr : RowsIn z.size ps xs) (hm : xs.length = m) (h : FrzB C σ n k xs ys) : Frz C σ n k (.bs E i m c) (.sl none ys) := by
  intro w0 base s v hI hr'
  subst hm
  cases hr' with
  | bs _ _ _ _ b cs hb hcs hsz hn hc =>
    rw [cellsOf_ok hz] at hsz
    obtain ⟨cs1, T, g1, g2, g3⟩ := hI.box i b ps hb hp
    rw [hcs] at g1
    cases g1
    have hyl : ys.length = xs.length := h.length.symm
    have hyz : ∀ y ∈ ys, y.length = z.size := fun y hy => by
      obtain ⟨j, hj, rfl⟩ := List.getElem_of_mem hy
      obtain ⟨x, h1, h2⟩ := h.at_ j _ (List.getElem?_eq_getElem hj)
      rw [← h2.length]
      exact (hr j x h1).1
    have key := Rep.sl (P := C.P) (s := s.trunc n k) none ys z.size b 0 c (some ⟨b, 0, none⟩) (fun i j => cs.getD (i * z.size + j) undef) (by rw [hyl]; exact hn) hc (fun _ => rfl) hyz ?_ ?_ ?_ trivial
    · rw [hyl] at key
      exact key
    · intro h0
      refine ⟨(hI.rngb b (List.mem_of_getElem? hb)).2, fun hm => ?_, fun t E' m' h1 h2 => ?_⟩
      · obtain ⟨j, hj, hje⟩ := List.getElem_of_mem hm
        have h1 : (s.trunc n k).g.bx[j]? = some b := by rw [List.getElem?_eq_getElem hj, hje]
        obtain ⟨h2, h3⟩ := get_take (l := s.g.bx) h1
        have := hI.bxinj i j b hb h3
        omega
      · exact absurd (List.mem_of_getElem? hb) (hI.apart t b (get_take h1).2)
    · intro j f hj hf
      have hlt : j * z.size + f < cs.size := by
        rw [hsz]
        exact Nat.lt_of_lt_of_le (mulAdd_lt (hyl ▸ hj) hf) (Nat.mul_le_mul_right _ hn)
      show s.w.cell? ⟨b, 0 + j * z.size + f, none⟩ = _
      simp only [Nat.zero_add]
      simp [World.cell?, hcs, Array.getD, hlt]
    · intro j f y q hy hq
      obtain ⟨x, h1, h2⟩ := h.at_ j y hy
      obtain ⟨p, h3, h4⟩ := h2.at_ f q hq
      have hf : f < z.size := by rw [← hyz y (List.mem_of_getElem? hy)]; exact (List.getElem?_eq_some_iff.1 hq).1
      have hj : j < xs.length := (List.getElem?_eq_some_iff.1 h1).1
      have hlt : j * z.size + f < cs.size := by
        rw [hsz]
        exact Nat.lt_of_lt_of_le (mulAdd_lt hj hf) (Nat.mul_le_mul_right _ hn)
      have h5 := (hr j x h1).2 f hf
      rw [h3] at h5
      exact h4 w0 base s _ hI (g3 _ p _ h5 (by simp [Array.getD, hlt]))

theorem run_eqNil {t e : TypeId} (hu : C.P.underlying t = some (.slice e)) (ad : Option Addr) (n c : Nat) (d : Nat) (w : World) : (Op.equalIn (d + 1) t (.slice ad n c) (.slice none 0 0)).run C.P w = .ok ad.isNone w := by
  simp only [Op.equalIn, Sem.run_bind, run_underlying hu, Result.andThen_ok]
  cases ad <;> rfl

/-- A slice is compared with nil. -/
theorem eff_eqNil {N : Nat} {o : Oper} {t : TypeId} {x : Operand} {y : TyI} {e : TypeId} {own : Option Nat} {xs : List (List PV)} {tt : TypeId} (ho : o.op = .binOp .eql t x (.const (.slice none 0 0)) tt) (hy : C.T t = some y) (hd : y.d = .slice e) (hx : ev C.GE pf x = some (.sl own xs)) :
    EffR C N o pf σ fun p σ' => (∃ b : Bool, p = .val (.bool b) ∧ (b = true → xs = [])) ∧ σ' = σ := by
  intro w0 base s a hi hr
  have hx' := ev_ok hi hr hx
  obtain ⟨ad, c, he, ha⟩ : ∃ ad c, a.eval x = .slice ad xs.length c ∧ (ad = none → xs = []) := by
    cases he : a.eval x <;> rw [he] at hx' <;> cases hx'
    rename_i hl hm ha hxs hs hcell hrep hown
    refine ⟨_, _, rfl, fun h => ?_⟩
    rcases Nat.eq_zero_or_pos xs.length with h0 | h0
    · exact List.eq_nil_of_length_eq_zero h0
    · have h1 := hs h0; rw [h1] at h; cases h
  refine ⟨.bool ad.isNone, s, _, σ, ⟨⟨ad.isNone, rfl, fun h => ha (by simpa using h)⟩, rfl⟩, ?_, .val _, hi, Mono.refl _ _⟩
  have h1 := run_eqNil (C := C) (und_slice hy hd) ad xs.length c 9999 s.w
  simp only [execOp, ho, he]
  show ((do eqGuard .eql t x (.const (.slice none 0 0)) (.slice ad xs.length c) (.slice none 0 0); (Op.equalIn (9999 + 1) t (.slice ad xs.length c) (.slice none 0 0)) >>= fun r => Pure.pure (Value.bool r) : Sem Value) >>= fun v => Pure.pure (Next.value v)).run C.P s.w = _
  have hg : (eqGuard .eql t x (.const (.slice none 0 0)) (.slice ad xs.length c) (.slice none 0 0)).run C.P s.w = .ok () s.w := rfl
  simp only [Sem.run_bind, hg, Result.andThen_ok, h1]
  rfl
theorem W.eqNil {k : List KI} {o : Oper} {rest : List Oper} {t : TypeId} {x : Operand} {y : TyI} {e : TypeId} {own : Option Nat} {xs : List (List PV)} {tt : TypeId} (ho : o.op = .binOp .eql t x (.const (.slice none 0 0)) tt) (hg : o.guard = none) (hdst : inN F.N o.dst = true) (hy : C.T t = some y) (hd : y.d = .slice e) (hx : ev C.GE pf x = some (.sl own xs))
    (h : ∀ b : Bool, (b = true → xs = []) → SL C F ops rest (Cont C F Q k) (setd pf o.dst (.val (.bool b))) σ) : SL C F ops (o :: rest) (Cont C F Q k) pf σ :=
  SL.effR hg hdst (eff_eqNil ho hy hd hx) fun _ _ ⟨⟨b, e1, e2⟩, e3⟩ => by rw [e1, e3]; exact h b e2
theorem W.lit0 {k : List KI} {o : Oper} {rest : List Oper} {t e : TypeId} (ho : o.op = .buildSlice t 0 #[]) (hb : buildSliceA C t 0 [] = some (e, [])) (hg : o.guard = none) (hdst : inN F.N o.dst = true)
    (h : SL C F ops rest (Cont C F Q k) (setd pf o.dst (.bs e σ.bx.length 0 0)) ⟨σ.bx ++ [[]], σ.tk⟩) : SL C F ops (o :: rest) (Cont C F Q k) pf σ :=
  SL.eff hg hdst (eff_lit0 ho hb) h
theorem W.appZ {k : List KI} {o : Oper} {rest : List Oper} {c : Call} {xo yo : Operand} {t E : TypeId} {y z : TyI} {n cp i : Nat} {qs : List PV} {ys : List (List PV)} {own : Option Nat} (ho : o.op = .call c) (hc : c.callee = .builtin .append) (hA : c.args = #[xo, yo]) (hT : c.argTypes = #[t, t])
    (hy : C.T t = some y) (hd : y.d = .slice E) (hz : C.T E = some z) (hzp : 0 < z.size) (hzb : 0 < z.bytes) (hg : o.guard = none) (hdst : inN F.N o.dst = true)
    (hx : ev C.GE pf xo = some (.bs E i n cp)) (hq : σ.bx[i]? = some qs) (hu : ev C.GE pf yo = some (.sl own ys)) (hys : okRow z.size ys = true) (hbytes : (n + ys.length) * z.bytes ≤ 140737488355328)
    (h : ∀ p σ', AppZ E z.size n cp i qs ys σ p σ' → SL C F ops rest (Cont C F Q k) (setd pf o.dst p) σ') : SL C F ops (o :: rest) (Cont C F Q k) pf σ :=
  SL.effR hg hdst (eff_appZ ho hc hA hT hy hd hz hzp hzb hbytes hx hq hu hys) h
theorem SHo.appZ {T : List Nat} {kp : Bool} {σ1 σh : AS} {m : Nat} {listed : Array Bool} {pf1 : PF} {j : Nat} {o : Oper} {c : Call} {xo yo : Operand} {t E : TypeId} {y z : TyI} {n cp i : Nat} {qs : List PV} {ys : List (List PV)} {own : Option Nat} (hi : ops[j]? = some o) (ho : o.op = .call c) (hc : c.callee = .builtin .append) (hA : c.args = #[xo, yo]) (hT : c.argTypes = #[t, t])
    (hy : C.T t = some y) (hd : y.d = .slice E) (hz : C.T E = some z) (hzp : 0 < z.size) (hzb : 0 < z.bytes) (hg : gd ops o pf = some true) (hdst : inN F.N o.dst = true) (hn : needS ops T j = false)
    (hx : ev C.GE pf xo = some (.bs E i n cp)) (hq : σ.bx[i]? = some qs) (hu : ev C.GE pf yo = some (.sl own ys)) (hys : okRow z.size ys = true) (hbytes : (n + ys.length) * z.bytes ≤ 140737488355328)
    (h : ∀ p σ', AppZ E z.size n cp i qs ys σ p σ' → SH C F ops Q T false σ1 σh m (listed.setIfInBounds j true) (setd pf1 o.dst (down p)) (setd pf o.dst p) σ') : SHo C F ops Q T kp σ1 σh j m listed pf1 pf σ :=
  SHo.effRLast hi hdst hg hn (eff_appZ ho hc hA hT hy hd hz hzp hzb hbytes hx hq hu hys) h
end
end Go.Sw

/- The logic Sw: append, literals, calls, whole functions, for any program. -/
import Derived.Test.YtbnapbegomemeaaDoorSwD
import Derived.Lib.AppendStr
namespace Go.Sw
open Go.RowKit

theorem set_same {α : Type} {l : List α} {t : Nat} {x : α} (h : l[t]? = some x) : l.set t x = l := by
  apply List.ext_getElem?
  intro i
  by_cases e : t = i
  · subst e; rw [List.getElem?_set_self (List.getElem?_eq_some_iff.1 h).1, h]
  · rw [List.getElem?_set_ne e]

/-- append onto a row of one's own: three ways. -/
theorem run_append_cases {P : Program} (w : World) (t ty e : TypeId) (i : TypeInfo) (z : Value) (size bytes : Nat) (ht : P.underlying t = some (.slice e)) (hi : P.info? e = some i) (hz : i.zero = some z)
    (hsize : i.size = size) (hby : i.bytes = bytes) (hzs : z.cells.size = size)
    (v : Value) (n : Nat) (xs : List Value) (hown : w.ownsRow 0 e size v n xs)
    (a : Option Addr) (m c : Nat) (news : List Value) (hl : news.length = m * size) (ha : a = none → m = 0) (hnews : ∀ ad, a = some ad → ∀ j u, news[j]? = some u → w.cell? (ad.add j) = some u) (h1 : ∀ u ∈ news, u.oneCell' = true)
    (h63 : n + m ≤ maxLen) (hbytes : (n + m) * bytes ≤ 140737488355328) :
    ∃ v' w', (Builtin.append_ #[t, t] ty #[v, .slice a m c]).run P w = .ok v' w' ∧ w'.ownsRow 0 e size v' (n + m) (xs ++ news) ∧
      ((m = 0 ∧ v' = v ∧ w' = w) ∨
       (0 < m ∧ ∃ g cur cs', v.ownBlock = some g ∧ v'.ownBlock = some g ∧ w.heap[g]? = some (.cells cur e (0, 0)) ∧ w' = w.setRow g cs' ∧ (∀ k, k < n * size → cs'[k]? = cur[k]?) ∧ cs'.size = cur.size) ∨
       (0 < m ∧ v'.ownBlock = some w.heap.size ∧ ∃ o, w' = w.drew.alloc o)) := by
  subst hsize
  subst hby
  have hsmall : n + m ≤ 9223372036854775807 := by simp only [maxLen] at h63; omega
  have hlen : (xs ++ news).length = (n + m) * i.size := by rw [List.length_append, hown.1, hl, Nat.add_mul]
  by_cases hm : m = 0
  · subst hm
    have hn : news = [] := List.eq_nil_of_length_eq_zero (by simpa using hl)
    subst hn
    refine ⟨v, w, ?_, by simpa using hown, .inl ⟨rfl, rfl, rfl⟩⟩
    have hf : (Builtin.firstCells i.size 0 (.slice a 0 c)).run P w = .ok #[] w := by
      cases a <;> simp [Builtin.firstCells, loadCells, loadCellsFrom]
    rcases hown.2 with ⟨rfl, _⟩ | ⟨g, cap, cur, rfl, _, _, hnc, _⟩
    · simp [Builtin.append_, run_underlying ht, sizeOf, typeInfo, hi, Builtin.lenOf, hf]
    · simp [Builtin.append_, run_underlying ht, sizeOf, typeInfo, hi, Builtin.lenOf, hf, hnc, storeCells]
  · obtain ⟨ad, rfl⟩ : ∃ ad, a = some ad := by
      cases a with
      | none => exact absurd (ha rfl) hm
      | some ad => exact ⟨ad, rfl⟩
    have hnews := hnews ad rfl
    have grown : ∀ (old : Nat),
        (w.drew.alloc (.cells (xs.toArray ++ news.toArray ++ Builtin.zeroCells z.cells (grownCap w (n + m) old e - (n + m))) e)).ownsRow 0 e i.size
          (.slice (some ⟨w.heap.size, 0, none⟩) (n + m) (grownCap w (n + m) old e)) (n + m) (xs ++ news) := by
      intro old
      have hge := grownCap_ge w (n + m) old e
      have hcm : grownCap w (n + m) old e ≤ maxLen := grownCap_le_maxLen w (n + m) old e h63
      refine ⟨hlen, .inr ⟨w.heap.size, _, _, rfl, Nat.zero_le _, heap_alloc_new w.drew _, hge, hcm, ?_, ?_⟩⟩
      · simp only [Array.size_append, List.size_toArray, size_zeroCells, hzs, hown.1, hl, ← Nat.add_mul]
        congr 1
        omega
      · simp only [Array.toList_append, List.append_assoc]
        rw [← List.append_assoc, ← hlen]
        exact List.take_left
    rcases hown.2 with ⟨rfl, rfl⟩ | ⟨g, cap, cur, rfl, hbg, hg, hnc, hcm, hcs, htake⟩
    · have hx : xs = [] := List.eq_nil_of_length_eq_zero (by simpa using hown.1)
      subst hx
      have hr := run_append_nil (P := P) w t ty e i z ht hi hz ad m c news hl hnews (by omega) (by omega) (by have hb := hbytes; simp only [Nat.zero_add] at hb; omega)
      have hgr := grown 0
      simp only [Nat.zero_add, List.nil_append, Array.empty_append] at hgr ⊢
      exact ⟨_, _, hr, hgr, .inr (.inr ⟨by omega, rfl, _, rfl⟩)⟩
    · by_cases hroom : n + m ≤ cap
      · have hfit : n * i.size + news.length ≤ cur.size := by rw [hl, hcs, ← Nat.add_mul]; exact Nat.mul_le_mul_right _ hroom
        have hr := run_append_room (P := P) w t ty e i ht hi g n cap cur hg ad m c news hl hnews h1 hroom hfit
        refine ⟨_, _, hr, ⟨hlen, .inr ⟨g, cap, _, rfl, hbg, setRow_heap w g cur _ e _ hg, hroom, hcm, ?_, ?_⟩⟩, .inr (.inl ⟨by omega, g, cur, _, rfl, rfl, hg, rfl, fun k hk => ?_, ?_⟩)⟩
        · simp only [List.size_toArray, List.length_append, List.length_take, List.length_drop, Array.length_toList]
          omega
        · rw [htake, ← hlen]
          exact List.take_left
        · simp only [List.getElem?_toArray]
          have h0 : k < (List.take (n * i.size) cur.toList).length := by simp; omega
          rw [List.append_assoc, List.getElem?_append_left h0, List.getElem?_take, if_pos hk]
          simp
        · simp only [List.size_toArray, List.length_append, List.length_take, List.length_drop, Array.length_toList]
          omega
      · have holds : ∀ j u, xs[j]? = some u → w.cell? ((⟨g, 0, none⟩ : Addr).add j) = some u := hown.cells (g := g) rfl
        have hr := run_append_grow (P := P) w t ty e i z ht hi hz ⟨g, 0, none⟩ n cap xs hown.1 holds ad m c news hl hnews (by omega) (by omega) (growslice_fits (by omega) hbytes)
        exact ⟨_, _, hr, grown cap, .inr (.inr ⟨by omega, rfl, _, rfl⟩)⟩

/-- append of a string's bytes onto a row of one's own: three ways. -/
theorem run_append_cases_string {P : Program} (w : World) (t u ty e : TypeId) (i : TypeInfo) (ht : P.underlying t = some (.slice e)) (hu : P.underlying u = some .string) (hi : P.info? e = some i) (hz : i.zero = some (.int .u8 0))
    (hsize : i.size = 1) (hby : i.bytes = 1)
    (v : Value) (n : Nat) (xs : List Value) (hown : w.ownsRow 0 e 1 v n xs) (s : ByteArray)
    (h63 : n + s.size ≤ maxLen) (hbytes : n + s.size ≤ 140737488355328) :
    ∃ v' w', (Builtin.append_ #[t, u] ty #[v, .string s]).run P w = .ok v' w' ∧ w'.ownsRow 0 e 1 v' (n + s.size) (xs ++ Lib.strCells s) ∧
      ((s.size = 0 ∧ v' = v ∧ w' = w) ∨
       (0 < s.size ∧ ∃ g cur cs', v.ownBlock = some g ∧ v'.ownBlock = some g ∧ w.heap[g]? = some (.cells cur e (0, 0)) ∧ w' = w.setRow g cs' ∧ (∀ k, k < n * 1 → cs'[k]? = cur[k]?) ∧ cs'.size = cur.size) ∨
       (0 < s.size ∧ v'.ownBlock = some w.heap.size ∧ ∃ o, w' = w.drew.alloc o)) := by
  have hsmall : n + s.size ≤ 9223372036854775807 := by simp only [maxLen] at h63; omega
  have hxl : xs.length = n := by simpa using hown.1
  have hlen : (xs ++ Lib.strCells s).length = (n + s.size) * 1 := by rw [List.length_append, hxl, Lib.strCells_length, Nat.mul_one]
  by_cases hm : s.size = 0
  · have hn : Lib.strCells s = [] := List.eq_nil_of_length_eq_zero (by rw [Lib.strCells_length]; exact hm)
    refine ⟨v, w, ?_, by rw [hm, hn]; simpa using hown, .inl ⟨hm, rfl, rfl⟩⟩
    have hf := Lib.run_firstCells_string (P := P) w 1 s
    rw [hm] at hf
    rw [hn] at hf
    rcases hown.2 with ⟨rfl, _⟩ | ⟨g, cap, cur, rfl, _, _, hnc, _⟩
    · simp [Builtin.append_, run_underlying ht, run_underlying hu, sizeOf, typeInfo, hi, hsize, Builtin.lenOf, hm, hf]
    · simp [Builtin.append_, run_underlying ht, run_underlying hu, sizeOf, typeInfo, hi, hsize, Builtin.lenOf, hm, hf, hnc, storeCells]
  · have grown : ∀ (old : Nat),
        (w.drew.alloc (.cells (xs.toArray ++ (Lib.strCells s).toArray ++ Builtin.zeroCells (Value.int .u8 0).cells (grownCap w (n + s.size) old e - (n + s.size))) e)).ownsRow 0 e 1
          (.slice (some ⟨w.heap.size, 0, none⟩) (n + s.size) (grownCap w (n + s.size) old e)) (n + s.size) (xs ++ Lib.strCells s) := by
      intro old
      have hge := grownCap_ge w (n + s.size) old e
      have hcm : grownCap w (n + s.size) old e ≤ maxLen := grownCap_le_maxLen w (n + s.size) old e h63
      refine ⟨hlen, .inr ⟨w.heap.size, _, _, rfl, Nat.zero_le _, heap_alloc_new w.drew _, hge, hcm, ?_, ?_⟩⟩
      · have hz1 : (Value.int IntKind.u8 0).cells.size = 1 := rfl
        simp only [Array.size_append, List.size_toArray, size_zeroCells, hz1, hxl, Lib.strCells_length]
        omega
      · simp only [Array.toList_append, List.append_assoc]
        rw [← List.append_assoc, ← hlen]
        exact List.take_left
    rcases hown.2 with ⟨rfl, rfl⟩ | ⟨g, cap, cur, rfl, hbg, hg, hnc, hcm, hcs, htake⟩
    · have hx : xs = [] := List.eq_nil_of_length_eq_zero hxl
      subst hx
      have hr := run_append_nil_string (P := P) w t u ty e i (.int .u8 0) ht hu hi hz s (by omega) (by omega) (by rw [hby]; omega)
      have hgr := grown 0
      simp only [Nat.zero_add, List.nil_append, Array.empty_append] at hgr ⊢
      have e1 : (s.data.map fun b => Value.int .u8 b.toNat) = (Lib.strCells s).toArray := by
        apply Array.ext'
        simp [Lib.strCells]
      rw [e1] at hr
      exact ⟨_, _, hr, hgr, .inr (.inr ⟨by omega, rfl, _, rfl⟩)⟩
    · by_cases hroom : n + s.size ≤ cap
      · have hcs' : cur.size = cap := by simpa using hcs
        have hr := Lib.run_append_room_string (P := P) w t u ty e i ht hu hi hsize g n cap cur hg s hroom (by omega)
        refine ⟨_, _, hr, ⟨hlen, .inr ⟨g, cap, _, rfl, hbg, setRow_heap w g cur _ e _ hg, hroom, hcm, ?_, ?_⟩⟩, .inr (.inl ⟨by omega, g, cur, _, rfl, rfl, hg, rfl, fun k hk => ?_, ?_⟩)⟩
        · simp only [List.size_toArray, List.length_append, List.length_take, List.length_drop, Array.length_toList, Lib.strCells_length]
          omega
        · have ht' : cur.toList.take n = xs := by simpa using htake
          rw [ht', ← hlen]
          exact List.take_left
        · simp only [List.getElem?_toArray]
          have h0 : k < (List.take n cur.toList).length := by simp; omega
          rw [List.append_assoc, List.getElem?_append_left h0, List.getElem?_take, if_pos (by omega)]
          simp
        · simp only [List.size_toArray, List.length_append, List.length_take, List.length_drop, Array.length_toList, Lib.strCells_length]
          omega
      · have holds : ∀ j u, xs[j]? = some u → w.cell? ((⟨g, 0, none⟩ : Addr).add j) = some u := hown.cells (g := g) rfl
        have hr := Lib.run_append_grow_string (P := P) w t u ty e i (.int .u8 0) ht hu hi hz ⟨g, 0, none⟩ n cap xs (by rw [hsize]; simpa using hxl) holds s (by omega) (by omega) (by rw [hby]; exact growslice_fits (by omega) (by omega))
        exact ⟨_, _, hr, grown cap, .inr (.inr ⟨by omega, rfl, _, rfl⟩)⟩

section
variable {C : Cx}

/-- The cells of the elements of a slice, in a row. -/
theorem Rep.flat {s : S} {own : Option Nat} {ys : List (List PV)} {v : Value} {size : Nat} (h : Rep C.P s (.sl own ys) v) (hs : ∀ y ∈ ys, y.length = size) :
    ∃ a c, ∃ news : List Value, v = .slice a ys.length c ∧ news.length = ys.length * size ∧ (a = none → ys.length = 0) ∧ (∀ ad, a = some ad → ∀ j u, news[j]? = some u → s.w.cell? (ad.add j) = some u) ∧
      ∀ (i j : Nat) (y : List PV) (p : PV), ys[i]? = some y → y[j]? = some p → ∃ u, news[i * size + j]? = some u ∧ Rep C.P s p u := by
  cases h
  rename_i size' b o c a u hl hm ha hx hst hc hr ho
  by_cases h0 : 0 < ys.length
  · obtain rfl : size' = size := (hx _ (List.getElem_mem h0)).symm.trans (hs _ (List.getElem_mem h0))
    obtain rfl := ha h0
    refine ⟨_, c, (List.range (ys.length * size')).map fun k => u (k / size') (k % size'), rfl, by simp, (by simp), fun ad had j x hj => ?_, fun i j y p hy hp => ?_⟩
    · cases had
      have hlt : j < ys.length * size' := by have := (List.getElem?_eq_some_iff.1 hj).1; simpa using this
      rw [List.getElem?_map, List.getElem?_range hlt] at hj
      simp at hj
      subst hj
      have hpos : 0 < size' := by
        rcases Nat.eq_zero_or_pos size' with h | h
        · subst h; simp at hlt
        · exact h
      have h1 : j / size' < ys.length := (Nat.div_lt_iff_lt_mul hpos).2 hlt
      have := hc (j / size') (j % size') h1 (Nat.mod_lt _ hpos)
      rw [add_plain]
      rwa [Nat.add_assoc, Nat.mul_comm, Nat.div_add_mod] at this
    · have hi : i < ys.length := (List.getElem?_eq_some_iff.1 hy).1
      have hj : j < size' := by rw [← hx y (List.mem_of_getElem? hy)]; exact (List.getElem?_eq_some_iff.1 hp).1
      have hlt : i * size' + j < ys.length * size' := by
        have : i * size' + size' ≤ ys.length * size' := by rw [← Nat.succ_mul]; exact Nat.mul_le_mul_right _ hi
        omega
      refine ⟨u i j, ?_, hr i j y p hy hp⟩
      rw [List.getElem?_map, List.getElem?_range hlt]
      have e1 : (i * size' + j) / size' = i := by
        rw [Nat.mul_comm, Nat.mul_add_div (by omega), Nat.div_eq_of_lt hj]; omega
      have e2 : (i * size' + j) % size' = j := by
        rw [Nat.mul_comm, Nat.mul_add_mod, Nat.mod_eq_of_lt hj]
      simp [e1, e2]
  · have : ys = [] := List.eq_nil_of_length_eq_zero (by omega)
    subst this
    exact ⟨a, c, [], rfl, by simp, fun _ => rfl, fun _ _ j u h => by simp at h, fun i j y p h => by simp at h⟩

def okRow (n : Nat) (ys : List (List PV)) : Bool := ys.all fun y => y.length == n && y.all oneB

/-- What append gives: onto a row with a token. -/
def appendA (C : Cx) (σ : AS) (t : TypeId) (k : Nat) (xs ys : List (List PV)) : Option (PV × AS) :=
  match C.T t with
  | some y => match y.d with
    | .slice e => match C.T e, σ.tk[k]? with
      | some z, some (E, m) => if E = e ∧ m = xs.length ∧ okRow z.size xs = true ∧ okRow z.size ys = true ∧ 0 < z.size ∧ 0 < z.bytes ∧ (xs.length + ys.length) * z.bytes ≤ 140737488355328 then
          some (.sl (some k) (xs ++ ys), ⟨σ.bx, σ.tk.set k (e, xs.length + ys.length)⟩) else none
      | _, _ => none
    | _ => none
  | none => none

theorem okRow_len {n : Nat} {ys : List (List PV)} (h : okRow n ys = true) : ∀ y ∈ ys, y.length = n := by
  intro y hy
  have := List.all_eq_true.1 h y hy
  simp at this
  exact this.1
theorem okRow_one {n : Nat} {ys : List (List PV)} (h : okRow n ys = true) : ∀ y ∈ ys, ∀ p ∈ y, oneB p = true := by
  intro y hy p hp
  have := List.all_eq_true.1 h y hy
  simp at this
  exact this.2 p hp

/-- append onto a row with a token, whatever it is that is appended. -/
theorem appendCore {w0 : World} {base : Nat} {σ : AS} {s : S} {k : Nat} {E : TypeId} {z : TyI} {xs ys : List (List PV)} {v : Value} {args : Array Value} {ats : Array TypeId} {news : List Value} (hi : Inv C w0 base σ s)
    (hz : C.T E = some z) (htk : σ.tk[k]? = some (E, xs.length)) (hxs : okRow z.size xs = true) (hys : okRow z.size ys = true)
    (hv : Rep C.P s (.sl (some k) xs) v) (hnr : ∀ (i j : Nat) (y : List PV) (p : PV), ys[i]? = some y → y[j]? = some p → ∃ u, news[i * z.size + j]? = some u ∧ Rep C.P s p u) (ty : TypeId)
    (H : ∀ us, s.w.ownsRow 0 E z.size v xs.length us → ∃ x w', (Builtin.append_ ats ty args).run C.P s.w = .ok x w' ∧ w'.ownsRow 0 E z.size x (xs.length + ys.length) (us ++ news) ∧
      ((ys.length = 0 ∧ x = v ∧ w' = s.w) ∨
       (0 < ys.length ∧ ∃ g cur cs', v.ownBlock = some g ∧ x.ownBlock = some g ∧ s.w.heap[g]? = some (.cells cur E (0, 0)) ∧ w' = s.w.setRow g cs' ∧ (∀ k, k < xs.length * z.size → cs'[k]? = cur[k]?) ∧ cs'.size = cur.size) ∨
       (0 < ys.length ∧ x.ownBlock = some s.w.heap.size ∧ ∃ o, w' = s.w.drew.alloc o))) :
    ∃ x s', (Builtin.append_ ats ty args).run C.P s.w = .ok x s'.w ∧ Rep C.P s' (.sl (some k) (xs ++ ys)) x ∧ Inv C w0 base ⟨σ.bx, σ.tk.set k (E, xs.length + ys.length)⟩ s' ∧ Mono C.P s s' := by
  obtain ⟨ax, cx, olds, rfl, hol, hoa, hoc, hor⟩ := hv.flat (okRow_len hxs)
  have hstk : s.tk[k]? = some (E, xs.length) := by rw [hi.tk]; exact htk
  obtain ⟨hrw, us, hown⟩ : s.g.rw[k]? = some (Value.slice ax xs.length cx).ownBlock ∧ ∃ us, s.w.ownsRow 0 E (C.P.cellsOf E) (.slice ax xs.length cx) xs.length us := by
    cases hv
    rename_i hown
    obtain ⟨E', m', h1, _, h2⟩ := hown
    rw [hstk] at h1
    cases h1
    exact h2 rfl
  rw [cellsOf_ok hz] at hown
  -- the row's cells are the elements' own
  have hus : us = olds := by
    apply List.ext_getElem?
    intro j
    by_cases hj : j < xs.length * z.size
    · have h0 : 0 < xs.length := by
        rcases Nat.eq_zero_or_pos xs.length with h | h
        · rw [h] at hj; simp at hj
        · exact h
      obtain ⟨ad, rfl⟩ : ∃ ad, ax = some ad := by
        cases ax with
        | none => have := hoa rfl; omega
        | some ad => exact ⟨ad, rfl⟩
      have h1 : olds[j]? = some (olds[j]'(by omega)) := List.getElem?_eq_getElem (by omega)
      have h2 : us[j]? = some (us[j]'(by rw [hown.1]; exact hj)) := List.getElem?_eq_getElem _
      have h3 := hoc ad rfl j _ h1
      rcases hown.2 with ⟨h4, _⟩ | ⟨g, cap, cur, h4, _⟩
      · cases h4
      · cases h4
        have h5 := hown.cells (g := g) rfl j _ h2
        rw [h3] at h5
        rw [h1, h2, h5]
    · rw [List.getElem?_eq_none (by rw [hown.1]; omega), List.getElem?_eq_none (by omega)]
  subst hus
  obtain ⟨x, w', hrun, hown', hways⟩ := H us hown
  -- the result stands for the joined list, wherever the rest of the state is fine
  have fin : ∀ s' : S, s'.w = w' → Mono C.P s s' → s'.tk[k]? = some (E, xs.length + ys.length) → s'.g.rw[k]? = some x.ownBlock → (∀ b, x.ownBlock = some b → b < w'.heap.size ∧ b ∉ s'.g.bx ∧ ∀ t', s'.g.rw[t']? = some (some b) → t' = k) →
      Rep C.P s' (.sl (some k) (xs ++ ys)) x := by
    intro s' hw hm ht hr hb
    subst hw
    have hxl : (xs ++ ys).length = xs.length + ys.length := List.length_append
    have hOwn : OwnOK C.P s' (some k) x (xs.length + ys.length) := ⟨E, _, ht, Nat.le_refl _, fun _ => ⟨hr, _, by rw [cellsOf_ok hz]; exact hown'⟩⟩
    rcases hown'.2 with ⟨rfl, h0⟩ | ⟨g, cap, cur, rfl, _, hg, hnc', hcm, hcs, htake⟩
    · have hn : xs ++ ys = [] := List.eq_nil_of_length_eq_zero (by omega)
      rw [← hxl, hn] at hOwn
      rw [hn]
      exact .sl _ [] 0 0 0 0 none (fun _ _ => undef) (Nat.le_refl _) (by decide) (by simp) (by simp) (by simp) (by simp) (by simp) hOwn
    · have key := Rep.sl (P := C.P) (s := s') (some k) (xs ++ ys) z.size g 0 cap (some ⟨g, 0, none⟩) (fun i j => (us ++ news).getD (i * z.size + j) undef) (by omega) hcm (fun _ => rfl) ?_ ?_ ?_ ?_ (by rw [hxl]; exact hOwn)
      · rw [hxl] at key; exact key
      · intro a ha
        rcases List.mem_append.1 ha with h | h
        · exact okRow_len hxs a h
        · exact okRow_len hys a h
      · intro _
        obtain ⟨b1, b2, b3⟩ := hb g rfl
        refine ⟨b1, b2, fun t' E' m' h1 h2 => ?_⟩
        have := b3 t' h1
        subst this
        rw [ht] at h2
        cases h2
        rw [cellsOf_ok hz, hxl]
        omega
      · intro i j hi' hj
        have hlt : i * z.size + j < (us ++ news).length := by
          rw [hown'.1]
          have : i * z.size + z.size ≤ (xs ++ ys).length * z.size := by rw [← Nat.succ_mul]; exact Nat.mul_le_mul_right _ hi'
          rw [hxl] at this
          omega
        have := hown'.cells (g := g) rfl (i * z.size + j) _ (List.getElem?_eq_getElem hlt)
        rw [add_plain] at this
        simp only [Nat.zero_add] at this ⊢
        rw [this, List.getD_eq_getElem?_getD, List.getElem?_eq_getElem hlt]
        rfl
      · intro i j a p ha hp
        rcases app_cases ha with ⟨h1, h2⟩ | ⟨h1, h2⟩
        · obtain ⟨u', h3, h4⟩ := hor i j a p h2 hp
          rw [List.getD_eq_getElem?_getD, app_get h3]
          exact h4.mono hm
        · obtain ⟨u', h3, h4⟩ := hnr _ j a p h2 hp
          have e1 : i * z.size + j = us.length + ((i - xs.length) * z.size + j) := by
            rw [hown.1, ← Nat.add_assoc, ← Nat.add_mul]
            congr 2
            omega
          rw [List.getD_eq_getElem?_getD, e1, List.getElem?_append_right (Nat.le_add_right _ _), Nat.add_sub_cancel_left, h3]
          exact h4.mono hm
  have hklt : k < s.tk.length := (List.getElem?_eq_some_iff.1 hstk).1
  have hkrw : k < s.g.rw.length := by have h1 := hi.lrw; have h2 := hi.tk; rw [h1, ← h2]; exact hklt
  rcases hways with ⟨h0, rfl, rfl⟩ | ⟨hm0, g, cur, cs', hg1, hg2, hg3, rfl, hg4, _⟩ | ⟨hm0, hg2, o, rfl⟩
  · have hσ : (⟨σ.bx, σ.tk.set k (E, xs.length + ys.length)⟩ : AS) = σ := by
      rw [h0, Nat.add_zero, set_same htk]
    rw [hσ]
    refine ⟨_, s, hrun, fin s rfl (Mono.refl _ _) (by rw [h0, Nat.add_zero]; exact hstk) hrw (fun b hb => ?_), hi, Mono.refl _ _⟩
    rw [hb] at hrw
    exact ⟨(hi.rngr k b hrw).2, hi.apart k b hrw, fun t' ht' => hi.rwinj t' k b ht' hrw⟩
  · rw [hg1] at hrw
    have hother : ∀ b, b ≠ g → (s.w.setRow g cs').heap[b]? = s.w.heap[b]? := fun b hb => setRow_other _ _ _ _ hb
    have hm : Mono C.P s ⟨s.g, s.tk.set k (E, xs.length + ys.length), s.w.setRow g cs'⟩ :=
      { oth := KeepsOthers.setRow' hg3 _
        heap := by simp
        bx := fun i b h => h
        st := fun b hi' hb => by
          refine ⟨by simpa using hb.1, hb.2.1, fun t' E' m' h1 h2 => ?_⟩
          by_cases e : t' = k
          · subst e
            have h2' : (s.tk.set t' (E, xs.length + ys.length))[t']? = some (E', m') := h2
            rw [List.getElem?_set_self hklt] at h2'
            cases h2'
            exact Nat.le_trans (hb.2.2 t' E _ h1 hstk) (Nat.mul_le_mul_right _ (Nat.le_add_right _ _))
          · have h2' : (s.tk.set k (E, xs.length + ys.length))[t']? = some (E', m') := h2
            rw [List.getElem?_set_ne (Ne.symm e)] at h2'
            exact hb.2.2 t' E' m' h1 h2'
        cell := fun b hi' o v hb ho hv => by
          by_cases e : b = g
          · subst e
            have hlim := hb.2.2 k E _ hrw hstk
            rw [cellsOf_ok hz] at hlim
            have h1 : s.w.cell? ⟨b, o, none⟩ = cur[o]? := by simp [World.cell?, hg3]
            have h2 : (s.w.setRow b cs').cell? ⟨b, o, none⟩ = cs'[o]? := by simp [World.cell?, setRow_heap _ _ _ _ _ _ hg3]
            show (s.w.setRow b cs').cell? ⟨b, o, none⟩ = some v
            rw [h2, hg4 o (by omega), ← h1]
            exact hv
          · exact (World.cell?_of_block (hother b e)).trans hv
        own := fun t' E' m' ht => by
          by_cases e : t' = k
          · subst e
            rw [hstk] at ht
            cases ht
            exact ⟨xs.length + ys.length, List.getElem?_set_self hklt, Nat.le_add_right _ _, fun h => by omega⟩
          · refine ⟨m', ?_, Nat.le_refl _, fun _ => ⟨rfl, fun b _ _ _ hb _ => hother b (fun eb => e ?_)⟩⟩
            · show (s.tk.set k (E, xs.length + ys.length))[t']? = _
              rw [List.getElem?_set_ne (Ne.symm e)]
              exact ht
            · subst eb
              exact hi.rwinj t' k b hb hrw
        obj := fun i b cs T hb hc => ⟨cs, (hother b (fun e => hi.apart k g hrw (e ▸ List.mem_of_getElem? hb))).trans hc, rfl⟩ }
    refine ⟨_, ⟨s.g, s.tk.set k (E, xs.length + ys.length), s.w.setRow g cs'⟩, hrun, fin _ rfl hm (List.getElem?_set_self hklt) (by rw [hg2]; exact hrw) (fun b hb => ?_), ?_, hm⟩
    · rw [hg2] at hb
      cases hb
      exact ⟨by simpa using (hi.rngr k g hrw).2, hi.apart k g hrw, fun t' ht' => hi.rwinj t' k g ht' hrw⟩
    · refine ⟨by simp [hi.tk], hi.gx, hi.below.trans ⟨rfl, rfl, rfl, by simp, fun b hb => hother b (fun e => by have := (hi.rngr k g hrw).1; omega)⟩, by simpa using hi.basele, hi.lbx, by simp [hi.lrw], hi.bxinj, hi.rwinj, hi.apart, fun b h => by simpa using hi.rngb b h, fun j b h => by simpa using hi.rngr j b h, fun i b ps hb hp => ?_, fun q p hp => (hi.glob q p hp).mono hm⟩
      obtain ⟨cs, T, h1, h2, h3⟩ := hi.box i b ps hb hp
      exact ⟨cs, T, (hother b (fun e => hi.apart k g hrw (e ▸ List.mem_of_getElem? hb))).trans h1, h2, fun j p v hj hv => (h3 j p v hj hv).mono hm⟩
  · have hold : ∀ b, b < s.w.heap.size → (s.w.drew.alloc o).heap[b]? = s.w.heap[b]? := fun b hb => allocOld s.w.drew o b hb
    have hsz : (s.w.drew.alloc o).heap.size = s.w.heap.size + 1 := by simp
    have hset : ∀ (t' b : Nat), (s.g.rw.set k (some s.w.heap.size))[t']? = some (some b) → (t' = k ∧ b = s.w.heap.size) ∨ (t' ≠ k ∧ s.g.rw[t']? = some (some b)) := by
      intro t' b h
      by_cases e : t' = k
      · subst e
        rw [List.getElem?_set_self hkrw] at h
        simp at h
        exact .inl ⟨rfl, h.symm⟩
      · rw [List.getElem?_set_ne (Ne.symm e)] at h
        exact .inr ⟨e, h⟩
    have hm : Mono C.P s ⟨⟨s.g.bx, s.g.rw.set k (some s.w.heap.size)⟩, s.tk.set k (E, xs.length + ys.length), s.w.drew.alloc o⟩ :=
      { oth := (KeepsOthers.drew s.w).trans (KeepsOthers.alloc _ _)
        heap := by show s.w.heap.size ≤ (s.w.drew.alloc o).heap.size; omega
        bx := fun i b h => h
        st := fun b hi' hb => by
          refine ⟨by show b < (s.w.drew.alloc o).heap.size; have := hb.1; omega, hb.2.1, fun t' E' m' h1 h2 => ?_⟩
          rcases hset t' b h1 with ⟨e, h⟩ | ⟨e, h⟩
          · have := hb.1; omega
          · have h2' : (s.tk.set k (E, xs.length + ys.length))[t']? = some (E', m') := h2
            rw [List.getElem?_set_ne (Ne.symm e)] at h2'
            exact hb.2.2 t' E' m' h h2'
        cell := fun b hi' o' v hb ho hv => (World.cell?_of_block (hold b hb.1)).trans hv
        own := fun t' E' m' ht => by
          by_cases e : t' = k
          · subst e
            rw [hstk] at ht
            cases ht
            exact ⟨xs.length + ys.length, List.getElem?_set_self hklt, Nat.le_add_right _ _, fun h => by omega⟩
          · refine ⟨m', ?_, Nat.le_refl _, fun _ => ⟨?_, fun b _ _ _ hb _ => hold b (hi.rngr t' b hb).2⟩⟩
            · show (s.tk.set k (E, xs.length + ys.length))[t']? = _
              rw [List.getElem?_set_ne (Ne.symm e)]
              exact ht
            · show (s.g.rw.set k (some s.w.heap.size))[t']? = _
              rw [List.getElem?_set_ne (Ne.symm e)]
        obj := fun i b cs T hb hc => ⟨cs, (hold b (hi.rngb b (List.mem_of_getElem? hb)).2).trans hc, rfl⟩ }
    refine ⟨_, ⟨⟨s.g.bx, s.g.rw.set k (some s.w.heap.size)⟩, s.tk.set k (E, xs.length + ys.length), s.w.drew.alloc o⟩, hrun, fin _ rfl hm (List.getElem?_set_self hklt) (by rw [hg2]; exact List.getElem?_set_self hkrw) (fun b hb => ?_), ?_, hm⟩
    · rw [hg2] at hb
      cases hb
      refine ⟨by omega, fun h => by have := (hi.rngb _ h).2; omega, fun t' ht' => ?_⟩
      rcases hset t' _ ht' with ⟨e, _⟩ | ⟨_, h⟩
      · exact e
      · have := (hi.rngr t' _ h).2; omega
    · refine ⟨by simp [hi.tk], hi.gx, hi.below.trans ⟨rfl, rfl, rfl, by show s.w.heap.size ≤ (s.w.drew.alloc o).heap.size; omega, fun b hb => hold b (by have := hi.basele; omega)⟩, by have := hi.basele; show base ≤ (s.w.drew.alloc o).heap.size; omega, hi.lbx, by simp [hi.lrw], hi.bxinj, fun i j b h1 h2 => ?_, fun i b h1 h2 => ?_, fun b h => ⟨(hi.rngb b h).1, by have := (hi.rngb b h).2; show b < (s.w.drew.alloc o).heap.size; omega⟩, fun j b h => ?_, fun i b ps hb hp => ?_, fun q p hp => (hi.glob q p hp).mono hm⟩
      · rcases hset i b h1 with ⟨e1, a1⟩ | ⟨e1, a1⟩ <;> rcases hset j b h2 with ⟨e2, a2⟩ | ⟨e2, a2⟩
        · omega
        · have := (hi.rngr j b a2).2; omega
        · have := (hi.rngr i b a1).2; omega
        · exact hi.rwinj i j b a1 a2
      · rcases hset i b h1 with ⟨e1, a1⟩ | ⟨e1, a1⟩
        · have := (hi.rngb b h2).2; omega
        · exact hi.apart i b a1 h2
      · rcases hset j b h with ⟨e1, a1⟩ | ⟨e1, a1⟩
        · have := hi.basele; subst a1; exact ⟨this, by show s.w.heap.size < (s.w.drew.alloc o).heap.size; omega⟩
        · exact ⟨(hi.rngr j b a1).1, by have := (hi.rngr j b a1).2; show b < (s.w.drew.alloc o).heap.size; omega⟩
      · obtain ⟨cs, T, h1, h2, h3⟩ := hi.box i b ps hb hp
        exact ⟨cs, T, (hold b (hi.rngb b (List.mem_of_getElem? hb)).2).trans h1, h2, fun j p v hj hv => (h3 j p v hj hv).mono hm⟩


theorem appendA_ok {w0 : World} {base : Nat} {σ σ' : AS} {s : S} {t : TypeId} {k : Nat} {xs ys : List (List PV)} {own : Option Nat} {r : PV} {v u : Value} (hi : Inv C w0 base σ s) (h : appendA C σ t k xs ys = some (r, σ'))
    (hv : Rep C.P s (.sl (some k) xs) v) (hu : Rep C.P s (.sl own ys) u) (ty : TypeId) :
    ∃ x s', (Builtin.append_ #[t, t] ty #[v, u]).run C.P s.w = .ok x s'.w ∧ Rep C.P s' r x ∧ Inv C w0 base σ' s' ∧ Mono C.P s s' := by
  unfold appendA at h
  split at h <;> try cases h
  rename_i y hy
  split at h <;> try cases h
  rename_i e hd
  split at h <;> try cases h
  rename_i z E m hz htk
  split at h <;> try cases h
  rename_i hcond
  obtain ⟨rfl, rfl, hxs, hys, hpos, hbpos, hbytes⟩ := hcond
  obtain ⟨ti, hti, hzero, hsize, hby⟩ := info hz
  have hzs := (C.ok _ _ hz).2.2
  obtain ⟨ay, cy, news, rfl, hnl, hna, hnc, hnr⟩ := hu.flat (okRow_len hys)
  have hnone : ∀ u ∈ news, u.oneCell' = true := by
    intro u hu'
    obtain ⟨j, hj, rfl⟩ := List.getElem_of_mem hu'
    have hj' : j < ys.length * z.size := by omega
    have h1 : j / z.size < ys.length := (Nat.div_lt_iff_lt_mul hpos).2 hj'
    have h2 : j % z.size < (ys[j / z.size]).length := by rw [okRow_len hys _ (List.getElem_mem h1)]; exact Nat.mod_lt _ hpos
    obtain ⟨u, h3, h4⟩ := hnr (j / z.size) (j % z.size) _ _ (List.getElem?_eq_getElem h1) (List.getElem?_eq_getElem h2)
    rw [Nat.mul_comm, Nat.div_add_mod, List.getElem?_eq_getElem hj] at h3
    cases h3
    exact oneB_ok (okRow_one hys _ (List.getElem_mem h1) _ (List.getElem_mem h2)) h4
  have hle : xs.length + ys.length ≤ 140737488355328 := Nat.le_trans (Nat.le_mul_of_pos_right _ hbpos) hbytes
  exact appendCore hi hz htk hxs hys hv hnr ty fun us hown =>
    run_append_cases (P := C.P) s.w t ty E ti z.zero z.size z.bytes (und_slice hy hd) hti hzero hsize hby hzs v xs.length us hown ay ys.length cy news hnl hna hnc hnone (by simp only [maxLen]; omega) hbytes

/-- The bytes of a string as the rows of a slice. -/
def bytesR (l : List UInt8) : List (List PV) := l.map fun b => [.val (.int .u8 b.toNat)]
theorem bytesR_length (l : List UInt8) : (bytesR l).length = l.length := List.length_map _
theorem okRow_bytesR (l : List UInt8) : okRow 1 (bytesR l) = true := by
  refine List.all_eq_true.2 fun y hy => ?_
  obtain ⟨b, _, rfl⟩ := List.mem_map.1 hy
  rfl
theorem bytesR_append (a b : List UInt8) : bytesR (a ++ b) = bytesR a ++ bytesR b := List.map_append

def isZ8 : Value → Bool
  | .int .u8 n => n == 0
  | _ => false
theorem isZ8_ok {v : Value} (h : isZ8 v = true) : v = .int .u8 0 := by
  unfold isZ8 at h
  split at h
  · have := eq_of_beq h; subst this; rfl
  · cases h
/-- append of a string's bytes. -/
def appendS (C : Cx) (σ : AS) (t u : TypeId) (k : Nat) (xs : List (List PV)) (b : ByteArray) : Option (PV × AS) :=
  match C.T t, C.T u with
  | some y, some yu => match y.d, yu.d with
    | .slice e, .string => match C.T e, σ.tk[k]? with
      | some z, some (E, m) => if E = e ∧ m = xs.length ∧ isZ8 z.zero = true ∧ z.size = 1 ∧ z.bytes = 1 ∧ okRow 1 xs = true ∧ xs.length + b.size ≤ 140737488355328 then
          some (.sl (some k) (xs ++ bytesR b.data.toList), ⟨σ.bx, σ.tk.set k (e, xs.length + b.size)⟩) else none
      | _, _ => none
    | _, _ => none
  | _, _ => none

theorem appendS_ok {w0 : World} {base : Nat} {σ σ' : AS} {s : S} {t u : TypeId} {k : Nat} {xs : List (List PV)} {b : ByteArray} {r : PV} {v : Value} (hi : Inv C w0 base σ s) (h : appendS C σ t u k xs b = some (r, σ'))
    (hv : Rep C.P s (.sl (some k) xs) v) (ty : TypeId) :
    ∃ x s', (Builtin.append_ #[t, u] ty #[v, .string b]).run C.P s.w = .ok x s'.w ∧ Rep C.P s' r x ∧ Inv C w0 base σ' s' ∧ Mono C.P s s' := by
  unfold appendS at h
  split at h <;> try cases h
  rename_i y yu hy hyu
  split at h <;> try cases h
  rename_i e hd hdu
  split at h <;> try cases h
  rename_i z E m hz htk
  split at h <;> try cases h
  rename_i hcond
  obtain ⟨rfl, rfl, hz0, hz1, hzb, hxs, hbytes⟩ := hcond
  obtain ⟨ti, hti, hzero, hsize, hby⟩ := info hz
  have hbl : (bytesR b.data.toList).length = b.size := by rw [bytesR_length, Array.length_toList]; rfl
  rw [← hbl]
  refine appendCore (z := z) (news := Lib.strCells b) hi hz htk (by rw [hz1]; exact hxs) (by rw [hz1]; exact okRow_bytesR _) hv (fun i j y p hy hp => ?_) ty fun us hown => ?_
  · unfold bytesR at hy
    rw [List.getElem?_map] at hy
    obtain ⟨c, hc, rfl⟩ := Option.map_eq_some_iff.1 hy
    cases j with
    | zero =>
      simp at hp
      subst hp
      refine ⟨.int .u8 c.toNat, ?_, .val _⟩
      rw [hz1, Lib.strCells, List.getElem?_map]
      simp only [Nat.mul_one, Nat.add_zero, hc, Option.map_some]
    | succ j => simp at hp
  · rw [hz1] at hown ⊢
    rw [hbl]
    exact run_append_cases_string (P := C.P) s.w t u ty E ti (und_slice hy hd) (und_string hyu hdu) hti (by rw [hzero, isZ8_ok hz0]) (by rw [hsize, hz1]) (by rw [hby, hzb]) v xs.length us hown b (by simp only [maxLen]; omega) hbytes

end
end Go.Sw

/- The logic Sw: from what a reader of data finds in memory to abstract values; the state at a call's begin; what a contract says of the call, for any program. -/
import Derived.Test.YtbnapbegomemeaaDoorSwI
import Derived.ChangeArms
import Derived.DataReads
import Derived.ProofKit
namespace Go.Sw
open Go.RowKit

/-- The state at a call's begin: no objects. -/
def S.start (w : World) : S := ⟨⟨[], []⟩, [], w⟩

theorem Stab.start {P : Program} {w : World} {b hi : Nat} (h : b < w.heap.size) : Stab P (S.start w) b hi :=
  ⟨h, by simp [S.start], fun t E m ht => by simp [S.start] at ht⟩

theorem Inv.start {C : Cx} {w : World} (hx : C.W0 w w.heap.size) (hg : ∀ (k : Nat) (p : PV), C.GE k = some p → Rep C.P (S.start w) p (.pointer (some ⟨k, 0, none⟩))) : Inv C w w.heap.size ⟨[], []⟩ (S.start w) where
  tk := rfl
  gx := hx
  below := Below.refl _ _
  basele := Nat.le_refl _
  lbx := rfl
  lrw := rfl
  bxinj := fun i j b h => by simp [S.start] at h
  rwinj := fun i j b h => by simp [S.start] at h
  apart := fun i b h => by simp [S.start] at h
  rngb := fun b h => by simp [S.start] at h
  rngr := fun i b h => by simp [S.start] at h
  box := fun i b ps h => by simp [S.start] at h
  glob := hg

/-- The cells cs stand for ps. -/
def RepCells (P : Program) (s : S) (ps : List PV) (cs : List Value) : Prop := ps.length = cs.length ∧ ∀ (j : Nat) (p : PV) (v : Value), ps[j]? = some p → cs[j]? = some v → Rep P s p v

theorem RepCells.agg {P : Program} {s : S} {ps : List PV} {cs : List Value} (h : RepCells P s ps cs) : Rep P s (.agg ps) (.agg cs.toArray) := .agg ps cs h.1 h.2
theorem RepCells.one {P : Program} {s : S} {p : PV} {v : Value} (h : RepCells P s [p] [v]) : Rep P s p v := h.2 0 p v rfl rfl
theorem RepCells.mk {P : Program} {s : S} {p : PV} {v : Value} (h : Rep P s p v) : RepCells P s [p] [v] := ⟨rfl, fun j q u hq hu => by
  cases j with
  | zero => simp at hq hu; subst hq; subst hu; exact h
  | succ j => simp at hq⟩
theorem RepCells.append {P : Program} {s : S} {ps qs : List PV} {cs ds : List Value} (h : RepCells P s ps cs) (k : RepCells P s qs ds) : RepCells P s (ps ++ qs) (cs ++ ds) := by
  refine ⟨by simp [h.1, k.1], fun j p v hp hv => ?_⟩
  by_cases hj : j < ps.length
  · rw [List.getElem?_append_left hj] at hp
    rw [List.getElem?_append_left (by rw [← h.1]; exact hj)] at hv
    exact h.2 j p v hp hv
  · rw [List.getElem?_append_right (by omega)] at hp
    rw [List.getElem?_append_right (by rw [← h.1]; omega)] at hv
    rw [← h.1] at hv
    exact k.2 _ p v hp hv

theorem add_none (b o n : Nat) : (⟨b, o, none⟩ : Addr).add n = ⟨b, o + n, none⟩ := by
  unfold Addr.add
  split
  · rename_i h; subst h; rfl
  · rfl
theorem list_of_all {α : Type} {Q : Nat → α → Prop} : ∀ n : Nat, (∀ i, i < n → ∃ a, Q i a) → ∃ l : List α, l.length = n ∧ ∀ (i : Nat) (a : α), l[i]? = some a → Q i a
  | 0, _ => ⟨[], rfl, fun i a h => by simp at h⟩
  | n + 1, h => by
    obtain ⟨l, h1, h2⟩ := list_of_all n fun i hi => h i (by omega)
    obtain ⟨a, ha⟩ := h n (by omega)
    refine ⟨l ++ [a], by simp [h1], fun i b hb => ?_⟩
    by_cases hi : i < n
    · rw [List.getElem?_append_left (by omega)] at hb
      exact h2 i b hb
    · rw [List.getElem?_append_right (by omega)] at hb
      have : i - l.length = 0 := by
        have := (List.getElem?_eq_some_iff.1 hb).1
        simp at this
        omega
      rw [this] at hb
      simp at hb
      subst hb
      have : i = n := by omega
      subst this
      exact ha

section
variable {H : Type} {enc : TypeId × Value → H} {P : Program} {w : World} {spare : Nat → Bool} {held : Bool}

/-- A slice that is read. -/
theorem rep_slice {α : Type} {t e : TypeId} {z : Nat} {encA : α → List PV} {ok : α → Prop} (ht : P.underlying t = some (.slice e)) (hc : P.cellsOf e = z) (hz : 0 < z)
    (el : ∀ (n : Nat) (cs : List Value) (y : DataW H × List MemPlace), DataW.trod enc P w 0 spare held n e cs = some y → ∃ a : α, ok a ∧ RepCells P (S.start w) (encA a) cs)
    {fuel : Nat} {cs : List Value} {x : DataW H × List MemPlace} (h : DataW.trod enc P w 0 spare held fuel t cs = some x) :
    ∃ (as : List α) (v : Value), cs = [v] ∧ (∀ a ∈ as, ok a) ∧ as.length ≤ maxLen ∧ Rep P (S.start w) (.sl none (as.map encA)) v := by
  rcases DataW.trod_slice ht h with ⟨rfl, rfl⟩ | ⟨a, len, cap, elems, rest, n, _, rfl, rfl, hb, hl, hm, hlen, hel, hsp, hns⟩
  · exact ⟨[], _, rfl, by simp, Nat.zero_le _, .sl none [] 0 0 0 0 none (fun _ _ => undef) (Nat.le_refl _) (by decide) (by simp) (by simp) (by simp) (by simp) (by simp) trivial⟩
  have each : ∀ i, i < len → ∃ x : α × List Value, ok x.1 ∧ RepCells P (S.start w) (encA x.1) x.2 ∧ x.2.length = z ∧ ∀ j, j < z → w.cell? ((a.add (i * z)).add j) = x.2[j]? := by
    intro i hi
    have h1 := hel i hi
    rw [List.getElem?_eq_getElem (by omega), hc] at h1
    obtain ⟨cs, hcs, hy⟩ := Option.bind_eq_some_iff.1 h1
    obtain ⟨a', ha', hr⟩ := el n cs _ hy
    obtain ⟨_, h2, h3⟩ := World.cells?_some hcs
    exact ⟨(a', cs), ha', hr, h2, h3⟩
  obtain ⟨l, hll, hlq⟩ := list_of_all len each
  have hcell : ∀ i j, i < len → j < z → ∃ v, w.cell? ((a.add (i * z)).add j) = some v := by
    intro i j hi hj
    obtain ⟨h1, h2, h3, h4⟩ := hlq i _ (List.getElem?_eq_getElem (by omega))
    exact ⟨_, (h4 j hj).trans (List.getElem?_eq_getElem (by omega))⟩
  have hspot : 0 < len → a.spot = none ∧ a.block < w.heap.size := by
    intro h0
    obtain ⟨v, hv⟩ := hcell 0 0 h0 hz
    unfold World.cell? at hv
    split at hv
    · rename_i hh
      have h1 := (Array.getElem?_eq_some_iff.1 hh).1
      simp [Addr.add] at hv h1
      exact ⟨hv.1, h1⟩
    · cases hv
  refine ⟨l.map (·.1), _, rfl, fun x hx => ?_, by simp only [List.length_map]; omega, ?_⟩
  · obtain ⟨y, hy, rfl⟩ := List.mem_map.1 hx
    obtain ⟨i, hi, rfl⟩ := List.getElem_of_mem hy
    exact (hlq i _ (List.getElem?_eq_getElem hi)).1
  have hL : ((l.map (·.1)).map encA).length = len := by simp [hll]
  have key := Rep.sl (P := P) (s := S.start w) none ((l.map (·.1)).map encA) z a.block a.off cap (some a) (fun i j => ((l[i]?.map (·.2)).getD []).getD j undef) (by rw [hL]; exact hl) hm (fun h0 => ?_) (fun x hx => ?_) (fun h0 => ?_) (fun i j hi hj => ?_) (fun i j x p hx hp => ?_) trivial
  · rw [hL] at key
    exact key
  · rw [hL] at h0
    obtain ⟨h1, _⟩ := hspot h0
    cases a
    simp at h1
    subst h1
    rfl
  · simp only [List.map_map, List.mem_map] at hx
    obtain ⟨y, hy, rfl⟩ := hx
    obtain ⟨i, hi, rfl⟩ := List.getElem_of_mem hy
    obtain ⟨h1, h2, h3, h4⟩ := hlq i _ (List.getElem?_eq_getElem hi)
    exact h2.1.trans h3
  · rw [hL] at h0
    exact Stab.start (hspot h0).2
  · rw [hL] at hi
    obtain ⟨h1, h2, h3, h4⟩ := hlq i _ (List.getElem?_eq_getElem (by omega))
    have h5 := h4 j hj
    have h6 := (hspot (by omega)).1
    have h7 : (a.add (i * z)).add j = ⟨a.block, a.off + i * z + j, none⟩ := by
      cases a
      simp at h6
      subst h6
      rw [add_none, add_none]
    rw [h7] at h5
    show w.cell? _ = _
    rw [h5, List.getElem?_eq_getElem (show i < l.length by omega)]
    simp [List.getD, List.getElem?_eq_getElem (show j < (l[i]).2.length by omega)]
  · simp only [List.map_map, List.getElem?_map, Option.map_eq_some_iff] at hx
    obtain ⟨y, hy, rfl⟩ := hx
    obtain ⟨h1, h2, h3, h4⟩ := hlq i y hy
    have hj : j < y.2.length := by rw [← h2.1]; exact (List.getElem?_eq_some_iff.1 hp).1
    have h5 := h2.2 j p _ hp (List.getElem?_eq_getElem hj)
    rw [hy]
    simpa [List.getD, List.getElem?_eq_getElem hj] using h5

theorem rep_int {t : TypeId} {k : IntKind} (ht : P.underlying t = some (.int k)) {fuel : Nat} {cs : List Value} {x : DataW H × List MemPlace} (h : DataW.trod enc P w 0 spare held fuel t cs = some x) :
    ∃ n : Int, (Lit.int k n).wf = true ∧ RepCells P (S.start w) [.val (.int k n)] cs := by
  obtain ⟨n, rfl, _, hw⟩ := DataW.trod_int ht h
  exact ⟨n, hw, .mk (.val _)⟩
end

/-- A contract that gives true and leaves no objects, said of the call. -/
theorem SC.calls {C : Cx} {f : FuncId} {ps : List PV} {w : World} {vs : List Value} (hx : C.W0 w w.heap.size) (hg : ∀ (k : Nat) (p : PV), C.GE k = some p → Rep C.P (S.start w) p (.pointer (some ⟨k, 0, none⟩)))
    (h : SC C f ps ⟨[], []⟩ fun r σ' => r = .val (.bool true) ∧ σ' = ⟨[], []⟩) (ha : RepCells C.P (S.start w) ps vs) : Calls C.P f vs.toArray w fun e w' => e = .returned (.bool true) ∧ Below w.heap.size w w' :=
  (h w w.heap.size (S.start w) vs (Inv.start hx hg) ha.1 ha.2).mono fun e w' ⟨v, r, σ', s', he, hw, ⟨hr, _⟩, hi, hv, _⟩ => by
    subst hr
    cases hv
    exact ⟨he, hw ▸ hi.below⟩
end Go.Sw

/- What the rows' readers find, as abstract values: the listed table of the elements, and arguments of this seat's types. -/
import Derived.Test.YtgabnlkkjmepnaaDoorSwR
import Derived.Test.YtgabnlkkjmepnaaDoorS9
import Derived.Test.YtgabnlkkjmepnaaDoorRows
import Derived.ProofKit
import Derived.LaidMore
import Derived.OpenShut
import Derived.Stop.Joined
namespace Go.Proofs.YtgabnlkkjmepnaaDoor
open Go.Sw Go.ChangeShapes Go.WideShapes Go.ChangeAt Go.RowKit

theorem own : ownKnob Tryd.prog.godebug = none := by kernel_rfl
theorem laidOut : laidOutB Tryd.prog = true := by kernel_rfl
theorem gBounds : Tryd.prog.globalNamed "synoptic/element.bounds" = some 0 := by kernel_rfl
theorem tBounds : (Tryd.prog.globals[0]?).map (·.type) = some 99 := by kernel_rfl

/-- What is listed. -/
abbrev laidL : List (String × DataW Unit) := [("synoptic/element.bounds", Rows.laid_synoptic_element_bounds)]

theorem cells3 : Tryd.prog.cellsOf 3 = 1 := by kernel_rfl
theorem cells98 : Tryd.prog.cellsOf 98 = 2 := by kernel_rfl
theorem cells99 : Tryd.prog.cellsOf 99 = 22 := by kernel_rfl

theorem list_two {α : Type} {l : List α} (h : l.length = 2) : ∃ a b, l = [a, b] := by
  match l, h with
  | [a, b], _ => exact ⟨a, b, rfl⟩
theorem list_five {α : Type} {l : List α} (h : l.length = 5) : ∃ a b c d e, l = [a, b, c, d, e] := by
  match l, h with
  | [a, b, c, d, e], _ => exact ⟨a, b, c, d, e, rfl⟩
theorem list_three {α : Type} {l : List α} (h : l.length = 3) : ∃ a b c, l = [a, b, c] := by
  match l, h with
  | [a, b, c], _ => exact ⟨a, b, c, rfl⟩
/-- Two numbers of the table. -/
theorem read_pair {enc : TypeId × Value → Unit} {W : World} {sp : Nat → Bool} {hd : Bool} {n : Nat} {cs : List Value} {d : DataW Unit} {ps : List MemPlace} (h : DataW.trod enc Tryd.prog W 0 sp hd n 98 cs = some (d, ps)) (a b : Int) (hd : d = .agg [.lit (.int .i64 a), .lit (.int .i64 b)]) : cs = [.int .i64 a, .int .i64 b] := by
  obtain ⟨xs, m, rfl, hx, hlen, hn, hel⟩ := DataW.trod_array Tryd.underlying98 h
  simp only [Prod.mk.injEq] at hx
  rw [hd] at hx
  have h0 := hel 0 (by decide)
  have h1 := hel 1 (by decide)
  rw [cells98] at hlen
  rw [cells3] at h0 h1
  obtain ⟨x0, x1, rfl⟩ := list_two hn
  obtain ⟨u, v, rfl⟩ := list_two hlen
  obtain ⟨k0, e0, f0, _⟩ := DataW.trod_int Tryd.underlying3 (show DataW.trod enc Tryd.prog W 0 sp _ m 3 [u] = some x0 from h0)
  obtain ⟨k1, e1, f1, _⟩ := DataW.trod_int Tryd.underlying3 (show DataW.trod enc Tryd.prog W 0 sp _ m 3 [v] = some x1 from h1)
  subst f0; subst f1
  simp at hx e0 e1
  rw [e0, e1, hx.1.1, hx.1.2]

/-- The table's pairs. -/
def pairs : List (Int × Int) := [(8000, 11000), (1800, 3300), (1800, 3300), (-1000, 1000), (-1000, 1000), (900, 1700), (2000, 3200), (2400, 3400), (2000, 3000), (4400, 6200), (2000, 2900)]
def flat (l : List (Int × Int)) : List Value := l.flatMap fun p => [.int .i64 p.1, .int .i64 p.2]
theorem chunks : ∀ (vals : List (Int × Int)) (l : List Value), l.length = 2 * vals.length → (∀ (i : Nat) (p : Int × Int), vals[i]? = some p → (l.drop (i * 2)).take 2 = [.int .i64 p.1, .int .i64 p.2]) → l = flat vals
  | [], l, h, _ => by
    have : l = [] := List.eq_nil_of_length_eq_zero (by simpa using h)
    subst this; rfl
  | p :: r, l, h, hc => by
    have h0 := hc 0 p rfl
    rw [Nat.zero_mul, List.drop_zero] at h0
    have hr := chunks r (l.drop 2) (by simp at h ⊢; omega) fun i q hq => by
      have := hc (i + 1) q (by simpa using hq)
      rw [List.drop_drop]
      rw [show 2 + i * 2 = (i + 1) * 2 by omega]
      exact this
    have : l = l.take 2 ++ l.drop 2 := (List.take_append_drop 2 l).symm
    rw [this, h0, hr]
    simp [flat]
theorem GE_flat : Cc.GE 0 = some (.rop ((flat pairs).map .val) 0) := rfl
theorem laid_pairs : (Rows.laid_synoptic_element_bounds : DataW Unit) = .agg (pairs.map fun p => .agg [.lit (.int .i64 p.1), .lit (.int .i64 p.2)]) := rfl

/-- What the row's condition gives: the table of the elements. -/
theorem glob_of_laid {W : World} (h : laidMetH Tryd.prog laidL W) : ∀ (k : Nat) (p : PV), Cc.GE k = some p → Rep Cc.P (S.start W) p (.pointer (some ⟨k, 0, none⟩)) := by
  rw [MakeChecks.laidMetH_plain _ _ _ (by kernel_rfl)] at h
  obtain ⟨ps, ⟨g0, t0, cs0, f0, p0, q0, hg0, ht0, hv0, hd0, _⟩, _, _⟩ := h
  obtain rfl := Option.some.inj (gBounds.symm.trans hg0)
  obtain rfl := Option.some.inj (tBounds.symm.trans ht0)
  obtain ⟨xs, m, rfl, hx, hlen, hn, hel⟩ := DataW.trod_array Tryd.underlying99 hd0
  simp only [Prod.mk.injEq] at hx
  rw [laid_pairs] at hx
  have hx1 : pairs.map (fun p => DataW.agg [.lit (.int .i64 p.1), .lit (.int .i64 p.2)]) = xs.map (·.1) := by
    have := hx.1
    injection this
  rw [cells99] at hlen
  have hcs : cs0.toList = flat pairs := by
    refine chunks pairs _ (by rw [hlen]; rfl) fun i p hp => ?_
    have hi : i < 11 := (List.getElem?_eq_some_iff.1 hp).1
    have h1 := hel i hi
    rw [List.getElem?_eq_getElem (by omega), cells98] at h1
    have h2 : (xs[i]).1 = .agg [.lit (.int .i64 p.1), .lit (.int .i64 p.2)] := by
      have h3 : (xs.map (·.1))[i]? = some (DataW.agg [.lit (.int .i64 p.1), .lit (.int .i64 p.2)]) := by rw [← hx1, List.getElem?_map, hp]; rfl
      rw [List.getElem?_map, List.getElem?_eq_getElem (by omega)] at h3
      simpa using h3
    exact read_pair (d := (xs[i]).1) (ps := (xs[i]).2) h1 p.1 p.2 h2
  have hcell : ∀ j, W.cell? ⟨0, j, none⟩ = (flat pairs)[j]? := fun j => by
    rw [World.var?_cell gBounds hv0 j, ← hcs]; simp
  intro k p hk
  have hk0 : k = 0 := by
    rw [Cc_GE] at hk
    unfold GEt at hk
    split at hk
    · rfl
    · cases hk
  subst hk0
  rw [GE_flat] at hk
  cases hk
  have h0 : 0 < W.heap.size := by
    have := hcell 0
    unfold World.cell? at this
    split at this
    · rename_i hh
      exact (Array.getElem?_eq_some_iff.1 hh).1
    · simp [flat, pairs] at this
  refine .rop ((flat pairs).map .val) 0 0 0 (fun j => (flat pairs).getD j undef) (Stab.start h0) (fun j hj => ?_) (fun j p hp => ?_)
  · have hj' : j < (flat pairs).length := by simpa using hj
    show W.cell? ⟨0, 0 + j, none⟩ = _
    rw [Nat.zero_add, hcell j, List.getElem?_eq_getElem hj']
    simp [List.getD, List.getElem?_eq_getElem hj']
  · rw [List.getElem?_map] at hp
    obtain ⟨v, hv, rfl⟩ := Option.map_eq_some_iff.1 hp
    rw [List.getD_eq_getElem?_getD, hv]
    exact .val v

section
variable {H : Type} {enc : TypeId × Value → H} {W : World} {spare : Nat → Bool} {held : Bool}
theorem I64.of_wf {n : Int} (h : (Lit.int .i64 n).wf = true) : I64 n := by
  simp only [Lit.wf, Bool.and_eq_true, decide_eq_true_eq] at h
  exact ⟨h.1, h.2⟩
theorem read_int {fuel : Nat} {cs : List Value} {x : DataW H × List MemPlace} (h : DataW.trod enc Tryd.prog W 0 spare held fuel 3 cs = some x) : ∃ n : Int, I64 n ∧ RepCells Cc.P (S.start W) [i64 n] cs := by
  obtain ⟨n, hw, hr⟩ := rep_int Tryd.underlying3 h
  exact ⟨n, I64.of_wf hw, hr⟩
theorem read_ints {fuel : Nat} {cs : List Value} {x : DataW H × List MemPlace} (h : DataW.trod enc Tryd.prog W 0 spare held fuel 24 cs = some x) : ∃ (L : List Int) (v : Value), cs = [v] ∧ (∀ n ∈ L, I64 n) ∧ L.length ≤ maxLen ∧ Rep Cc.P (S.start W) (.sl none (L.map encI)) v :=
  rep_slice (encA := encI) (ok := I64) Tryd.underlying24 cells3 (by decide) (fun n cs y h => read_int h) h
theorem read_ent {fuel : Nat} {cs : List Value} {x : DataW H × List MemPlace} (h : DataW.trod enc Tryd.prog W 0 spare held fuel 23 cs = some x) : ∃ e : Ent, EntOK e ∧ RepCells Cc.P (S.start W) (encE e) cs := by
  obtain ⟨xs, m, rfl, hx, hlen, hn, hel⟩ := DataW.trod_struct Tryd.underlying23 h
  have cells23 : Tryd.prog.cellsOf 23 = 5 := by kernel_rfl
  rw [cells23] at hlen
  match cs, hlen with
  | [u0, u1, u2, u3, u4], _ =>
    have key : ∀ (i : Nat) (f : Field), (#[{ name := "Code", type := 3, offset := 0, embedded := false, tag := "", pkgPath := "", byteOffset := 0 }, { name := "Element", type := 3, offset := 1, embedded := false, tag := "", pkgPath := "", byteOffset := 8 }, { name := "Width", type := 3, offset := 2, embedded := false, tag := "", pkgPath := "", byteOffset := 16 }, { name := "Scale", type := 3, offset := 3, embedded := false, tag := "", pkgPath := "", byteOffset := 24 }, { name := "Least", type := 3, offset := 4, embedded := false, tag := "", pkgPath := "", byteOffset := 32 }] : Array Field)[i]? = some f → f.type = 3 → ∃ n : Int, I64 n ∧ RepCells Cc.P (S.start W) [i64 n] (([u0, u1, u2, u3, u4].drop f.offset).take 1) := by
      intro i f hf ht
      have h1 := hel i f hf
      rw [ht, cells3] at h1
      have hi : i < xs.length := by rw [hn]; exact (Array.getElem?_eq_some_iff.1 hf).1
      rw [List.getElem?_eq_getElem hi] at h1
      exact read_int h1
    obtain ⟨n0, w0, r0⟩ := key 0 _ rfl rfl
    obtain ⟨n1, w1, r1⟩ := key 1 _ rfl rfl
    obtain ⟨n2, w2, r2⟩ := key 2 _ rfl rfl
    obtain ⟨n3, w3, r3⟩ := key 3 _ rfl rfl
    obtain ⟨n4, w4, r4⟩ := key 4 _ rfl rfl
    exact ⟨⟨n0, n1, n2, n3, n4⟩, ⟨w0, w1, w2, w3, w4⟩, r0.append (r1.append (r2.append (r3.append r4)))⟩
end
end Go.Proofs.YtgabnlkkjmepnaaDoor

/- The logic Sw: structs of integers are compared, for any program. -/
import Derived.Test.YtbnapbegomemeaaDoorSwC
import Derived.Laws.StructEq
namespace Go.Sw
open Go.RowKit

/-- The fields from offset k on are named integers of 64 bits, one cell each. -/
def intFields (P : Program) : Nat → List Field → Bool
  | _, [] => true
  | k, f :: r => f.name != "_" && f.offset == k && (match P.underlying f.type with | some (.int .i64) => true | _ => false) && intFields P (k + 1) r

theorem part_int {P : Program} {t : TypeId} (ht : P.underlying t = some (.int .i64)) {vs : List Value} {k : Nat} {v : Value} (hv : vs[k]? = some v) (w : World) : (part t vs.toArray k).run P w = .ok v w := by
  simp [part, isAgg, run_underlying ht, hv]

theorem eqFields_ints {P : Program} (d : Nat) (xs ys : List Int) : ∀ (fs : List Field) (k : Nat), intFields P k fs = true → k + fs.length = xs.length → k + fs.length = ys.length → ∀ w : World,
    (Op.eqFields (d + 1) (xs.map fun i => Value.int .i64 i).toArray (ys.map fun i => Value.int .i64 i).toArray fs).run P w = .ok (xs.drop k == ys.drop k) w
  | [], k, _, h1, h2, w => by
    rw [List.drop_eq_nil_of_le (by simp at h1; omega), List.drop_eq_nil_of_le (by simp at h2; omega)]
    rfl
  | f :: r, k, h, h1, h2, w => by
    simp only [intFields, Bool.and_eq_true, bne_iff_ne, ne_eq, beq_iff_eq] at h
    obtain ⟨⟨⟨hn, rfl⟩, hu⟩, hr⟩ := h
    have hu' : P.underlying f.type = some (.int .i64) := by
      split at hu
      · assumption
      · cases hu
    simp only [List.length_cons] at h1 h2
    have a1 : f.offset < xs.length := by omega
    have a2 : f.offset < ys.length := by omega
    have g1 : (xs.map fun i => Value.int .i64 i)[f.offset]? = some (.int .i64 xs[f.offset]) := by simp [a1]
    have g2 : (ys.map fun i => Value.int .i64 i)[f.offset]? = some (.int .i64 ys[f.offset]) := by simp [a2]
    have ih := eqFields_ints d xs ys r (f.offset + 1) hr (by omega) (by omega) w
    simp only [Op.eqFields, hn, ne_eq, not_false_eq_true, if_true, Sem.run_bind, part_int hu' g1, part_int hu' g2, Result.andThen_ok, run_equalIn_int _ d _ _ _ _ _ hu', Sem.run_ite, Sem.run_pure]
    have e : (xs.drop f.offset == ys.drop f.offset) = ((xs[f.offset] == ys[f.offset]) && (xs.drop (f.offset + 1) == ys.drop (f.offset + 1))) := by
      rw [List.drop_eq_getElem_cons a1, List.drop_eq_getElem_cons a2]; rfl
    rw [e]
    by_cases he : xs[f.offset] = ys[f.offset]
    · simp [he, ih]
    · simp [he]

theorem eq_ints {P : Program} {t : TypeId} (hm : P.eqGuardType P.depth t = false) (ht : P.underlying t = some (.struct (P.fieldsOf t))) (hp : P.stoodInHeld t = false) (hf : intFields P 0 (P.fieldsOf t).toList = true)
    (xs ys : List Int) (h1 : xs.length = (P.fieldsOf t).toList.length) (h2 : ys.length = (P.fieldsOf t).toList.length) (x y : Operand) (w : World) :
    (do eqGuard .eql t x y (.agg (xs.map fun i => Value.int .i64 i).toArray) (.agg (ys.map fun i => Value.int .i64 i).toArray); binOp .eql t (.agg (xs.map fun i => Value.int .i64 i).toArray) (.agg (ys.map fun i => Value.int .i64 i).toArray) : Sem Value).run P w = .ok (.bool (xs == ys)) w ∧
    (do eqGuard .neq t x y (.agg (xs.map fun i => Value.int .i64 i).toArray) (.agg (ys.map fun i => Value.int .i64 i).toArray); binOp .neq t (.agg (xs.map fun i => Value.int .i64 i).toArray) (.agg (ys.map fun i => Value.int .i64 i).toArray) : Sem Value).run P w = .ok (.bool (!(xs == ys))) w := by
  have h := eqFields_ints (P := P) 9998 xs ys (P.fieldsOf t).toList 0 hf (by omega) (by omega) w
  simp only [List.drop_zero] at h
  refine ⟨?_, ?_⟩
  · rw [Sem.run_bind, run_eqGuard_agg w _ _ _ _ _ _ hm, Result.andThen_ok, run_eql_struct, run_equalIn_struct w 9999 t _ _ ht hp, h, Result.andThen_ok]
  · rw [Sem.run_bind, run_eqGuard_agg w _ _ _ _ _ _ hm, Result.andThen_ok, run_neq_struct, run_equalIn_struct w 9999 t _ _ ht hp, h, Result.andThen_ok]
end Go.Sw

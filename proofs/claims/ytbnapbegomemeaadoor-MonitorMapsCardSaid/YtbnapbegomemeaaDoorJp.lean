/- What a row's post asks of a law that returned true and wrote nothing below, for any parameters; the state that the door leaves. -/
import Derived.Test.YtbnapbegomemeaaDoorJn
import Derived.Carry
namespace Go.Proofs.YtbnapbegomemeaaDoor
open Go.Sw Go.ChangeShapes Go.WideShapes Go.ChangeAt Go.RowKit

theorem trodAll_below {H : Type} {enc : TypeId × Value → H} {W W' : World} (bel : Below W.heap.size W W') : ∀ (ts : List TypeId) (vs : List Value) (ds : List (DataW H)) (ps : List MemPlace), (∀ t ∈ ts, Tryd.prog.readableRec t = true ∧ t < Tryd.prog.types.size) →
    DataW.TrodAll enc Tryd.prog W 0 (fun _ => true) true ts vs ds ps → (∀ p ∈ ps, p.block < W.heap.size) → DataW.TrodAll enc Tryd.prog W' 0 (fun b => decide (b < W.heap.size)) true ts vs ds ps
  | [], _, _, _, _, h, _ => by
    obtain ⟨rfl, rfl, rfl⟩ := trodAll_nil h
    exact trodAll_mk0
  | t :: ts, _, _, _, ht, h, hp => by
    obtain ⟨v, vs', d, ds', p, q, rfl, rfl, rfl, h1, h2⟩ := trodAll_cons h
    exact ⟨p, q, Below.trod laidOut (ht t (by simp)).1 (ht t (by simp)).2 h1 bel fun x hx => hp x (by simp [hx]), trodAll_below bel ts vs' ds' q (fun t' ht' => ht t' (by simp [ht'])) h2 fun x hx => hp x (by simp [hx]), rfl⟩

/-- A law's row: true comes back, the arguments read as they did. -/
theorem law_post {H : Type} {enc : TypeId × Value → H} {f : Func} {s : ChangeSpec} {W W' : World} {args : Array Value} {ds gs : List (DataW H)} {before : List MemPlace} (hv : s.vars = []) (hr : f.resultTypes = #[4]) (hts : ∀ t ∈ f.params.toList, Tryd.prog.readableRec t = true ∧ t < Tryd.prog.types.size)
    (hW : DataW.Whole enc Tryd.prog f.params.toList s.vars false W args.toList ds gs before) (h1 : (s.fn H (ds ++ gs)).results = [.lit (.bool true)]) (h2 : (s.fn H (ds ++ gs)).args = ds) (h3 : (s.fn H (ds ++ gs)).vars = []) (bel : Below W.heap.size W W') :
    s.post enc Tryd.prog f false true false false W args (.bool true) W' := by
  have hW' := hW
  obtain ⟨p, q, hA, hV, rfl, hfz, hnd⟩ := hW
  rw [hv] at hV
  obtain ⟨rfl, rfl⟩ := trodVars_none hV
  refine ⟨_, _, _, [], p, [], hW', ?_, ?_, ?_, bel.frame _, fun h => by cases h⟩
  · rw [hr, h1]
    exact trodAll_mk1 (shut_bool Tryd.underlying4 true)
  · rw [h2]
    exact trodAll_below bel _ _ _ _ hts hA fun x hx => by simpa using hW'.lt x (by simp [hx])
  · rw [hv, h3]; rfl
end Go.Proofs.YtbnapbegomemeaaDoor

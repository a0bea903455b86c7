/-
  TableExpands returns true for every table, every two lists of numbers and every number, and leaves its arguments as they were.
  Condition: the package variable element.bounds reads as the program's text lays it when the call begins (the card ties that to the text). The form's own reach (each slice of an argument takes at most 2^47 - 4096 bytes) is used: the lengths of the table's lists can be added.
-/
import Derived.Test.YtgabnlkkjmepnaaDoorJp
import Derived.Test.YtgabnlkkjmepnaaDoorL7
import Derived.Test.YtgabnlkkjmepnaaDoorCards
import Derived.Test.YtgabnlkkjmepnaaDoorTie
import Derived.SevenTiedAt
import Derived.SizedLaws
namespace Go.Proofs.YtgabnlkkjmepnaaDoor
open Go.Sw Go.ChangeShapes Go.WideShapes Go.ChangeAt Go.RowKit

section
variable {H : Type} {enc : TypeId × Value → H} {P : Program} {w : World} {spare : Nat → Bool} {held : Bool}

/-- All that is weighed within a datum is within the form's reach. -/
def WB {H : Type} (P : Program) (t : TypeId) (d : DataW H) : Prop := ∀ k ∈ d.weights P t, k ≤ reachBytes
theorem weightsAll_mem {e : TypeId} : ∀ {l : List (DataW H)} {d : DataW H}, d ∈ l → ∀ k ∈ d.weights P e, k ∈ DataW.weightsAll P e l
  | x :: l, d, hd, k, hk => by
    simp only [DataW.weightsAll, List.mem_append]
    rcases List.mem_cons.1 hd with rfl | hd
    · exact .inl hk
    · exact .inr (weightsAll_mem hd k hk)
theorem WB.slice {t e : TypeId} {xs ys : List (DataW H)} (ht : P.underlying t = some (.slice e)) (h : WB P t (.slice xs ys)) : xs.length * P.bytesOf e ≤ reachBytes ∧ ∀ d ∈ xs, WB P e d := by
  unfold WB at h
  simp only [DataW.weights, ht] at h
  refine ⟨?_, fun d hd k hk => h k (by simp [weightsAll_mem hd k hk])⟩
  have := h _ (List.mem_cons_self ..)
  exact Nat.le_trans (Nat.mul_le_mul_right _ (Nat.le_add_right _ _)) this
theorem WB.struct {t : TypeId} {fs : Array Field} {xs : List (DataW H)} (ht : P.underlying t = some (.struct fs)) (h : WB P t (.agg xs)) {i : Nat} {f : Field} {d : DataW H} (hf : fs[i]? = some f) (hd : xs[i]? = some d) : WB P f.type d := by
  intro k hk
  refine h k ?_
  simp only [DataW.weights, ht]
  exact DataW.weights_mem_each (by rw [List.getElem?_map, Array.getElem?_toList, hf]; rfl) hd k hk

/-- A slice that is read, of elements whose own slices are within the reach. -/
theorem rep_sliceW {α : Type} {t e : TypeId} {z : Nat} {encA : α → List PV} {ok : α → Prop} (ht : P.underlying t = some (.slice e)) (hc : P.cellsOf e = z) (hz : 0 < z)
    (el : ∀ (n : Nat) (cs : List Value) (y : DataW H × List MemPlace), DataW.trod enc P w 0 spare held n e cs = some y → WB P e y.1 → ∃ a : α, ok a ∧ RepCells P (S.start w) (encA a) cs)
    {fuel : Nat} {cs : List Value} {x : DataW H × List MemPlace} (h : DataW.trod enc P w 0 spare held fuel t cs = some x) (hw : WB P t x.1) :
    ∃ (al : List α) (v : Value), cs = [v] ∧ (∀ a ∈ al, ok a) ∧ al.length * P.bytesOf e ≤ reachBytes ∧ Rep P (S.start w) (.sl none (al.map encA)) v := by
  rcases DataW.trod_slice ht h with ⟨rfl, rfl⟩ | ⟨a, len, cap, elems, rest, n, _, rfl, rfl, hb, hl, hm, hlen, hel, hsp, hns⟩
  · exact ⟨[], _, rfl, by simp, by simp, .sl none [] 0 0 0 0 none (fun _ _ => undef) (Nat.le_refl _) (by decide) (by simp) (by simp) (by simp) (by simp) (by simp) trivial⟩
  obtain ⟨hbytes, hwe⟩ := hw.slice ht
  have each : ∀ i, i < len → ∃ x : α × List Value, ok x.1 ∧ RepCells P (S.start w) (encA x.1) x.2 ∧ x.2.length = z ∧ ∀ j, j < z → w.cell? ((a.add (i * z)).add j) = x.2[j]? := by
    intro i hi
    have h1 := hel i hi
    rw [List.getElem?_eq_getElem (by omega), hc] at h1
    obtain ⟨cs, hcs, hy⟩ := Option.bind_eq_some_iff.1 h1
    obtain ⟨a', ha', hr⟩ := el n cs _ hy (hwe _ (List.mem_map_of_mem (List.getElem_mem _)))
    obtain ⟨_, h2, h3⟩ := World.cells?_some hcs
    exact ⟨(a', cs), ha', hr, h2, h3⟩
  obtain ⟨l, hll, hlq⟩ := list_of_all len each
  have hcell : ∀ i j, i < len → j < z → ∃ v, w.cell? ((a.add (i * z)).add j) = some v := by
    intro i j hi hj
    obtain ⟨h1, h2, h3, h4⟩ := hlq i _ (List.getElem?_eq_getElem (by omega))
    exact ⟨_, (h4 j hj).trans (List.getElem?_eq_getElem (by omega))⟩
  have hspot : 0 < len → a.spot = none ∧ a.block < w.heap.size := by
    intro h0
    obtain ⟨v, hv⟩ := hcell 0 0 h0 hz
    unfold World.cell? at hv
    split at hv
    · rename_i hh
      have h1 := (Array.getElem?_eq_some_iff.1 hh).1
      simp [Addr.add] at hv h1
      exact ⟨hv.1, h1⟩
    · cases hv
  refine ⟨l.map (·.1), _, rfl, fun x hx => ?_, by simp only [List.length_map, hll]; simpa [hlen] using hbytes, ?_⟩
  · obtain ⟨y, hy, rfl⟩ := List.mem_map.1 hx
    obtain ⟨i, hi, rfl⟩ := List.getElem_of_mem hy
    exact (hlq i _ (List.getElem?_eq_getElem hi)).1
  have hL : ((l.map (·.1)).map encA).length = len := by simp [hll]
  have key := Rep.sl (P := P) (s := S.start w) none ((l.map (·.1)).map encA) z a.block a.off cap (some a) (fun i j => ((l[i]?.map (·.2)).getD []).getD j undef) (by rw [hL]; exact hl) hm (fun h0 => ?_) (fun x hx => ?_) (fun h0 => ?_) (fun i j hi hj => ?_) (fun i j x p hx hp => ?_) trivial
  · rw [hL] at key
    exact key
  · rw [hL] at h0
    obtain ⟨h1, _⟩ := hspot h0
    cases a
    simp at h1
    subst h1
    rfl
  · simp only [List.map_map, List.mem_map] at hx
    obtain ⟨y, hy, rfl⟩ := hx
    obtain ⟨i, hi, rfl⟩ := List.getElem_of_mem hy
    obtain ⟨h1, h2, h3, h4⟩ := hlq i _ (List.getElem?_eq_getElem hi)
    exact h2.1.trans h3
  · rw [hL] at h0
    exact Stab.start (hspot h0).2
  · rw [hL] at hi
    obtain ⟨h1, h2, h3, h4⟩ := hlq i _ (List.getElem?_eq_getElem (by omega))
    have h5 := h4 j hj
    have h6 := (hspot (by omega)).1
    have h7 : (a.add (i * z)).add j = ⟨a.block, a.off + i * z + j, none⟩ := by
      cases a
      simp at h6
      subst h6
      rw [add_none, add_none]
    rw [h7] at h5
    show w.cell? _ = _
    rw [h5, List.getElem?_eq_getElem (show i < l.length by omega)]
    simp [List.getD, List.getElem?_eq_getElem (show j < (l[i]).2.length by omega)]
  · simp only [List.map_map, List.getElem?_map, Option.map_eq_some_iff] at hx
    obtain ⟨y, hy, rfl⟩ := hx
    obtain ⟨h1, h2, h3, h4⟩ := hlq i y hy
    have hj : j < y.2.length := by rw [← h2.1]; exact (List.getElem?_eq_some_iff.1 hp).1
    have h5 := h2.2 j p _ hp (List.getElem?_eq_getElem hj)
    rw [hy]
    simpa [List.getD, List.getElem?_eq_getElem hj] using h5
end

section
variable {H : Type} {enc : TypeId × Value → H} {W : World} {spare : Nat → Bool} {held : Bool}
theorem bytes3 : Tryd.prog.bytesOf 3 = 8 := by kernel_rfl
theorem bytes23 : Tryd.prog.bytesOf 23 = 40 := by kernel_rfl
theorem bytes49 : Tryd.prog.bytesOf 49 = 32 := by kernel_rfl
theorem cellsOf23 : Tryd.prog.cellsOf 23 = 5 := by kernel_rfl
theorem cells24 : Tryd.prog.cellsOf 24 = 1 := by kernel_rfl
theorem cells27 : Tryd.prog.cellsOf 27 = 1 := by kernel_rfl
theorem cells28 : Tryd.prog.cellsOf 28 = 1 := by kernel_rfl
theorem cells30 : Tryd.prog.cellsOf 30 = 3 := by kernel_rfl
theorem cells49 : Tryd.prog.cellsOf 49 = 2 := by kernel_rfl
structure SqRaw (q : Sq) : Prop where
  code : I64 q.code
  codes : ∀ c ∈ q.codes, I64 c
  len : q.codes.length ≤ 9007199254740992

theorem read_sq {fuel : Nat} {cs : List Value} {x : DataW H × List MemPlace} (h : DataW.trod enc Tryd.prog W 0 spare held fuel 49 cs = some x) (hw : WB Tryd.prog 49 x.1) : ∃ q : Sq, SqRaw q ∧ RepCells Cc.P (S.start W) (encS q) cs := by
  obtain ⟨xs, m, rfl, hx, hlen, hn, hel⟩ := DataW.trod_struct Tryd.underlying49 h
  rw [cells49] at hlen
  match cs, hlen with
  | [u0, u1], _ =>
    have h0 := hel 0 _ rfl
    have h1 := hel 1 _ rfl
    obtain ⟨x0, x1, rfl⟩ := list_two (show xs.length = 2 from hn)
    obtain ⟨n0, w0, r0⟩ := read_int (show DataW.trod enc Tryd.prog W 0 spare held m 3 (([u0, u1].drop 0).take (Tryd.prog.cellsOf 3)) = some x0 from h0)
    have hw1 : WB Tryd.prog 24 x1.1 := by
      have hh : WB Tryd.prog 49 (.agg ([x0, x1].map (·.1))) := by rw [hx] at hw; exact hw
      exact hh.struct Tryd.underlying49 (i := 1) rfl rfl
    obtain ⟨l, v, hv, hl, hll, rl⟩ := rep_sliceW (encA := encI) (ok := I64) Tryd.underlying24 cells3 (by decide) (fun n cs y h _ => read_int h) (show DataW.trod enc Tryd.prog W 0 spare held m 24 (([u0, u1].drop 1).take (Tryd.prog.cellsOf 24)) = some x1 from h1) hw1
    rw [cells24] at hv
    rw [cells3] at r0
    have hv' : u1 = v := by simpa using hv
    subst hv'
    rw [bytes3] at hll
    have hrb : reachBytes = 140737488351232 := rfl
    refine ⟨⟨n0, l⟩, ⟨w0, hl, by dsimp only; omega⟩, ?_⟩
    exact RepCells.append (ps := [i64 n0]) (cs := [u0]) r0 (.mk rl)

theorem read_tab {fuel : Nat} {cs : List Value} {x : DataW H × List MemPlace} (h : DataW.trod enc Tryd.prog W 0 spare held fuel 30 cs = some x) (hw : WB Tryd.prog 30 x.1) : ∃ t : Tab, RawOK t ∧ RepCells Cc.P (S.start W) (encT t) cs := by
  obtain ⟨xs, m, rfl, hx, hlen, hn, hel⟩ := DataW.trod_struct Tryd.underlying30 h
  rw [cells30] at hlen
  match cs, hlen with
  | [u0, u1, u2], _ =>
    have h0 := hel 0 _ rfl
    have h1 := hel 1 _ rfl
    have h2 := hel 2 _ rfl
    obtain ⟨x0, x1, x2, rfl⟩ := list_three (show xs.length = 3 from hn)
    have hh : WB Tryd.prog 30 (.agg ([x0, x1, x2].map (·.1))) := by rw [hx] at hw; exact hw
    have hw1 : WB Tryd.prog 27 x1.1 := hh.struct Tryd.underlying30 (i := 1) rfl rfl
    have hw2 : WB Tryd.prog 28 x2.1 := hh.struct Tryd.underlying30 (i := 2) rfl rfl
    obtain ⟨n0, w0, r0⟩ := read_int (show DataW.trod enc Tryd.prog W 0 spare held m 3 (([u0, u1, u2].drop 0).take (Tryd.prog.cellsOf 3)) = some x0 from h0)
    obtain ⟨es, v1, hv1, he, hel1, re⟩ := rep_sliceW (encA := encE) (ok := EntOK) Tryd.underlying27 cellsOf23 (by decide) (fun n cs y h _ => read_ent h) (show DataW.trod enc Tryd.prog W 0 spare held m 27 (([u0, u1, u2].drop 1).take (Tryd.prog.cellsOf 27)) = some x1 from h1) hw1
    obtain ⟨qs, v2, hv2, hq, hql, rq⟩ := rep_sliceW (encA := encS) (ok := SqRaw) Tryd.underlying28 cells49 (by decide) (fun n cs y h k => read_sq h k) (show DataW.trod enc Tryd.prog W 0 spare held m 28 (([u0, u1, u2].drop 2).take (Tryd.prog.cellsOf 28)) = some x2 from h2) hw2
    rw [cells27] at hv1
    rw [cells28] at hv2
    rw [cells3] at r0
    have e1 : u1 = v1 := by simpa using hv1
    have e2 : u2 = v2 := by simpa using hv2
    subst e1; subst e2
    rw [bytes23] at hel1
    rw [bytes49] at hql
    have hrb : reachBytes = 140737488351232 := rfl
    refine ⟨⟨n0, es, qs⟩, ⟨w0, he, fun q h => (hq q h).code, fun q h => (hq q h).codes, by dsimp only; omega, by dsimp only; omega, fun q h => (hq q h).len⟩, ?_⟩
    exact RepCells.append (ps := [i64 n0]) (cs := [u0]) r0 (RepCells.append (ps := [.sl none (es.map encE)]) (cs := [u1]) (.mk re) (.mk rq))
end

/-- The state that the program's own start leaves meets the condition. -/
theorem expands_door (os : Os) (args : Array Value) : laidMetH Tryd.prog laidL ((World.doorLaid Tryd.prog 400 os).forCall (fun _ _ => 0) ⟨#[], args, []⟩).memory :=
  laidMetH_of_parts3 (fuel := 8) (laidMet_of_run' 8 (by kernel_rfl) (by kernel_rfl)) (by kernel_rfl) (by kernel_rfl)

set_option maxRecDepth 100000 in
theorem expands_lifted (os : Os) (started : os.Started) (H : Type) (enc : TypeId × Value → H) :
    ReturnsInHanded {} Tryd.checked os 7 .any (fun w args => (Rows.tableExpandsSpec.pre enc Tryd.prog Tryd.f7 [] false w args ∧ laidMetH Tryd.prog laidL w) ∧ sizedMet enc Tryd.prog Tryd.f7 (OpenSpec.ofChange Rows.tableExpandsSpec) false w args)
      (Rows.tableExpandsSpec.post enc Tryd.prog Tryd.f7 false true false false) := by
  refine returnsInHanded_of_change_and (C := Tryd.checked) (X := fun w _ => laidMetH Tryd.prog laidL w) (fun _ _ _ hh h => h.of_heap hh) own started (by kernel_rfl) Tryd.func7
    (ChangeSpec.witness_shaped (enc := enc) (C := Tryd.checked) (os := os) (X := fun w _ => laidMetH Tryd.prog laidL w) false (World.doorLaid Tryd.prog 400 os) #[.agg #[.int .i64 0, .slice none 0 0, .slice none 0 0], .slice none 0 0, .slice none 0 0, .int .i64 0] 8 rfl (World.shaped_of_RefB (by kernel_rfl) (by kernel_rfl)) (by kernel_rfl) (by kernel_rfl) (by kernel_rfl) (expands_door os _)) ?_
  intro W base args ds gs before hval0 hW _ hwt hL _
  have hval : ∀ (j : Nat) t v, Tryd.f7.params[j]? = some t → args[j]? = some v → Value.okWide Tryd.prog W .any base t v := hval0
  have hW' := hW
  obtain ⟨p, q, hA0, hV, rfl, _, _⟩ := hW
  obtain ⟨rfl, rfl⟩ := trodVars_none hV
  have hA : DataW.TrodAll enc Tryd.prog W 0 (fun _ => true) true Tryd.f7.params.toList args.toList ds p := hA0
  rw [Tryd.params7] at hA hval
  obtain ⟨v0, v1, v2, v3, d0, d1, d2, d3, p0, p1, p2, p3, rfl, rfl, rfl, h0, h1, h2, h3⟩ := trodAll_four hA
  have hwb : WB Tryd.prog 30 d0 := by
    intro k hk
    have := List.all_eq_true.1 hwt k (DataW.weights_mem_each (j := 0) (by rw [Tryd.params7]; rfl) rfl k hk)
    simpa using this
  obtain ⟨cs, rfl, _⟩ := okWide_struct Tryd.underlying30 (hval 0 30 v0 rfl rfl)
  obtain ⟨b, rfl, rfl, rfl, wb⟩ := open_int Tryd.underlying3 (hval 3 3 v3 rfl rfl) h3
  obtain ⟨f0, h0⟩ := h0
  obtain ⟨f1, h1⟩ := h1
  obtain ⟨f2, h2⟩ := h2
  obtain ⟨t, ht, rt⟩ := read_tab h0 hwb
  obtain ⟨l, v, hv, hl, hll, rl⟩ := read_ints h1
  obtain ⟨l2, u, hu, hl2, hll2, rl2⟩ := read_ints h2
  obtain ⟨a0, len, cap, rfl⟩ := okWide_slice Tryd.underlying24 (hval 1 24 v1 rfl rfl)
  obtain ⟨a2, len2, cap2, rfl⟩ := okWide_slice Tryd.underlying24 (hval 2 24 v2 rfl rfl)
  obtain rfl : Value.slice a0 len cap = v := by simpa [Value.cells] using hv
  obtain rfl : Value.slice a2 len2 cap2 = u := by simpa [Value.cells] using hu
  have hcells : RepCells Cc.P (S.start W) [.agg (encT t), .sl none (l.map encI), .sl none (l2.map encI), i64 b] [.agg cs, .slice a0 len cap, .slice a2 len2 cap2, .int .i64 b] := by
    have r0 : Rep Cc.P (S.start W) (.agg (encT t)) (.agg cs) := by simpa [Value.cells] using rt.agg
    exact (RepCells.mk r0).append ((RepCells.mk rl).append ((RepCells.mk rl2).append (RepCells.mk (.val _))))
  refine (SC.calls (glob_of_laid hL) (TableExpands_sc t l l2 b ht hl ⟨[], []⟩) hcells).mono fun e W' ⟨he, bel⟩ => ?_
  subst he
  exact ⟨_, rfl, law_post rfl rfl (by rw [Tryd.params7]; intro t ht; simp at ht; rcases ht with rfl | rfl | rfl <;> exact ⟨by kernel_rfl, of_decide_eq_true (by kernel_rfl)⟩) hW' rfl rfl rfl bel⟩

theorem expands_holds : Rows.TableExpandsSaid :=
  OpenClaim.holds_of_wide 7 Tryd.f7 rfl rfl rfl rfl rfl rfl rfl ⟨rfl, rfl, rfl, rfl, rfl⟩ rfl rfl rfl rfl rfl (by kernel_rfl) Tryd.func7 (by kernel_rfl)
    (of_decide_eq_true (by kernel_rfl)) (by unfold Func.isWrapper; first | (rw [if_pos (by decide +kernel)]; kernel_rfl) | (rw [if_neg (by decide +kernel)]; exact ⟨rfl, rfl⟩))
    (fun os started H enc _ => expands_lifted os started H enc)

theorem tableExpands_card : Rows.TableExpandsCardSaid :=
  Claim7.holds_tied_plain_at .later [] [.data] true (true, "94063ac6e77091e4154eeea84c6c89d25ff870a1438f388d021ecedf7ce431df") false
    expands_holds (fun _ h => by cases h) (by kernel_rfl) (fun _ h => by cases h) tableExpands_row_tie rfl ⟨rfl, rfl⟩ (by kernel_rfl) rfl
    (fun f fn hf hfn => by
      obtain rfl : f = 7 := Option.some.inj ((show Tryd.prog.funcNamed "synoptic/synopticlaw08.TableExpands" = some 7 by kernel_rfl).symm.trans hf) |>.symm
      obtain rfl : fn = Tryd.f7 := (Option.some.inj (Tryd.func7.symm.trans hfn)).symm
      exact ⟨by kernel_rfl, fun j t ht => by
        rw [Tryd.params7] at ht
        have hm : t ∈ [30, 24, 24, 3] := by simpa using Array.mem_of_getElem? ht
        have hall : ([30, 24, 24, 3].all fun u => !Tryd.prog.wantsStandIn u) = true := by kernel_rfl
        exact (show Tryd.prog.wantsStandIn t = false by simpa using List.all_eq_true.1 hall t hm)⟩)
    (by kernel_rfl)
#print axioms tableExpands_card
end Go.Proofs.YtgabnlkkjmepnaaDoor

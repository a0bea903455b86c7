/- The law TableNumbers: it returns true. -/
import Derived.Test.YtgabnlkkjmepnaaDoorS17
import Derived.Test.YtgabnlkkjmepnaaDoorSwP
import Derived.Test.YtgabnlkkjmepnaaDoorSwQ
import Derived.IntWalk
namespace Go.Proofs.YtgabnlkkjmepnaaDoor
open Go.Sw
set_option linter.unusedSimpArgs false
set_option linter.unusedVariables false
attribute [local simp] runOps stepOp pureOp gd isCall inN setd Sw.get params ev evs binV unV convV loadA cellsPV oneB storeA fieldAddrA fieldOff fieldA partA aggOf extractA indexAddrA indexA lenA minmaxA sliceA bnd partsA buildA placesA fillA buildSliceA zerosA chunkA TyD.agg Value.oneCell' Value.cells runPure appA appendA okRow_nil okRow_cons okRow_append resultA ressA resA List.getElem?_append List.set_append Cl_any Cl_val Cl_ptr Cl_agg Cl_tup Cl_fn Cl_rop Cl_sl Sw.take_set Sw.take_set_app Sw.take_app

attribute [local simp] encI encE encS encT okRow_encE okRow_encS
theorem wrap_i64 (n : Int) : I64 (IntKind.i64.wrap n) := by
  have : IntKind.i64.wrap n = (n + 2 ^ 63) % 2 ^ 64 - 2 ^ 63 := by
    simp [IntKind.wrap, IntKind.signed, IntKind.bits]
    omega
  rw [this]
  exact ⟨by omega, by omega⟩
theorem drawnE.ok {k : Nat} {e : Ent} (h : drawnE k e) (hk : 1 ≤ k ∧ k ≤ 11) : EntOK e := by
  have hl : -1000 ≤ leastF k ∧ leastF k ≤ 8000 := by
    have : k = 1 ∨ k = 2 ∨ k = 3 ∨ k = 4 ∨ k = 5 ∨ k = 6 ∨ k = 7 ∨ k = 8 ∨ k = 9 ∨ k = 10 ∨ k = 11 := by omega
    rcases this with rfl | rfl | rfl | rfl | rfl | rfl | rfl | rfl | rfl | rfl | rfl <;> decide
  have h1 := h.code
  have h2 := h.element
  have h3 := h.least
  have h4 := h.scale
  have h5 := h.width
  exact ⟨⟨by omega, by omega⟩, ⟨by omega, by omega⟩, ⟨by omega, by omega⟩, ⟨by omega, by omega⟩, ⟨by omega, by omega⟩⟩
theorem clB_ext {n m : Nat} {bx ex r : List (List PV)} (hbx : ClB n m bx) (hl : bx.length = n) (hex : ∀ ps ∈ ex, ∀ p ∈ ps, Cl n m p) : ClB (n + ex.length) m (bx ++ (ex ++ r)) := by
  intro i ps hi hp p hpp
  by_cases h : i < n
  · rw [List.getElem?_append_left (by omega)] at hp
    exact (hbx i ps h hp p hpp).le (by omega) (Nat.le_refl _)
  · rw [List.getElem?_append_right (by omega), List.getElem?_append_left (by omega)] at hp
    exact (hex ps (List.mem_of_getElem? hp) p hpp).le (by omega) (Nat.le_refl _)
theorem take_ext {α : Type} (l ex r : List α) : (l ++ (ex ++ r)).take (l.length + ex.length) = l ++ ex := by
  rw [← List.append_assoc, List.take_append_of_le_length (by simp)]
  rw [List.take_of_length_le (by simp)]
theorem cl_encE (n m : Nat) (e : Ent) : ∀ p ∈ encE e, Cl n m p := fun p hp => by
  simp [encE] at hp
  rcases hp with rfl | rfl | rfl | rfl | rfl <;> exact .val _
set_option maxHeartbeats 2000000 in
theorem TableNumbers_sc (raw : Ent) (value nn : Int) (L : List Int) (hraw : EntOK raw) (hv : I64 value) (hn : I64 nn) (σ : AS) : SC Cc 3 [.agg (encE raw), i64 value, i64 nn, .sl none (L.map encI)] σ (fun r σ' => r = bV true ∧ σ' = σ) := by
  refine W.body Tryd.func3 rfl 188 Tryd.ntmps3 _ Tryd.results3 (by simp) GEt_cl fun hσ => ?_
  repeat' (first
    | with_reducible refine W.seq ?_
    | with_reducible refine W.next ?_
    | with_reducible refine W.nil ?_
    | with_reducible refine W.skip ?_
    | with_reducible refine W.ret ?_
    | with_reducible refine W.ret_code ?_
    | with_reducible refine W.block ?_
    | with_reducible refine W.out ?_
    | with_reducible refine W.ret_blk ?_
    | with_reducible refine W.exit ?_
    | with_reducible refine W.exit_code ?_
    | with_reducible refine W.exit_here ?_
    | with_reducible refine W.leave_exit ?_
    | with_reducible refine W.leave_ret ?_
    | ((with_reducible refine W.exit_on ?h ?_); (case h => decide))
    | ((with_reducible apply W.reg); (case h => simp [T3, T23, T24, T25, T27, T30]; exact ⟨rfl, rfl, rfl⟩))
    | ((with_reducible apply W.draw mixed); (case hB => kernel_rfl); (case hr => simp [T3, T23, T24, T25, T27, T30]; rfl))
    | ((with_reducible apply W.cond); (case hc => simp; rfl); all_goals (intro hc_; try (cases hc_; done)))
    | ((with_reducible apply W.runX); (case _hc => rfl); (case h => simp [T3, T23, T24, T25, T27, T30]; exact ⟨rfl, rfl, rfl⟩))
    | ((with_reducible apply W.callR go8); (case ho => rfl); (case hc => rfl); (case hf => rfl); (case hg => first | rfl | simp [T3, T23, T24, T25, T27, T30]); (case hd => rfl); (case ha => simp [T3, T23, T24, T25, T27, T30]; rfl); (case hargs => rfl); (case hs => exact New_sc L _); rintro _ _ ⟨L', hL', rfl, rfl⟩)
    | ((with_reducible apply W.callR go9); (case ho => rfl); (case hc => rfl); (case hf => rfl); (case hg => first | rfl | simp [T3, T23, T24, T25, T27, T30]); (case hd => rfl); (case ha => simp [T3, T23, T24, T25, T27, T30]; rfl); (case hargs => rfl); (case hs => exact Table_sc (σ.bx.length + 1) L' 0 1 _ (by simp) (Nat.zero_le _) hL'); rintro _ _ ⟨t, a1, ht, ha1, rfl, rfl⟩)
    | fail)
  have hel := ht.elen
  refine W.cutC (α := Ent × Nat) (fun x => [(1, i64 value), (2, i64 nn), (4, .ptr σ.bx.length 0), (9, .ptr (σ.bx.length + 1) 0), (11, .ptr (σ.bx.length + 3) 0)]) (fun x => ⟨σ.bx ++ [encE raw, srcB L' x.2, encT t, encE x.1], σ.tk⟩) (fun x => (∃ k, k < 11 ∧ drawnE (k + 1) x.1) ∧ x.2 ≤ L'.length) ?_ ?_
  · with_reducible apply W.heldB mixed (σ.bx.length + 1) 11 [0, 1, 2, 3, 4, 5, 7, 8]
    case hn => rfl
    with_reducible apply SH.takes [0, 1, 2, 3, 4, 5] 5
    case hfu => rfl
    case hs => kernel_rfl
    case hB => kernel_rfl
    case hQ => first | exact fun _ _ _ h => h | exact fun _ _ _ h => hNP _ _ _ h
    case hs0 => exact Sub0.hideB _ _
    case hr => simp [T3, T23, T24, T27, T30, hel, runTakes, takeOp, effA, effOp, down, down1, hideB, keep]; exact ⟨rfl, rfl⟩
    with_reducible apply SH.two 6 9
    case hr => kernel_rfl
    · skip
      with_reducible apply SHo.callX go10
      case hi => rfl
      case ho => rfl
      case hc => rfl
      case hf => rfl
      case hg => first | rfl | simp [T3, T23, T24, T27, T30, hel, runTakes, takeOp, effA, effOp, down, down1, hideB, keep]
      case hd => rfl
      case ha => simp [T3, T23, T24, T27, T30, hel, runTakes, takeOp, effA, effOp, down, down1, hideB, keep]; rfl
      case hargs => rfl
      case hs => exact Nx_fsc (keep_hideB _ _) (by simp) (fun σs h => N_sc (σ.bx.length + 1) L' a1 _ σs h ha1 hL')
      rintro _ _ ⟨w, a2, hw, ha2, rfl, rfl⟩
      have hw := hw.2 (by omega) (by omega)
      have hwl : w.toNat < t.entries.length := by omega
      have hw2 : w < 11 := by omega
      have hw0 := hw.1
      have hwn := hw.2
      with_reducible apply SH.takes [7, 8] 2
      case hfu => rfl
      case hs => kernel_rfl
      case hB => kernel_rfl
      case hQ => first | exact fun _ _ _ h => h | exact fun _ _ _ h => hNP _ _ _ h
      case hs0 => exact Sub0.hideB _ _
      case hr => simp [T3, T23, T24, T27, T30, hel, hwl, hw2, hw0, hwn, runTakes, takeOp, effA, effOp, down, down1, hideB, keep]; exact ⟨rfl, rfl⟩
      with_reducible apply SH.one 9
      case hr => kernel_rfl
      with_reducible apply SHo.effX
      case hh => exact (Sub0.hideB _ _).hid.mono (by simp)
      case he => simp [T3, T23, T24, T27, T30, hel, hwl, hw2, hw0, hwn, runTakes, takeOp, effA, effOp, down, down1, hideB, keep]; exact ⟨rfl, rfl, rfl⟩
      with_reducible apply SH.one 10
      case hr => kernel_rfl
      with_reducible apply SHo.lastX
      case hnd => kernel_rfl
      case he => simp [T3, T23, T24, T27, T30, hel, hwl, hw2, hw0, hwn, runTakes, takeOp, effA, effOp, down, down1, hideB, keep, lastA]; exact ⟨rfl, rfl, rfl⟩
      refine SH.done (by kernel_rfl) ?_
      refine W.mid (t.entries[w.toNat], a2) ⟨⟨w.toNat, by omega, ht.ent w.toNat hwl⟩, ha2⟩ ?_ (by simp)
      repeat (first | exact Sw.Sub.nil | refine Sw.Sub.cons (by simp) ?_)
    · skip
      with_reducible apply SHo.effX
      case hh => exact (Sub0.hideB _ _).hid.mono (by simp)
      case he => simp [T3, T23, T24, T27, T30, hel, runTakes, takeOp, effA, effOp, down, down1, hideB, keep]; exact ⟨rfl, rfl, rfl⟩
      with_reducible apply SH.one 6
      case hr => kernel_rfl
      with_reducible apply SHo.callX go10
      case hi => rfl
      case ho => rfl
      case hc => rfl
      case hf => rfl
      case hg => first | rfl | simp [T3, T23, T24, T27, T30, hel, runTakes, takeOp, effA, effOp, down, down1, hideB, keep]
      case hd => rfl
      case ha => simp [T3, T23, T24, T27, T30, hel, runTakes, takeOp, effA, effOp, down, down1, hideB, keep]; rfl
      case hargs => rfl
      case hs => exact Nx_fsc (keep_hideB _ _) (by simp) (fun σs h => N_sc (σ.bx.length + 1) L' a1 _ σs h ha1 hL')
      rintro _ _ ⟨w, a2, hw, ha2, rfl, rfl⟩
      have hw := hw.2 (by omega) (by omega)
      have hwl : w.toNat < t.entries.length := by omega
      have hw2 : w < 11 := by omega
      have hw0 := hw.1
      have hwn := hw.2
      with_reducible apply SH.takes [7, 8] 1
      case hfu => rfl
      case hs => kernel_rfl
      case hB => kernel_rfl
      case hQ => first | exact fun _ _ _ h => h | exact fun _ _ _ h => hNP _ _ _ h
      case hs0 => exact Sub0.hideB _ _
      case hr => simp [T3, T23, T24, T27, T30, hel, hwl, hw2, hw0, hwn, runTakes, takeOp, effA, effOp, down, down1, hideB, keep]; exact ⟨rfl, rfl⟩
      with_reducible apply SH.one 10
      case hr => kernel_rfl
      with_reducible apply SHo.lastX
      case hnd => kernel_rfl
      case he => simp [T3, T23, T24, T27, T30, hel, hwl, hw2, hw0, hwn, runTakes, takeOp, effA, effOp, down, down1, hideB, keep, lastA]; exact ⟨rfl, rfl, rfl⟩
      refine SH.done (by kernel_rfl) ?_
      refine W.mid (t.entries[w.toNat], a2) ⟨⟨w.toNat, by omega, ht.ent w.toNat hwl⟩, ha2⟩ ?_ (by simp)
      repeat (first | exact Sw.Sub.nil | refine Sw.Sub.cons (by simp) ?_)
  · rintro ⟨e, a2⟩ ⟨⟨ke, hke, he⟩, ha2⟩
    dsimp only at he ha2 ⊢
    have hwu : IntKind.u64.wrap e.width = e.width := wrapU (by have := he.width; omega)
    have hw0 : 0 ≤ e.width := by have := he.width; omega
    with_reducible refine W.seq ?_
    with_reducible apply W.heldB mixed (σ.bx.length + 1) 12 [0, 1, 2, 3, 4, 5, 6, 7, 8]
    case hn => rfl
    with_reducible apply SH.takes [0, 1, 2, 3, 4, 5, 6, 7, 8] 3
    case hfu => rfl
    case hs => kernel_rfl
    case hB => kernel_rfl
    case hQ => first | exact fun _ _ _ h => h | exact fun _ _ _ h => hNP _ _ _ h
    case hs0 => exact Sub0.hideB _ _
    case hr => simp [T3, T23, T24, T27, T30, T33, hwu, hw0, runTakes, takeOp, effA, effOp, down, down1, hideB, keep]; exact ⟨rfl, rfl⟩
    with_reducible apply SH.one 9
    case hr => kernel_rfl
    with_reducible apply SHo.callX go10
    case hi => rfl
    case ho => rfl
    case hc => rfl
    case hf => rfl
    case hg => first | rfl | simp [T3, T23, T24, T27, T30, T33, hwu, hw0, runTakes, takeOp, effA, effOp, down, down1, hideB, keep]
    case hd => rfl
    case ha => simp [T3, T23, T24, T27, T30, T33, hwu, hw0, runTakes, takeOp, effA, effOp, down, down1, hideB, keep]; rfl
    case hargs => rfl
    case hs => exact Nx_fsc (keep_hideB _ _) (by simp) (fun σs h => N_sc (σ.bx.length + 1) L' a2 _ σs h ha2 hL')
    rintro _ _ ⟨w, a3, hw, ha3, rfl, rfl⟩
    with_reducible apply SH.one 10
    case hr => kernel_rfl
    with_reducible apply SHo.lastX
    case hnd => kernel_rfl
    case he => simp [T3, T23, T24, T27, T30, T33, hwu, hw0, runTakes, takeOp, effA, effOp, down, down1, hideB, keep, lastA]; exact ⟨rfl, rfl, rfl⟩
    with_reducible apply SH.one 11
    case hr => kernel_rfl
    with_reducible apply SHo.lastX
    case hnd => kernel_rfl
    case he => simp [T3, T23, T24, T27, T30, T33, hwu, hw0, runTakes, takeOp, effA, effOp, down, down1, hideB, keep, lastA]; exact ⟨rfl, rfl, rfl⟩
    refine SH.done (by kernel_rfl) ?_
    have hvi : I64 (IntKind.i64.wrap (e.least + w)) := wrap_i64 _
    generalize IntKind.i64.wrap (e.least + w) = v at *
    with_reducible refine W.next ?_
    refine W.sub (pf' := [(1, i64 value), (2, i64 nn), (4, .ptr σ.bx.length 0), (9, .ptr (σ.bx.length + 1) 0), (11, .ptr (σ.bx.length + 3) 0), (12, i64 v)]) ?_ (by repeat (first | exact Sw.Sub.nil | refine Sw.Sub.cons (by simp) ?_))
    with_reducible refine W.seq ?_
    with_reducible refine W.seq ?_
    with_reducible apply W.held0 mixed 6 [0, 1, 5]
    case hn => rfl
    with_reducible apply SH.takes [0, 1, 5] 3
    case hfu => rfl
    case hs => kernel_rfl
    case hB => kernel_rfl
    case hQ => first | exact fun _ _ _ h => h | exact fun _ _ _ h => hNP _ _ _ h
    case hs0 => exact Sub0.rfl
    case hr => simp [T3, T23, T24, T27, T30, T33, runTakes, takeOp, effA, effOp, down, down1, hideB, keep]; exact ⟨rfl, rfl⟩
    with_reducible apply SH.one 2
    case hr => kernel_rfl
    with_reducible apply SHo.callX go11
    case hi => rfl
    case ho => rfl
    case hc => rfl
    case hf => rfl
    case hg => first | rfl | simp [T3, T23, T24, T27, T30, T33, runTakes, takeOp, effA, effOp, down, down1, hideB, keep]
    case hd => rfl
    case ha => simp [T3, T23, T24, T27, T30, T33, runTakes, takeOp, effA, effOp, down, down1, hideB, keep]; rfl
    case hargs => rfl
    case hs => exact FSC.quiet fun σs => seven_sc σs
    rintro _ _ ⟨rfl, rfl⟩
    with_reducible apply SH.one 3
    case hr => kernel_rfl
    with_reducible apply SHo.effX
    case hh => exact (Sub0.rfl).hid.mono (by simp)
    case he => simp [T3, T23, T24, T27, T30, T33, runTakes, takeOp, effA, effOp, down, down1, hideB, keep]; exact ⟨rfl, rfl, rfl⟩
    with_reducible apply SH.one 4
    case hr => kernel_rfl
    with_reducible apply SHo.effX
    case hh => exact (Sub0.rfl).hid.mono (by simp)
    case he => simp [T3, T23, T24, T27, T30, T33, runTakes, takeOp, effA, effOp, down, down1, hideB, keep]; exact ⟨rfl, rfl, rfl⟩
    refine SH.done (by kernel_rfl) ?_
    with_reducible refine W.next ?_
    with_reducible refine W.block ?_
    obtain ⟨xs, hxs⟩ : ∃ xs : List Ent, xs = [raw, e, e7] := ⟨_, rfl⟩
    have hxl : xs.length = 3 := by rw [hxs]; rfl
    have hxo : ∀ x ∈ xs, EntOK x := by
      intro x hx
      rw [hxs] at hx
      simp only [List.mem_cons, List.not_mem_nil, or_false] at hx
      rcases hx with rfl | rfl | rfl
      · exact hraw
      · exact he.ok (by omega)
      · exact e7_ok
    with_reducible refine W.loopF GEt_cl (α := Nat × Nat) (fun x => [(1, i64 value), (2, i64 nn), (9, .ptr (σ.bx.length + 1) 0), (11, .ptr (σ.bx.length + 3) 0), (12, i64 v), (58, .sl none (xs.map encE)), (59, i64 3), (60, i64 x.1)]) (fun x => ⟨σ.bx ++ [encE raw, srcB L' x.2, encT t, encE e], σ.tk⟩) (fun x => x.1 ≤ 3 ∧ x.2 ≤ L'.length) (fun x => 3 - x.1) (0, a3) ?_ ?_ ?_ ?_
    · exact ⟨Nat.zero_le _, ha3⟩
    · subst hxs
      repeat (first | exact Sw.Sub.nil | refine Sw.Sub.cons (by simp [e7]) ?_)
    · simp
    · rintro ⟨i, a⟩ ⟨hi, ha⟩
      dsimp only at hi ha ⊢
      by_cases hi3 : i < 3
      · have hil : i < xs.length := by omega
        have hi3' : (i : Int) < 3 := by omega
        have hwi : IntKind.i64.wrap ((i : Int) + 1) = (i : Int) + 1 := wrap64 (by omega)
        obtain ⟨x, hx⟩ : ∃ x, xs[i]? = some x := ⟨xs[i], List.getElem?_eq_getElem hil⟩
        have hxx : xs[i] = x := (List.getElem?_eq_some_iff.1 hx).2
        have hxi : EntOK x := hxo x (List.mem_of_getElem? hx)
        repeat' (first
          | with_reducible refine W.seq ?_
          | with_reducible refine W.next ?_
          | with_reducible refine W.nil ?_
          | with_reducible refine W.skip ?_
          | with_reducible refine W.ret ?_
          | with_reducible refine W.ret_code ?_
          | with_reducible refine W.block ?_
          | with_reducible refine W.out ?_
          | with_reducible refine W.ret_blk ?_
          | with_reducible refine W.exit ?_
          | with_reducible refine W.exit_code ?_
          | with_reducible refine W.exit_here ?_
          | with_reducible refine W.leave_exit ?_
          | with_reducible refine W.leave_ret ?_
          | ((with_reducible refine W.exit_on ?h ?_); (case h => decide))
          | ((with_reducible apply W.reg); (case h => simp [T3, T23, T24, T27, T30, T33, hi3', hil, hxx, hwu, hw0]; exact ⟨rfl, rfl, rfl⟩))
          | ((with_reducible apply W.draw mixed); (case hB => kernel_rfl); (case hr => simp [T3, T23, T24, T27, T30, T33, hi3', hil, hxx, hwu, hw0]; rfl))
          | ((with_reducible apply W.cond); (case hc => simp; rfl); all_goals (intro hc_; try (cases hc_; done)))
          | ((with_reducible apply W.runX); (case _hc => rfl); (case h => simp [T3, T23, T24, T27, T30, T33, hi3', hil, hxx, hwu, hw0]; exact ⟨rfl, rfl, rfl⟩))
          | fail)
        refine W.cutG (law3a_sw _ _ x hxi [value, v, IntKind.i64.wrap (e.least - 1), IntKind.i64.wrap (e.least + IntKind.i64.wrap (e.scale * IntKind.i64.wrap (IntKind.i64.wrap (2 ^ min e.width.toNat IntKind.i64.bits) - 1)))] (by simp [hv, hvi, wrap_i64]) rfl _ (σ.bx.length + 4) (σ.bx.length + 1) (σ.bx.length + 3) value nn v xs i (by simp) _ _) ?_ ?_
        · repeat (first | exact Sw.Sub.nil | refine Sw.Sub.cons (by simp) ?_)
        · rintro _ pf - hs
          with_reducible refine W.next ?_
          refine W.sub ?_ hs
          with_reducible refine W.seq ?_
          with_reducible apply W.heldB mixed (σ.bx.length + 1) 16 [0, 1, 3, 4, 5, 6, 7, 8, 9, 10, 11, 12, 15]
          case hn => rfl
          with_reducible apply SH.takes [0, 1, 3, 4, 5, 6, 7, 8, 9, 10, 11, 12, 15] 3
          case hfu => rfl
          case hs => kernel_rfl
          case hB => kernel_rfl
          case hQ => first | exact fun _ _ _ h => h | exact fun _ _ _ h => hNP _ _ _ h
          case hs0 => exact Sub0.hideB _ _
          case hr => simp [T3, T23, T24, T27, T30, T33, hwu, hw0, runTakes, takeOp, effA, effOp, down, down1, hideB, keep]; exact ⟨rfl, rfl⟩
          with_reducible apply SH.one 2
          case hr => kernel_rfl
          with_reducible apply SHo.callX go10
          case hi => rfl
          case ho => rfl
          case hc => rfl
          case hf => rfl
          case hg => first | rfl | simp [T3, T23, T24, T27, T30, T33, hwu, hw0, runTakes, takeOp, effA, effOp, down, down1, hideB, keep]
          case hd => rfl
          case ha => simp [T3, T23, T24, T27, T30, T33, hwu, hw0, runTakes, takeOp, effA, effOp, down, down1, hideB, keep]; rfl
          case hargs => rfl
          case hs => exact Nx_fsc (keep_hideB _ _) (by simp) (fun σs h => N_sc (σ.bx.length + 1) L' a _ σs h ha hL')
          rintro _ _ ⟨z, a4, hz, ha4, rfl, rfl⟩
          have hz := hz.2 (by omega) (by omega)
          with_reducible apply SH.one 13
          case hr => kernel_rfl
          with_reducible apply SHo.effX
          case hh => exact (Sub0.hideB _ _).hid.mono (by simp)
          case he => simp [T3, T23, T24, T27, T30, T33, hwu, hw0, runTakes, takeOp, effA, effOp, down, down1, hideB, keep]; exact ⟨rfl, rfl, rfl⟩
          with_reducible apply SH.one 14
          case hr => kernel_rfl
          with_reducible apply SHo.effX
          case hh => exact (Sub0.hideB _ _).hid.mono (by simp)
          case he => simp [T3, T23, T24, T27, T30, T33, hwu, hw0, runTakes, takeOp, effA, effOp, down, down1, hideB, keep]; exact ⟨rfl, rfl, rfl⟩
          refine SH.done (by kernel_rfl) ?_
          with_reducible refine W.next ?_
          with_reducible refine W.block ?_
          refine W.cutG (law3b_sw _ _ x hxi [nn, z, IntKind.i64.wrap (IntKind.i64.wrap (2 ^ min e.width.toNat IntKind.i64.bits) - 1), IntKind.i64.wrap (IntKind.i64.wrap (2 ^ min e.width.toNat IntKind.i64.bits) - 2)] (by simp [hn, wrap_i64]; exact ⟨by omega, by omega⟩) rfl _ (σ.bx.length + 4) (σ.bx.length + 1) (σ.bx.length + 3) value nn v xs i ?_ _ _) ?_ ?_
          · simp
          · repeat (first | exact Sw.Sub.nil | refine Sw.Sub.cons (by simp) ?_)
          · rintro _ pf - hs
            with_reducible refine W.out ?_
            (try with_reducible refine W.out ?_)
            with_reducible refine W.next ?_
            refine W.sub ?_ hs
            repeat' (first
              | with_reducible refine W.seq ?_
              | with_reducible refine W.next ?_
              | with_reducible refine W.nil ?_
              | with_reducible refine W.skip ?_
              | with_reducible refine W.ret ?_
              | with_reducible refine W.ret_code ?_
              | with_reducible refine W.block ?_
              | with_reducible refine W.out ?_
              | with_reducible refine W.ret_blk ?_
              | with_reducible refine W.exit ?_
              | with_reducible refine W.exit_code ?_
              | with_reducible refine W.exit_here ?_
              | with_reducible refine W.leave_exit ?_
              | with_reducible refine W.leave_ret ?_
              | ((with_reducible refine W.exit_on ?h ?_); (case h => decide))
              | ((with_reducible apply W.reg); (case h => simp [T3, T23, T24, T27, T30, T33, hwi]; exact ⟨rfl, rfl, rfl⟩))
              | ((with_reducible apply W.draw mixed); (case hB => kernel_rfl); (case hr => simp [T3, T23, T24, T27, T30, T33, hwi]; rfl))
              | ((with_reducible apply W.cond); (case hc => simp; rfl); all_goals (intro hc_; try (cases hc_; done)))
              | ((with_reducible apply W.runX); (case _hc => rfl); (case h => simp [T3, T23, T24, T27, T30, T33, hwi]; exact ⟨rfl, rfl, rfl⟩))
              | fail)
            refine W.handF (i + 1, a4) (σ.bx.length + 4) σ.tk.length ⟨hi3, ha4⟩ ?_ ?_ (by simp) (by simp) (ClPF.get ?_) ?_ ?_
            · dsimp only; omega
            · repeat (first | exact Sw.Sub.nil | refine Sw.Sub.cons (by simp) ?_)
            · simp [ClPF]
            · refine clB_ext (ex := [encE raw, srcB L' a4, encT t, encE e]) (r := [encE x]) hσ.clB rfl ?_
              intro ps hps
              simp only [List.mem_cons, List.not_mem_nil, or_false] at hps
              rcases hps with rfl | rfl | rfl | rfl
              · exact cl_encE _ _ _
              · exact cl_srcB _ _ _ _
              · exact encT_cl _ _ _
              · exact cl_encE _ _ _
            · have := take_ext σ.bx [encE raw, srcB L' a4, encT t, encE e] [encE x]
              simp only [List.take_length]
              exact congrArg (fun b => AS.mk b σ.tk) this.symm
      · have hi3' : ¬ (i : Int) < 3 := by omega
        repeat' (first
          | with_reducible refine W.seq ?_
          | with_reducible refine W.next ?_
          | with_reducible refine W.nil ?_
          | with_reducible refine W.skip ?_
          | with_reducible refine W.ret ?_
          | with_reducible refine W.ret_code ?_
          | with_reducible refine W.block ?_
          | with_reducible refine W.out ?_
          | with_reducible refine W.ret_blk ?_
          | with_reducible refine W.exit ?_
          | with_reducible refine W.exit_code ?_
          | with_reducible refine W.exit_here ?_
          | with_reducible refine W.leave_exit ?_
          | with_reducible refine W.leave_ret ?_
          | ((with_reducible refine W.exit_on ?h ?_); (case h => decide))
          | ((with_reducible apply W.reg); (case h => simp [T3, T23, T24, T27, T30, T33, hi3']; exact ⟨rfl, rfl, rfl⟩))
          | ((with_reducible apply W.draw mixed); (case hB => kernel_rfl); (case hr => simp [T3, T23, T24, T27, T30, T33, hi3']; rfl))
          | ((with_reducible apply W.cond); (case hc => simp; rfl); all_goals (intro hc_; try (cases hc_; done)))
          | ((with_reducible apply W.runX); (case _hc => rfl); (case h => simp [T3, T23, T24, T27, T30, T33, hi3']; exact ⟨rfl, rfl, rfl⟩))
          | ((with_reducible apply W.call1 go16); (case ho => rfl); (case hc => rfl); (case hf => rfl); (case hg => first | rfl | simp [T3, T23, T24, T27, T30, T33, hi3']); (case hd => rfl); (case ha => simp [T3, T23, T24, T27, T30, T33, hi3']; rfl); (case hargs => rfl); (case hs => exact awake_sc _))
          | fail)
        with_reducible apply W.fin
        case h1 => simp <;> rfl
        case h2 => exact Wk.rfl
        case h3 => simp
        case h4 => exact hσ.clB.app (Nat.le_refl _)
        exact ⟨rfl, by simp⟩


end Go.Proofs.YtgabnlkkjmepnaaDoor

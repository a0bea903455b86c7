/- The law TableExpands: it returns true. -/
import Derived.Test.YtgabnlkkjmepnaaDoorS22
import Derived.Test.YtgabnlkkjmepnaaDoorS24
import Derived.Test.YtgabnlkkjmepnaaDoorS25
import Derived.Test.YtgabnlkkjmepnaaDoorS26
import Derived.Test.YtgabnlkkjmepnaaDoorS18
import Derived.IntWalk
namespace Go.Proofs.YtgabnlkkjmepnaaDoor
open Go.Sw
set_option linter.unusedSimpArgs false
set_option linter.unusedVariables false
attribute [local simp] runOps stepOp pureOp gd isCall inN setd Sw.get params ev evs binV unV convV loadA cellsPV oneB storeA fieldAddrA fieldOff fieldA partA aggOf extractA indexAddrA indexA lenA minmaxA sliceA bnd partsA buildA placesA fillA buildSliceA zerosA chunkA TyD.agg Value.oneCell' Value.cells runPure appA appendA okRow_nil okRow_cons okRow_append resultA ressA resA List.getElem?_append List.set_append Cl_any Cl_val Cl_ptr Cl_agg Cl_tup Cl_fn Cl_rop Cl_sl Sw.take_set Sw.take_set_app Sw.take_app

attribute [local simp] encI encE encS encT okRow_encE okRow_encS okRow_encI
/-- What is asked of the table that comes in: numbers of 64 bits, lengths that memory holds. -/
structure RawOK (t : Tab) : Prop where
  version : I64 t.version
  entries : ∀ e ∈ t.entries, EntOK e
  code : ∀ q ∈ t.seqs, I64 q.code
  codes : ∀ q ∈ t.seqs, ∀ c ∈ q.codes, I64 c
  elen : t.entries.length ≤ 9007199254740992
  slen : t.seqs.length ≤ 9007199254740992
  clen : ∀ q ∈ t.seqs, q.codes.length ≤ 9007199254740992
theorem le_sum {l : List Nat} {x : Nat} (h : x ∈ l) : x ≤ l.sum := by
  induction l with
  | nil => cases h
  | cons y l ih =>
    rw [List.sum_cons]
    rcases List.mem_cons.1 h with rfl | h
    · omega
    · have := ih h; omega
theorem RawOK.small {t : Tab} (h : RawOK t) (hs : sumT t ≤ 300) : TabOK t := by
  unfold sumT at hs
  refine ⟨h.version, h.entries, fun q hq => ⟨h.code q hq, h.codes q hq, ?_⟩, by omega, by omega⟩
  have := le_sum (List.mem_map_of_mem (f := fun q : Sq => q.codes.length) hq)
  omega
def encC (c : List Int) : List PV := [.sl none (c.map encI)]
attribute [local simp] encC
theorem drawn_i64 {c : Int} (h : drawn c) : I64 c := ⟨by have := h.1; omega, by have := h.2.1; omega⟩

set_option maxHeartbeats 2000000 in
theorem TableExpands_sc (raw : Tab) (given L : List Int) (version : Int) (hraw : RawOK raw) (hg : ∀ c ∈ given, I64 c) (σ : AS) : SC Cc 7 [.agg (encT raw), .sl none (given.map encI), .sl none (L.map encI), i64 version] σ (fun r σ' => r = bV true ∧ σ' = σ) := by
  refine W.body Tryd.func7 rfl 131 Tryd.ntmps7 _ Tryd.results7 (by simp) GEt_cl fun hσ => ?_
  by_cases h60 : (60 : Int) < (given.length : Int)
  · skip
    repeat' (first
      | with_reducible refine W.seq ?_
      | with_reducible refine W.next ?_
      | with_reducible refine W.nil ?_
      | with_reducible refine W.skip ?_
      | with_reducible refine W.ret ?_
      | with_reducible refine W.ret_code ?_
      | with_reducible refine W.block ?_
      | with_reducible refine W.out ?_
      | with_reducible refine W.ret_blk ?_
      | with_reducible refine W.exit ?_
      | with_reducible refine W.exit_code ?_
      | with_reducible refine W.exit_here ?_
      | with_reducible refine W.leave_exit ?_
      | with_reducible refine W.leave_ret ?_
      | ((with_reducible refine W.exit_on ?h ?_); (case h => decide))
      | ((with_reducible apply W.reg); (case h => simp [T3, T4, T23, T24, T27, T28, T30, T35, T49, T53, T54, h60]; exact ⟨rfl, rfl, rfl⟩))
      | ((with_reducible apply W.draw mixed); (case hB => kernel_rfl); (case hr => simp [T3, T4, T23, T24, T27, T28, T30, T35, T49, T53, T54, h60]; rfl))
      | ((with_reducible apply W.cond); (case hc => simp; rfl); all_goals (intro hc_; try (cases hc_; done)))
      | ((with_reducible apply W.runX); (case _hc => rfl); (case h => simp [T3, T4, T23, T24, T27, T28, T30, T35, T49, T53, T54, h60]; exact ⟨rfl, rfl, rfl⟩))
      | ((with_reducible apply W.callR go23); (case ho => rfl); (case hc => rfl); (case hf => rfl); (case hg => first | rfl | simp [T3, T4, T23, T24, T27, T28, T30, T35, T49, T53, T54, h60]); (case hd => rfl); (case ha => simp [T3, T4, T23, T24, T27, T28, T30, T35, T49, T53, T54, h60]; rfl); (case hargs => rfl); (case hs => exact SmallTable_sc raw _ hraw.elen hraw.slen hraw.clen); rintro _ _ ⟨bb, rfl, rfl, hbb⟩; cases bb)
      | ((with_reducible apply W.call1 go16); (case ho => rfl); (case hc => rfl); (case hf => rfl); (case hg => first | rfl | simp [T3, T4, T23, T24, T27, T28, T30, T35, T49, T53, T54, h60]); (case hd => rfl); (case ha => simp [T3, T4, T23, T24, T27, T28, T30, T35, T49, T53, T54, h60]; rfl); (case hargs => rfl); (case hs => exact awake_sc _))
      | fail)
    · with_reducible apply W.fin
      case h1 => simp <;> rfl
      case h2 => exact Wk.rfl
      case h3 => simp
      case h4 => exact hσ.clB.app (Nat.le_refl _)
      exact ⟨rfl, by simp⟩
    · with_reducible apply W.fin
      case h1 => simp <;> rfl
      case h2 => exact Wk.rfl
      case h3 => simp
      case h4 => exact hσ.clB.app (Nat.le_refl _)
      exact ⟨rfl, by simp⟩
  repeat' (first
    | with_reducible refine W.seq ?_
    | with_reducible refine W.next ?_
    | with_reducible refine W.nil ?_
    | with_reducible refine W.skip ?_
    | with_reducible refine W.ret ?_
    | with_reducible refine W.ret_code ?_
    | with_reducible refine W.block ?_
    | with_reducible refine W.out ?_
    | with_reducible refine W.ret_blk ?_
    | with_reducible refine W.exit ?_
    | with_reducible refine W.exit_code ?_
    | with_reducible refine W.exit_here ?_
    | with_reducible refine W.leave_exit ?_
    | with_reducible refine W.leave_ret ?_
    | ((with_reducible refine W.exit_on ?h ?_); (case h => decide))
    | ((with_reducible apply W.reg); (case h => simp [T3, T4, T23, T24, T27, T28, T30, T35, T49, T53, T54, h60]; exact ⟨rfl, rfl, rfl⟩))
    | ((with_reducible apply W.draw mixed); (case hB => kernel_rfl); (case hr => simp [T3, T4, T23, T24, T27, T28, T30, T35, T49, T53, T54, h60]; rfl))
    | ((with_reducible apply W.cond); (case hc => simp; rfl); all_goals (intro hc_; try (cases hc_; done)))
    | ((with_reducible apply W.runX); (case _hc => rfl); (case h => simp [T3, T4, T23, T24, T27, T28, T30, T35, T49, T53, T54, h60]; exact ⟨rfl, rfl, rfl⟩))
    | ((with_reducible apply W.callR go23); (case ho => rfl); (case hc => rfl); (case hf => rfl); (case hg => first | rfl | simp [T3, T4, T23, T24, T27, T28, T30, T35, T49, T53, T54, h60]); (case hd => rfl); (case ha => simp [T3, T4, T23, T24, T27, T28, T30, T35, T49, T53, T54, h60]; rfl); (case hargs => rfl); (case hs => exact SmallTable_sc raw _ hraw.elen hraw.slen hraw.clen); rintro _ _ ⟨bb, rfl, rfl, hbb⟩; cases bb)
    | ((with_reducible apply W.call1 go16); (case ho => rfl); (case hc => rfl); (case hf => rfl); (case hg => first | rfl | simp [T3, T4, T23, T24, T27, T28, T30, T35, T49, T53, T54, h60]); (case hd => rfl); (case ha => simp [T3, T4, T23, T24, T27, T28, T30, T35, T49, T53, T54, h60]; rfl); (case hargs => rfl); (case hs => exact awake_sc _))
    | ((with_reducible apply W.callR go8); (case ho => rfl); (case hc => rfl); (case hf => rfl); (case hg => first | rfl | simp [T3, T4, T23, T24, T27, T28, T30, T35, T49, T53, T54, h60]); (case hd => rfl); (case ha => simp [T3, T4, T23, T24, T27, T28, T30, T35, T49, T53, T54, h60]; rfl); (case hargs => rfl); (case hs => exact New_sc L _); rintro _ _ ⟨L', hL', rfl, rfl⟩)
    | ((with_reducible apply W.callR go20); (case ho => rfl); (case hc => rfl); (case hf => rfl); (case hg => first | rfl | simp [T3, T4, T23, T24, T27, T28, T30, T35, T49, T53, T54, h60]); (case hd => rfl); (case ha => simp [T3, T4, T23, T24, T27, T28, T30, T35, T49, T53, T54, h60]; rfl); (case hargs => rfl); (case hs => exact Range_sc (σ.bx.length + 1) L' 0 1 3 _ (by simp) (Nat.zero_le _) hL' (by decide) (by decide) (by decide)); rintro _ _ ⟨v, a1, hv, ha1, rfl, rfl⟩)
    | ((with_reducible apply W.callR go9); (case ho => rfl); (case hc => rfl); (case hf => rfl); (case hg => first | rfl | simp [T3, T4, T23, T24, T27, T28, T30, T35, T49, T53, T54, h60]); (case hd => rfl); (case ha => simp [T3, T4, T23, T24, T27, T28, T30, T35, T49, T53, T54, h60]; rfl); (case hargs => rfl); (case hs => exact Table_sc (σ.bx.length + 1) L' a1 v _ (by simp) ha1 hL'); rintro _ _ ⟨t, a2, ht, ha2, rfl, rfl⟩; have hto := ht.ok (v := v) ⟨by omega, by omega⟩; have hte := ht.elen; have hts := ht.slen)
    | ((with_reducible apply W.callR go24); (case ho => rfl); (case hc => rfl); (case hf => rfl); (case hg => first | rfl | simp [T3, T4, T23, T24, T27, T28, T30, T35, T49, T53, T54, h60]); (case hd => rfl); (case ha => simp [T3, T4, T23, T24, T27, T28, T30, T35, T49, T53, T54, h60]; rfl); (case hargs => rfl); (case hs => exact bent_sc (σ.bx.length + 1) L' a2 t _ (by simp) ha2 hL' hto hte hts); rintro _ _ ⟨u, a3, hu, ha3, rfl, rfl⟩)
    | fail)
  · with_reducible apply W.fin
    case h1 => simp <;> rfl
    case h2 => exact Wk.rfl
    case h3 => simp
    case h4 => exact hσ.clB.app (Nat.le_refl _)
    exact ⟨rfl, by simp⟩
  have hro := hraw.small (hbb rfl)
  obtain ⟨tabs, hts2⟩ : ∃ tabs : List Tab, tabs = [raw, t, u] := ⟨_, rfl⟩
  have hxl : tabs.length = 3 := by rw [hts2]; rfl
  have hxo : ∀ x ∈ tabs, TabOK x := by
    intro x hx
    rw [hts2] at hx
    simp only [List.mem_cons, List.not_mem_nil, or_false] at hx
    rcases hx with rfl | rfl | rfl
    · exact hro
    · exact hto
    · exact hu
  have hclx : ∀ (a : Nat) (r : List (List PV)), ClB (σ.bx.length + 4) σ.tk.length (σ.bx ++ ([encT raw, srcB L' a, encT t, encT u] ++ r)) := fun a r => by
    refine clB_ext (ex := [encT raw, srcB L' a, encT t, encT u]) (r := r) hσ.clB rfl ?_
    intro ps hps
    simp only [List.mem_cons, List.not_mem_nil, or_false] at hps
    rcases hps with rfl | rfl | rfl | rfl
    · exact encT_cl _ _ _
    · exact cl_srcB _ _ _ _
    · exact encT_cl _ _ _
    · exact encT_cl _ _ _
  have htkx : ∀ (a : Nat) (r : List (List PV)), (σ.bx ++ ([encT raw, srcB L' a, encT t, encT u] ++ r)).take (σ.bx.length + 4) = σ.bx ++ [encT raw, srcB L' a, encT t, encT u] := fun a r => take_ext σ.bx [encT raw, srcB L' a, encT t, encT u] r
  simp only [encT, List.cons_append, List.nil_append] at hclx htkx
  with_reducible refine W.loopF GEt_cl (α := Nat × Nat) (fun x => [(1, .sl none (given.map encI)), (3, i64 version), (4, .ptr σ.bx.length 0), (8, bV false), (9, .ptr (σ.bx.length + 1) 0), (10, .ptr (σ.bx.length + 2) 0), (11, .ptr (σ.bx.length + 3) 0), (47, .sl none (tabs.map encT)), (48, i64 3), (49, i64 x.1)]) (fun x => ⟨σ.bx ++ [encT raw, srcB L' x.2, encT t, encT u], σ.tk⟩) (fun x => x.1 ≤ 3 ∧ x.2 ≤ L'.length) (fun x => 3 - x.1) (0, a3) ?_ ?_ ?_ ?_
  · exact ⟨Nat.zero_le _, ha3⟩
  · subst hts2
    repeat (first | exact Sw.Sub.nil | refine Sw.Sub.cons (by simp) ?_)
  · first | rfl | simp
  · rintro ⟨i, a⟩ ⟨hi, ha⟩
    dsimp only at hi ha ⊢
    by_cases hi3 : i < 3
    · have hil : i < tabs.length := by omega
      have hi3' : (i : Int) < 3 := by omega
      have hwi : IntKind.i64.wrap ((i : Int) + 1) = (i : Int) + 1 := wrap64 (by omega)
      obtain ⟨x, hx⟩ : ∃ x, tabs[i]? = some x := ⟨tabs[i], List.getElem?_eq_getElem hil⟩
      have hxx : tabs[i] = x := (List.getElem?_eq_some_iff.1 hx).2
      have hxi : TabOK x := hxo x (List.mem_of_getElem? hx)
      repeat' (first
        | with_reducible refine W.seq ?_
        | with_reducible refine W.next ?_
        | with_reducible refine W.nil ?_
        | with_reducible refine W.skip ?_
        | with_reducible refine W.ret ?_
        | with_reducible refine W.ret_code ?_
        | with_reducible refine W.block ?_
        | with_reducible refine W.out ?_
        | with_reducible refine W.ret_blk ?_
        | with_reducible refine W.exit ?_
        | with_reducible refine W.exit_code ?_
        | with_reducible refine W.exit_here ?_
        | with_reducible refine W.leave_exit ?_
        | with_reducible refine W.leave_ret ?_
        | ((with_reducible refine W.exit_on ?h ?_); (case h => decide))
        | ((with_reducible apply W.reg); (case h => simp [T3, T4, T23, T24, T27, T28, T30, T35, T49, T53, T54, hi3', hil, hxx]; exact ⟨rfl, rfl, rfl⟩))
        | ((with_reducible apply W.draw mixed); (case hB => kernel_rfl); (case hr => simp [T3, T4, T23, T24, T27, T28, T30, T35, T49, T53, T54, hi3', hil, hxx]; rfl))
        | ((with_reducible apply W.cond); (case hc => simp; rfl); all_goals (intro hc_; try (cases hc_; done)))
        | ((with_reducible apply W.runX); (case _hc => rfl); (case h => simp [T3, T4, T23, T24, T27, T28, T30, T35, T49, T53, T54, hi3', hil, hxx]; exact ⟨rfl, rfl, rfl⟩))
        | ((with_reducible apply W.callR go17); (case ho => rfl); (case hc => rfl); (case hf => rfl); (case hg => first | rfl | simp [T3, T4, T23, T24, T27, T28, T30, T35, T49, T53, T54, hi3', hil, hxx]); (case hd => rfl); (case ha => simp [T3, T4, T23, T24, T27, T28, T30, T35, T49, T53, T54, hi3', hil, hxx]; rfl); (case hargs => rfl); (case hs => exact codes_sc (σ.bx.length + 1) L' a 8 _ (by simp) ha hL' (by omega)); rintro _ _ ⟨xs, a5, hxsl, hxsd, ha5, rfl, rfl⟩)
        | fail)
      repeat' (first
        | with_reducible refine W.seq ?_
        | with_reducible refine W.next ?_
        | with_reducible refine W.nil ?_
        | with_reducible refine W.skip ?_
        | with_reducible refine W.ret ?_
        | with_reducible refine W.ret_code ?_
        | with_reducible refine W.block ?_
        | with_reducible refine W.out ?_
        | with_reducible refine W.ret_blk ?_
        | with_reducible refine W.exit ?_
        | with_reducible refine W.exit_code ?_
        | with_reducible refine W.exit_here ?_
        | with_reducible refine W.leave_exit ?_
        | with_reducible refine W.leave_ret ?_
        | ((with_reducible refine W.exit_on ?h ?_); (case h => decide))
        | ((with_reducible apply W.reg); (case h => simp [T3, T4, T23, T24, T27, T28, T30, T35, T49, T53, T54, hi3', hil, hxx]; exact ⟨rfl, rfl, rfl⟩))
        | ((with_reducible apply W.draw mixed); (case hB => kernel_rfl); (case hr => simp [T3, T4, T23, T24, T27, T28, T30, T35, T49, T53, T54, hi3', hil, hxx]; rfl))
        | ((with_reducible apply W.cond); (case hc => simp; rfl); all_goals (intro hc_; try (cases hc_; done)))
        | ((with_reducible apply W.runX); (case _hc => rfl); (case h => simp [T3, T4, T23, T24, T27, T28, T30, T35, T49, T53, T54, hi3', hil, hxx]; exact ⟨rfl, rfl, rfl⟩))
        | ((with_reducible apply W.callR go17); (case ho => rfl); (case hc => rfl); (case hf => rfl); (case hg => first | rfl | simp [T3, T4, T23, T24, T27, T28, T30, T35, T49, T53, T54, hi3', hil, hxx]); (case hd => rfl); (case ha => simp [T3, T4, T23, T24, T27, T28, T30, T35, T49, T53, T54, hi3', hil, hxx]; rfl); (case hargs => rfl); (case hs => exact codes_sc (σ.bx.length + 1) L' a5 4 _ (by simp) ha5 hL' (by omega)); rintro _ _ ⟨ys, a6, hysl, hysd, ha6, rfl, rfl⟩)
        | fail)
      obtain ⟨cls, hcls⟩ : ∃ cls : List (List Int), cls = [given, xs, ys, [15000]] := ⟨_, rfl⟩
      have hcl4 : cls.length = 4 := by rw [hcls]; rfl
      have hco : ∀ c ∈ cls, (∀ z ∈ c, I64 z) ∧ c.length ≤ 1000000 := by
        intro c hc
        rw [hcls] at hc
        simp only [List.mem_cons, List.not_mem_nil, or_false] at hc
        rcases hc with rfl | rfl | rfl | rfl
        · exact ⟨hg, by omega⟩
        · exact ⟨fun z hz => drawn_i64 (hxsd z hz), by omega⟩
        · exact ⟨fun z hz => drawn_i64 (hysd z hz), by omega⟩
        · exact ⟨by simp [I64], by simp⟩
      with_reducible refine W.loopS (α := Nat) (fun j => [(1, .sl none (given.map encI)), (3, i64 version), (4, .ptr σ.bx.length 0), (8, bV false), (9, .ptr (σ.bx.length + 1) 0), (10, .ptr (σ.bx.length + 2) 0), (11, .ptr (σ.bx.length + 3) 0), (13, .ptr (σ.bx.length + 4) 0), (47, .sl none (tabs.map encT)), (48, i64 3), (49, i64 i), (59, .sl none (cls.map encC)), (60, i64 4), (61, i64 j)]) (fun _ => ⟨σ.bx ++ [encT raw, srcB L' a6, encT t, encT u, encT x], σ.tk⟩) (fun j => j ≤ 4) (fun j => 4 - j) 0 ?_ ?_ ?_ ?_
      · exact Nat.zero_le _
      · subst hcls
        repeat (first | exact Sw.Sub.nil | refine Sw.Sub.cons (by simp) ?_)
      · first | rfl | simp
      · intro j hj
        (try dsimp only)
        by_cases hj4 : j < 4
        · have hjl : j < cls.length := by omega
          have hj4' : (j : Int) < 4 := by omega
          have hwj : IntKind.i64.wrap ((j : Int) + 1) = (j : Int) + 1 := wrap64 (by omega)
          obtain ⟨c, hc⟩ : ∃ c, cls[j]? = some c := ⟨cls[j], List.getElem?_eq_getElem hjl⟩
          have hcc : cls[j] = c := (List.getElem?_eq_some_iff.1 hc).2
          obtain ⟨hci, hcl⟩ := hco c (List.mem_of_getElem? hc)
          have hlen : (expandF x c).2.length ≤ 1000000 := Nat.le_trans (expand_len _ _) (by decide)
          have hex := fun σ' => Expand_sc x c σ' hxi hci hcl
          have hrx := fun σ' => refExpand_sc x c σ' hxi hci hcl
          generalize expandF x c = r at *
          obtain ⟨e, es⟩ := r
          dsimp only at hex hrx hlen
          have hse : ∀ σ', SC1 Cc 19 [.sl none (es.map encE), .sl none (es.map encE)] σ' (bV true) σ' := fun σ' => by
            have := SameEntries_sc es es σ' hlen hlen
            simpa using this
          repeat' (first
            | with_reducible refine W.seq ?_
            | with_reducible refine W.next ?_
            | with_reducible refine W.nil ?_
            | with_reducible refine W.skip ?_
            | with_reducible refine W.ret ?_
            | with_reducible refine W.ret_code ?_
            | with_reducible refine W.block ?_
            | with_reducible refine W.out ?_
            | with_reducible refine W.ret_blk ?_
            | with_reducible refine W.exit ?_
            | with_reducible refine W.exit_code ?_
            | with_reducible refine W.exit_here ?_
            | with_reducible refine W.leave_exit ?_
            | with_reducible refine W.leave_ret ?_
            | ((with_reducible refine W.exit_on ?h ?_); (case h => decide))
            | ((with_reducible apply W.reg); (case h => simp [T3, T4, T23, T24, T27, T28, T30, T35, T49, T53, T54, hj4', hjl, hcc, hwj]; exact ⟨rfl, rfl, rfl⟩))
            | ((with_reducible apply W.draw mixed); (case hB => kernel_rfl); (case hr => simp [T3, T4, T23, T24, T27, T28, T30, T35, T49, T53, T54, hj4', hjl, hcc, hwj]; rfl))
            | ((with_reducible apply W.cond); (case hc => simp; rfl); all_goals (intro hc_; try (cases hc_; done)))
            | ((with_reducible apply W.runX); (case _hc => rfl); (case h => simp [T3, T4, T23, T24, T27, T28, T30, T35, T49, T53, T54, hj4', hjl, hcc, hwj]; exact ⟨rfl, rfl, rfl⟩))
            | ((with_reducible apply W.call1 go18); (case ho => rfl); (case hc => rfl); (case hf => rfl); (case hg => first | rfl | simp [T3, T4, T23, T24, T27, T28, T30, T35, T49, T53, T54, hj4', hjl, hcc, hwj]); (case hd => rfl); (case ha => simp [T3, T4, T23, T24, T27, T28, T30, T35, T49, T53, T54, hj4', hjl, hcc, hwj]; rfl); (case hargs => rfl); (case hs => exact hex _))
            | ((with_reducible apply W.call1 go21); (case ho => rfl); (case hc => rfl); (case hf => rfl); (case hg => first | rfl | simp [T3, T4, T23, T24, T27, T28, T30, T35, T49, T53, T54, hj4', hjl, hcc, hwj]); (case hd => rfl); (case ha => simp [T3, T4, T23, T24, T27, T28, T30, T35, T49, T53, T54, hj4', hjl, hcc, hwj]; rfl); (case hargs => rfl); (case hs => exact hrx _))
            | ((with_reducible apply W.call1 go19); (case ho => rfl); (case hc => rfl); (case hf => rfl); (case hg => first | rfl | simp [T3, T4, T23, T24, T27, T28, T30, T35, T49, T53, T54, hj4', hjl, hcc, hwj]); (case hd => rfl); (case ha => simp [T3, T4, T23, T24, T27, T28, T30, T35, T49, T53, T54, hj4', hjl, hcc, hwj]; rfl); (case hargs => rfl); (case hs => exact hse _))
            | fail)
          refine W.hand (j + 1) (by omega) (by omega) ?_ ?_
          · repeat (first | exact Sw.Sub.nil | refine Sw.Sub.cons (by simp) ?_)
          · first | rfl | simp
        · have hj4' : ¬ (j : Int) < 4 := by omega
          have hval := fun σ' => Validate_sc x σ' hxi
          have hrv := fun σ' => refValidate_sc x σ' hxi
          generalize validateF x = vv at *
          repeat' (first
            | with_reducible refine W.seq ?_
            | with_reducible refine W.next ?_
            | with_reducible refine W.nil ?_
            | with_reducible refine W.skip ?_
            | with_reducible refine W.ret ?_
            | with_reducible refine W.ret_code ?_
            | with_reducible refine W.block ?_
            | with_reducible refine W.out ?_
            | with_reducible refine W.ret_blk ?_
            | with_reducible refine W.exit ?_
            | with_reducible refine W.exit_code ?_
            | with_reducible refine W.exit_here ?_
            | with_reducible refine W.leave_exit ?_
            | with_reducible refine W.leave_ret ?_
            | ((with_reducible refine W.exit_on ?h ?_); (case h => decide))
            | ((with_reducible apply W.reg); (case h => simp [T3, T4, T23, T24, T27, T28, T30, T35, T49, T53, T54, hj4']; exact ⟨rfl, rfl, rfl⟩))
            | ((with_reducible apply W.draw mixed); (case hB => kernel_rfl); (case hr => simp [T3, T4, T23, T24, T27, T28, T30, T35, T49, T53, T54, hj4']; rfl))
            | ((with_reducible apply W.cond); (case hc => simp; rfl); all_goals (intro hc_; try (cases hc_; done)))
            | ((with_reducible apply W.runX); (case _hc => rfl); (case h => simp [T3, T4, T23, T24, T27, T28, T30, T35, T49, T53, T54, hj4']; exact ⟨rfl, rfl, rfl⟩))
            | fail)
          with_reducible apply W.held0 mixed 5 [0, 2]
          case hn => rfl
          with_reducible apply SH.takes [0, 2] 3
          case hfu => rfl
          case hs => kernel_rfl
          case hB => kernel_rfl
          case hQ => first | exact fun _ _ _ h => h | exact fun _ _ _ h => hNP _ _ _ h
          case hs0 => exact Sub0.rfl
          case hr => simp [T3, T4, T23, T24, T27, T28, T30, T35, T49, T53, T54, runTakes, takeOp, effA, effOp, down, down1, hideB, keep]; exact ⟨rfl, rfl⟩
          with_reducible apply SH.one 1
          case hr => kernel_rfl
          with_reducible apply SHo.callX go25
          case hi => rfl
          case ho => rfl
          case hc => rfl
          case hf => rfl
          case hg => first | rfl | simp [T3, T4, T23, T24, T27, T28, T30, T35, T49, T53, T54, runTakes, takeOp, effA, effOp, down, down1, hideB, keep]
          case hd => rfl
          case ha => simp [T3, T4, T23, T24, T27, T28, T30, T35, T49, T53, T54, runTakes, takeOp, effA, effOp, down, down1, hideB, keep]; rfl
          case hargs => rfl
          case hs => exact FSC.quiet fun σs => hval σs
          rintro _ _ ⟨rfl, rfl⟩
          with_reducible apply SH.one 3
          case hr => kernel_rfl
          with_reducible apply SHo.callX go22
          case hi => rfl
          case ho => rfl
          case hc => rfl
          case hf => rfl
          case hg => first | rfl | simp [T3, T4, T23, T24, T27, T28, T30, T35, T49, T53, T54, runTakes, takeOp, effA, effOp, down, down1, hideB, keep]
          case hd => rfl
          case ha => simp [T3, T4, T23, T24, T27, T28, T30, T35, T49, T53, T54, runTakes, takeOp, effA, effOp, down, down1, hideB, keep]; rfl
          case hargs => rfl
          case hs => exact FSC.quiet fun σs => hrv σs
          rintro _ _ ⟨rfl, rfl⟩
          with_reducible apply SH.one 4
          case hr => kernel_rfl
          with_reducible apply SHo.lastX
          case hnd => kernel_rfl
          case he => simp [T3, T4, T23, T24, T27, T28, T30, T35, T49, T53, T54, runTakes, takeOp, effA, effOp, down, down1, hideB, keep, lastA]; exact ⟨rfl, rfl, rfl⟩
          refine SH.done (by kernel_rfl) ?_
          repeat' (first
            | with_reducible refine W.seq ?_
            | with_reducible refine W.next ?_
            | with_reducible refine W.nil ?_
            | with_reducible refine W.skip ?_
            | with_reducible refine W.ret ?_
            | with_reducible refine W.ret_code ?_
            | with_reducible refine W.block ?_
            | with_reducible refine W.out ?_
            | with_reducible refine W.ret_blk ?_
            | with_reducible refine W.exit ?_
            | with_reducible refine W.exit_code ?_
            | with_reducible refine W.exit_here ?_
            | with_reducible refine W.leave_exit ?_
            | with_reducible refine W.leave_ret ?_
            | ((with_reducible refine W.exit_on ?h ?_); (case h => decide))
            | ((with_reducible apply W.reg); (case h => simp [T3, T4, T23, T24, T27, T28, T30, T35, T49, T53, T54, hwi]; exact ⟨rfl, rfl, rfl⟩))
            | ((with_reducible apply W.draw mixed); (case hB => kernel_rfl); (case hr => simp [T3, T4, T23, T24, T27, T28, T30, T35, T49, T53, T54, hwi]; rfl))
            | ((with_reducible apply W.cond); (case hc => simp; rfl); all_goals (intro hc_; try (cases hc_; done)))
            | ((with_reducible apply W.runX); (case _hc => rfl); (case h => simp [T3, T4, T23, T24, T27, T28, T30, T35, T49, T53, T54, hwi]; exact ⟨rfl, rfl, rfl⟩))
            | fail)
          refine W.handF (i + 1, a6) (σ.bx.length + 4) σ.tk.length ⟨hi3, ha6⟩ ?_ ?_ (by simp) (by simp) (ClPF.get ?_) ?_ ?_
          · dsimp only; omega
          · repeat (first | exact Sw.Sub.nil | refine Sw.Sub.cons (by simp) ?_)
          · simp [ClPF]
          · exact hclx a6 _
          · have := htkx a6
            simp [this]
    · have hi3' : ¬ (i : Int) < 3 := by omega
      repeat' (first
        | with_reducible refine W.seq ?_
        | with_reducible refine W.next ?_
        | with_reducible refine W.nil ?_
        | with_reducible refine W.skip ?_
        | with_reducible refine W.ret ?_
        | with_reducible refine W.ret_code ?_
        | with_reducible refine W.block ?_
        | with_reducible refine W.out ?_
        | with_reducible refine W.ret_blk ?_
        | with_reducible refine W.exit ?_
        | with_reducible refine W.exit_code ?_
        | with_reducible refine W.exit_here ?_
        | with_reducible refine W.leave_exit ?_
        | with_reducible refine W.leave_ret ?_
        | ((with_reducible refine W.exit_on ?h ?_); (case h => decide))
        | ((with_reducible apply W.reg); (case h => simp [T3, T4, T23, T24, T27, T28, T30, T35, T49, T53, T54, hi3']; exact ⟨rfl, rfl, rfl⟩))
        | ((with_reducible apply W.draw mixed); (case hB => kernel_rfl); (case hr => simp [T3, T4, T23, T24, T27, T28, T30, T35, T49, T53, T54, hi3']; rfl))
        | ((with_reducible apply W.cond); (case hc => simp; rfl); all_goals (intro hc_; try (cases hc_; done)))
        | ((with_reducible apply W.runX); (case _hc => rfl); (case h => simp [T3, T4, T23, T24, T27, T28, T30, T35, T49, T53, T54, hi3']; exact ⟨rfl, rfl, rfl⟩))
        | ((with_reducible apply W.callR go20); (case ho => rfl); (case hc => rfl); (case hf => rfl); (case hg => first | rfl | simp [T3, T4, T23, T24, T27, T28, T30, T35, T49, T53, T54, hi3']); (case hd => rfl); (case ha => simp [T3, T4, T23, T24, T27, T28, T30, T35, T49, T53, T54, hi3']; rfl); (case hargs => rfl); (case hs => exact Range_sc (σ.bx.length + 1) L' a 0 4 _ (by simp) ha hL' (by decide) (by decide) (by decide)); rintro _ _ ⟨w, a7, hw, ha7, rfl, rfl⟩)
        | fail)
      obtain ⟨vs, hvs⟩ : ∃ vs : List Int, vs = [version, w] := ⟨_, rfl⟩
      have hvl : vs.length = 2 := by rw [hvs]; rfl
      with_reducible refine W.loopF GEt_cl (α := Nat) (fun k => [(4, .ptr σ.bx.length 0), (8, bV false), (10, .ptr (σ.bx.length + 2) 0), (11, .ptr (σ.bx.length + 3) 0), (96, .sl none (vs.map encI)), (97, i64 2), (98, i64 k)]) (fun _ => ⟨σ.bx ++ [encT raw, srcB L' a7, encT t, encT u], σ.tk⟩) (fun k => k ≤ 2) (fun k => 2 - k) 0 ?_ ?_ ?_ ?_
      · exact Nat.zero_le _
      · subst hvs
        repeat (first | exact Sw.Sub.nil | refine Sw.Sub.cons (by simp) ?_)
      · first | rfl | simp
      · intro k hk
        (try dsimp only)
        by_cases hk2 : k < 2
        · have hkl : k < vs.length := by omega
          have hk2' : (k : Int) < 2 := by omega
          have hwk : IntKind.i64.wrap ((k : Int) + 1) = (k : Int) + 1 := wrap64 (by omega)
          have hto3 : ∀ y ∈ [raw, t, u], TabOK y := by rw [← hts2]; exact hxo
          have hch := fun (v : Int) σ' => Choose_sc [raw, t, u] v none σ' (by simp) hto3
          have hrc := fun (v : Int) σ' => refChoose_sc [raw, t, u] v none σ' (by simp)
          have hcok : TabOK (chooseF [raw, t, u] vs[k]).1 := by
            unfold chooseF
            split
            · exact ⟨by unfold I64; decide, by simp, by simp, by simp, by simp⟩
            · rename_i hneg
              have hlt : (idxF (fun t : Tab => t.version == vs[k]) [raw, t, u]).toNat < [raw, t, u].length := by
                unfold idxF at hneg ⊢
                split
                · rename_i h; simpa using h
                · rename_i h; rw [if_neg h] at hneg; omega
              rw [List.getD_eq_getElem?_getD, List.getElem?_eq_getElem hlt]
              exact hto3 _ (List.getElem_mem hlt)
          have hst := fun σ' => SameTable_sc (chooseF [raw, t, u] vs[k]).1 σ' hcok
          have hch1 := hch vs[k]
          have hrc1 := hrc vs[k]
          generalize hvk : vs[k] = vv at *
          generalize chooseF [raw, t, u] vv = r at *
          obtain ⟨x, e⟩ := r
          dsimp only at hch1 hrc1 hst
          repeat' (first
            | with_reducible refine W.seq ?_
            | with_reducible refine W.next ?_
            | with_reducible refine W.nil ?_
            | with_reducible refine W.skip ?_
            | with_reducible refine W.ret ?_
            | with_reducible refine W.ret_code ?_
            | with_reducible refine W.block ?_
            | with_reducible refine W.out ?_
            | with_reducible refine W.ret_blk ?_
            | with_reducible refine W.exit ?_
            | with_reducible refine W.exit_code ?_
            | with_reducible refine W.exit_here ?_
            | with_reducible refine W.leave_exit ?_
            | with_reducible refine W.leave_ret ?_
            | ((with_reducible refine W.exit_on ?h ?_); (case h => decide))
            | ((with_reducible apply W.reg); (case h => simp [T3, T4, T23, T24, T27, T28, T30, T35, T49, T53, T54, hk2', hkl, hvk, hwk]; exact ⟨rfl, rfl, rfl⟩))
            | ((with_reducible apply W.draw mixed); (case hB => kernel_rfl); (case hr => simp [T3, T4, T23, T24, T27, T28, T30, T35, T49, T53, T54, hk2', hkl, hvk, hwk]; rfl))
            | ((with_reducible apply W.cond); (case hc => simp; rfl); all_goals (intro hc_; try (cases hc_; done)))
            | ((with_reducible apply W.runX); (case _hc => rfl); (case h => simp [T3, T4, T23, T24, T27, T28, T30, T35, T49, T53, T54, hk2', hkl, hvk, hwk]; exact ⟨rfl, rfl, rfl⟩))
            | ((with_reducible apply W.call1 go26); (case ho => rfl); (case hc => rfl); (case hf => rfl); (case hg => first | rfl | simp [T3, T4, T23, T24, T27, T28, T30, T35, T49, T53, T54, hk2', hkl, hvk, hwk]); (case hd => rfl); (case ha => simp [T3, T4, T23, T24, T27, T28, T30, T35, T49, T53, T54, hk2', hkl, hvk, hwk]; rfl); (case hargs => rfl); (case hs => exact hch1 _))
            | ((with_reducible apply W.call1 go27); (case ho => rfl); (case hc => rfl); (case hf => rfl); (case hg => first | rfl | simp [T3, T4, T23, T24, T27, T28, T30, T35, T49, T53, T54, hk2', hkl, hvk, hwk]); (case hd => rfl); (case ha => simp [T3, T4, T23, T24, T27, T28, T30, T35, T49, T53, T54, hk2', hkl, hvk, hwk]; rfl); (case hargs => rfl); (case hs => exact hrc1 _))
            | ((with_reducible apply W.call1 go28); (case ho => rfl); (case hc => rfl); (case hf => rfl); (case hg => first | rfl | simp [T3, T4, T23, T24, T27, T28, T30, T35, T49, T53, T54, hk2', hkl, hvk, hwk]); (case hd => rfl); (case ha => simp [T3, T4, T23, T24, T27, T28, T30, T35, T49, T53, T54, hk2', hkl, hvk, hwk]; rfl); (case hargs => rfl); (case hs => exact hst _))
            | fail)
          refine W.handF (k + 1) (σ.bx.length + 4) σ.tk.length ?_ ?_ ?_ (by simp) (by simp) (ClPF.get ?_) ?_ ?_
          · omega
          · omega
          · repeat (first | exact Sw.Sub.nil | refine Sw.Sub.cons (by simp) ?_)
          · simp [ClPF]
          · exact hclx a7 _
          · have := htkx a7
            simp [this]
        · have hk2' : ¬ (k : Int) < 2 := by omega
          repeat' (first
            | with_reducible refine W.seq ?_
            | with_reducible refine W.next ?_
            | with_reducible refine W.nil ?_
            | with_reducible refine W.skip ?_
            | with_reducible refine W.ret ?_
            | with_reducible refine W.ret_code ?_
            | with_reducible refine W.block ?_
            | with_reducible refine W.out ?_
            | with_reducible refine W.ret_blk ?_
            | with_reducible refine W.exit ?_
            | with_reducible refine W.exit_code ?_
            | with_reducible refine W.exit_here ?_
            | with_reducible refine W.leave_exit ?_
            | with_reducible refine W.leave_ret ?_
            | ((with_reducible refine W.exit_on ?h ?_); (case h => decide))
            | ((with_reducible apply W.reg); (case h => simp [T3, T4, T23, T24, T27, T28, T30, T35, T49, T53, T54, hk2']; exact ⟨rfl, rfl, rfl⟩))
            | ((with_reducible apply W.draw mixed); (case hB => kernel_rfl); (case hr => simp [T3, T4, T23, T24, T27, T28, T30, T35, T49, T53, T54, hk2']; rfl))
            | ((with_reducible apply W.cond); (case hc => simp; rfl); all_goals (intro hc_; try (cases hc_; done)))
            | ((with_reducible apply W.runX); (case _hc => rfl); (case h => simp [T3, T4, T23, T24, T27, T28, T30, T35, T49, T53, T54, hk2']; exact ⟨rfl, rfl, rfl⟩))
            | ((with_reducible apply W.call1 go16); (case ho => rfl); (case hc => rfl); (case hf => rfl); (case hg => first | rfl | simp [T3, T4, T23, T24, T27, T28, T30, T35, T49, T53, T54, hk2']); (case hd => rfl); (case ha => simp [T3, T4, T23, T24, T27, T28, T30, T35, T49, T53, T54, hk2']; rfl); (case hargs => rfl); (case hs => exact awake_sc _))
            | fail)
          with_reducible apply W.fin
          case h1 => simp <;> rfl
          case h2 => exact Wk.rfl
          case h3 => simp
          case h4 => exact hσ.clB.app (Nat.le_refl _)
          exact ⟨rfl, by simp⟩


end Go.Proofs.YtgabnlkkjmepnaaDoor

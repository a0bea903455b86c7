/- The table that the statements draw. -/
import Derived.Test.YtgabnlkkjmepnaaDoorS15
import Derived.Test.YtgabnlkkjmepnaaDoorSwP
import Derived.Test.YtgabnlkkjmepnaaDoorSwQ
import Derived.IntWalk
namespace Go.Proofs.YtgabnlkkjmepnaaDoor
open Go.Sw
set_option linter.unusedSimpArgs false
set_option linter.unusedVariables false
attribute [local simp] runOps stepOp pureOp gd isCall inN setd Sw.get params ev evs binV unV convV loadA cellsPV storeA fieldAddrA fieldOff fieldA partA aggOf extractA indexAddrA indexA lenA minmaxA sliceA bnd partsA buildA placesA fillA buildSliceA zerosA chunkA TyD.agg Value.oneCell' Value.cells runPure appA appendA okRow_nil okRow_cons okRow_append resultA ressA resA List.getElem?_append List.set_append Cl_any Cl_val Cl_ptr Cl_agg Cl_tup Cl_fn Cl_rop Cl_sl Sw.take_set Sw.take_set_app Sw.take_app

attribute [local simp] encI encE encS encT okRow_encE okRow_encS
attribute [local simp] oneB_rowPV oneB_v oneB_p oneB_r oneB_s oneB_b

set_option maxHeartbeats 1000000 in
/-- The sequences are drawn. -/
theorem rows_sw (n m : Nat) (σ : AS) (b : Nat) (L : List Int) (v : Int) (es : List Ent) (ne : Nat) (hbl : b < σ.bx.length) (hL : L.length ≤ 2000) (w : Int) (hw : 0 ≤ w ∧ w < 4) (B0 : List (List PV)) (hT0 : TB σ b L (tabB v σ.tk.length (σ.tk.length + 1) es []) B0) (Q : Post) (kk : List KI) (hNP : NoPanic (Cont Cc ⟨134, n, m⟩ Q kk)) :
    SW Cc ⟨134, n, m⟩ (cAt [2, 2, 2, 1, 2, 3] c9) (Cont Cc ⟨134, n, m⟩ (thenP (MidP (fun _ : List Row × List (List PV) => [(0, .ptr b 0), (4, .ptr σ.bx.length 0), (5, .ptr (σ.bx.length + 1) 0)]) (fun x => ⟨x.2, σ.tk ++ [(23, ne), (49, x.1.length)]⟩)
      (fun x => x.1.length ≤ 3 ∧ Md σ b L (tabB v σ.tk.length (σ.tk.length + 1) es (x.1.map encR)) x.1 [] x.2.length x.2 ∧ ∀ k (h : k < x.1.length), x.1[k].1 = 10000 + k)) (Cont Cc ⟨134, n, m⟩ Q kk)) [.blk 3])
      [(0, .ptr b 0), (4, .ptr σ.bx.length 0), (5, .ptr (σ.bx.length + 1) 0), (10, i64 w)] ⟨B0, σ.tk ++ [(23, ne), (49, 0)]⟩ := by
  change SW Cc ⟨134, n, m⟩ (Code.loop _) _ _ _
  have hτ : ∀ (x y : TypeId × Nat), (σ.tk ++ [x, y])[σ.tk.length + 1]? = some y := by intro x y; simp
  with_reducible refine W.loopS (α := Int × List Row × List (List PV)) (fun x => [(0, .ptr b 0), (4, .ptr σ.bx.length 0), (5, .ptr (σ.bx.length + 1) 0), (10, i64 x.1)]) (fun x => ⟨x.2.2, σ.tk ++ [(23, ne), (49, x.2.1.length)]⟩) (fun x => 0 ≤ x.1 ∧ x.1 + x.2.1.length ≤ 3 ∧ TB σ b L (tabB v σ.tk.length (σ.tk.length + 1) es (x.2.1.map encR)) x.2.2 ∧ (∀ r ∈ x.2.1, RowOK drawn (σ.bx.length + 2) x.2.2.length x.2.2 r.2) ∧ ∀ k (h : k < x.2.1.length), x.2.1[k].1 = 10000 + k) (fun x => x.1.toNat) (w, [], B0) ?_ ?_ ?_ ?_
  · exact ⟨hw.1, by simp; omega, hT0, by simp, fun k h => absurd h (Nat.not_lt_zero _)⟩
  · repeat (first | exact Sw.Sub.nil | refine Sw.Sub.cons (by simp) ?_)
  · rfl
  · rintro ⟨i, rows, B⟩ ⟨g1, g2, g3, g4, g5⟩
    dsimp only at g1 g2 g3 g4 g5 ⊢
    obtain ⟨a2, ha2, hsB⟩ := g3.src
    have hTab := g3.tab
    have hlB := g3.len
    by_cases hi : 0 < i
    · have hwl : IntKind.i64.wrap (10000 + (rows.length : Int)) = 10000 + (rows.length : Int) := wrap64 (by omega)
      have hwi1 : IntKind.i64.wrap (i - 1) = i - 1 := wrap64 (by omega)
      repeat' (first
        | with_reducible refine W.seq ?_
        | with_reducible refine W.next ?_
        | with_reducible refine W.nil ?_
        | with_reducible refine W.skip ?_
        | with_reducible refine W.ret ?_
        | with_reducible refine W.ret_code ?_
        | with_reducible refine W.block ?_
        | with_reducible refine W.out ?_
        | with_reducible refine W.ret_blk ?_
        | with_reducible refine W.exit ?_
        | with_reducible refine W.exit_code ?_
        | with_reducible refine W.exit_here ?_
        | with_reducible refine W.leave_exit ?_
        | with_reducible refine W.leave_ret ?_
        | ((with_reducible refine W.exit_on ?h ?_); (case h => decide))
        | ((with_reducible apply W.reg); (case h => simp [T3, T24, T27, T28, T30, T49, hi, hTab, tabB, hwl]; exact ⟨rfl, rfl, rfl⟩))
        | ((with_reducible apply W.draw mixed); (case hB => kernel_rfl); (case hr => simp [T3, T24, T27, T28, T30, T49, hi, hTab, tabB, hwl]; rfl))
        | ((with_reducible apply W.cond); (case hc => simp; rfl); all_goals (intro hc_; try (cases hc_; done)))
        | ((with_reducible apply W.runX); (case _hc => rfl); (case h => simp [T3, T24, T27, T28, T30, T49, hi, hTab, tabB, hwl]; exact ⟨rfl, rfl, rfl⟩))
        | fail)
      repeat' (first
        | with_reducible refine W.seq ?_
        | with_reducible refine W.next ?_
        | with_reducible refine W.nil ?_
        | with_reducible refine W.skip ?_
        | with_reducible refine W.ret ?_
        | with_reducible refine W.ret_code ?_
        | with_reducible refine W.block ?_
        | with_reducible refine W.out ?_
        | with_reducible refine W.ret_blk ?_
        | with_reducible refine W.exit ?_
        | with_reducible refine W.exit_code ?_
        | with_reducible refine W.exit_here ?_
        | with_reducible refine W.leave_exit ?_
        | with_reducible refine W.leave_ret ?_
        | ((with_reducible refine W.exit_on ?h ?_); (case h => decide))
        | ((with_reducible apply W.reg); (case h => simp [T3, T24, T27, T28, T30, T49, hi, hTab, tabB, hwl]; exact ⟨rfl, rfl, rfl⟩))
        | ((with_reducible apply W.draw mixed); (case hB => kernel_rfl); (case hr => simp [T3, T24, T27, T28, T30, T49, hi, hTab, tabB, hwl]; rfl))
        | ((with_reducible apply W.cond); (case hc => simp; rfl); all_goals (intro hc_; try (cases hc_; done)))
        | ((with_reducible apply W.runX); (case _hc => rfl); (case h => simp [T3, T24, T27, T28, T30, T49, hi, hTab, tabB, hwl]; exact ⟨rfl, rfl, rfl⟩))
        | ((with_reducible apply W.callR go10); (case ho => rfl); (case hc => rfl); (case hf => rfl); (case hg => first | rfl | simp [T3, T24, T27, T28, T30, T49, hi, hTab, tabB, hwl]); (case hd => rfl); (case ha => simp [T3, T24, T27, T28, T30, T49, hi, hTab, tabB, hwl]; rfl); (case hargs => rfl); (case hs => exact N_sc b L _ _ _ (get_app_of hsB _) ha2 hL); rintro _ _ ⟨w3, a3, hw3, ha3, rfl, rfl⟩; have hw3 := hw3.2 (by omega) (by omega))
        | fail)
      have hT1 := (g3.push hbl [[i64 (10000 + (rows.length : Int)), .val (.slice none 0 0)]]).setsrc hbl ha3
      refine W.objs (σ' := ⟨(B ++ [[i64 (10000 + (rows.length : Int)), .val (.slice none 0 0)]]).set b (srcB L a3), σ.tk ++ [(23, ne), (49, rows.length)]⟩) (by simp) ?_
      refine W.cutG (codes1_sw n m σ b L (tabB v σ.tk.length (σ.tk.length + 1) es (rows.map encR)) hbl hL rows (σ.tk ++ [(23, ne), (49, rows.length)]) B.length (10000 + (rows.length : Int)) w3 i ((B ++ [[i64 (10000 + (rows.length : Int)), .val (.slice none 0 0)]]).set b (srcB L a3)) ⟨hw3.1, by omega⟩ hT1 hlB (by rw [List.length_set]; simp) ?_ ?_ _ _ ?_) ?_ ?_
      · rw [List.getElem?_set_ne (by omega)]; simp [rowPV]
      · exact fun r hr => (g4 r hr).of_get (Nat.le_refl _) fun i h1 h2 => by rw [List.getElem?_set_ne (by omega), List.getElem?_append_left h2]
      · exact fun _ _ _ h => hNP _ _ _ h
      · repeat (first | exact Sw.Sub.nil | refine Sw.Sub.cons (by simp) ?_)
      · rintro ⟨cur, B'⟩ pf ⟨f3, f4, f5, f6, f7⟩ hs
        dsimp only at f3 f4 f5 f6 f7 hs ⊢
        with_reducible refine W.next ?_
        refine W.sub ?_ hs
        have hTab' := f3.tab
        have hbt2 : (rows.length + 1) * 32 ≤ 140737488355328 := by omega
        repeat' (first
          | with_reducible refine W.seq ?_
          | with_reducible refine W.next ?_
          | with_reducible refine W.nil ?_
          | with_reducible refine W.skip ?_
          | with_reducible refine W.ret ?_
          | with_reducible refine W.ret_code ?_
          | with_reducible refine W.block ?_
          | with_reducible refine W.out ?_
          | with_reducible refine W.ret_blk ?_
          | with_reducible refine W.exit ?_
          | with_reducible refine W.exit_code ?_
          | with_reducible refine W.exit_here ?_
          | with_reducible refine W.leave_exit ?_
          | with_reducible refine W.leave_ret ?_
          | ((with_reducible refine W.exit_on ?h ?_); (case h => decide))
          | ((with_reducible apply W.reg); (case h => simp [T3, T24, T27, T28, T30, T49, f5, hTab', tabB, hbt2, hτ, oneB_rowPV, okRow_encR, hwi1]; exact ⟨rfl, rfl, rfl⟩))
          | ((with_reducible apply W.draw mixed); (case hB => kernel_rfl); (case hr => simp [T3, T24, T27, T28, T30, T49, f5, hTab', tabB, hbt2, hτ, oneB_rowPV, okRow_encR, hwi1]; rfl))
          | ((with_reducible apply W.cond); (case hc => simp; rfl); all_goals (intro hc_; try (cases hc_; done)))
          | ((with_reducible apply W.runX); (case _hc => rfl); (case h => simp [T3, T24, T27, T28, T30, T49, f5, hTab', tabB, hbt2, hτ, oneB_rowPV, okRow_encR, hwi1]; exact ⟨rfl, rfl, rfl⟩))
          | fail)
        refine W.hand (i - 1, rows ++ [(10000 + (rows.length : Int), cur)], B'.set (σ.bx.length + 1) (tabB v σ.tk.length (σ.tk.length + 1) es ((rows ++ [(10000 + (rows.length : Int), cur)]).map encR))) ?_ ?_ ?_ ?_
        · refine ⟨by (try dsimp only); omega, by simp; omega, f3.settab hbl, ?_, ?_⟩
          · intro r hr
            (try dsimp only at hr ⊢)
            rw [List.length_set]
            rcases List.mem_append.1 hr with hr | hr
            · exact (f6 r hr).of_get (Nat.le_of_lt f4) fun i h1 h2 => List.getElem?_set_ne (by omega)
            · rw [List.mem_singleton.1 hr]
              exact (f7.lo (show σ.bx.length + 2 ≤ B.length + 1 by omega)).of_get (Nat.le_refl _) fun i h1 h2 => List.getElem?_set_ne (by omega)
          · intro k hk
            (try dsimp only at hk ⊢)
            by_cases hk2 : k < rows.length
            · rw [List.getElem_append_left hk2]; exact g5 k hk2
            · have : k = rows.length := by simp at hk; omega
              subst this
              simp
        · dsimp only; omega
        · repeat (first | exact Sw.Sub.nil | refine Sw.Sub.cons (by simp) ?_)
        · simp [tabB, encR]
    · repeat' (first
        | with_reducible refine W.seq ?_
        | with_reducible refine W.next ?_
        | with_reducible refine W.nil ?_
        | with_reducible refine W.skip ?_
        | with_reducible refine W.ret ?_
        | with_reducible refine W.ret_code ?_
        | with_reducible refine W.block ?_
        | with_reducible refine W.out ?_
        | with_reducible refine W.ret_blk ?_
        | with_reducible refine W.exit ?_
        | with_reducible refine W.exit_code ?_
        | with_reducible refine W.exit_here ?_
        | with_reducible refine W.leave_exit ?_
        | with_reducible refine W.leave_ret ?_
        | ((with_reducible refine W.exit_on ?h ?_); (case h => decide))
        | ((with_reducible apply W.reg); (case h => simp [T3, T24, T27, T28, T30, T49, hi]; exact ⟨rfl, rfl, rfl⟩))
        | ((with_reducible apply W.draw mixed); (case hB => kernel_rfl); (case hr => simp [T3, T24, T27, T28, T30, T49, hi]; rfl))
        | ((with_reducible apply W.cond); (case hc => simp; rfl); all_goals (intro hc_; try (cases hc_; done)))
        | ((with_reducible apply W.runX); (case _hc => rfl); (case h => simp [T3, T24, T27, T28, T30, T49, hi]; exact ⟨rfl, rfl, rfl⟩))
        | fail)
      refine W.mid (rows, B) ⟨by dsimp only; omega, ⟨g3, rfl, g4, by simp⟩, g5⟩ ?_ rfl
      repeat (first | exact Sw.Sub.nil | refine Sw.Sub.cons (by simp) ?_)

/-- A table that is drawn. -/
structure drawnT (v : Int) (t : Tab) : Prop where
  version : t.version = v
  elen : t.entries.length = 11
  ent : ∀ (k : Nat) (h : k < t.entries.length), drawnE (k + 1) t.entries[k]
  slen : t.seqs.length ≤ 3
  code : ∀ (k : Nat) (h : k < t.seqs.length), t.seqs[k].code = 10000 + k
  codes : ∀ q ∈ t.seqs, q.codes.length ≤ 3 ∧ ∀ c ∈ q.codes, good c

theorem frzL_vals (σ : AS) (n k : Nat) : ∀ xs : List Int, FrzL Cc σ n k (xs.map i64) (xs.map i64)
  | [] => trivial
  | x :: r => ⟨Frz.cl (.val _), frzL_vals σ n k r⟩
theorem frz_rows (σ1 : AS) (n k Bl : Nat) : ∀ rows : List Row, (∀ r ∈ rows, RowOK good (n + 2) Bl σ1.bx r.2) → ∃ sqs : List Sq, sqs.length = rows.length ∧ (∀ (j : Nat) (q : Sq) (r : Row), sqs[j]? = some q → rows[j]? = some r → q.code = r.1) ∧ (∀ q ∈ sqs, q.codes.length ≤ 3 ∧ ∀ c ∈ q.codes, good c) ∧ FrzB Cc σ1 n k (rows.map encR) (sqs.map encS)
  | [], _ => ⟨[], rfl, by simp, by simp, trivial⟩
  | r :: rs, h => by
    obtain ⟨sqs, h1, h2, h3, h4⟩ := frz_rows σ1 n k Bl rs fun r hr => h r (by simp [hr])
    obtain ⟨code, q⟩ := r
    have hq := h (code, q) (by simp)
    have key : ∀ xs : List Int, xs.length ≤ 3 → (∀ c ∈ xs, good c) → Frz Cc σ1 n k (rowPV q) (.sl none (xs.map encI)) → ∃ sqs : List Sq, sqs.length = ((code, q) :: rs).length ∧ (∀ (j : Nat) (q' : Sq) (r : Row), sqs[j]? = some q' → ((code, q) :: rs)[j]? = some r → q'.code = r.1) ∧ (∀ q ∈ sqs, q.codes.length ≤ 3 ∧ ∀ c ∈ q.codes, good c) ∧ FrzB Cc σ1 n k (((code, q) :: rs).map encR) (sqs.map encS) := by
      intro xs g1 g2 g3
      refine ⟨⟨code, xs⟩ :: sqs, by simp [h1], fun j q' r hj hr => ?_, fun q' hq' => ?_, ⟨Frz.cl (.val _), g3, trivial⟩, h4⟩
      · cases j with
        | zero => simp at hj hr; subst hj; subst hr; rfl
        | succ j => exact h2 j q' r (by simpa using hj) (by simpa using hr)
      · rcases List.mem_cons.1 hq' with e | e
        · subst e; exact ⟨g1, g2⟩
        · exact h3 q' e
    match q, hq with
    | none, _ => exact key [] (by simp) (by simp) (Frz.wk Wk.nil (by simp))
    | some (i, m, c), ⟨q1, q2, q3, xs, junk, q4, q5, q6, q7⟩ =>
      refine key xs (by omega) q7 ?_
      have := Frz.bs (C := Cc) (σ := σ1) (n := n) (k := k) (E := 3) (i := i) (m := m) (c := c) (ps := xs.map i64 ++ junk) (qs := xs.map i64) T3 rfl (by omega) q4 (by
        have e : (xs.map i64 ++ junk).take m = xs.map i64 := by rw [← q5]; simp
        rw [e]
        exact frzL_vals σ1 n k xs)
      rw [List.map_map] at this
      exact this

set_option maxHeartbeats 2000000 in
theorem Table_sc (b : Nat) (L : List Int) (a : Nat) (v : Int) (σ : AS) (hb : σ.bx[b]? = some (srcB L a)) (ha : a ≤ L.length) (hL : L.length ≤ 2000) : SC Cc 9 [.ptr b 0, i64 v] σ (fun r σ' => ∃ (t : Tab) (a' : Nat), drawnT v t ∧ a' ≤ L.length ∧ r = .agg (encT t) ∧ σ' = ⟨σ.bx.set b (srcB L a'), σ.tk⟩) := by
  have hbl := (List.getElem?_eq_some_iff.1 hb).1
  refine W.body Tryd.func9 rfl 134 Tryd.ntmps9 _ Tryd.results9 (by simp) GEt_cl fun hσ => ?_
  with_reducible refine W.seq ?_
  with_reducible apply W.reg
  case h => simp [T30, T27, T28, T3]; exact ⟨rfl, rfl, rfl⟩
  with_reducible refine W.nil ?_
  with_reducible refine W.next ?_
  with_reducible refine W.seq ?_
  with_reducible apply W.reg
  case h => simp [T30, T3, T27, T28]; exact ⟨rfl, rfl, rfl⟩
  with_reducible refine W.nil ?_
  with_reducible refine W.next ?_
  refine W.tokenbox 23 (σ.bx.length + 1) 1 [i64 v, .val (.slice none 0 0), .val (.slice none 0 0)] (by simp) (by simp) ?_
  refine W.tokenbox 49 (σ.bx.length + 1) 2 [i64 v, .sl (some σ.tk.length) [], .val (.slice none 0 0)] (by simp) (by simp) ?_
  refine W.objs (σ' := ⟨σ.bx ++ [zeroT, tabB v σ.tk.length (σ.tk.length + 1) [] []], σ.tk ++ [(23, 0), (49, 0)]⟩) (by simp [zeroT, tabB]) ?_
  have hclT : ∀ (a : Nat) (es : List Ent) (r : List (List PV)), ClB (σ.bx.length + 2) (σ.tk.length + 2) (σ.bx.set b (srcB L a) ++ zeroT :: tabB v σ.tk.length (σ.tk.length + 1) es [] :: r) := by
    intro a es r i ps hi hp p hpp
    rcases Nat.lt_or_ge i σ.bx.length with h | h
    · rw [List.getElem?_append_left (by simpa using h)] at hp
      exact (hσ.clB.set (cl_srcB _ _ L a) i ps h hp p hpp).le (by omega) (by omega)
    · rw [List.getElem?_append_right (by simpa using h)] at hp
      have : i = σ.bx.length ∨ i = σ.bx.length + 1 := by omega
      rcases this with rfl | rfl
      · simp [zeroT] at hp; subst hp
        simp at hpp
        rcases hpp with rfl | rfl | rfl <;> exact .val _
      · simp [tabB] at hp; subst hp
        simp at hpp
        rcases hpp with rfl | rfl | rfl
        · exact .val _
        · exact encEs_cl _ _ _ (by rintro _ ⟨⟩; omega) _
        · exact (Cl_sl ..).2 ⟨by rintro _ ⟨⟩; omega, by simp⟩
  repeat' (first
    | with_reducible refine W.seq ?_
    | with_reducible refine W.next ?_
    | with_reducible refine W.nil ?_
    | with_reducible refine W.skip ?_
    | with_reducible refine W.ret ?_
    | with_reducible refine W.ret_code ?_
    | with_reducible refine W.block ?_
    | with_reducible refine W.out ?_
    | with_reducible refine W.ret_blk ?_
    | with_reducible refine W.exit ?_
    | with_reducible refine W.exit_code ?_
    | with_reducible refine W.exit_here ?_
    | with_reducible refine W.leave_exit ?_
    | with_reducible refine W.leave_ret ?_
    | ((with_reducible refine W.exit_on ?h ?_); (case h => decide))
    | ((with_reducible apply W.reg); (case h => simp [T3]; exact ⟨rfl, rfl, rfl⟩))
    | ((with_reducible apply W.draw mixed); (case hB => kernel_rfl); (case hr => simp [T3]; rfl))
    | ((with_reducible apply W.cond); (case hc => simp; rfl); all_goals (intro hc_; try (cases hc_; done)))
    | ((with_reducible apply W.runX); (case _hc => rfl); (case h => simp [T3]; exact ⟨rfl, rfl, rfl⟩))
    | fail)
  with_reducible refine W.loopF GEt_cl (α := List Ent × Nat) (fun x => [(0, .ptr b 0), (4, .ptr σ.bx.length 0), (5, .ptr (σ.bx.length + 1) 0), (6, i64 ((x.1.length : Int) + 1))]) (fun x => ⟨σ.bx.set b (srcB L x.2) ++ [zeroT, tabB v σ.tk.length (σ.tk.length + 1) x.1 []], σ.tk ++ [(23, x.1.length), (49, 0)]⟩) (fun x => x.1.length ≤ 11 ∧ (∀ k (h : k < x.1.length), drawnE (k + 1) x.1[k]) ∧ x.2 ≤ L.length) (fun x => 11 - x.1.length) ([], a) ?_ ?_ ?_ ?_
  · exact ⟨by simp, fun k h => absurd h (Nat.not_lt_zero _), ha⟩
  · repeat (first | exact Sw.Sub.nil | refine Sw.Sub.cons (by simp) ?_)
  · simp [set_same hb]
  · rintro ⟨es, a1⟩ ⟨h1, h2, h3⟩
    dsimp only at h1 h2 h3 ⊢
    have hsrc : ∀ (a : Nat) (r : List (List PV)), (σ.bx.set b (srcB L a) ++ r)[b]? = some (srcB L a) := fun a r => get_set_app hb _ r
    by_cases hlt : es.length < 11
    · have hlt' : (es.length : Int) + 1 ≤ 11 := by omega
      have hwi : IntKind.i64.wrap ((es.length : Int) + 1 + 1) = (es.length : Int) + 1 + 1 := wrap64 (by omega)
      have hwc : IntKind.i64.wrap (100 * ((es.length : Int) + 1)) = 100 * ((es.length : Int) + 1) := wrap64 (by omega)
      repeat' (first
        | with_reducible refine W.seq ?_
        | with_reducible refine W.next ?_
        | with_reducible refine W.nil ?_
        | with_reducible refine W.skip ?_
        | with_reducible refine W.ret ?_
        | with_reducible refine W.ret_code ?_
        | with_reducible refine W.block ?_
        | with_reducible refine W.out ?_
        | with_reducible refine W.ret_blk ?_
        | with_reducible refine W.exit ?_
        | with_reducible refine W.exit_code ?_
        | with_reducible refine W.exit_here ?_
        | with_reducible refine W.leave_exit ?_
        | with_reducible refine W.leave_ret ?_
        | ((with_reducible refine W.exit_on ?h ?_); (case h => decide))
        | ((with_reducible apply W.reg); (case h => simp [T3, T23, T27, T30, T62, T35, hlt', hwi, hwc]; exact ⟨rfl, rfl, rfl⟩))
        | ((with_reducible apply W.draw mixed); (case hB => kernel_rfl); (case hr => simp [T3, T23, T27, T30, T62, T35, hlt', hwi, hwc]; rfl))
        | ((with_reducible apply W.cond); (case hc => simp; rfl); all_goals (intro hc_; try (cases hc_; done)))
        | ((with_reducible apply W.runX); (case _hc => rfl); (case h => simp [T3, T23, T27, T30, T62, T35, hlt', hwi, hwc]; exact ⟨rfl, rfl, rfl⟩))
        | ((with_reducible apply W.callR go29); (case ho => rfl); (case hc => rfl); (case hf => rfl); (case hg => first | rfl | simp [T3, T23, T27, T30, T62, T35, hlt', hwi, hwc]); (case hd => rfl); (case ha => simp [T3, T23, T27, T30, T62, T35, hlt', hwi, hwc]; rfl); (case hargs => rfl); (case hs => exact refDescribe_sc _ _ ⟨by omega, by omega⟩); rintro _ _ ⟨sn, hn_, dn, ln, en, rfl, he_, hl_, rfl⟩)
        | fail)
      have hP : ∀ (e : Ent) (a : Nat), drawnE (es.length + 1) e → a ≤ L.length → (es ++ [e]).length ≤ 11 ∧ (∀ k (h : k < (es ++ [e]).length), drawnE (k + 1) (es ++ [e])[k]) ∧ a ≤ L.length := by
        intro e a he ha
        refine ⟨by simp; omega, fun k h => ?_, ha⟩
        by_cases hk : k < es.length
        · rw [List.getElem_append_left hk]; exact h2 k hk
        · have : k = es.length := by simp at h; omega
          subst this
          simpa using he
      have hclE : ∀ (a : Nat) (e : Ent) (r : List (List PV)), ClB (σ.bx.length + 2) (σ.tk.length + 2) (σ.bx.set b (srcB L a) ++ zeroT :: [i64 v, .sl (some σ.tk.length) (es.map encE ++ [encE e]), .sl (some (σ.tk.length + 1)) []] :: r) := by
        intro a e r
        have h := hclT a (es ++ [e]) r
        simp only [tabB, List.map_append, List.map_cons, List.map_nil] at h
        exact h
      have hbt : (es.length + 1) * 40 ≤ 140737488355328 := by omega
      repeat' (first
        | with_reducible refine W.seq ?_
        | with_reducible refine W.next ?_
        | with_reducible refine W.nil ?_
        | with_reducible refine W.skip ?_
        | with_reducible refine W.ret ?_
        | with_reducible refine W.ret_code ?_
        | with_reducible refine W.block ?_
        | with_reducible refine W.out ?_
        | with_reducible refine W.ret_blk ?_
        | with_reducible refine W.exit ?_
        | with_reducible refine W.exit_code ?_
        | with_reducible refine W.exit_here ?_
        | with_reducible refine W.leave_exit ?_
        | with_reducible refine W.leave_ret ?_
        | ((with_reducible refine W.exit_on ?h ?_); (case h => decide))
        | ((with_reducible apply W.reg); (case h => simp [T3, T24, T23, T27, T30, T62, T35, hlt', hwi, hwc, tabB, hbt]; exact ⟨rfl, rfl, rfl⟩))
        | ((with_reducible apply W.draw mixed); (case hB => kernel_rfl); (case hr => simp [T3, T24, T23, T27, T30, T62, T35, hlt', hwi, hwc, tabB, hbt]; rfl))
        | ((with_reducible apply W.cond); (case hc => simp; rfl); all_goals (intro hc_; try (cases hc_; done)))
        | ((with_reducible apply W.runX); (case _hc => rfl); (case h => simp [T3, T24, T23, T27, T30, T62, T35, hlt', hwi, hwc, tabB, hbt]; exact ⟨rfl, rfl, rfl⟩))
        | ((with_reducible apply W.callR go10); (case ho => rfl); (case hc => rfl); (case hf => rfl); (case hg => first | rfl | simp [T3, T24, T23, T27, T30, T62, T35, hlt', hwi, hwc, tabB, hbt]); (case hd => rfl); (case ha => simp [T3, T24, T23, T27, T30, T62, T35, hlt', hwi, hwc, tabB, hbt]; rfl); (case hargs => rfl); (case hs => exact N_sc b L _ _ _ (hsrc _ _) (by omega) hL); rintro _ _ ⟨w, a', hw, ha', rfl, rfl⟩; have hw := hw.2 (by omega) (by omega); simp only [set_set_app hbl])
        | ((with_reducible apply W.callR go30); (case ho => rfl); (case hc => rfl); (case hf => rfl); (case hg => first | rfl | simp [T3, T24, T23, T27, T30, T62, T35, hlt', hwi, hwc, tabB, hbt]); (case hd => rfl); (case ha => simp [T3, T24, T23, T27, T30, T62, T35, hlt', hwi, hwc, tabB, hbt]; rfl); (case hargs => rfl); (case hs => exact Pick_sc b L _ [2, 5, 10] _ (hsrc _ _) (by omega) hL (by decide) (by decide)); rintro _ _ ⟨w2, a'', hw2, ha'', rfl, rfl⟩; simp only [set_set_app hbl])
        | ((with_reducible apply W.callR go20); (case ho => rfl); (case hc => rfl); (case hf => rfl); (case hg => first | rfl | simp [T3, T24, T23, T27, T30, T62, T35, hlt', hwi, hwc, tabB, hbt]); (case hd => rfl); (case ha => simp [T3, T24, T23, T27, T30, T62, T35, hlt', hwi, hwc, tabB, hbt]; rfl); (case hargs => rfl); (case hs => exact Range_sc b L _ 8 20 _ (hsrc _ _) (by omega) hL (by omega) (by omega) (by omega)); rintro _ _ ⟨w2, a'', hw2, ha'', rfl, rfl⟩; simp only [set_set_app hbl])
        | fail)
      · have hd : drawnE (es.length + 1) ⟨100 * ((es.length : Int) + 1), (es.length : Int) + 1, 12, w2, ln⟩ := ⟨by simp, by simp, hl_ (by simp [isEl]; omega), by simp at hw2; dsimp only; omega, by dsimp only; omega⟩
        refine W.handF (es ++ [⟨100 * ((es.length : Int) + 1), (es.length : Int) + 1, 12, w2, ln⟩], a'') (σ.bx.length + 2) (σ.tk.length + 2) (hP _ _ hd ha'') (by simp; omega) ?_ (by simp) (by simp) (ClPF.get ?_) ?_ ?_
        · repeat (first | exact Sw.Sub.nil | refine Sw.Sub.cons (by simp) ?_)
        · simp [ClPF]; omega
        · exact hclE a'' ⟨100 * ((es.length : Int) + 1), (es.length : Int) + 1, 12, w2, ln⟩ _
        · simp [tabB, take_two, take_set2]
      · have hd : drawnE (es.length + 1) ⟨100 * ((es.length : Int) + 1), (es.length : Int) + 1, w2, 1, ln⟩ := ⟨by simp, by simp, hl_ (by simp [isEl]; omega), by dsimp only; omega, by dsimp only; omega⟩
        refine W.handF (es ++ [⟨100 * ((es.length : Int) + 1), (es.length : Int) + 1, w2, 1, ln⟩], a'') (σ.bx.length + 2) (σ.tk.length + 2) (hP _ _ hd ha'') (by simp; omega) ?_ (by simp) (by simp) (ClPF.get ?_) ?_ ?_
        · repeat (first | exact Sw.Sub.nil | refine Sw.Sub.cons (by simp) ?_)
        · simp [ClPF]; omega
        · exact hclE a'' ⟨100 * ((es.length : Int) + 1), (es.length : Int) + 1, w2, 1, ln⟩ _
        · simp [tabB, take_two, take_set2]
      · have hd : drawnE (es.length + 1) ⟨100 * ((es.length : Int) + 1), (es.length : Int) + 1, 13, 1, ln⟩ := ⟨by simp, by simp, hl_ (by simp [isEl]; omega), by dsimp only; omega, by dsimp only; omega⟩
        refine W.handF (es ++ [⟨100 * ((es.length : Int) + 1), (es.length : Int) + 1, 13, 1, ln⟩], a') (σ.bx.length + 2) (σ.tk.length + 2) (hP _ _ hd ha') (by simp; omega) ?_ (by simp) (by simp) (ClPF.get ?_) ?_ ?_
        · repeat (first | exact Sw.Sub.nil | refine Sw.Sub.cons (by simp) ?_)
        · simp [ClPF]; omega
        · exact hclE a' ⟨100 * ((es.length : Int) + 1), (es.length : Int) + 1, 13, 1, ln⟩ _
        · simp [tabB, take_two, take_set2]
    · have hlt' : ¬ (es.length : Int) + 1 ≤ 11 := by omega
      have h11 : es.length = 11 := by omega
      repeat' (first
        | with_reducible refine W.seq ?_
        | with_reducible refine W.next ?_
        | with_reducible refine W.nil ?_
        | with_reducible refine W.skip ?_
        | with_reducible refine W.ret ?_
        | with_reducible refine W.ret_code ?_
        | with_reducible refine W.block ?_
        | with_reducible refine W.out ?_
        | with_reducible refine W.ret_blk ?_
        | with_reducible refine W.exit ?_
        | with_reducible refine W.exit_code ?_
        | with_reducible refine W.exit_here ?_
        | with_reducible refine W.leave_exit ?_
        | with_reducible refine W.leave_ret ?_
        | ((with_reducible refine W.exit_on ?h ?_); (case h => decide))
        | ((with_reducible apply W.reg); (case h => simp [T3, T23, T27, T30, T62, T35, hlt']; exact ⟨rfl, rfl, rfl⟩))
        | ((with_reducible apply W.draw mixed); (case hB => kernel_rfl); (case hr => simp [T3, T23, T27, T30, T62, T35, hlt']; rfl))
        | ((with_reducible apply W.cond); (case hc => simp; rfl); all_goals (intro hc_; try (cases hc_; done)))
        | ((with_reducible apply W.runX); (case _hc => rfl); (case h => simp [T3, T23, T27, T30, T62, T35, hlt']; exact ⟨rfl, rfl, rfl⟩))
        | ((with_reducible apply W.callR go10); (case ho => rfl); (case hc => rfl); (case hf => rfl); (case hg => first | rfl | simp [T3, T23, T27, T30, T62, T35, hlt']); (case hd => rfl); (case ha => simp [T3, T23, T27, T30, T62, T35, hlt']; rfl); (case hargs => rfl); (case hs => exact N_sc b L _ _ _ (hsrc _ _) (by omega) hL); rintro _ _ ⟨w, a', hw, ha', rfl, rfl⟩; have hw := hw.2 (by omega) (by omega); simp only [set_set_app hbl])
        | fail)
      have hT0 : TB σ b L (tabB v σ.tk.length (σ.tk.length + 1) es []) (σ.bx.set b (srcB L a') ++ [zeroT, tabB v σ.tk.length (σ.tk.length + 1) es []]) :=
        ⟨by simp, ⟨a', ha', hsrc _ _⟩, fun j hj hne => by rw [List.getElem?_append_left (by simpa using hj), List.getElem?_set_ne (Ne.symm hne)], by simp, by simp⟩
      refine W.cutG (rows_sw _ _ σ b L v es es.length hbl hL w hw _ hT0 _ _ ?_) ?_ ?_
      · exact fun _ _ _ h => h
      · repeat (first | exact Sw.Sub.nil | refine Sw.Sub.cons (by simp) ?_)
      · rintro ⟨rows, B⟩ pf ⟨r1, r2, r3⟩ hs
        dsimp only at r1 r2 r3 hs ⊢
        have hTab := r2.tb.tab
        with_reducible refine W.next ?_
        refine W.sub ?_ hs
        repeat' (first
          | with_reducible refine W.seq ?_
          | with_reducible refine W.next ?_
          | with_reducible refine W.nil ?_
          | with_reducible refine W.skip ?_
          | with_reducible refine W.ret ?_
          | with_reducible refine W.ret_code ?_
          | with_reducible refine W.block ?_
          | with_reducible refine W.out ?_
          | with_reducible refine W.ret_blk ?_
          | with_reducible refine W.exit ?_
          | with_reducible refine W.exit_code ?_
          | with_reducible refine W.exit_here ?_
          | with_reducible refine W.leave_exit ?_
          | with_reducible refine W.leave_ret ?_
          | ((with_reducible refine W.exit_on ?h ?_); (case h => decide))
          | ((with_reducible apply W.reg); (case h => simp [T3, T24, T27, T28, T30, T49, hTab, tabB]; exact ⟨rfl, rfl, rfl⟩))
          | ((with_reducible apply W.draw mixed); (case hB => kernel_rfl); (case hr => simp [T3, T24, T27, T28, T30, T49, hTab, tabB]; rfl))
          | ((with_reducible apply W.cond); (case hc => simp; rfl); all_goals (intro hc_; try (cases hc_; done)))
          | ((with_reducible apply W.runX); (case _hc => rfl); (case h => simp [T3, T24, T27, T28, T30, T49, hTab, tabB]; exact ⟨rfl, rfl, rfl⟩))
          | fail)
        refine W.cutG (mend_sw _ _ σ b L v σ.tk.length (σ.tk.length + 1) es hbl rows (σ.tk ++ [(23, es.length), (49, rows.length)]) B.length B r1 r2 _ _) ?_ ?_
        · repeat (first | exact Sw.Sub.nil | refine Sw.Sub.cons (by simp) ?_)
        · intro B' pf hM hs
          (try dsimp only at hs ⊢)
          with_reducible refine W.next ?_
          refine W.sub ?_ hs
          have hTab' := hM.tb.tab
          have hres := hM.tb.res
          have hlB := hM.tb.len
          obtain ⟨a9, ha9, hsB⟩ := hM.tb.src
          repeat' (first
            | with_reducible refine W.seq ?_
            | with_reducible refine W.next ?_
            | with_reducible refine W.nil ?_
            | with_reducible refine W.skip ?_
            | with_reducible refine W.ret ?_
            | with_reducible refine W.ret_code ?_
            | with_reducible refine W.block ?_
            | with_reducible refine W.out ?_
            | with_reducible refine W.ret_blk ?_
            | with_reducible refine W.exit ?_
            | with_reducible refine W.exit_code ?_
            | with_reducible refine W.exit_here ?_
            | with_reducible refine W.leave_exit ?_
            | with_reducible refine W.leave_ret ?_
            | ((with_reducible refine W.exit_on ?h ?_); (case h => decide))
            | ((with_reducible apply W.reg); (case h => simp [T3, T24, T27, T28, T30, T49, hTab', hres, tabB, zeroT]; exact ⟨rfl, rfl, rfl⟩))
            | ((with_reducible apply W.draw mixed); (case hB => kernel_rfl); (case hr => simp [T3, T24, T27, T28, T30, T49, hTab', hres, tabB, zeroT]; rfl))
            | ((with_reducible apply W.cond); (case hc => simp; rfl); all_goals (intro hc_; try (cases hc_; done)))
            | ((with_reducible apply W.runX); (case _hc => rfl); (case h => simp [T3, T24, T27, T28, T30, T49, hTab', hres, tabB, zeroT]; exact ⟨rfl, rfl, rfl⟩))
            | fail)
          obtain ⟨sqs, s1, s2, s3, s4⟩ := frz_rows ⟨B'.set σ.bx.length [i64 v, .sl (some σ.tk.length) (es.map encE), .sl (some (σ.tk.length + 1)) (rows.map encR)], σ.tk ++ [(23, es.length), (49, rows.length)]⟩ σ.bx.length σ.tk.length B.length rows (fun r hr => (hM.good r hr).of_get (Nat.le_refl _) (fun i h1 h2 => List.getElem?_set_ne (by omega)))
          have hBn : ∀ i, i < σ.bx.length → B'[i]? = (σ.bx.set b (srcB L a9))[i]? := by
            intro i hi
            by_cases hib : i = b
            · subst hib; rw [hsB, List.getElem?_set_self hbl]
            · rw [hM.tb.oth i hi hib, List.getElem?_set_ne (fun e => hib e.symm)]
          with_reducible apply W.finZ
          case h1 => simp [T30, getset hres]; rfl
          case h2 =>
            exact Frz.agg (show FrzL Cc _ _ _ [i64 v, .sl (some σ.tk.length) (es.map encE), .sl (some (σ.tk.length + 1)) (rows.map encR)] [i64 v, .sl none (es.map encE), .sl none (sqs.map encS)] from ⟨Frz.cl (.val _), Frz.wk Wk.unown (encEs_cl _ _ _ (by rintro _ ⟨⟩) _), Frz.sl s4, trivial⟩)
          case h4 =>
            intro i ps hi hp
            rw [List.getElem?_set_ne (by omega), hBn i hi] at hp
            exact hσ.clB.set (cl_srcB _ _ L a9) i ps hi hp
          case h5 =>
            refine ⟨⟨v, es, sqs⟩, a9, ⟨rfl, h11, h2, by dsimp only; omega, fun k hk => ?_, s3⟩, ha9, rfl, ?_⟩
            · dsimp only at hk ⊢
              have hk' : k < rows.length := by omega
              rw [s2 k _ _ (List.getElem?_eq_getElem hk) (List.getElem?_eq_getElem hk')]
              exact r3 k hk'
            · have e1 : ∀ x : List PV, (B'.set σ.bx.length x).take σ.bx.length = σ.bx.set b (srcB L a9) := by
                intro x
                refine List.ext_getElem? fun i => ?_
                rw [List.getElem?_take]
                split
                · rename_i hi
                  rw [List.getElem?_set_ne (by omega), hBn i hi]
                · rw [List.getElem?_eq_none (by simp; omega)]
              rw [e1]; simp


end Go.Proofs.YtgabnlkkjmepnaaDoor

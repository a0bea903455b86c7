/- A line of a map: the loop over a chunk, and what is done with the line. -/
import Derived.Test.YtbnapbegomemeaaDoorU4
import Derived.Test.YtbnapbegomemeaaDoorSwX
import Derived.IntWalk
namespace Go.Proofs.YtbnapbegomemeaaDoor
open Go.Sw
set_option linter.unusedSimpArgs false
set_option linter.unusedVariables false
attribute [local simp] evu unp appStr appendS isZ8 Cl_pt runOps stepOp pureOp gd isCall inN setd Sw.get params ev evs binV unV convV loadA cellsPV oneB storeA fieldAddrA fieldOff fieldA partA aggOf extractA indexAddrA indexA lenA minmaxA sliceA bnd partsA buildA placesA fillA buildSliceA zerosA chunkA TyD.agg Value.oneCell' Value.cells runPure appA appendA okRow_nil okRow_cons okRow_append resultA ressA resA List.getElem?_append List.set_append Cl_any Cl_val Cl_ptr Cl_agg Cl_tup Cl_fn Cl_rop Cl_sl Sw.take_set Sw.take_set_app Sw.take_app

@[local simp] theorem okRow_strR (ss : List (List UInt8)) : okRow 1 (strR ss) = true := okRow_map (by intro a; exact ⟨rfl, rfl⟩) ss
attribute [local simp] strR_length
noncomputable def c5 : Code := Tryd.f5.body.getD .skip
def encIs (xs : List Int) : List (List PV) := xs.map fun x => [i64 x]
theorem encIs_length (xs : List Int) : (encIs xs).length = xs.length := List.length_map _
theorem encIs_at {xs : List Int} {k : Nat} {x : Int} (h : xs[k]? = some x) : (encIs xs)[k]? = some [i64 x] := by
  unfold encIs; rw [List.getElem?_map, h]; rfl
theorem encIs_cl (n m : Nat) (xs : List Int) : ∀ x ∈ encIs xs, ∀ p ∈ x, Cl n m p := mem_cl_map (by intro a p hp; simp at hp; subst hp; exact .val _)
attribute [local simp] encIs_length
theorem strR_cl (n m : Nat) (ss : List (List UInt8)) : ∀ x ∈ strR ss, ∀ p ∈ x, Cl n m p := mem_cl_map (by intro a p hp; simp at hp; subst hp; exact .val _)
theorem strR_app (a b : List (List UInt8)) : strR (a ++ b) = strR a ++ strR b := List.map_append
/-- The words of a line. -/
def wordsOf (c : List Int) : List (List UInt8) := c.map fun v => Lib.itoa (dvF v)
/-- A line. -/
def lineF (c : List Int) : List UInt8 := wordsF [] (wordsOf c)
theorem wordsOf_at {c : List Int} {k : Nat} {v : Int} (h : c[k]? = some v) : (wordsOf c)[k]? = some (Lib.itoa (dvF v)) := by
  unfold wordsOf; rw [List.getElem?_map, h]; rfl
theorem wordsF_snoc (acc : List UInt8) (ss : List (List UInt8)) (s : List UInt8) : wordsF acc (ss ++ [s]) = word1 (wordsF acc ss) s := by
  unfold wordsF; rw [List.foldl_append]; rfl
theorem itoa_ne (n : Int) : Lib.itoa n ≠ [] := by
  unfold Lib.itoa
  split
  · simp
  · rw [Lib.decDigits_eq]
    have : 0 < Lib.nDigits n.toNat := Lib.nDigits_pos _
    intro h
    have := congrArg List.length h
    simp at this
    omega
theorem word1_ne (acc s : List UInt8) (h : s ≠ []) : word1 acc s ≠ [] := by
  unfold word1; simp [h]
theorem lineF_ne {c : List Int} (h : c ≠ []) : lineF c ≠ [] := by
  obtain ⟨d, x, rfl⟩ : ∃ d x, c = d ++ [x] := ⟨c.dropLast, c.getLast h, (List.dropLast_concat_getLast h).symm⟩
  unfold lineF wordsOf
  rw [List.map_append, List.map_cons, List.map_nil, wordsF_snoc]
  exact word1_ne _ _ (itoa_ne _)
theorem lineF_len {c : List Int} (h : ∀ x ∈ c, I64 x) : (lineF c).length ≤ c.length * 22 := by
  have h1 := wordsF_len (wordsOf c) []
  have h2 : ((wordsOf c).map fun s => s.length + 1).sum ≤ c.length * 22 := by
    clear h1
    induction c with
    | nil => simp [wordsOf]
    | cons x r ih =>
      have := ih (fun y hy => h y (List.mem_cons_of_mem _ hy))
      have := itoa_len (dvF x) (dvF_I64 (h x (List.mem_cons_self ..)))
      simp only [wordsOf, List.map_cons, List.sum_cons, List.length_cons] at *
      omega
  unfold lineF
  simp at h1
  omega

theorem line_sw (l : Nat) (σ : AS) (hσ : ClA σ) (o : List (List UInt8)) (sv : PV) (ho : o.length ≤ 1000000) (c : List Int) (hc : ∀ x ∈ c, I64 x) (hc0 : c ≠ []) (hcl : c.length ≤ 10) (nn kk : Nat) (hnn : nn = σ.bx.length + 3) (hkk : kk = σ.tk.length + 1) (x9 : PV) (hsv : Cl σ.bx.length σ.tk.length sv) :
    SW Cc ⟨34, nn, kk, some l⟩ (cAtF [2, 2, 1, 2, 3, 7] c5) (RoundP nn kk ⟨σ.bx ++ [[.sl (some σ.tk.length) (strR (o ++ [lineF c]))], [sv], [i64 10]], σ.tk ++ [(9, o.length + 1)]⟩)
      [(4, .sl none (encIs c)), (10, .sl none (encIs c)), (0, x9), (3, .ptr σ.bx.length 0)] ⟨σ.bx ++ [[.sl (some σ.tk.length) (strR o)], [sv], [i64 10]], σ.tk ++ [(9, o.length)]⟩ := by
  change SW Cc ⟨34, nn, kk, some l⟩ (Code.block 1 (Code.seq _ _)) (Cont Cc ⟨34, nn, kk, some l⟩ (RoundP nn kk _) []) _ _
  subst hnn
  subst hkk
  refine W.block (W.seq ?_)
  with_reducible apply W.regN 1
  case h => simp [T34, T35, T37, T39]; exact ⟨rfl, rfl⟩
  refine W.list (by simp only [List.drop_succ_cons, List.drop_zero]; rfl) ?_
  with_reducible apply W.boxPt
  case ho => rfl
  case hg => rfl
  case hd => rfl
  case hx => rfl
  case hp => rfl
  repeat' (first
    | with_reducible refine W.seq ?_
    | with_reducible refine W.next ?_
    | with_reducible refine W.nil ?_
    | with_reducible refine W.skip ?_
    | with_reducible refine W.ret ?_
    | with_reducible refine W.ret_code ?_
    | with_reducible refine W.block ?_
    | with_reducible refine W.out ?_
    | with_reducible refine W.ret_blk ?_
    | with_reducible refine W.exit ?_
    | with_reducible refine W.exit_code ?_
    | with_reducible refine W.exit_here ?_
    | with_reducible refine W.leave_exit ?_
    | with_reducible refine W.leave_ret ?_
    | ((with_reducible refine W.exit_on ?h ?_); (case h => decide))
    | ((with_reducible apply W.reg); (case h => simp [T3, T9, T22, T24, T33, T37, T39]; exact ⟨rfl, rfl, rfl⟩))
    | ((with_reducible apply W.draw (hm := mixed)); (case hnd => kernel_rfl); (case hno => exact fun _ _ h => h); (case hB => kernel_rfl); (case hr => simp [T3, T9, T22, T24, T33, T37, T39]; rfl))
    | ((with_reducible apply W.cond); (case hc => simp; rfl); all_goals (intro hc_; try (cases hc_; done)))
    | ((with_reducible apply W.runX); (case _hc => rfl); (case h => simp [T3, T9, T22, T24, T33, T37, T39]; exact ⟨rfl, rfl, rfl⟩))
    | fail)
  refine W.tokenbox 5 (σ.bx.length + 3) 1 [.val (.pointer none), .val (.slice none 0 0)] (by simp) rfl ?_
  have hwl : (wordsOf c).length = c.length := List.length_map _
  with_reducible refine W.loopS (α := Nat) (fun k => [(3, .ptr σ.bx.length 0), (5, .pt 39 2 (σ.bx.length + 3) 0), (13, .sl none (encIs c)), (14, i64 c.length), (15, i64 k)]) (fun k => ⟨σ.bx ++ [[.sl (some σ.tk.length) (strR o)], [sv], [i64 10], [if k = 0 then .val (.pointer none) else .ptr (σ.bx.length + 3) 0, .sl (some (σ.tk.length + 1)) (bytesR (wordsF [] ((wordsOf c).take k)))]], σ.tk ++ [(9, o.length), (5, (wordsF [] ((wordsOf c).take k)).length)]⟩) (fun k => k ≤ c.length) (fun k => c.length - k) 0 (Nat.zero_le _) ?_ ?_ ?_
  · repeat (first | exact Sw.Sub.nil | refine Sw.Sub.cons (by simp) ?_)
  · simp [wordsF, bytesR]
  · intro k hk
    try dsimp only
    by_cases hlt : k < c.length
    · have hlt' : (k : Int) < c.length := by omega
      have hwi : IntKind.i64.wrap ((k : Int) + 1) = (k : Int) + 1 := wrap64 (by omega)
      obtain ⟨v, hv⟩ : ∃ v, c[k]? = some v := ⟨_, List.getElem?_eq_getElem hlt⟩
      have hv64 : I64 v := hc v (List.mem_of_getElem? hv)
      have hcr := encIs_at hv
      have hcr' : (encIs c)[k]'(by simpa using hlt) = [i64 v] := (List.getElem?_eq_some_iff.1 hcr).2
      have hil := itoa_len (dvF v) (dvF_I64 hv64)
      have hstep := wordsF_take (acc := []) (wordsOf_at hv)
      have hbnd : (wordsF [] ((wordsOf c).take k)).length ≤ 220 := by
        have h1 := lineF_len (c := c.take k) (fun x hx => hc x (List.mem_of_mem_take hx))
        have h2 : (c.take k).length ≤ 10 := by rw [List.length_take]; omega
        unfold lineF wordsOf at h1
        unfold wordsOf
        rw [← List.map_take]
        omega
      obtain ⟨L, hL⟩ : ∃ L, wordsF [] ((wordsOf c).take k) = L := ⟨_, rfl⟩
      rw [hL] at hbnd hstep ⊢
      obtain ⟨p, hpe⟩ : ∃ p, (if k = 0 then PV.val (.pointer none) else PV.ptr (σ.bx.length + 3) 0) = p := ⟨_, rfl⟩
      have hp : p = .val (.pointer none) ∨ p = .ptr (σ.bx.length + 3) 0 := by
        rw [← hpe]; split
        · exact .inl rfl
        · exact .inr rfl
      rw [hpe]
      obtain ⟨σk, hσk⟩ : ∃ σk : AS, (⟨σ.bx ++ [[.sl (some σ.tk.length) (strR o)], [sv], [i64 10], [p, .sl (some (σ.tk.length + 1)) (bytesR L)]], σ.tk ++ [(9, o.length), (5, L.length)]⟩ : AS) = σk := ⟨_, rfl⟩
      have hqk : σk.bx[σ.bx.length + 3]? = some [p, .sl (some (σ.tk.length + 1)) (bytesR L)] := by rw [← hσk]; simp
      have htk : σk.tk[σ.tk.length + 1]? = some (5, L.length) := by rw [← hσk]; simp
      rw [hσk]
      repeat' (first
        | with_reducible refine W.seq ?_
        | with_reducible refine W.next ?_
        | with_reducible refine W.nil ?_
        | with_reducible refine W.skip ?_
        | with_reducible refine W.ret ?_
        | with_reducible refine W.ret_code ?_
        | with_reducible refine W.block ?_
        | with_reducible refine W.out ?_
        | with_reducible refine W.ret_blk ?_
        | with_reducible refine W.exit ?_
        | with_reducible refine W.exit_code ?_
        | with_reducible refine W.exit_here ?_
        | with_reducible refine W.leave_exit ?_
        | with_reducible refine W.leave_ret ?_
        | ((with_reducible refine W.exit_on ?h ?_); (case h => decide))
        | ((with_reducible apply W.reg); (case h => simp [T3, T9, T22, T24, T33, T37, T39, hlt', hlt, hcr, hcr', hwi]; exact ⟨rfl, rfl, rfl⟩))
        | ((with_reducible apply W.draw (hm := mixed)); (case hnd => kernel_rfl); (case hno => exact fun _ _ h => h); (case hB => kernel_rfl); (case hr => simp [T3, T9, T22, T24, T33, T37, T39, hlt', hlt, hcr, hcr', hwi]; rfl))
        | ((with_reducible apply W.cond); (case hc => simp; rfl); all_goals (intro hc_; try (cases hc_; done)))
        | ((with_reducible apply W.runX); (case _hc => rfl); (case h => simp [T3, T9, T22, T24, T33, T37, T39, hlt', hlt, hcr, hcr', hwi]; exact ⟨rfl, rfl, rfl⟩))
        | ((with_reducible apply W.call1 go10); (case ho => rfl); (case hc => rfl); (case hf => rfl); (case hg => first | rfl | simp [T3, T9, T22, T24, T33, T37, T39, hlt', hlt, hcr, hcr', hwi]); (case hd => rfl); (case ha => simp [T3, T9, T22, T24, T33, T37, T39, hlt', hlt, hcr, hcr', hwi]; rfl); (case hargs => rfl); (case hs => exact divided_sc v _ hv64))
        | ((with_reducible apply W.call1 go9); (case ho => rfl); (case hc => rfl); (case hf => rfl); (case hg => first | rfl | simp [T3, T9, T22, T24, T33, T37, T39, hlt', hlt, hcr, hcr', hwi]); (case hd => rfl); (case ha => simp [T3, T9, T22, T24, T33, T37, T39, hlt', hlt, hcr, hcr', hwi]; rfl); (case hargs => rfl); (case hs => exact Itoa_sc (dvF v) _ (dvF_I64 hv64)))
        | ((with_reducible apply W.call1 go8); (case ho => rfl); (case hc => rfl); (case hf => rfl); (case hg => first | rfl | simp [T3, T9, T22, T24, T33, T37, T39, hlt', hlt, hcr, hcr', hwi]); (case hd => rfl); (case ha => simp [T3, T9, T22, T24, T33, T37, T39, hlt', hlt, hcr, hcr', hwi]; rfl); (case hargs => rfl); (case hs => exact words_sc L [Lib.itoa (dvF v)] none (σ.bx.length + 3) (σ.tk.length + 1) p _ hp hqk htk (by simp) (by simp; omega)))
        | fail)
      refine W.hand (k + 1) (by omega) (by omega) ?_ ?_
      · repeat (first | exact Sw.Sub.nil | refine Sw.Sub.cons (by simp) ?_)
      · rw [hstep, ← hσk]
        simp [wordsF]
    · have hlt' : ¬ (k : Int) < c.length := by omega
      obtain rfl : k = c.length := by omega
      have hk0 : ¬ c.length = 0 := by simpa using hc0
      rw [List.take_of_length_le (by omega), if_neg hk0]
      have hne : lineF c ≠ [] := lineF_ne hc0
      have hll := lineF_len hc
      change SW Cc ⟨34, σ.bx.length + 3, σ.tk.length + 1, some l⟩ _ _ _ ⟨σ.bx ++ [[.sl (some σ.tk.length) (strR o)], [sv], [i64 10], [.ptr (σ.bx.length + 3) 0, .sl (some (σ.tk.length + 1)) (bytesR (lineF c))]], σ.tk ++ [(9, o.length), (5, (lineF c).length)]⟩
      repeat' (first
        | with_reducible refine W.seq ?_
        | with_reducible refine W.next ?_
        | with_reducible refine W.nil ?_
        | with_reducible refine W.skip ?_
        | with_reducible refine W.ret ?_
        | with_reducible refine W.ret_code ?_
        | with_reducible refine W.block ?_
        | with_reducible refine W.out ?_
        | with_reducible refine W.ret_blk ?_
        | with_reducible refine W.exit ?_
        | with_reducible refine W.exit_code ?_
        | with_reducible refine W.exit_here ?_
        | with_reducible refine W.leave_exit ?_
        | with_reducible refine W.leave_ret ?_
        | ((with_reducible refine W.exit_on ?h ?_); (case h => decide))
        | ((with_reducible apply W.reg); (case h => simp [T3, T9, T22, T24, T33, T37, T39, hlt']; exact ⟨rfl, rfl, rfl⟩))
        | ((with_reducible apply W.draw (hm := mixed)); (case hnd => kernel_rfl); (case hno => exact fun _ _ h => h); (case hB => kernel_rfl); (case hr => simp [T3, T9, T22, T24, T33, T37, T39, hlt']; rfl))
        | ((with_reducible apply W.cond); (case hc => simp; rfl); all_goals (intro hc_; try (cases hc_; done)))
        | ((with_reducible apply W.runX); (case _hc => rfl); (case h => simp [T3, T9, T22, T24, T33, T37, T39, hlt']; exact ⟨rfl, rfl, rfl⟩))
        | fail)
      with_reducible apply W.heldB (hm := mixed) (b := σ.bx.length+3) (n := 8) (T := [0, 1, 2, 3])
      case hnd => kernel_rfl
      case hno => exact fun _ _ h => h
      case hn => rfl
      have hst : ∀ σs : AS, Agree (hideB ⟨σ.bx ++ [[.sl (some σ.tk.length) (strR o)], [sv], [i64 10], [.ptr (σ.bx.length + 3) 0, .sl (some (σ.tk.length + 1)) (bytesR (lineF c))]], σ.tk ++ [(9, o.length), (5, (lineF c).length)]⟩ (σ.bx.length + 3)) ⟨σ.bx ++ [[.sl (some σ.tk.length) (strR o)], [sv], [i64 10], [.ptr (σ.bx.length + 3) 0, .sl (some (σ.tk.length + 1)) (bytesR (lineF c))]], σ.tk ++ [(9, o.length), (5, (lineF c).length)]⟩ σs →
          SC1 Cc 11 [.pt 39 2 (σ.bx.length + 3) 0] σs (strV (lineF c)) ⟨σs.bx, σ.tk ++ [(9, o.length), (5, (lineF c).length + 1)]⟩ := by
        intro σs ha
        have h1 : σs.bx[σ.bx.length + 3]? = some [.ptr (σ.bx.length + 3) 0, .sl (some (σ.tk.length + 1)) (bytesR (lineF c))] := (ha.hid _ (keep_hideB _ _)).trans (by simp)
        have h2 : σs.tk[σ.tk.length + 1]? = some (5, (lineF c).length) := by rw [ha.tk]; simp
        have h3 := (String_sc (lineF c) (σ.bx.length + 3) (σ.tk.length + 1) _ σs hne h1 h2).wk (ps := [.pt 39 2 (σ.bx.length + 3) 0]) ⟨Wk.pt, trivial⟩
        have h4 : σs.tk.set (σ.tk.length + 1) (5, (lineF c).length + 1) = σ.tk ++ [(9, o.length), (5, (lineF c).length + 1)] := by rw [ha.tk]; simp
        rw [h4] at h3
        exact h3
      have hob : (o.length + 1) * 16 ≤ 140737488355328 := by omega
      with_reducible apply SH.takes [0, 1, 2, 3] 4
      case hfu => rfl
      case hs => kernel_rfl
      case hB => kernel_rfl
      case hQ => first | exact fun _ _ _ h => h | exact fun _ _ _ h => hNP _ _ _ h
      case hs0 => exact Sub0.hideB _ _
      case hr => simp [T3, T9, T24, T33, T37, T39, hob, runTakes, takeOp, effA, effOp, down, down1, hideB, keep]; exact ⟨rfl, rfl⟩
      with_reducible apply SH.one 4
      case hr => kernel_rfl
      with_reducible apply SHo.callX go11
      case hi => rfl
      case ho => rfl
      case hc => rfl
      case hf => rfl
      case hg => first | rfl | simp [T3, T9, T24, T33, T37, T39, hob, runTakes, takeOp, effA, effOp, down, down1, hideB, keep]
      case hd => rfl
      case ha => simp [T3, T9, T24, T33, T37, T39, hob, runTakes, takeOp, effA, effOp, down, down1, hideB, keep]; rfl
      case hargs => rfl
      case hs => exact FSC.tks fun σs ha => hst σs ha
      rintro _ _ ⟨rfl, rfl⟩
      with_reducible apply SH.one 5
      case hr => kernel_rfl
      with_reducible apply SHo.effX
      case hh => exact (Sub0.hideB _ _).hid.mono (by first | (simp; done) | (simp; omega))
      case he => simp [T3, T9, T24, T33, T37, T39, hob, runTakes, takeOp, effA, effOp, down, down1, hideB, keep]; exact ⟨rfl, rfl, rfl⟩
      with_reducible apply SH.one 6
      case hr => kernel_rfl
      with_reducible apply SHo.lastX
      case hnd => kernel_rfl
      case he => simp [T3, T9, T24, T33, T37, T39, hob, runTakes, takeOp, effA, effOp, down, down1, hideB, keep, lastA]; exact ⟨rfl, rfl, rfl⟩
      with_reducible apply SH.one 7
      case hr => kernel_rfl
      with_reducible apply SHo.lastX
      case hnd => kernel_rfl
      case he => simp [T3, T9, T24, T33, T37, T39, hob, runTakes, takeOp, effA, effOp, down, down1, hideB, keep, lastA]; exact ⟨rfl, rfl, rfl⟩
      refine SH.done (by kernel_rfl) ?_
      have hcl1 : ClB (σ.bx.length + 3) (σ.tk.length + 1) (σ.bx ++ [[.sl (some σ.tk.length) (strR (o ++ [lineF c]))], [sv], [i64 10]]) := by
        intro i ps hi hp q hq
        rcases app_cases hp with ⟨h1, h2⟩ | ⟨h1, h2⟩
        · exact (hσ i ps h2 q hq).le (by omega) (by omega)
        · have := List.mem_of_getElem? h2
          simp only [List.mem_cons, List.not_mem_nil, or_false] at this
          rcases this with rfl | rfl | rfl <;> rw [List.mem_singleton] at hq <;> subst hq
          · exact (Cl_sl ..).2 ⟨fun t h => by cases h; omega, strR_cl _ _ _⟩
          · exact hsv.le (by omega) (by omega)
          · exact .val _
      have hsr : strR (o ++ [lineF c]) = strR o ++ [[strV (lineF c)]] := strR_app _ _
      have e1 : σ.bx ++ [[PV.sl (some σ.tk.length) (strR o ++ [[strV (lineF c)]])], [sv], [i64 10], [PV.ptr (σ.bx.length + 3) 0, PV.sl (some (σ.tk.length + 1)) (bytesR (lineF c))]] = (σ.bx ++ [[PV.sl (some σ.tk.length) (strR o ++ [[strV (lineF c)]])], [sv], [i64 10]]) ++ [[PV.ptr (σ.bx.length + 3) 0, PV.sl (some (σ.tk.length + 1)) (bytesR (lineF c))]] := by simp
      rw [hsr] at hcl1 ⊢
      refine ⟨?_, ?_, ?_⟩
      · show List.take (σ.bx.length + 3) (σ.bx ++ [[PV.sl (some σ.tk.length) (strR o ++ [[strV (lineF c)]])], [sv], [i64 10], [PV.ptr (σ.bx.length + 3) 0, PV.sl (some (σ.tk.length + 1)) (bytesR (lineF c))]]) = _
        rw [e1, List.take_append_of_le_length (by simp), List.take_of_length_le (by simp)]
      · simp [List.take_append, List.take_of_length_le]
      · intro i ps hi hp
        refine hcl1 i ps hi ?_
        rw [← hp]
        show _ = (σ.bx ++ [[PV.sl (some σ.tk.length) (strR o ++ [[strV (lineF c)]])], [sv], [i64 10], [PV.ptr (σ.bx.length + 3) 0, PV.sl (some (σ.tk.length + 1)) (bytesR (lineF c))]])[i]?
        rw [e1]
        exact (List.getElem?_append_left (by simp; omega)).symm


end Go.Proofs.YtbnapbegomemeaaDoor

/- The tables that the statements draw: what data.Table gives. -/
import Derived.Test.YtgabnlkkjmepnaaDoorS13
import Derived.Test.YtgabnlkkjmepnaaDoorSwP
import Derived.Test.YtgabnlkkjmepnaaDoorSwQ
import Derived.IntWalk
namespace Go.Proofs.YtgabnlkkjmepnaaDoor
open Go.Sw
set_option linter.unusedSimpArgs false
set_option linter.unusedVariables false
attribute [local simp] runOps stepOp pureOp gd isCall inN setd Sw.get params ev evs binV unV convV loadA cellsPV storeA fieldAddrA fieldOff fieldA partA aggOf extractA indexAddrA indexA lenA minmaxA sliceA bnd partsA buildA placesA fillA buildSliceA zerosA chunkA TyD.agg Value.oneCell' Value.cells runPure appA appendA okRow_nil okRow_cons okRow_append resultA ressA resA List.getElem?_append List.set_append Cl_any Cl_val Cl_ptr Cl_agg Cl_tup Cl_fn Cl_rop Cl_sl Sw.take_set Sw.take_set_app Sw.take_app

attribute [local simp] encI encE encS encT okRow_encE okRow_encS

/-- The entry number k that may be drawn. -/
structure drawnE (k : Nat) (e : Ent) : Prop where
  code : e.code = 100 * k
  element : e.element = k
  least : e.least = leastF k
  scale : 1 ≤ e.scale ∧ e.scale ≤ 10
  width : 8 ≤ e.width ∧ e.width ≤ 20
/-- The table's cells while it is made. -/
def tabB (v : Int) (τ1 τ2 : Nat) (es : List Ent) (rows : List (List PV)) : List PV := [i64 v, .sl (some τ1) (es.map encE), .sl (some τ2) rows]
def zeroT : List PV := [i64 0, .val (.slice none 0 0), .val (.slice none 0 0)]

/-- A sequence while the table is made: its code, and where its codes lie: nowhere, or in a variable, how many, how much room. -/
abbrev Row := Int × Option (Nat × Nat × Nat)
def rowPV : Option (Nat × Nat × Nat) → PV
  | none => .val (.slice none 0 0)
  | some (i, n, c) => .bs 3 i n c
def cnt : Option (Nat × Nat × Nat) → Nat
  | none => 0
  | some (_, n, _) => n
def encR (r : Row) : List PV := [i64 r.1, rowPV r.2]
theorem oneB_rowPV (r : Option (Nat × Nat × Nat)) : oneB (rowPV r) = true := by
  match r with
  | none => rfl
  | some (i, n, c) => rfl
theorem okRow_encR (l : List Row) : okRow 2 (l.map encR) = true := okRow_map (by rintro ⟨c, _ | ⟨i, n, k⟩⟩ <;> exact ⟨rfl, rfl⟩) l
theorem oneB_v (v : Value) : oneB (.val v) = v.oneCell' := rfl
theorem oneB_p (i o : Nat) : oneB (.ptr i o) = true := rfl
theorem oneB_r (c : List PV) (o : Nat) : oneB (.rop c o) = true := rfl
theorem oneB_s (o : Option Nat) (x : List (List PV)) : oneB (.sl o x) = true := rfl
theorem oneB_b (E : TypeId) (i n c : Nat) : oneB (.bs E i n c) = true := rfl
attribute [local simp] oneB_rowPV oneB_v oneB_p oneB_r oneB_s oneB_b
/-- Variable i holds the codes of a row, each of them one that g allows; i lies between lo and hi. -/
def RowOK (g : Int → Prop) (lo hi : Nat) (B : List (List PV)) : Option (Nat × Nat × Nat) → Prop
  | none => True
  | some (i, n, c) => lo ≤ i ∧ i < hi ∧ n ≤ 3 ∧ ∃ (xs : List Int) (junk : List PV), B[i]? = some (xs.map i64 ++ junk) ∧ xs.length = n ∧ (xs.map i64 ++ junk).length = c ∧ ∀ x ∈ xs, g x
theorem RowOK.of_get {g : Int → Prop} {lo hi hi' : Nat} {B B' : List (List PV)} {r : Option (Nat × Nat × Nat)} (h : RowOK g lo hi B r) (hh : hi ≤ hi') (hB : ∀ i, lo ≤ i → i < hi → B'[i]? = B[i]?) : RowOK g lo hi' B' r := by
  match r, h with
  | none, _ => trivial
  | some (i, n, c), ⟨h1, h2, h3, xs, junk, h4, h5⟩ => exact ⟨h1, by omega, h3, xs, junk, (hB i h1 h2).trans h4, h5⟩
theorem RowOK.lo {g : Int → Prop} {lo lo' hi : Nat} {B : List (List PV)} {r : Option (Nat × Nat × Nat)} (h : RowOK g lo hi B r) (hl : lo' ≤ lo) : RowOK g lo' hi B r := by
  match r, h with
  | none, _ => trivial
  | some (i, n, c), ⟨h1, h2, h3, h4⟩ => exact ⟨by omega, h2, h3, h4⟩
theorem RowOK.store {g : Int → Prop} (hg : g 100) {lo hi : Nat} {B : List (List PV)} {r : Option (Nat × Nat × Nat)} (h : RowOK g lo hi B r) {i k : Nat} {qs : List PV} (hq : B[i]? = some qs) (hk : k < qs.length) : RowOK g lo hi (B.set i (qs.set k (i64 100))) r := by
  match r, h with
  | none, _ => trivial
  | some (j, n, c), ⟨h1, h2, h3, xs, junk, h4, h5, h6, h7⟩ =>
    by_cases hj : j = i
    · subst hj
      have e : qs = xs.map i64 ++ junk := by rw [hq] at h4; exact Option.some.inj h4
      subst e
      have hl := (List.getElem?_eq_some_iff.1 hq).1
      by_cases hk2 : k < xs.length
      · refine ⟨h1, h2, h3, xs.set k 100, junk, ?_, by simpa using h5, by simpa using h6, fun x hx => ?_⟩
        · rw [List.getElem?_set_self hl, List.set_append_left _ _ (by simpa using hk2)]
          simp [List.map_set]
        · rcases List.mem_or_eq_of_mem_set hx with hx | hx
          · exact h7 x hx
          · rw [hx]; exact hg
      · refine ⟨h1, h2, h3, xs, junk.set (k - xs.length) (i64 100), ?_, h5, by simpa using h6, h7⟩
        rw [List.getElem?_set_self hl, List.set_append_right _ _ (by simp; omega)]
        simp
    · exact ⟨h1, h2, h3, xs, junk, by rw [List.getElem?_set_ne (fun e => hj e.symm)]; exact h4, h5, h6, h7⟩
/-- A code of a table that is given out. -/
def good (c : Int) : Prop := -1 ≤ c ∧ c ≤ 30000 ∧ kindF c ≠ 0
/-- The variables while the sequences are made. -/
structure TB (σ : AS) (b : Nat) (L : List Int) (tab : List PV) (B : List (List PV)) : Prop where
  len : σ.bx.length + 2 ≤ B.length
  src : ∃ a, a ≤ L.length ∧ B[b]? = some (srcB L a)
  oth : ∀ j, j < σ.bx.length → j ≠ b → B[j]? = σ.bx[j]?
  res : B[σ.bx.length]? = some zeroT
  tab : B[σ.bx.length + 1]? = some tab
theorem TB.setsrc {σ : AS} {b : Nat} {L : List Int} {tab : List PV} {B : List (List PV)} (h : TB σ b L tab B) (hb : b < σ.bx.length) {a : Nat} (ha : a ≤ L.length) : TB σ b L tab (B.set b (srcB L a)) where
  len := by simpa using h.len
  src := ⟨a, ha, by have := h.len; rw [List.getElem?_set_self (by omega)]⟩
  oth := fun j hj hne => by rw [List.getElem?_set_ne (Ne.symm hne)]; exact h.oth j hj hne
  res := by rw [List.getElem?_set_ne (by omega)]; exact h.res
  tab := by rw [List.getElem?_set_ne (by omega)]; exact h.tab
theorem TB.push {σ : AS} {b : Nat} {L : List Int} {tab : List PV} {B : List (List PV)} (h : TB σ b L tab B) (hb : b < σ.bx.length) (x : List (List PV)) : TB σ b L tab (B ++ x) where
  len := by have := h.len; simp; omega
  src := let ⟨a, h1, h2⟩ := h.src; ⟨a, h1, get_app_of h2 _⟩
  oth := fun j hj hne => by have := h.len; rw [List.getElem?_append_left (by omega)]; exact h.oth j hj hne
  res := get_app_of h.res _
  tab := get_app_of h.tab _
theorem TB.setnew {σ : AS} {b : Nat} {L : List Int} {tab : List PV} {B : List (List PV)} (h : TB σ b L tab B) (hb : b < σ.bx.length) {q : Nat} (hq : σ.bx.length + 2 ≤ q) (x : List PV) : TB σ b L tab (B.set q x) where
  len := by simpa using h.len
  src := let ⟨a, h1, h2⟩ := h.src; ⟨a, h1, by rw [List.getElem?_set_ne (by omega)]; exact h2⟩
  oth := fun j hj hne => by rw [List.getElem?_set_ne (by omega)]; exact h.oth j hj hne
  res := by rw [List.getElem?_set_ne (by omega)]; exact h.res
  tab := by rw [List.getElem?_set_ne (by omega)]; exact h.tab
theorem TB.settab {σ : AS} {b : Nat} {L : List Int} {tab tab' : List PV} {B : List (List PV)} (h : TB σ b L tab B) (hb : b < σ.bx.length) : TB σ b L tab' (B.set (σ.bx.length + 1) tab') where
  len := by simpa using h.len
  src := let ⟨a, h1, h2⟩ := h.src; ⟨a, h1, by rw [List.getElem?_set_ne (by omega)]; exact h2⟩
  oth := fun j hj hne => by rw [List.getElem?_set_ne (by omega)]; exact h.oth j hj hne
  res := by rw [List.getElem?_set_ne (by omega)]; exact h.res
  tab := by have := h.len; rw [List.getElem?_set_self (by omega)]

theorem Nx_fsc {f : FuncId} {args : List PV} {σh σ : AS} {b : Nat} {L : List Int} {a : Nat} {φ : Int → Prop} (hk : keep σh b = false) (hx : σ.bx[b]? = some (srcB L a)) (h : ∀ σs : AS, σs.bx[b]? = some (srcB L a) → SC Cc f args σs (Nx b L σs φ)) : FSC Cc f args σh σ (Nx b L σ φ) :=
  FSC.box (R := fun r y => ∃ (v : Int) (a' : Nat), φ v ∧ a' ≤ L.length ∧ r = i64 v ∧ y = srcB L a') hk hx (fun σs h1 => (h σs h1).mono fun r σ' ⟨v, a', p1, p2, p3, p4⟩ => ⟨_, ⟨v, a', p1, p2, p3, rfl⟩, p4⟩) (fun r y ⟨v, a', p1, p2, p3, p4⟩ => ⟨v, a', p1, p2, p3, by rw [p4]⟩)
theorem take_two {α : Type} (l r : List α) (x y : α) : (l ++ x :: y :: r).take (l.length + 2) = l ++ [x, y] := by
  rw [List.take_append, List.take_of_length_le (by omega)]; simp
theorem take_set2 {α : Type} (l r : List α) (b : Nat) (z x y : α) : (l.set b z ++ x :: y :: r).take (l.length + 2) = l.set b z ++ [x, y] := by
  have := take_two (l.set b z) r x y
  simpa using this
theorem set_set_app {α : Type} {l : List α} {b : Nat} (hb : b < l.length) {x y : α} {r : List α} : ((l.set b x) ++ r).set b y = l.set b y ++ r := by
  rw [List.set_append_left _ _ (by simpa using hb), List.set_set]
noncomputable def c9 : Code := Tryd.f9.body.getD .skip

/-- The codes of one sequence are drawn. -/
theorem codes1_sw (n m : Nat) (σ : AS) (b : Nat) (L : List Int) (tab : List PV) (hbl : b < σ.bx.length) (hL : L.length ≤ 2000) (rows : List Row) (tk : List (TypeId × Nat)) (q0 : Nat) (code w3 i : Int) (B1 : List (List PV))
    (hw3 : 0 ≤ w3 ∧ w3 ≤ 3) (hT1 : TB σ b L tab B1) (hq0 : σ.bx.length + 2 ≤ q0) (hlen : q0 < B1.length) (hrow : B1[q0]? = some [i64 code, rowPV none]) (hrows : ∀ r ∈ rows, RowOK drawn (σ.bx.length + 2) q0 B1 r.2) (Q : Post) (kk : List KI) (hNP : NoPanic (Cont Cc ⟨134, n, m⟩ Q kk)) :
    SW Cc ⟨134, n, m⟩ (cAt [2, 2, 2, 1, 2, 3, 4, 2, 1, 3, 2, 1, 2, 3] c9) (Cont Cc ⟨134, n, m⟩ (thenP (MidP (fun x : Option (Nat × Nat × Nat) × List (List PV) => [(0, .ptr b 0), (4, .ptr σ.bx.length 0), (5, .ptr (σ.bx.length + 1) 0), (10, i64 i), (11, .ptr q0 0)]) (fun x => ⟨x.2, tk⟩)
      (fun x => TB σ b L tab x.2 ∧ q0 < x.2.length ∧ x.2[q0]? = some [i64 code, rowPV x.1] ∧ (∀ r ∈ rows, RowOK drawn (σ.bx.length + 2) q0 x.2 r.2) ∧ RowOK drawn (q0 + 1) x.2.length x.2 x.1)) (Cont Cc ⟨134, n, m⟩ Q kk)) [.blk 5])
      [(0, .ptr b 0), (4, .ptr σ.bx.length 0), (5, .ptr (σ.bx.length + 1) 0), (10, i64 i), (11, .ptr q0 0), (12, i64 w3)] ⟨B1, tk⟩ := by
  change SW Cc ⟨134, n, m⟩ (Code.loop _) _ _ _
  with_reducible refine W.loopS (α := Int × Option (Nat × Nat × Nat) × List (List PV)) (fun x => [(0, .ptr b 0), (4, .ptr σ.bx.length 0), (5, .ptr (σ.bx.length + 1) 0), (10, i64 i), (11, .ptr q0 0), (12, i64 x.1)]) (fun x => ⟨x.2.2, tk⟩) (fun x => 0 ≤ x.1 ∧ (cnt x.2.1 : Int) + x.1 ≤ 3 ∧ TB σ b L tab x.2.2 ∧ q0 < x.2.2.length ∧ x.2.2[q0]? = some [i64 code, rowPV x.2.1] ∧ (∀ r ∈ rows, RowOK drawn (σ.bx.length + 2) q0 x.2.2 r.2) ∧ RowOK drawn (q0 + 1) x.2.2.length x.2.2 x.2.1) (fun x => x.1.toNat) (w3, none, B1) ?_ ?_ ?_ ?_
  · exact ⟨hw3.1, by simp [cnt]; omega, hT1, hlen, hrow, hrows, trivial⟩
  · repeat (first | exact Sw.Sub.nil | refine Sw.Sub.cons (by simp) ?_)
  · rfl
  · rintro ⟨k, cur, B'⟩ ⟨f1, f2, f3, f4, f5, f6, f7⟩
    dsimp only at f1 f2 f3 f4 f5 f6 f7 ⊢
    obtain ⟨a4, ha4, hsB'⟩ := f3.src
    by_cases hk : 0 < k
    · have hwk : IntKind.i64.wrap (k - 1) = k - 1 := wrap64 (by omega)
      repeat' (first
        | with_reducible refine W.seq ?_
        | with_reducible refine W.next ?_
        | with_reducible refine W.nil ?_
        | with_reducible refine W.skip ?_
        | with_reducible refine W.ret ?_
        | with_reducible refine W.ret_code ?_
        | with_reducible refine W.block ?_
        | with_reducible refine W.out ?_
        | with_reducible refine W.ret_blk ?_
        | with_reducible refine W.exit ?_
        | with_reducible refine W.exit_code ?_
        | with_reducible refine W.exit_here ?_
        | with_reducible refine W.leave_exit ?_
        | with_reducible refine W.leave_ret ?_
        | ((with_reducible refine W.exit_on ?h ?_); (case h => decide))
        | ((with_reducible apply W.reg); (case h => simp [T3, T24, T27, T28, T30, T49, hk, f5, hwk]; exact ⟨rfl, rfl, rfl⟩))
        | ((with_reducible apply W.draw mixed); (case hB => kernel_rfl); (case hr => simp [T3, T24, T27, T28, T30, T49, hk, f5, hwk]; rfl))
        | ((with_reducible apply W.cond); (case hc => simp; rfl); all_goals (intro hc_; try (cases hc_; done)))
        | ((with_reducible apply W.runX); (case _hc => rfl); (case h => simp [T3, T24, T27, T28, T30, T49, hk, f5, hwk]; exact ⟨rfl, rfl, rfl⟩))
        | fail)
      have hqb : q0 ≠ b := by omega
      have f5' : ∀ z, (B'.set b z)[q0]? = some [i64 code, rowPV cur] := fun z => by rw [List.getElem?_set_ne (by omega)]; exact f5
      with_reducible apply W.heldB mixed (b) 8 [0, 1, 2]
      case hn => rfl
      with_reducible apply SH.takes [0, 1, 2] 5
      case hfu => rfl
      case hs => kernel_rfl
      case hB => kernel_rfl
      case hQ => first | exact fun _ _ _ h => h | exact fun _ _ _ h => hNP _ _ _ h
      case hs0 => exact Sub0.hideB _ _
      case hr => simp [T3, T24, T49, f5, f5', hqb, runTakes, takeOp, effA, effOp, down, down1, hideB, keep]; exact ⟨rfl, rfl⟩
      with_reducible apply SH.one 3
      case hr => kernel_rfl
      with_reducible apply SHo.callX go31
      case hi => rfl
      case ho => rfl
      case hc => rfl
      case hf => rfl
      case hg => first | rfl | simp [T3, T24, T49, f5, f5', hqb, runTakes, takeOp, effA, effOp, down, down1, hideB, keep]
      case hd => rfl
      case ha => simp [T3, T24, T49, f5, f5', hqb, runTakes, takeOp, effA, effOp, down, down1, hideB, keep]; rfl
      case hargs => rfl
      case hs => exact Nx_fsc (keep_hideB _ _) hsB' (fun σs h => Code_sc b L a4 σs h ha4 hL)
      rintro _ _ ⟨x, a5, hx, ha5, rfl, rfl⟩
      with_reducible apply SH.one 4
      case hr => kernel_rfl
      with_reducible apply SHo.effX
      case hh => exact (Sub0.hideB _ _).hid.mono (by simp)
      case he => simp [T3, T24, T49, f5, f5', hqb, runTakes, takeOp, effA, effOp, down, down1, hideB, keep]; exact ⟨rfl, rfl, rfl⟩
      with_reducible apply SH.one 5
      case hr => kernel_rfl
      have hx64 : True := trivial
      cases cur with
      | none =>
        refine SHo.effRLast rfl rfl rfl (by kernel_rfl) (eff_appR (old := none) (qs := []) (n := 0) (x := i64 x) (own := none) rfl rfl rfl rfl T24 rfl T3 rfl (by decide) (by decide) (.inl ⟨rfl, rfl, rfl, by simp [rowPV]⟩) (by simp) rfl) ?_
        rintro p σ' (⟨_, _, h, _⟩ | ⟨cc, hcc, rfl, rfl⟩)
        · cases h
        have f5a : ∀ z r, (B'.set b z ++ r)[q0]? = some [i64 code, .val (.slice none 0 0)] := fun z r => get_app_of (f5' z) r
        with_reducible apply SH.one 6
        case hr => kernel_rfl
        with_reducible apply SHo.lastX
        case hnd => kernel_rfl
        case he => simp [T3, T24, T49, f5a, rowPV, runTakes, takeOp, effA, effOp, down, down1, hideB, keep, lastA]; exact ⟨rfl, rfl, rfl⟩
        with_reducible apply SH.one 7
        case hr => kernel_rfl
        with_reducible apply SHo.lastX
        case hnd => kernel_rfl
        case he => simp [T3, T24, T49, f5a, rowPV, runTakes, takeOp, effA, effOp, down, down1, hideB, keep, lastA]; exact ⟨rfl, rfl, rfl⟩
        refine SH.done (by kernel_rfl) ?_
        repeat' (first
          | with_reducible refine W.seq ?_
          | with_reducible refine W.next ?_
          | with_reducible refine W.nil ?_
          | with_reducible refine W.skip ?_
          | with_reducible refine W.ret ?_
          | with_reducible refine W.ret_code ?_
          | with_reducible refine W.block ?_
          | with_reducible refine W.out ?_
          | with_reducible refine W.ret_blk ?_
          | with_reducible refine W.exit ?_
          | with_reducible refine W.exit_code ?_
          | with_reducible refine W.exit_here ?_
          | with_reducible refine W.leave_exit ?_
          | with_reducible refine W.leave_ret ?_
          | ((with_reducible refine W.exit_on ?h ?_); (case h => decide))
          | ((with_reducible apply W.reg); (case h => simp [T3, T24, T27, T28, T30, T49, hwk]; exact ⟨rfl, rfl, rfl⟩))
          | ((with_reducible apply W.draw mixed); (case hB => kernel_rfl); (case hr => simp [T3, T24, T27, T28, T30, T49, hwk]; rfl))
          | ((with_reducible apply W.cond); (case hc => simp; rfl); all_goals (intro hc_; try (cases hc_; done)))
          | ((with_reducible apply W.runX); (case _hc => rfl); (case h => simp [T3, T24, T27, T28, T30, T49, hwk]; exact ⟨rfl, rfl, rfl⟩))
          | fail)
        refine W.hand (k - 1, some (B'.length, 1, cc), ((B'.set b (srcB L a5) ++ [i64 x :: List.replicate (cc - 0 - 1) .any]).set q0 [i64 code, .bs 3 B'.length 1 cc])) ?_ (by dsimp only; omega) ?_ ?_
        · have hlen5 : (B'.set b (srcB L a5)).length = B'.length := List.length_set ..
          refine ⟨by dsimp only; omega, by simp [cnt]; simp [cnt] at f2; omega, ((f3.setsrc hbl ha5).push hbl _).setnew hbl (by omega) _, by dsimp only; rw [List.length_set, List.length_append, hlen5]; simp; omega, ?_, fun r hr => (f6 r hr).of_get (Nat.le_refl _) fun i h1 h2 => ?_, ?_⟩
          · dsimp only
            rw [List.getElem?_set_self (by simp; omega)]; rfl
          · dsimp only
            rw [List.getElem?_set_ne (by omega), List.getElem?_append_left (by simp; omega), List.getElem?_set_ne (by omega)]
          · refine ⟨by omega, by dsimp only; rw [List.length_set, List.length_append, hlen5]; simp, by omega, [x], List.replicate (cc - 0 - 1) .any, ?_, rfl, by simp; omega, by simpa using hx⟩
            dsimp only
            rw [List.getElem?_set_ne (by omega), List.getElem?_append_right (by rw [hlen5]; exact Nat.le_refl _), hlen5, Nat.sub_self]
            rfl
        · repeat (first | exact Sw.Sub.nil | refine Sw.Sub.cons (by simp) ?_)
        · simp
      | some q =>
        obtain ⟨i0, n0, c0⟩ := q
        obtain ⟨q1, q2, q3, xs, junk, q4, q5, q6, q7⟩ := f7
        have hq4 : (B'.set b (srcB L a5))[i0]? = some (xs.map i64 ++ junk) := by rw [List.getElem?_set_ne (by omega)]; exact q4
        have hn0 : (n0 + 1) * 8 ≤ 140737488355328 := by omega
        refine SHo.effRLast rfl rfl rfl (by kernel_rfl) (eff_appR (old := some (i0, c0)) (qs := xs.map i64 ++ junk) (n := n0) (x := i64 x) (own := none) rfl rfl rfl rfl T24 rfl T3 rfl (by decide) hn0 (.inr ⟨i0, c0, rfl, hq4, by simp [rowPV]⟩) (by simp) rfl) ?_
        have htk0 : (xs.map i64 ++ junk).take n0 = xs.map i64 := by rw [← q5]; simp
        rintro p σ' (⟨i1, c1, h, hlt1, rfl, rfl⟩ | ⟨cc, hcc, rfl, rfl⟩)
        · cases h
          have f5b : ∀ z y, ((B'.set b z).set i0 y)[q0]? = some [i64 code, .bs 3 i0 n0 c0] := fun z y => by rw [List.getElem?_set_ne (by omega)]; exact f5' z
          with_reducible apply SH.one 6
          case hr => kernel_rfl
          with_reducible apply SHo.lastX
          case hnd => kernel_rfl
          case he => simp [T3, T24, T49, f5b, rowPV, runTakes, takeOp, effA, effOp, down, down1, hideB, keep, lastA]; exact ⟨rfl, rfl, rfl⟩
          with_reducible apply SH.one 7
          case hr => kernel_rfl
          with_reducible apply SHo.lastX
          case hnd => kernel_rfl
          case he => simp [T3, T24, T49, f5b, rowPV, runTakes, takeOp, effA, effOp, down, down1, hideB, keep, lastA]; exact ⟨rfl, rfl, rfl⟩
          refine SH.done (by kernel_rfl) ?_
          repeat' (first
            | with_reducible refine W.seq ?_
            | with_reducible refine W.next ?_
            | with_reducible refine W.nil ?_
            | with_reducible refine W.skip ?_
            | with_reducible refine W.ret ?_
            | with_reducible refine W.ret_code ?_
            | with_reducible refine W.block ?_
            | with_reducible refine W.out ?_
            | with_reducible refine W.ret_blk ?_
            | with_reducible refine W.exit ?_
            | with_reducible refine W.exit_code ?_
            | with_reducible refine W.exit_here ?_
            | with_reducible refine W.leave_exit ?_
            | with_reducible refine W.leave_ret ?_
            | ((with_reducible refine W.exit_on ?h ?_); (case h => decide))
            | ((with_reducible apply W.reg); (case h => simp [T3, T24, T27, T28, T30, T49, hwk]; exact ⟨rfl, rfl, rfl⟩))
            | ((with_reducible apply W.draw mixed); (case hB => kernel_rfl); (case hr => simp [T3, T24, T27, T28, T30, T49, hwk]; rfl))
            | ((with_reducible apply W.cond); (case hc => simp; rfl); all_goals (intro hc_; try (cases hc_; done)))
            | ((with_reducible apply W.runX); (case _hc => rfl); (case h => simp [T3, T24, T27, T28, T30, T49, hwk]; exact ⟨rfl, rfl, rfl⟩))
            | fail)
          have hlen5 : (B'.set b (srcB L a5)).length = B'.length := List.length_set ..
          have hn3 : (n0 : Int) + k ≤ 3 := by simpa [cnt] using f2
          refine W.hand (k - 1, some (i0, n0 + 1, c0), (((B'.set b (srcB L a5)).set i0 ((xs.map i64 ++ junk).take n0 ++ [i64 x] ++ List.replicate (c0 - n0 - 1) .any)).set q0 [i64 code, .bs 3 i0 (n0 + 1) c0])) ?_ (by dsimp only; omega) ?_ ?_
          · refine ⟨by dsimp only; omega, by simp [cnt]; omega, ((f3.setsrc hbl ha5).setnew hbl (by omega) _).setnew hbl (by omega) _, by dsimp only; rw [List.length_set, List.length_set, hlen5]; exact f4, ?_, fun r hr => (f6 r hr).of_get (Nat.le_refl _) fun i h1 h2 => ?_, ?_⟩
            · dsimp only
              rw [List.getElem?_set_self (by simp; omega)]; rfl
            · dsimp only
              rw [List.getElem?_set_ne (by omega), List.getElem?_set_ne (by omega), List.getElem?_set_ne (by omega)]
            · refine ⟨by omega, by dsimp only; rw [List.length_set, List.length_set, hlen5]; exact q2, by omega, xs ++ [x], List.replicate (c0 - n0 - 1) .any, ?_, by simp [q5], by simp; omega, ?_⟩
              · dsimp only
                rw [List.getElem?_set_ne (by omega), List.getElem?_set_self (by rw [hlen5]; exact q2), htk0]
                simp
              · intro z hz
                rcases List.mem_append.1 hz with hz | hz
                · exact q7 z hz
                · rw [List.mem_singleton.1 hz]; exact hx
          · repeat (first | exact Sw.Sub.nil | refine Sw.Sub.cons (by simp) ?_)
          · simp
        · have f5a : ∀ z r, (B'.set b z ++ r)[q0]? = some [i64 code, .bs 3 i0 n0 c0] := fun z r => get_app_of (f5' z) r
          with_reducible apply SH.one 6
          case hr => kernel_rfl
          with_reducible apply SHo.lastX
          case hnd => kernel_rfl
          case he => simp [T3, T24, T49, f5a, rowPV, runTakes, takeOp, effA, effOp, down, down1, hideB, keep, lastA]; exact ⟨rfl, rfl, rfl⟩
          with_reducible apply SH.one 7
          case hr => kernel_rfl
          with_reducible apply SHo.lastX
          case hnd => kernel_rfl
          case he => simp [T3, T24, T49, f5a, rowPV, runTakes, takeOp, effA, effOp, down, down1, hideB, keep, lastA]; exact ⟨rfl, rfl, rfl⟩
          refine SH.done (by kernel_rfl) ?_
          repeat' (first
            | with_reducible refine W.seq ?_
            | with_reducible refine W.next ?_
            | with_reducible refine W.nil ?_
            | with_reducible refine W.skip ?_
            | with_reducible refine W.ret ?_
            | with_reducible refine W.ret_code ?_
            | with_reducible refine W.block ?_
            | with_reducible refine W.out ?_
            | with_reducible refine W.ret_blk ?_
            | with_reducible refine W.exit ?_
            | with_reducible refine W.exit_code ?_
            | with_reducible refine W.exit_here ?_
            | with_reducible refine W.leave_exit ?_
            | with_reducible refine W.leave_ret ?_
            | ((with_reducible refine W.exit_on ?h ?_); (case h => decide))
            | ((with_reducible apply W.reg); (case h => simp [T3, T24, T27, T28, T30, T49, hwk]; exact ⟨rfl, rfl, rfl⟩))
            | ((with_reducible apply W.draw mixed); (case hB => kernel_rfl); (case hr => simp [T3, T24, T27, T28, T30, T49, hwk]; rfl))
            | ((with_reducible apply W.cond); (case hc => simp; rfl); all_goals (intro hc_; try (cases hc_; done)))
            | ((with_reducible apply W.runX); (case _hc => rfl); (case h => simp [T3, T24, T27, T28, T30, T49, hwk]; exact ⟨rfl, rfl, rfl⟩))
            | fail)
          have hlen5 : (B'.set b (srcB L a5)).length = B'.length := List.length_set ..
          have hn3 : (n0 : Int) + k ≤ 3 := by simpa [cnt] using f2
          refine W.hand (k - 1, some (B'.length, n0 + 1, cc), ((B'.set b (srcB L a5) ++ [(xs.map i64 ++ junk).take n0 ++ [i64 x] ++ List.replicate (cc - n0 - 1) PV.any]).set q0 [i64 code, .bs 3 B'.length (n0 + 1) cc])) ?_ (by dsimp only; omega) ?_ ?_
          · refine ⟨by dsimp only; omega, by simp [cnt]; omega, ((f3.setsrc hbl ha5).push hbl _).setnew hbl (by omega) _, by dsimp only; rw [List.length_set, List.length_append, hlen5]; simp; omega, ?_, fun r hr => (f6 r hr).of_get (Nat.le_refl _) fun i h1 h2 => ?_, ?_⟩
            · dsimp only
              rw [List.getElem?_set_self (by simp; omega)]; rfl
            · dsimp only
              rw [List.getElem?_set_ne (by omega), List.getElem?_append_left (by simp; omega), List.getElem?_set_ne (by omega)]
            · refine ⟨by omega, by dsimp only; rw [List.length_set, List.length_append, hlen5]; simp, by omega, xs ++ [x], List.replicate (cc - n0 - 1) .any, ?_, by simp [q5], by simp; omega, ?_⟩
              · dsimp only
                rw [List.getElem?_set_ne (by omega), List.getElem?_append_right (by rw [hlen5]; exact Nat.le_refl _), hlen5, Nat.sub_self, htk0]
                simp
              · intro z hz
                rcases List.mem_append.1 hz with hz | hz
                · exact q7 z hz
                · rw [List.mem_singleton.1 hz]; exact hx
          · repeat (first | exact Sw.Sub.nil | refine Sw.Sub.cons (by simp) ?_)
          · simp
    · repeat' (first
        | with_reducible refine W.seq ?_
        | with_reducible refine W.next ?_
        | with_reducible refine W.nil ?_
        | with_reducible refine W.skip ?_
        | with_reducible refine W.ret ?_
        | with_reducible refine W.ret_code ?_
        | with_reducible refine W.block ?_
        | with_reducible refine W.out ?_
        | with_reducible refine W.ret_blk ?_
        | with_reducible refine W.exit ?_
        | with_reducible refine W.exit_code ?_
        | with_reducible refine W.exit_here ?_
        | with_reducible refine W.leave_exit ?_
        | with_reducible refine W.leave_ret ?_
        | ((with_reducible refine W.exit_on ?h ?_); (case h => decide))
        | ((with_reducible apply W.reg); (case h => simp [T3, T24, T27, T28, T30, T49, hk]; exact ⟨rfl, rfl, rfl⟩))
        | ((with_reducible apply W.draw mixed); (case hB => kernel_rfl); (case hr => simp [T3, T24, T27, T28, T30, T49, hk]; rfl))
        | ((with_reducible apply W.cond); (case hc => simp; rfl); all_goals (intro hc_; try (cases hc_; done)))
        | ((with_reducible apply W.runX); (case _hc => rfl); (case h => simp [T3, T24, T27, T28, T30, T49, hk]; exact ⟨rfl, rfl, rfl⟩))
        | fail)
      refine W.mid (cur, B') ⟨f3, f4, f5, f6, f7⟩ ?_ rfl
      repeat (first | exact Sw.Sub.nil | refine Sw.Sub.cons (by simp) ?_)


end Go.Proofs.YtgabnlkkjmepnaaDoor

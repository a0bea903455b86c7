/- The logic Sw: what is no cells turns; rows that are made; a range over a function, for any program. -/
import Derived.Test.YtbnapbegomemeaaDoorSwP
import Derived.RangeFuncFrom
import Derived.RangeFuncLeaves
import Derived.Laws.MakeOwn
namespace Go.Sw
open Go.RowKit

section
variable {C : Cx} {w0 : World} {base : Nat} {σ : AS} {s : S}

/-- A block that is no cells turns; new blocks. -/
theorem Mono0.turn {P : Program} {s : S} {W' : World} {row : Option Nat} (hg : s.w.grownBy W' row) (hr : ∀ r, row = some r → ∃ o : Obj, s.w.heap[r]? = some o ∧ o.isCells = false) : Mono0 P s ⟨s.g, s.tk, W'⟩ where
  heap := hg.size
  bx := fun _ _ h => h
  st := fun b hi' h => ⟨Nat.lt_of_lt_of_le h.1 hg.size, h.2.1, h.2.2⟩
  cell := fun b hi' o v _ _ hv => cell_kept hv hg hr
  own := fun t E m ht => ⟨m, ht, Nat.le_refl _, fun _ => ⟨rfl, fun b cs T fr _ hc => grownBy_keeps_cells hg hr hc rfl⟩⟩
  obj := fun i b cs T _ hc => ⟨cs, (grownBy_keeps_cells hg hr hc rfl).trans hc, rfl⟩

theorem Inv.turn (hi : Inv C w0 base σ s) {W' : World} {row : Option Nat} (hg : s.w.grownBy W' row) (hb : ∀ r, row = some r → base ≤ r) (hr : ∀ r, row = some r → ∃ o : Obj, s.w.heap[r]? = some o ∧ o.isCells = false) : Inv C w0 base σ ⟨s.g, s.tk, W'⟩ := by
  have hm : Mono0 C.P s ⟨s.g, s.tk, W'⟩ := Mono0.turn hg hr
  refine ⟨hi.tk, hi.gx, hi.below.grown hg hi.basele hb, Nat.le_trans hi.basele hg.size, hi.lbx, hi.lrw, hi.bxinj, hi.rwinj, hi.apart, fun b h => ⟨(hi.rngb b h).1, Nat.lt_of_lt_of_le (hi.rngb b h).2 hg.size⟩, fun i b h => ⟨(hi.rngr i b h).1, Nat.lt_of_lt_of_le (hi.rngr i b h).2 hg.size⟩, fun i b ps h1 h2 => ?_, fun k p hp => (hi.glob k p hp).mono0 hm⟩
  obtain ⟨cs, T, g1, g2, g3⟩ := hi.box i b ps h1 h2
  exact ⟨cs, T, (grownBy_keeps_cells hg hr g1 rfl).trans g1, g2, fun j p v hj hv => (g3 j p v hj hv).mono0 hm⟩

/-- The same of a frame with calls that wait. -/
theorem Inv.at_dl (hi : Inv C w0 base σ s) (dl : List Deferred) : Inv { C with dl := dl } w0 base σ s :=
  ⟨hi.tk, hi.gx, hi.below, hi.basele, hi.lbx, hi.lrw, hi.bxinj, hi.rwinj, hi.apart, hi.rngb, hi.rngr, hi.box, hi.glob⟩
theorem Inv.of_dl {dl : List Deferred} (hi : Inv { C with dl := dl } w0 base σ s) : Inv C w0 base σ s :=
  ⟨hi.tk, hi.gx, hi.below, hi.basele, hi.lbx, hi.lrw, hi.bxinj, hi.rwinj, hi.apart, hi.rngb, hi.rngr, hi.box, hi.glob⟩

/-- A row that is made: elements of one cell. -/
theorem eff_makeSlice {N : Nat} {o : Oper} {pf : PF} {t e : TypeId} {x y : Operand} {k1 k2 : IntKind} {n : Nat} {ty z : TyI} (ho : o.op = .makeSlice t x y) (hx : ev C.GE pf x = some (.val (.int k1 n))) (hy : ev C.GE pf y = some (.val (.int k2 n)))
    (ht : C.T t = some ty) (hd : ty.d = .slice e) (hz : C.T e = some z) (hs : z.size = 1) (hzc : z.zero.cells = #[z.zero]) (hb : z.bytes * n ≤ 281474976710656) (hn : n ≤ maxLen) :
    Eff C N o pf σ (.sl none (List.replicate n [.val z.zero])) σ := by
  intro w0 base s a hi hr
  obtain ⟨i, h1, h2, h3, h4⟩ := info hz
  have hxv : a.eval x = .int k1 n := (ev_ok hi hr hx).val_eq
  have hyv : a.eval y = .int k2 n := (ev_ok hi hr hy).val_eq
  have hrun := run_make (P := C.P) s.w t e i z.zero (und_slice ht hd) h1 h2 k1 k2 n n (by omega) (Int.le_refl _) (by rw [h4, ← Int.natCast_mul]; omega) (by simp only [maxLen] at hn; omega)
  rw [Int.toNat_natCast] at hrun
  have hsz : i.size = 1 := by rw [h3, hs]
  rw [hsz, Nat.mul_one] at hrun
  have hmc : ∀ j, j < n → (madeCells z.zero.cells n)[j]? = some z.zero := fun j hj => by simp [madeCells, hzc, hj, Nat.mod_one]
  have hold : ∀ k, k < s.w.heap.size → (s.w.alloc (.cells (madeCells z.zero.cells n) e)).heap[k]? = s.w.heap[k]? := fun k hk => allocOld _ _ k hk
  obtain ⟨k1', k2'⟩ := hi.old (w' := s.w.alloc (.cells (madeCells z.zero.cells n) e)) (by simp) hold (hi.below.alloc hi.basele _)
  have hex : (execOp a.eval o).run C.P s.w = .ok (.value (.slice (some ⟨s.w.heap.size, 0, none⟩) n n)) (s.w.alloc (.cells (madeCells z.zero.cells n) e)) := by
    simp only [execOp, ho, hxv, hyv, Sem.run_bind, hrun, Result.andThen_ok, Sem.run_pure]
  refine ⟨.slice (some ⟨s.w.heap.size, 0, none⟩) n n, ⟨s.g, s.tk, s.w.alloc (.cells (madeCells z.zero.cells n) e)⟩, .inl hex, ?_, k1', k2'⟩
  have hl : (List.replicate n [PV.val z.zero]).length = n := by simp
  have key := Rep.sl (P := C.P) (s := ⟨s.g, s.tk, s.w.alloc (.cells (madeCells z.zero.cells n) e)⟩) none (List.replicate n [.val z.zero]) 1 s.w.heap.size 0 n (some ⟨s.w.heap.size, 0, none⟩) (fun _ _ => z.zero) (by simp) hn (fun _ => rfl) (fun x hx => by rw [List.mem_replicate] at hx; rw [hx.2]; rfl) (fun _ => ?_) (fun i' j hi' hj => ?_) (fun i' j x p hx hp => ?_) trivial
  · rw [hl] at key
    simpa using key
  · refine ⟨by simp, fun hb => ?_, fun t E m ht hm => ?_⟩
    · have := (hi.rngb _ hb).2; omega
    · have := (hi.rngr t _ ht).2; omega
  · rw [hl] at hi'
    have hj0 : j = 0 := by omega
    subst hj0
    unfold World.cell?
    rw [heap_alloc_new s.w]
    simpa using hmc i' hi'
  · rw [List.getElem?_replicate] at hx
    split at hx
    · cases hx
      cases j with
      | zero => simp at hp; subst hp; exact .val _
      | succ j => simp at hp
    · cases hx

theorem W.makeL {F : Fx} {Q : Post} {pf : PF} {ops : Array Oper} {k : List KI} {o : Oper} {rest : List Oper} {t e : TypeId} {x y : Operand} {k1 k2 : IntKind} {n : Nat} {ty z : TyI} (ho : o.op = .makeSlice t x y) (hg : gd ops o pf = some true) (hdn : inN F.N o.dst = true) (hx : ev C.GE pf x = some (.val (.int k1 n))) (hy : ev C.GE pf y = some (.val (.int k2 n)))
    (ht : C.T t = some ty) (hd : ty.d = .slice e) (hz : C.T e = some z) (hs : z.size = 1) (hzc : z.zero.cells = #[z.zero]) (hb : z.bytes * n ≤ 281474976710656) (hn : n ≤ maxLen)
    (h : SL C F ops rest (Cont C F Q k) (setd pf o.dst (.sl none (List.replicate n [.val z.zero]))) σ) : SL C F ops (o :: rest) (Cont C F Q k) pf σ :=
  SL.guarded hg (SL.eff (o := { o with guard := none }) rfl hdn (eff_makeSlice ho hx hy ht hd hz hs hzc hb hn) h)

/-! ### A range over a function -/
/-- How a round may be left: off its end, the objects as σ1 says, what it has made forgotten. -/
def RoundP (nn kk : Nat) (σ1 : AS) : Post
  | .normal, _, σ' => σ'.bx.take nn = σ1.bx ∧ σ'.tk.take kk = σ1.tk ∧ ∀ (i : Nat) (ps : List PV), i < nn → σ'.bx[i]? = some ps → ∀ p ∈ ps, Cl nn kk p
  | _, _, _ => False

/-- Whatever is no cells and lies below B is as it was. -/
def KeptO (B : Nat) (w w' : World) : Prop := ∀ (k : Nat) (o : Obj), k < B → w.heap[k]? = some o → o.isCells = false → w'.heap[k]? = some o

theorem rangeF {α : Type} {g : Operand} {p d : Tmp} {id : Nat} {ty : TypeId} {pos : String} {body : Code} {Q : Exit → Act → World → Prop} {N nn kk : Nat} {a : Act} {pf : PF} (ob : List α → AS)
    (hi : Inv C w0 base (ob []) s) (hr : RepF C s N pf a) (hdl : C.dl = []) (hG : ∀ (g : Nat) (p : PV), C.GE g = some p → Cl 0 0 p)
    {gf : Nat} {lb : Array Value} (hg : a.eval g = .func (.func gf) #[] lb) (eg : ∀ args w, (callFunc gf args).run C.P w = .ok (.enter gf args) w)
    {enc : α → Value} {ep : α → PV} (hep : ∀ x, Rep C.P s (ep x) (enc x))
    {Kp : World → World → Prop} {S Sp : List α → Prop} {cnt : Nat} (hseq : SeqStopsK Fence.wide 1 C.P gf lb (fun x => #[enc x]) Kp S Sp cnt s.w)
    (hKt : ∀ {A B D : World}, Kp A B → Kp B D → Kp A D) (hKb : ∀ (W : World) (l : Nat) (o o' : Obj), s.w.heap.size ≤ l → W.heap[l]? = some o → o.isCells = false → o.isWalk = false → Kp W (W.putObj l o'))
    (hKp : ∀ (pre : List α) (x : α) (s1 s2 : Sw.S), Mono0 C.P s s1 → Inv C w0 base (ob pre) s1 → Inv C w0 base (ob (pre ++ [x])) s2 → Mono C.P s1 s2 → Kp s1.w s2.w)
    (hob : ∀ pre, (ob pre).bx.length = nn ∧ (ob pre).tk.length = kk) (hp : p < N) (hd : d < N)
    (round : ∀ (l : Nat) (pre : List α) (x : α), pre.length < cnt → SW C ⟨N, nn, kk, some l⟩ body (RoundP nn kk (ob (pre ++ [x]))) ((d, ep x) :: (p, ep x) :: pf) (ob pre))
    (done : ∀ (D : Nat) (xs : List α) (s' : Sw.S), S xs → s.w.heap.size ≤ D → Inv C w0 base (ob xs) s' → Mono C.P s s' → s'.w.heap[D]? = some (.deferred (some [])) → Q .normal { a with defers := { target := .collected D, args := #[] } :: a.defers } s'.w) :
    (Code.rangeFunc g #[p] (.region id #[{ dst := some d, op := .assign (.tmp p), type := ty, pos := pos, after := #[], guard := none }] false) body).wpIn Fence.wide 2 C.P Q a s.w := by
  have hIO : OwnFrom s.w.heap.size (fun (pre : List α) W => ∃ s' : Sw.S, s'.w = W ∧ Inv C w0 base (ob pre) s' ∧ Mono0 C.P s s' ∧ KeptO s.w.heap.size s.w s'.w) := by
    rintro pre W W' row ⟨s', rfl, h1, h2, h3⟩ hgr hrow
    refine ⟨⟨s'.g, s'.tk, W'⟩, rfl, h1.turn hgr (fun r e => Nat.le_trans hi.basele (hrow r e).1) (fun r e => (hrow r e).2), h2.trans (Mono0.turn hgr fun r e => (hrow r e).2), fun k o hk hko hc => ?_⟩
    have h4 := h3 k o hk hko hc
    exact (hgr.block k (Array.getElem?_eq_some_iff.1 h4).1 (fun e => by have := (hrow k e.symm).1; omega)).trans h4
  have hsz : ∀ (x : α), ((#[p].zip #[enc x]).foldl (fun t (q : Tmp × Value) => t.setIfInBounds q.1 q.2) a.tmps) = a.tmps.setIfInBounds p (enc x) := fun x => by simp [Array.zip]
  refine wpIn_rangeFunc_ownF (F := Fence.wide) (n := 2) rfl (by omega) hg trivial eg hseq hKt hKb (Below.refl _ _) (fun _ => rfl)
    (fun pre W => ∃ s' : Sw.S, s'.w = W ∧ Inv C w0 base (ob pre) s' ∧ Mono0 C.P s s' ∧ KeptO s.w.heap.size s.w s'.w) (fun _ _ _ => False) hIO (fun _ _ _ _ _ h _ _ => h)
    ⟨s, rfl, hi, (Mono.refl _ _).to0, fun _ _ _ h _ => h⟩ (fun x => { tmps := (a.tmps.setIfInBounds p (enc x)).setIfInBounds d (enc x), defers := [] }) ?_ ?_ ?_ ?_
  · intro l x W K hK
    refine wpIn_region_list (wpListIn_plain rfl fun K' hK' => ?_)
    have h1 : ({ tmps := a.tmps.setIfInBounds p (enc x), defers := [] } : Act).eval (.tmp p) = enc x := by
      simp [Act.eval, hr.size, hp]
    refine opIn_value (r := some l) (v := enc x) (w' := W) ?_ (hK' _ _ (wpListIn_nil ?_))
    · show (execOp (Act.eval { tmps := ((#[p].zip #[enc x]).foldl (fun t (q : Tmp × Value) => t.setIfInBounds q.1 q.2) a.tmps), defers := [] }) _).run C.P W = _
      rw [hsz]
      simp only [execOp, h1]
      rfl
    · show K _ _
      have : (Act.put { tmps := ((#[p].zip #[enc x]).foldl (fun t (q : Tmp × Value) => t.setIfInBounds q.1 q.2) a.tmps), defers := [] } (some d) (enc x)) = { tmps := (a.tmps.setIfInBounds p (enc x)).setIfInBounds d (enc x), defers := [] } := by
        rw [hsz]; rfl
      exact this ▸ hK
  · rintro l pre x W ⟨s', rfl, hi', hm', hk'⟩ hlen
    have hF : RepF C s' N ((d, ep x) :: (p, ep x) :: pf) { tmps := (a.tmps.setIfInBounds p (enc x)).setIfInBounds d (enc x), defers := [] } := by
      refine ⟨by simp [hr.size], hdl.symm, fun t q ht => ?_⟩
      simp only [get] at ht
      split at ht
      · rename_i e; cases ht; subst e
        exact ⟨enc x, by simp [hr.size, hd], (hep x).mono0 hm'⟩
      · rename_i e1
        split at ht
        · rename_i e; cases ht; subst e
          exact ⟨enc x, by simp [Array.getElem?_setIfInBounds, e1, hr.size, hp], (hep x).mono0 hm'⟩
        · rename_i e2
          obtain ⟨v, h1, h2⟩ := hr.at_ t q ht
          exact ⟨v, by simp [Array.getElem?_setIfInBounds, e1, e2, h1], h2.mono0 hm'⟩
    have hAt : At ⟨N, nn, kk, some l⟩ s' := ⟨by rw [hi'.lbx]; exact (hob pre).1, by rw [hi'.tk]; exact (hob pre).2⟩
    refine wpIn_mono (round l pre x hlen w0 base s' s' _ hAt (Mono.refl _ _) hi' hF) ?_
    rintro e a' w' ⟨pf', σ', s'', rfl, hq, hi2, hr2, hm2⟩
    cases e with
    | normal =>
      obtain ⟨q1, q2, q3⟩ := hq
      have hi3 := hi2.forget nn kk q3 (fun g p hp => (hG g p hp).le (Nat.zero_le _) (Nat.zero_le _))
      rw [q1, q2] at hi3
      have hm3 := hm2.trunc (n := nn) (k := kk) (by rw [hAt.n]; exact Nat.le_refl _) (by rw [hAt.k]; exact Nat.le_refl _)
      exact ⟨hm2.oth, hKp pre x s' (s''.trunc nn kk) hm' hi' hi3 hm3, s''.trunc nn kk, rfl, hi3, hm'.trans hm3.to0, fun k o hk hko hc => hm2.oth.same k o (hk' k o hk hko hc) hc⟩
    | _ => exact hq.elim
  · rintro D xs W hD hS ⟨s', rfl, h1, h2, h3⟩ hK
    exact done D xs s' hS hD h1 (Mono.of0 h2 ⟨h2.heap, fun k o hk hc => h3 k o (Array.getElem?_eq_some_iff.1 hk).1 hk hc⟩) hK
  · rintro D c pre W hD _ h _
    exact h.elim

end
end Go.Sw

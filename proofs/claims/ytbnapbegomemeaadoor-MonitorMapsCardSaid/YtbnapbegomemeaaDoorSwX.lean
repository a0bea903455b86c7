/- The logic Sw: a part of a code by its path; a function whose frame has calls that wait; the very value of a variable, for any program. -/
import Derived.Test.YtbnapbegomemeaaDoorSwV
import Derived.Test.YtbnapbegomemeaaDoorSwQ
namespace Go.Sw
open Go.RowKit

section
variable {C : Cx} {w0 : World} {base : Nat} {σ : AS} {s : S}

/-- The part of a code at a path, also within a range over a function (7). -/
def cAtF : List Nat → Code → Code
  | 1 :: p, .seq x _ => cAtF p x
  | 2 :: p, .seq _ y => cAtF p y
  | 3 :: p, .block _ c => cAtF p c
  | 4 :: p, .loop c => cAtF p c
  | 5 :: p, .cond _ x _ => cAtF p x
  | 6 :: p, .cond _ _ y => cAtF p y
  | 7 :: p, .rangeFunc _ _ _ b => cAtF p b
  | _, c => c

theorem FSC.tks {f : FuncId} {ps : List PV} {σh : AS} {r : PV} {tk' : List (TypeId × Nat)} (h : ∀ σs : AS, Agree σh σ σs → SC1 C f ps σs r ⟨σs.bx, tk'⟩) : FSC C f ps σh σ fun r' σ' => r' = r ∧ σ' = ⟨σ.bx, tk'⟩ := fun σs ha =>
  (h σs ha).mono fun r' σ' ⟨h1, h2⟩ => ⟨⟨σ.bx, tk'⟩, ⟨h1, rfl⟩, by rw [h2]; exact ha.tks _⟩

/-- The frame at a function's begin. -/
theorem RepF.start {ps : List PV} {vs : List Value} {N : Nat} (hdl : C.dl = []) (hn : ps.length ≤ N) (hl : ps.length = vs.length) (hr : ∀ (j : Nat) (p : PV) (v : Value), ps[j]? = some p → vs[j]? = some v → Rep C.P s p v) :
    RepF C s N (params 0 ps) { tmps := vs.toArray ++ Array.replicate (N - vs.toArray.size) undef, defers := [] } := by
  refine ⟨?_, hdl.symm, ?_⟩
  · simp; omega
  · intro t p ht
    obtain ⟨_, h2⟩ := params_get ps 0 t p ht
    simp only [Nat.sub_zero] at h2
    have hlt : t < vs.length := by rw [← hl]; exact (List.getElem?_eq_some_iff.1 h2).1
    refine ⟨vs[t], ?_, hr t p _ h2 (List.getElem?_eq_getElem hlt)⟩
    rw [Array.getElem?_append_left (by simpa using hlt)]
    simp [hlt]

/-- A walk within a code that the logic does not cover. -/
theorem SW.raw {F : Fx} {c : Code} {Q : Post} {R : Exit → Act → World → Prop} {pf : PF} {se : S} {a : Act} {m : Nat} (h : SW C F c Q pf σ) (hrd : F.rd = none) (hAt : At F se) (hm : Mono C.P se s) (hi : Inv C w0 base σ s) (hr : RepF C s F.N pf a)
    (hn : ∀ e pf σ, Q e pf σ → e = .normal) (hk : ∀ pf' σ' s' a', Q .normal pf' σ' → Inv C w0 base σ' s' → RepF C s' F.N pf' a' → Mono C.P se s' → R .normal a' s'.w) : c.wpIn Fence.wide m C.P R a s.w := by
  have h1 := h w0 base se s a hAt hm hi hr
  rw [hrd] at h1
  refine wpIn_wide.2 ((wpIn_wide (n := 0)).1 (wpIn_mono h1 ?_))
  rintro e a' w' ⟨pf', σ', s', rfl, hq, hi', hr', hm'⟩
  obtain rfl := hn e pf' σ' hq
  exact hk pf' σ' s' a' hq hi' hr' hm'

theorem SW.rawE {F : Fx} {c : Code} {Q : Post} {R : Exit → Act → World → Prop} {pf : PF} {se : S} {a : Act} {m : Nat} (h : SW C F c Q pf σ) (hrd : F.rd = none) (hAt : At F se) (hm : Mono C.P se s) (hi : Inv C w0 base σ s) (hr : RepF C s F.N pf a)
    (hk : ∀ e pf' σ' s' a', Q e pf' σ' → Inv C w0 base σ' s' → RepF C s' F.N pf' a' → Mono C.P se s' → R e a' s'.w) : c.wpIn Fence.wide m C.P R a s.w := by
  have h1 := h w0 base se s a hAt hm hi hr
  rw [hrd] at h1
  refine wpIn_wide.2 ((wpIn_wide (n := 0)).1 (wpIn_mono h1 ?_))
  rintro e a' w' ⟨pf', σ', s', rfl, hq, hi', hr', hm'⟩
  exact hk e pf' σ' s' a' hq hi' hr' hm'

/-- The cell of a variable as the very value that it holds. -/
theorem Inv.exact1 (hi : Inv C w0 base σ s) {i b : Nat} {p : PV} {v : Value} {cs : Array Value} {T : TypeId} (hb : s.g.bx[i]? = some b) (hcs : s.w.heap[b]? = some (.cells cs T (0, 0))) (hq : σ.bx[i]? = some [p]) (hv : cs[0]? = some v) : Inv C w0 base ⟨σ.bx.set i [.val v], σ.tk⟩ s where
  tk := hi.tk
  gx := hi.gx
  below := hi.below
  basele := hi.basele
  lbx := by simp [hi.lbx]
  lrw := hi.lrw
  bxinj := hi.bxinj
  rwinj := hi.rwinj
  apart := hi.apart
  rngb := hi.rngb
  rngr := hi.rngr
  box := fun i' b' ps hb' hp => by
    by_cases e : i' = i
    · subst e
      have hp' : (σ.bx.set i' [.val v])[i']? = some ps := hp
      rw [List.getElem?_set_self (List.getElem?_eq_some_iff.1 hq).1] at hp'
      cases hp'
      have : b' = b := by rw [hb] at hb'; exact (Option.some.inj hb').symm
      subst this
      obtain ⟨cs', T', h1, h2, h3⟩ := hi.box i' b' _ hb hq
      rw [hcs] at h1
      cases h1
      refine ⟨cs, T, hcs, h2, fun k r u hk hu => ?_⟩
      cases k with
      | zero =>
        simp at hk
        subst hk
        rw [hv] at hu
        cases hu
        exact .val _
      | succ k => simp at hk
    · have hp' : (σ.bx.set i [.val v])[i']? = some ps := hp
      rw [List.getElem?_set_ne (Ne.symm e)] at hp'
      exact hi.box i' b' ps hb' hp'
  glob := hi.glob

/-- What a variable holds that is known to the value. -/
theorem Inv.cell_val (hi : Inv C w0 base σ s) {i b j : Nat} {ps : List PV} {v : Value} (hb : s.g.bx[i]? = some b) (hq : σ.bx[i]? = some ps) (hj : ps[j]? = some (.val v)) : s.w.cell? ⟨b, j, none⟩ = some v := by
  obtain ⟨cs, T, h1, h2, h3⟩ := hi.box i b ps hb hq
  have hlt : j < cs.size := by rw [h2]; exact (List.getElem?_eq_some_iff.1 hj).1
  have := (h3 j _ cs[j] hj (Array.getElem?_eq_getElem hlt)).val_eq
  simp [World.cell?, h1, hlt, this]

end
end Go.Sw

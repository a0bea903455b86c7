/- The logic Sw: pointers whose type is known; bytes that become a string, for any program. -/
import Derived.Test.YtbnapbegomemeaaDoorSwU
namespace Go.Sw
open Go.RowKit

section
variable {C : Cx} {w0 : World} {base : Nat} {σ : AS} {s : S}

theorem Wk.pt {T : TypeId} {c i off : Nat} : Wk C (.pt T c i off) (.ptr i off) := fun _ _ h => unp_ok h

/-- A new variable, its type kept in the pointer. -/
theorem Inv.newpt (hi : Inv C w0 base σ s) (vs : List Value) (T : TypeId) (ps : List PV) (hl : ps.length = vs.length) (hr : ∀ (j : Nat) (p : PV) (v : Value), ps[j]? = some p → vs[j]? = some v → Rep C.P s p v) :
    Rep C.P ⟨⟨s.g.bx ++ [s.w.heap.size], s.g.rw⟩, s.tk, s.w.alloc (.cells vs.toArray T)⟩ (.pt T ps.length σ.bx.length 0) (.pointer (some ⟨s.w.heap.size, 0, none⟩)) := by
  refine .pt T ps.length _ 0 _ vs.toArray ?_ (heap_alloc_new _ _) (by simp [hl])
  rw [← hi.lbx]
  simp

theorem eff_boxPt {N : Nat} {o : Oper} {pf : PF} {t : TypeId} {x : Operand} {p : PV} {ps : List PV} (ho : o.op = .box t x) (hx : ev C.GE pf x = some p) (hp : cellsPV p = some ps) :
    Eff C N o pf σ (.pt t ps.length σ.bx.length 0) ⟨σ.bx ++ [ps], σ.tk⟩ := by
  intro w0 base s a hi hr
  obtain ⟨vs, h1, h2, h3⟩ := cellsPV_ok hp (ev_ok hi hr hx)
  obtain ⟨k1, k2, _⟩ := hi.newbox vs t ps h2 h3
  refine ⟨_, _, .inl ?_, hi.newpt vs t ps h2 h3, k1, k2⟩
  simp [execOp, ho, Instr.box, newVar, newRow, h1]

theorem eff_allocPt {N : Nat} {o : Oper} {pf : PF} {t : TypeId} {y : TyI} {ps : List PV} (ho : o.op = .alloc t) (hy : C.T t = some y) (hp : cellsPV (.val y.zero) = some ps) :
    Eff C N o pf σ (.pt t ps.length σ.bx.length 0) ⟨σ.bx ++ [ps], σ.tk⟩ := by
  intro w0 base s a hi hr
  obtain ⟨vs, h1, h2, h3⟩ := cellsPV_ok (C := C) (s := s) hp (.val _)
  obtain ⟨k1, k2, _⟩ := hi.newbox vs t ps h2 h3
  refine ⟨_, _, .inl ?_, hi.newpt vs t ps h2 h3, k1, k2⟩
  simp [execOp, ho, Instr.alloc, newVar, newRow, run_zeroValue hy, h1]

section
variable {F : Fx} {Q : Post} {pf : PF} {ops : Array Oper} {k : List KI} {o : Oper} {rest : List Oper}
theorem W.boxPt {t : TypeId} {x : Operand} {p : PV} {ps : List PV} (ho : o.op = .box t x) (hg : gd ops o pf = some true) (hd : inN F.N o.dst = true) (hx : ev C.GE pf x = some p) (hp : cellsPV p = some ps)
    (h : SL C F ops rest (Cont C F Q k) (setd pf o.dst (.pt t ps.length σ.bx.length 0)) ⟨σ.bx ++ [ps], σ.tk⟩) : SL C F ops (o :: rest) (Cont C F Q k) pf σ :=
  SL.guarded hg (SL.eff (o := { o with guard := none }) rfl hd (eff_boxPt ho hx hp) h)
theorem W.allocPt {t : TypeId} {y : TyI} {ps : List PV} (ho : o.op = .alloc t) (hg : gd ops o pf = some true) (hd : inN F.N o.dst = true) (hy : C.T t = some y) (hp : cellsPV (.val y.zero) = some ps)
    (h : SL C F ops rest (Cont C F Q k) (setd pf o.dst (.pt t ps.length σ.bx.length 0)) ⟨σ.bx ++ [ps], σ.tk⟩) : SL C F ops (o :: rest) (Cont C F Q k) pf σ :=
  SL.guarded hg (SL.eff (o := { o with guard := none }) rfl hd (eff_allocPt ho hy hp) h)
end

theorem cell_freeze (w : World) (a b : Addr) (n : Nat) : (w.freeze a n).cell? b = w.cell? b := by
  unfold World.freeze
  split
  · rfl
  · by_cases e : a.block = b.block
    · have h2 : ∀ f : Obj → Obj, (w.heap.modify a.block f)[b.block]? = (w.heap[b.block]?).map f := fun f => by rw [Array.getElem?_modify, if_pos e]
      unfold World.cell?
      simp only [h2]
      cases h : w.heap[b.block]? with
      | none => rfl
      | some o => cases o <;> rfl
    · exact World.cell?_of_block (by show (w.heap.modify a.block _)[b.block]? = _; rw [Array.getElem?_modify, if_neg e])
theorem freeze_other (w : World) (a : Addr) (n k : Nat) (h : k ≠ a.block) : (w.freeze a n).heap[k]? = w.heap[k]? := by
  unfold World.freeze
  split
  · rfl
  · simp only [Array.getElem?_modify]
    rw [if_neg (Ne.symm h)]
theorem freeze_size (w : World) (a : Addr) (n : Nat) : (w.freeze a n).heap.size = w.heap.size := by
  unfold World.freeze
  split
  · rfl
  · simp
theorem freeze_rest (w : World) (a : Addr) (n : Nat) : (w.freeze a n).os = w.os ∧ (w.freeze a n).tape = w.tape ∧ (w.freeze a n).output = w.output := by
  unfold World.freeze
  split <;> exact ⟨rfl, rfl, rfl⟩

/-- The bytes of a row are given away as a string: the row's token is no one's any more. -/
theorem Inv.freeze (hi : Inv C w0 base σ s) {k g m n : Nat} {E : TypeId} {cur : Array Value} (hk : σ.tk[k]? = some (E, m)) (hrw : s.g.rw[k]? = some (some g)) (hg : s.w.heap[g]? = some (.cells cur E (0, 0))) :
    Inv C w0 base ⟨σ.bx, σ.tk.set k (E, m + 1)⟩ ⟨s.g, s.tk.set k (E, m + 1), s.w.freeze ⟨g, 0, none⟩ n⟩ ∧ Mono C.P s ⟨s.g, s.tk.set k (E, m + 1), s.w.freeze ⟨g, 0, none⟩ n⟩ := by
  have hstk : s.tk[k]? = some (E, m) := by rw [hi.tk]; exact hk
  have hklt : k < s.tk.length := (List.getElem?_eq_some_iff.1 hstk).1
  have hother : ∀ b, b ≠ g → (s.w.freeze ⟨g, 0, none⟩ n).heap[b]? = s.w.heap[b]? := fun b hb => freeze_other _ _ _ _ hb
  have hm : Mono C.P s ⟨s.g, s.tk.set k (E, m + 1), s.w.freeze ⟨g, 0, none⟩ n⟩ :=
    { oth := ⟨by rw [freeze_size]; exact Nat.le_refl _, fun b o hb ho => by
        by_cases e : b = g
        · subst e; rw [hg] at hb; cases hb; cases ho
        · exact (hother b e).trans hb⟩
      heap := by show _ ≤ (s.w.freeze ⟨g, 0, none⟩ n).heap.size; rw [freeze_size]; exact Nat.le_refl _
      bx := fun i b h => h
      st := fun b hi' hb => by
        refine ⟨by show b < (s.w.freeze ⟨g, 0, none⟩ n).heap.size; rw [freeze_size]; exact hb.1, hb.2.1, fun t' E' m' h1 h2 => ?_⟩
        by_cases e : t' = k
        · subst e
          have h2' : (s.tk.set t' (E, m + 1))[t']? = some (E', m') := h2
          rw [List.getElem?_set_self hklt] at h2'
          cases h2'
          exact Nat.le_trans (hb.2.2 t' E _ h1 hstk) (Nat.mul_le_mul_right _ (Nat.le_succ _))
        · have h2' : (s.tk.set k (E, m + 1))[t']? = some (E', m') := h2
          rw [List.getElem?_set_ne (Ne.symm e)] at h2'
          exact hb.2.2 t' E' m' h1 h2'
      cell := fun b hi' o v hb ho hv => (cell_freeze _ _ _ _).trans hv
      own := fun t' E' m' ht => by
        by_cases e : t' = k
        · subst e
          rw [hstk] at ht
          cases ht
          exact ⟨m + 1, List.getElem?_set_self hklt, Nat.le_succ _, fun h => by omega⟩
        · refine ⟨m', ?_, Nat.le_refl _, fun _ => ⟨rfl, fun b _ _ _ hb _ => hother b (fun eb => e ?_)⟩⟩
          · show (s.tk.set k (E, m + 1))[t']? = _
            rw [List.getElem?_set_ne (Ne.symm e)]
            exact ht
          · subst eb
            exact hi.rwinj t' k b hb hrw
      obj := fun i b cs T hb hc => ⟨cs, (hother b (fun e => hi.apart k g hrw (e ▸ List.mem_of_getElem? hb))).trans hc, rfl⟩ }
  obtain ⟨r1, r2, r3⟩ := freeze_rest s.w ⟨g, 0, none⟩ n
  refine ⟨⟨by simp [hi.tk], hi.gx, hi.below.trans ⟨r1, r2, r3, by rw [freeze_size]; exact Nat.le_refl _, fun b hb => hother b (fun e => by have := (hi.rngr k g hrw).1; omega)⟩, ?_, hi.lbx, by simp [hi.lrw], hi.bxinj, hi.rwinj, hi.apart, fun b h => ?_, fun j b h => ?_, fun i b ps hb hp => ?_, fun q p hp => (hi.glob q p hp).mono hm⟩, hm⟩
  · show base ≤ (s.w.freeze ⟨g, 0, none⟩ n).heap.size; rw [freeze_size]; exact hi.basele
  · show base ≤ b ∧ b < (s.w.freeze ⟨g, 0, none⟩ n).heap.size; rw [freeze_size]; exact hi.rngb b h
  · show base ≤ b ∧ b < (s.w.freeze ⟨g, 0, none⟩ n).heap.size; rw [freeze_size]; exact hi.rngr j b h
  · obtain ⟨cs, T, h1, h2, h3⟩ := hi.box i b ps hb hp
    exact ⟨cs, T, (hother b (fun e => hi.apart k g hrw (e ▸ List.mem_of_getElem? hb))).trans h1, h2, fun j p v hj hv => (h3 j p v hj hv).mono hm⟩

/-- What is behind a slice of bytes that bears the last token. -/
theorem Rep.bytes {k : Nat} {E : TypeId} {z : TyI} {l : List UInt8} {v : Value} (hz : C.T E = some z) (hz1 : z.size = 1) (hi : Inv C w0 base σ s) (h : Rep C.P s (.sl (some k) (bytesR l)) v) (hk : σ.tk[k]? = some (E, l.length)) (h0 : l ≠ []) :
    ∃ g cap cur, v = .slice (some ⟨g, 0, none⟩) l.length cap ∧ s.g.rw[k]? = some (some g) ∧ s.w.heap[g]? = some (.cells cur E (0, 0)) ∧ l.length ≤ cap ∧ cap ≤ maxLen ∧ cur.size = cap ∧
      ∀ (j : Nat) (x : UInt8), l[j]? = some x → s.w.cell? ⟨g, j, none⟩ = some (.int .u8 x.toNat) := by
  have hl := bytesR_length l
  have hl0 : 0 < (bytesR l).length := by rw [hl]; exact List.length_pos_iff.2 h0
  have hstk : s.tk[k]? = some (E, l.length) := by rw [hi.tk]; exact hk
  cases h
  rename_i size b o c a u hlc hcm ha hx hst hc hr hown
  obtain ⟨E', m', h1, h2, h3⟩ := hown
  rw [hstk] at h1
  cases h1
  obtain ⟨h4, us, h5⟩ := h3 hl
  rw [cellsOf_ok hz, hz1] at h5
  have ha' := ha hl0
  subst ha'
  have hsz : size = 1 := by
    have := hx _ (List.getElem_mem hl0)
    rw [← this]
    simp [bytesR]
  subst hsz
  rcases h5.2 with ⟨h6, _⟩ | ⟨g, cap, cur, h6, _, hg, hnc, hcm', hcs, _⟩
  · cases h6
  · cases h6
    refine ⟨b, c, cur, by rw [hl], h4, hg, by rw [← hl]; exact hnc, hcm', by simpa using hcs, fun j x hj => ?_⟩
    have hjl : j < (bytesR l).length := by rw [hl]; exact (List.getElem?_eq_some_iff.1 hj).1
    have hc' := hc j 0 hjl (by omega)
    have hr' := hr j 0 [.val (.int .u8 x.toNat)] (.val (.int .u8 x.toNat)) (by simp [bytesR, hj]) rfl
    have := hr'.val_eq
    rw [this] at hc'
    simpa using hc'

end
end Go.Sw

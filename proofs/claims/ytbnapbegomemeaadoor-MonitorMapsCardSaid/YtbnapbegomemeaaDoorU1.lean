/- What Itoa, copyCheck and String do, as contracts of the logic Sw. -/
import Derived.Test.YtbnapbegomemeaaDoorRa
import Derived.Test.YtbnapbegomemeaaDoorSwV
import Derived.Test.YtbnapbegomemeaaDoorCx
import Derived.WalkSmall
namespace Go.Proofs.YtbnapbegomemeaaDoor
open Go.Sw Go.RowKit

/-- A string's value. -/
abbrev strV (l : List UInt8) : PV := .val (.string ⟨l.toArray⟩)
abbrev i64 (n : Int) : PV := .val (.int .i64 n)
abbrev bV (b : Bool) : PV := .val (.bool b)
def I64 (n : Int) : Prop := -9223372036854775808 ≤ n ∧ n ≤ 9223372036854775807

theorem one_arg {P : Program} {s : S} {p : PV} {vs : List Value} (hl : [p].length = vs.length) (hr : ∀ (j : Nat) (q : PV) (v : Value), [p][j]? = some q → vs[j]? = some v → Rep P s q v) : ∃ v, vs = [v] ∧ Rep P s p v := by
  match vs, hl with
  | [v], _ => exact ⟨v, rfl, hr 0 p v rfl rfl⟩

theorem Itoa_sc (n : Int) (σ : AS) (hn : I64 n) : SC1 Cc 9 [i64 n] σ (strV (Lib.itoa n)) σ := by
  intro w0 base s vs hi hl hr
  obtain ⟨v, rfl, hv⟩ := one_arg hl hr
  obtain rfl : v = .int .i64 n := hv.val_eq
  obtain ⟨h0, hb⟩ : W0t w0 base := hi.gx
  have htab : Lib.TabIs Tryd.prog s.w "internal/strconv.uint64pow10" .u64 Lib.pow10Tab := var?_below hi.below (g := 0) (by kernel_rfl) (by omega) h0
  refine (Tryd.strconv_Itoa n hn.1 hn.2 s.w htab).mono ?_
  rintro e w' ⟨rfl, k, os, rfl⟩
  have hold : ∀ j, j < s.w.heap.size → (Sort.grow (s.w.drewN k) os).heap[j]? = s.w.heap[j]? := fun j hj => Sort.heap_grow_old (s.w.drewN k) os hj
  have hsz : s.w.heap.size ≤ (Sort.grow (s.w.drewN k) os).heap.size := by
    show s.w.heap.size ≤ (s.w.heap ++ os).size
    rw [Array.size_append]; omega
  have hbel : Below base w0 (Sort.grow (s.w.drewN k) os) := hi.below.trans ⟨rfl, rfl, rfl, hsz, fun j hj => hold j (Nat.lt_of_lt_of_le hj hi.basele)⟩
  obtain ⟨k1, k2⟩ := hi.old hsz hold hbel
  exact ⟨_, _, σ, ⟨s.g, s.tk, Sort.grow (s.w.drewN k) os⟩, rfl, rfl, ⟨rfl, rfl⟩, k1, .val _, k2⟩

theorem lies39 : liesAt Tryd.prog Tryd.prog.depth 39 (2 / Tryd.prog.cellsOf 39) 0 37 1 = true := by kernel_rfl

/-- The address is noted at the first write. -/
theorem copyCheck_sc (T : TypeId) (i : Nat) (p0 : PV) (r : PV) (σ : AS) (hT : liesAt Tryd.prog Tryd.prog.depth T (2 / Tryd.prog.cellsOf T) 0 37 1 = true) (hq : σ.bx[i]? = some [p0, r]) (hp : p0 = .val (.pointer none) ∨ p0 = .ptr i 0) :
    SC1 Cc 17 [.pt T 2 i 0] σ (.tup []) ⟨σ.bx.set i [.ptr i 0, r], σ.tk⟩ := by
  intro w0 base s vs hi hl hr
  obtain ⟨v, rfl, hv⟩ := one_arg hl hr
  cases hv with
  | pt _ _ _ _ b cs hb hcs hsz =>
  obtain ⟨cs', T', g1, g2, g3⟩ := hi.box i b _ hb hq
  rw [hcs] at g1
  cases g1
  have hlt0 : 0 < cs.size := by omega
  have c0 : s.w.cell? ⟨b, 0, none⟩ = some cs[0] := by simp [World.cell?, hcs]
  have r0 := g3 0 p0 cs[0] rfl (Array.getElem?_eq_getElem hlt0)
  have htup : ∀ s' : S, Rep Cc.P s' (.tup []) (.tuple #[]) := fun s' => .tup [] [] rfl (fun j p v h => by simp at h)
  rcases hp with rfl | rfl
  · have e0 := r0.val_eq
    rw [e0] at c0
    refine (Tryd.copyCheck_fresh b s.w T c0 (by simp [World.shape?, hcs, hsz]) hT (by simp [World.frozen?, hcs])).mono ?_
    rintro e w' ⟨rfl, rfl⟩
    have key := hi.store (ps := [.ptr i 0]) (vs := [.pointer (some ⟨b, 0, none⟩)]) (off := 0) hb hq hcs g2 g3 rfl (fun j p v hj hv => by
      cases j with
      | zero => simp at hj hv; subst hj; subst hv; exact .ptr i 0 b hb
      | succ j => simp at hj) (by simp)
    have hrow : s.w.setCell ⟨b, 0, none⟩ (.pointer (some ⟨b, 0, none⟩)) = s.w.setRow b (cs.toList.take 0 ++ [Value.pointer (some ⟨b, 0, none⟩)] ++ cs.toList.drop (0 + [Value.pointer (some ⟨b, 0, none⟩)].length)).toArray := by
      rw [setCell_eq_setRow _ _ _ _ _ _ _ hcs]
      congr 1
      apply Array.ext'
      simp only [Array.toList_setIfInBounds]
      rw [List.set_eq_take_append_cons_drop, if_pos (by simpa using hlt0)]
      simp
    obtain ⟨k1, k2⟩ := key
    have hσ : (⟨σ.bx.set i (List.take 0 [PV.val (.pointer none), r] ++ [.ptr i 0] ++ List.drop (0 + [PV.ptr i 0].length) [PV.val (.pointer none), r]), σ.tk⟩ : AS) = ⟨σ.bx.set i [.ptr i 0, r], σ.tk⟩ := rfl
    rw [hσ] at k1
    exact ⟨_, _, _, ⟨s.g, s.tk, _⟩, rfl, hrow.symm, ⟨rfl, rfl⟩, k1, htup _, k2⟩
  · have hx : cs[0] = .pointer (some ⟨b, 0, none⟩) := by
      generalize cs[0] = v0 at r0
      cases r0 with
      | ptr _ _ b' hb' =>
      have : b' = b := by rw [hb] at hb'; exact (Option.some.inj hb').symm
      rw [this]
    rw [hx] at c0
    refine (Tryd.copyCheck_used b s.w c0).mono ?_
    rintro e w' ⟨rfl, rfl⟩
    refine ⟨_, _, σ, s, rfl, rfl, ⟨rfl, ?_⟩, hi, htup _, Mono.refl _ _⟩
    rw [set_same hq]

/-- The bytes as a string. -/
theorem String_sc (l : List UInt8) (i t : Nat) (p0 : PV) (σ : AS) (h0 : l ≠ []) (hq : σ.bx[i]? = some [p0, .sl (some t) (bytesR l)]) (ht : σ.tk[t]? = some (5, l.length)) :
    SC1 Cc 11 [.ptr i 0] σ (strV l) ⟨σ.bx, σ.tk.set t (5, l.length + 1)⟩ := by
  intro w0 base s vs hi hl hr
  obtain ⟨v, rfl, hv⟩ := one_arg hl hr
  cases hv with
  | ptr _ _ b hb =>
  obtain ⟨cs, T, g1, g2, g3⟩ := hi.box i b _ hb hq
  have hlt1 : 1 < cs.size := by simp [g2]
  have r1 := g3 1 _ cs[1] rfl (Array.getElem?_eq_getElem hlt1)
  obtain ⟨g, cap, cur, e1, e2, e3, e4, e5, e6, e7⟩ := Rep.bytes T5 rfl hi r1 ht h0
  have c1 : s.w.cell? ⟨b, 1, none⟩ = some (.slice (some ⟨g, 0, none⟩) l.length cap) := by simp [World.cell?, g1, ← e1]
  refine (Tryd.String_raw b g cap l.length l cur s.w c1 h0 e3 e4 e5 e6 e7).mono ?_
  rintro e w' ⟨rfl, rfl⟩
  obtain ⟨k1, k2⟩ := hi.drew
  obtain ⟨k3, k4⟩ := k1.freeze (n := l.length) ht e2 e3
  exact ⟨_, _, _, ⟨s.g, s.tk.set t (5, l.length + 1), s.w.drew.freeze ⟨g, 0, none⟩ l.length⟩, rfl, rfl, ⟨rfl, rfl⟩, k3, .val _, k2.trans k4⟩

/-- Of a builder that nothing has been written to. -/
theorem String0_sc (i : Nat) (p0 : PV) (σ : AS) (hq : σ.bx[i]? = some [p0, .val (.slice none 0 0)]) : SC1 Cc 11 [.ptr i 0] σ (strV []) σ := by
  intro w0 base s vs hi hl hr
  obtain ⟨v, rfl, hv⟩ := one_arg hl hr
  cases hv with
  | ptr _ _ b hb =>
  obtain ⟨cs, T, g1, g2, g3⟩ := hi.box i b _ hb hq
  have hlt1 : 1 < cs.size := by simp [g2]
  have e1 := (g3 1 _ cs[1] rfl (Array.getElem?_eq_getElem hlt1)).val_eq
  have c1 : s.w.cell? ⟨b, 1, none⟩ = some (.slice none 0 0) := by simp [World.cell?, g1, ← e1]
  refine (Tryd.String_nil b s.w c1).mono ?_
  rintro e w' ⟨rfl, rfl⟩
  obtain ⟨k1, k2⟩ := hi.drew
  exact ⟨_, _, _, ⟨s.g, s.tk, s.w.drew⟩, rfl, rfl, ⟨rfl, rfl⟩, k1, .val _, k2⟩

end Go.Proofs.YtbnapbegomemeaaDoor

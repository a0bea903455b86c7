/- What the closure of slices.Chunk does, as an iterator. -/
import Derived.RangeFuncFrom
import Derived.RangeFuncLeaves
import Derived.RangeFuncBox
import Derived.Shelf.Abstract
import Derived.Shelf.RegionOpen
import Derived.WalkKit
import Derived.OwnWalkIn
import Derived.TacticsInMore
import Derived.LoopNIn
import Derived.LoopIn
import Derived.Test.YtbnapbegomemeaaDoorProg
namespace Go.Proofs
open Go.Shelf Go.RowKit
attribute [local go_sem] Oper.semAt_some

def Tryd.chunks (len : Nat) : Nat := (len + 9) / 10
def Tryd.chunkV (b off len : Nat) (x : Fin (Tryd.chunks len)) : Value := .slice (some ⟨b, off + 10 * x.1, none⟩) (min 10 (len - 10 * x.1)) (min 10 (len - 10 * x.1))
def Tryd.up (n k : Nat) : List (Fin n) := (List.finRange n).take k
theorem Tryd.up_succ (n k : Nat) (h : k < n) : Tryd.up n (k + 1) = Tryd.up n k ++ [⟨k, h⟩] := by
  unfold Tryd.up
  rw [List.take_add_one]
  simp [h]
theorem Tryd.up_length (n k : Nat) (h : k ≤ n) : (Tryd.up n k).length = k := by
  simp [Tryd.up, h]
theorem Tryd.up_all (n : Nat) : Tryd.up n n = List.finRange n := by
  unfold Tryd.up
  rw [List.take_of_length_le (by simp)]
/-- What a round of a loop over the chunks keeps: the two variables that the closure has captured. -/
def Tryd.KpC (Bs Bn : Nat) (sv : Value) (A B : World) : Prop := (A.cell? ⟨Bs, 0, none⟩ = some sv → B.cell? ⟨Bs, 0, none⟩ = some sv) ∧ (A.cell? ⟨Bn, 0, none⟩ = some (.int .i64 10) → B.cell? ⟨Bn, 0, none⟩ = some (.int .i64 10))

set_option maxRecDepth 100000 in
set_option maxHeartbeats 2000000 in
theorem Tryd.chunk1_in (l Bs Bn b off len cap n₀ : Nat) (hlen : len ≤ 140737488351232) (hcap : len ≤ cap) (J Jx : List (Fin (Tryd.chunks len)) → World → Prop) (hJ : AbidesFrom n₀ J)
    (hY : ∀ pre x W, J pre W → pre.length < Tryd.chunks len → YieldAt Fence.wide 0 Tryd.prog l #[Tryd.chunkV b off len x] W fun e W' =>
      (e = .returned (.bool true) ∧ J (pre ++ [x]) W' ∧ Tryd.KpC Bs Bn (.slice (some ⟨b, off, none⟩) len cap) W W') ∨ (e = .returned (.bool false) ∧ Jx (pre ++ [x]) W'))
    (W : World) (hs : W.cell? ⟨Bs, 0, none⟩ = some (.slice (some ⟨b, off, none⟩) len cap)) (hn : W.cell? ⟨Bn, 0, none⟩ = some (.int .i64 10)) (h0 : J [] W) :
    CallsIn Fence.wide 1 Tryd.prog 12 #[.func (.yield l) #[] #[], .pointer (some ⟨Bs, 0, none⟩), .pointer (some ⟨Bn, 0, none⟩)] W fun e W' => (∃ v, e = .returned v) ∧
      ((∃ ys, ys = List.finRange (Tryd.chunks len) ∧ J ys W') ∨ (∃ pre, True ∧ Jx pre W')) := by
  have hch : ∀ k, k < Tryd.chunks len ↔ 10 * k < len := by intro k; unfold Tryd.chunks; omega
  have mixed : Tryd.prog.follows .mixedOrders = true := by kernel_rfl
  refine callsIn_of_wp Tryd.func12 rfl trivial ?_ rfl
  simp only [Tryd.ntmps12, List.size_toArray, List.length_cons, List.length_nil, Nat.reduceAdd, Nat.reduceSub, Array.replicate_succ, Array.replicate_zero, List.push_toArray, List.append_toArray, List.nil_append, List.cons_append]
  gi_wp2
  gi_loopw [4] (fun i wr => ∃ k : Nat, k ≤ Tryd.chunks len ∧ i = .int .i64 (10 * k : Nat) ∧ J (Tryd.up (Tryd.chunks len) k) wr ∧ wr.cell? ⟨Bs, 0, none⟩ = some (.slice (some ⟨b, off, none⟩) len cap) ∧ wr.cell? ⟨Bn, 0, none⟩ = some (.int .i64 10))
    (fun i _ => len + 10 - (intOf i).toNat)
  case atStart => exact ⟨0, Nat.zero_le _, rfl, by simpa [Tryd.up] using h0, hs, hn⟩
  case round =>
    obtain ⟨k, hk, rfl, hJs, hcs, hcn⟩ := hrel
    by_cases hlt : k < Tryd.chunks len
    · have hkl := (hch k).1 hlt
      have hcs' : wr.drew.cell? ⟨Bs, 0, none⟩ = some (.slice (some ⟨b, off, none⟩) len cap) := hcs
      have hcn' : wr.drew.cell? ⟨Bn, 0, none⟩ = some (.int .i64 10) := hcn
      have hJd : J (Tryd.up (Tryd.chunks len) k) wr.drew := hJ _ _ _ none hJs ⟨rfl, rfl, rfl, Nat.le_refl _, fun _ _ _ => rfl⟩ (fun r e => by cases e)
      obtain ⟨fn, tmps, assign, body, hy, hR⟩ := hY _ ⟨k, hlt⟩ wr.drew hJd (by rw [Tryd.up_length _ _ hk]; exact hlt)
      simp only [Tryd.chunkV] at hy
      gi_wp2
      gi_region_o
      have hif : (if ((len - 10 * k : Nat) : Int) < 10 then ((len - 10 * k : Nat) : Int) else 10) = ((min 10 (len - 10 * k) : Nat) : Int) := by split <;> omega
      rw [hif]
      obtain ⟨m, hm⟩ : ∃ m, min 10 (len - 10 * k) = m := ⟨_, rfl⟩
      have hm1 : 10 * k + m ≤ len := by omega
      have hm2 : 10 * k + m ≤ cap := by omega
      have hm3 : 0 < m := by omega
      have hm4 : 10 * k + m - 10 * k = m := by omega
      rw [hm] at hy ⊢
      gi_wp2
      refine hR.mono ?_
      rintro e W3 (⟨rfl, hJ3, hk3⟩ | ⟨rfl, hJx3⟩)
      · have hcs3 := hk3.1 hcs'
        have hcn3 := hk3.2 hcn'
        gi_wp2
        go_roundw
        case rel => exact ⟨k + 1, hlt, by simp; omega, by rw [Tryd.up_succ _ _ hlt]; exact hJ3, hcs3, hcn3⟩
        case measure => simp [intOf]; omega
      · gi_wp2
        refine bodyPost_ret (results_none rfl _ _ _) rfl ?_
        exact ⟨⟨_, rfl⟩, .inr ⟨_, trivial, hJx3⟩⟩
    · obtain rfl : k = Tryd.chunks len := by omega
      have hkl : ¬ 10 * Tryd.chunks len < len := fun h => hlt ((hch _).2 h)
      gi_wp2
      go_end0
      exact ⟨⟨_, rfl⟩, .inl ⟨_, rfl, by rw [Tryd.up_all] at hJs; exact hJs⟩⟩

set_option maxRecDepth 100000 in
set_option maxHeartbeats 2000000 in
theorem Tryd.chunk0_in (l Bs Bn cap : Nat) (a : Option Addr) (J : List (Fin (Tryd.chunks 0)) → World → Prop)
    (W : World) (hs : W.cell? ⟨Bs, 0, none⟩ = some (.slice a 0 cap)) (h0 : J [] W) :
    CallsIn Fence.wide 1 Tryd.prog 12 #[.func (.yield l) #[] #[], .pointer (some ⟨Bs, 0, none⟩), .pointer (some ⟨Bn, 0, none⟩)] W fun e W' => (∃ v, e = .returned v) ∧ J [] W' := by
  refine callsIn_of_wp Tryd.func12 rfl trivial ?_ rfl
  simp only [Tryd.ntmps12, List.size_toArray, List.length_cons, List.length_nil, Nat.reduceAdd, Nat.reduceSub, Array.replicate_succ, Array.replicate_zero, List.push_toArray, List.append_toArray, List.nil_append, List.cons_append]
  gi_wp2
  gi_loopw [4] (fun i wr => i = .int .i64 0 ∧ J [] wr ∧ wr.cell? ⟨Bs, 0, none⟩ = some (.slice a 0 cap)) (fun _ _ => 0)
  case atStart => exact ⟨rfl, h0, hs⟩
  case round =>
    obtain ⟨rfl, hJs, hcs⟩ := hrel
    gi_wp2
    go_end0
    exact ⟨⟨_, rfl⟩, hJs⟩

theorem Tryd.chunk_stops (Bs Bn b off len cap : Nat) (a : Option Addr) (ha : 0 < len → a = some ⟨b, off, none⟩) (hlen : len ≤ 140737488351232) (hcap : len ≤ cap) (w : World) (hB : Bs < w.heap.size) (hBn : Bn < w.heap.size)
    (hs : w.cell? ⟨Bs, 0, none⟩ = some (.slice a len cap)) (hn : w.cell? ⟨Bn, 0, none⟩ = some (.int .i64 10)) :
    SeqStopsK Fence.wide 1 Tryd.prog 12 #[.pointer (some ⟨Bs, 0, none⟩), .pointer (some ⟨Bn, 0, none⟩)] (fun x => #[Tryd.chunkV b off len x]) (Tryd.KpC Bs Bn (.slice a len cap)) (fun ys => ys = List.finRange (Tryd.chunks len)) (fun _ => True) (Tryd.chunks len) w := by
  intro l J Jx W hW hJ hJx hY h0
  have hs' := (hW.cell (p := ⟨Bs, 0, none⟩) hB).trans hs
  have hn' := (hW.cell (p := ⟨Bn, 0, none⟩) hBn).trans hn
  by_cases h : 0 < len
  · obtain rfl := ha h
    exact Tryd.chunk1_in l Bs Bn b off len cap _ hlen hcap J Jx hJ hY W hs' hn' h0
  · obtain rfl : len = 0 := by omega
    exact (Tryd.chunk0_in l Bs Bn cap a J W hs' h0).mono fun e W' ⟨he, hj⟩ => ⟨he, .inl ⟨_, rfl, hj⟩⟩
end Go.Proofs

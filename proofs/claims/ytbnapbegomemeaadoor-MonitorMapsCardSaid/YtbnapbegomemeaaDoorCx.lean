/- The context of the logic Sw at this program: the types that its text uses, the table of the elements. -/
import Derived.Test.YtbnapbegomemeaaDoorProg
import Derived.Test.YtbnapbegomemeaaDoorSwH
import Derived.Test.YtbnapbegomemeaaDoorSwK
import Derived.KernelRfl
import Derived.Lib.LaidTab
import Derived.Lib.ItoaNum
namespace Go.Proofs.YtbnapbegomemeaaDoor
open Go.Sw
def Tt : List (TypeId × TyI) := [(3, ⟨(.int .i64), .int .i64 0, 1, 8⟩), (4, ⟨.bool, .bool false, 1, 1⟩), (5, ⟨(.int .u8), .int .u8 0, 1, 1⟩), (9, ⟨.string, .string ⟨#[]⟩, 1, 16⟩), (22, ⟨(.slice 3), .slice none 0 0, 1, 24⟩), (24, ⟨(.slice 9), .slice none 0 0, 1, 24⟩), (29, ⟨(.struct [(0, 3), (1, 3)]), .agg #[.int .i64 0, .int .i64 0], 2, 16⟩), (33, ⟨(.ptr 39), .pointer none, 1, 8⟩), (34, ⟨(.ptr 37), .pointer none, 1, 8⟩), (35, ⟨(.slice 5), .slice none 0 0, 1, 24⟩), (37, ⟨(.struct [(0, 34), (1, 35)]), .agg #[.pointer none, .slice none 0 0], 2, 32⟩), (39, ⟨(.struct [(0, 37)]), .agg #[.pointer none, .slice none 0 0], 2, 32⟩)]
theorem Tt_ok : tysOK Tryd.prog Tt := ⟨⟨by kernel_rfl, by kernel_rfl, rfl⟩, ⟨by kernel_rfl, by kernel_rfl, rfl⟩, ⟨by kernel_rfl, by kernel_rfl, rfl⟩, ⟨by kernel_rfl, by kernel_rfl, rfl⟩, ⟨by kernel_rfl, by kernel_rfl, rfl⟩, ⟨by kernel_rfl, by kernel_rfl, rfl⟩, ⟨by kernel_rfl, by kernel_rfl, rfl⟩, ⟨by kernel_rfl, by kernel_rfl, rfl⟩, ⟨by kernel_rfl, by kernel_rfl, rfl⟩, ⟨by kernel_rfl, by kernel_rfl, rfl⟩, ⟨by kernel_rfl, by kernel_rfl, rfl⟩, ⟨by kernel_rfl, by kernel_rfl, rfl⟩, trivial⟩
def W0t (w : World) (base : Nat) : Prop := Lib.TabIs Tryd.prog w "internal/strconv.uint64pow10" .u64 Lib.pow10Tab ∧ 1 ≤ base
def GEt : Nat → Option PV

  | _ => none
def Et : TypeId → Option Nat
  | _ => none
noncomputable def Cc : Cx := ⟨Tryd.prog, [], W0t, GEt, tyGet Tt, tysOK.get Tt_ok, Et, fun t n h => by cases h⟩
theorem Cc_W0 : Cc.W0 = W0t := rfl
theorem Cc_dl : Cc.dl = [] := rfl
theorem Cc_P : Cc.P = Tryd.prog := rfl
theorem Cc_GE : Cc.GE = GEt := rfl
theorem T3 : Cc.T 3 = some ⟨(.int .i64), .int .i64 0, 1, 8⟩ := rfl
theorem T4 : Cc.T 4 = some ⟨.bool, .bool false, 1, 1⟩ := rfl
theorem T5 : Cc.T 5 = some ⟨(.int .u8), .int .u8 0, 1, 1⟩ := rfl
theorem T9 : Cc.T 9 = some ⟨.string, .string ⟨#[]⟩, 1, 16⟩ := rfl
theorem T22 : Cc.T 22 = some ⟨(.slice 3), .slice none 0 0, 1, 24⟩ := rfl
theorem T24 : Cc.T 24 = some ⟨(.slice 9), .slice none 0 0, 1, 24⟩ := rfl
theorem T29 : Cc.T 29 = some ⟨(.struct [(0, 3), (1, 3)]), .agg #[.int .i64 0, .int .i64 0], 2, 16⟩ := rfl
theorem T33 : Cc.T 33 = some ⟨(.ptr 39), .pointer none, 1, 8⟩ := rfl
theorem T34 : Cc.T 34 = some ⟨(.ptr 37), .pointer none, 1, 8⟩ := rfl
theorem T35 : Cc.T 35 = some ⟨(.slice 5), .slice none 0 0, 1, 24⟩ := rfl
theorem T37 : Cc.T 37 = some ⟨(.struct [(0, 34), (1, 35)]), .agg #[.pointer none, .slice none 0 0], 2, 32⟩ := rfl
theorem T39 : Cc.T 39 = some ⟨(.struct [(0, 37)]), .agg #[.pointer none, .slice none 0 0], 2, 32⟩ := rfl
theorem GEt_cl (g : Nat) (p : PV) (h : Cc.GE g = some p) : Cl 0 0 p := by
  rw [Cc_GE] at h
  unfold GEt at h
  split at h
  · cases h
theorem go3 : isGo Cc.P 3 = true := by rw [Cc_P]; kernel_rfl
theorem go4 : isGo Cc.P 4 = true := by rw [Cc_P]; kernel_rfl
theorem go5 : isGo Cc.P 5 = true := by rw [Cc_P]; kernel_rfl
theorem go6 : isGo Cc.P 6 = true := by rw [Cc_P]; kernel_rfl
theorem go7 : isGo Cc.P 7 = true := by rw [Cc_P]; kernel_rfl
theorem go8 : isGo Cc.P 8 = true := by rw [Cc_P]; kernel_rfl
theorem go9 : isGo Cc.P 9 = true := by rw [Cc_P]; kernel_rfl
theorem go10 : isGo Cc.P 10 = true := by rw [Cc_P]; kernel_rfl
theorem go11 : isGo Cc.P 11 = true := by rw [Cc_P]; kernel_rfl
theorem go12 : isGo Cc.P 12 = true := by rw [Cc_P]; kernel_rfl
theorem go13 : isGo Cc.P 13 = true := by rw [Cc_P]; kernel_rfl
theorem go14 : isGo Cc.P 14 = true := by rw [Cc_P]; kernel_rfl
theorem go15 : isGo Cc.P 15 = true := by rw [Cc_P]; kernel_rfl
theorem go16 : isGo Cc.P 16 = true := by rw [Cc_P]; kernel_rfl
theorem go17 : isGo Cc.P 17 = true := by rw [Cc_P]; kernel_rfl
theorem mixed : Cc.P.follows .mixedOrders = true := by rw [Cc_P]; kernel_rfl
end Go.Proofs.YtbnapbegomemeaaDoor

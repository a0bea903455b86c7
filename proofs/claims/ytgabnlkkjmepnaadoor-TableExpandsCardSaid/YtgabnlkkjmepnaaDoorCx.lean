/- The context of the logic Sw at this program: the types that its text uses, the table of the elements. -/
import Derived.Test.YtgabnlkkjmepnaaDoorProg
import Derived.Test.YtgabnlkkjmepnaaDoorSwH
import Derived.Test.YtgabnlkkjmepnaaDoorSwK
import Derived.KernelRfl
namespace Go.Proofs.YtgabnlkkjmepnaaDoor
open Go.Sw
def Tt : List (TypeId × TyI) := [(3, ⟨(.int .i64), .int .i64 0, 1, 8⟩), (4, ⟨.bool, .bool false, 1, 1⟩), (5, ⟨(.int .u8), .int .u8 0, 1, 1⟩), (9, ⟨.string, .string ⟨#[]⟩, 1, 16⟩), (21, ⟨(.int .i32), .int .i32 0, 1, 4⟩), (22, ⟨(.struct [(0, 3), (1, 3), (2, 3), (3, 3), (4, 3)]), .agg #[.int .i64 0, .int .i64 0, .int .i64 0, .int .i64 0, .int .i64 0], 5, 40⟩), (23, ⟨(.struct [(0, 3), (1, 3), (2, 3), (3, 3), (4, 3)]), .agg #[.int .i64 0, .int .i64 0, .int .i64 0, .int .i64 0, .int .i64 0], 5, 40⟩), (24, ⟨(.slice 3), .slice none 0 0, 1, 24⟩), (25, ⟨(.ptr 60), .pointer none, 1, 8⟩), (27, ⟨(.slice 23), .slice none 0 0, 1, 24⟩), (28, ⟨(.slice 49), .slice none 0 0, 1, 24⟩), (29, ⟨(.struct [(0, 3), (1, 27), (2, 28)]), .agg #[.int .i64 0, .slice none 0 0, .slice none 0 0], 3, 56⟩), (30, ⟨(.struct [(0, 3), (1, 27), (2, 28)]), .agg #[.int .i64 0, .slice none 0 0, .slice none 0 0], 3, 56⟩), (33, ⟨(.int .u64), .int .u64 0, 1, 8⟩), (35, ⟨(.int .i64), .int .i64 0, 1, 8⟩), (48, ⟨(.struct [(0, 3), (1, 24)]), .agg #[.int .i64 0, .slice none 0 0], 2, 32⟩), (49, ⟨(.struct [(0, 3), (1, 24)]), .agg #[.int .i64 0, .slice none 0 0], 2, 32⟩), (53, ⟨(.slice 30), .slice none 0 0, 1, 24⟩), (54, ⟨(.slice 24), .slice none 0 0, 1, 24⟩), (60, ⟨(.struct [(0, 24), (1, 3)]), .agg #[.slice none 0 0, .int .i64 0], 2, 32⟩), (62, ⟨(.struct [(0, 9), (1, 3), (2, 3), (3, 3)]), .agg #[.string ⟨#[]⟩, .int .i64 0, .int .i64 0, .int .i64 0], 4, 40⟩), (70, ⟨(.ptr 72), .pointer none, 1, 8⟩), (72, ⟨(.struct [(0, 30), (3, 27), (4, 3)]), .agg #[.int .i64 0, .slice none 0 0, .slice none 0 0, .slice none 0 0, .int .i64 0], 5, 88⟩), (75, ⟨(.ptr 3), .pointer none, 1, 8⟩), (76, ⟨(.ptr 23), .pointer none, 1, 8⟩), (85, ⟨(.slice 62), .slice none 0 0, 1, 24⟩), (86, ⟨(.int .i64), .int .i64 0, 1, 8⟩), (93, ⟨(.map 3 4), .map none, 1, 8⟩), (98, ⟨(.array 2 3), .agg #[.int .i64 0, .int .i64 0], 2, 16⟩), (99, ⟨(.array 11 98), .agg #[.int .i64 0, .int .i64 0, .int .i64 0, .int .i64 0, .int .i64 0, .int .i64 0, .int .i64 0, .int .i64 0, .int .i64 0, .int .i64 0, .int .i64 0, .int .i64 0, .int .i64 0, .int .i64 0, .int .i64 0, .int .i64 0, .int .i64 0, .int .i64 0, .int .i64 0, .int .i64 0, .int .i64 0, .int .i64 0], 22, 176⟩)]
theorem Tt_ok : tysOK Tryd.prog Tt := ⟨⟨by kernel_rfl, by kernel_rfl, rfl⟩, ⟨by kernel_rfl, by kernel_rfl, rfl⟩, ⟨by kernel_rfl, by kernel_rfl, rfl⟩, ⟨by kernel_rfl, by kernel_rfl, rfl⟩, ⟨by kernel_rfl, by kernel_rfl, rfl⟩, ⟨by kernel_rfl, by kernel_rfl, rfl⟩, ⟨by kernel_rfl, by kernel_rfl, rfl⟩, ⟨by kernel_rfl, by kernel_rfl, rfl⟩, ⟨by kernel_rfl, by kernel_rfl, rfl⟩, ⟨by kernel_rfl, by kernel_rfl, rfl⟩, ⟨by kernel_rfl, by kernel_rfl, rfl⟩, ⟨by kernel_rfl, by kernel_rfl, rfl⟩, ⟨by kernel_rfl, by kernel_rfl, rfl⟩, ⟨by kernel_rfl, by kernel_rfl, rfl⟩, ⟨by kernel_rfl, by kernel_rfl, rfl⟩, ⟨by kernel_rfl, by kernel_rfl, rfl⟩, ⟨by kernel_rfl, by kernel_rfl, rfl⟩, ⟨by kernel_rfl, by kernel_rfl, rfl⟩, ⟨by kernel_rfl, by kernel_rfl, rfl⟩, ⟨by kernel_rfl, by kernel_rfl, rfl⟩, ⟨by kernel_rfl, by kernel_rfl, rfl⟩, ⟨by kernel_rfl, by kernel_rfl, rfl⟩, ⟨by kernel_rfl, by kernel_rfl, rfl⟩, ⟨by kernel_rfl, by kernel_rfl, rfl⟩, ⟨by kernel_rfl, by kernel_rfl, rfl⟩, ⟨by kernel_rfl, by kernel_rfl, rfl⟩, ⟨by kernel_rfl, by kernel_rfl, rfl⟩, ⟨by kernel_rfl, by kernel_rfl, rfl⟩, ⟨by kernel_rfl, by kernel_rfl, rfl⟩, ⟨by kernel_rfl, by kernel_rfl, rfl⟩, trivial⟩
def GEt : Nat → Option PV
  | 0 => some (.rop [.val (.int .i64 8000), .val (.int .i64 11000), .val (.int .i64 1800), .val (.int .i64 3300), .val (.int .i64 1800), .val (.int .i64 3300), .val (.int .i64 (-1000)), .val (.int .i64 1000), .val (.int .i64 (-1000)), .val (.int .i64 1000), .val (.int .i64 900), .val (.int .i64 1700), .val (.int .i64 2000), .val (.int .i64 3200), .val (.int .i64 2400), .val (.int .i64 3400), .val (.int .i64 2000), .val (.int .i64 3000), .val (.int .i64 4400), .val (.int .i64 6200), .val (.int .i64 2000), .val (.int .i64 2900)] 0)
  | _ => none
def Et : TypeId → Option Nat
  | 23 => some 5
  | _ => none
theorem flds23 : (Tryd.prog.fieldsOf 23).toList.length = 5 := by kernel_rfl
noncomputable def Cc : Cx := ⟨Tryd.prog, GEt, tyGet Tt, tysOK.get Tt_ok, Et, fun t n h xs ys h1 h2 x y w => by
  unfold Et at h
  split at h
  · cases h
    exact eq_ints (by kernel_rfl) (by kernel_rfl) (by kernel_rfl) (by kernel_rfl) xs ys (by rw [flds23]; exact h1) (by rw [flds23]; exact h2) x y w
  · cases h⟩
theorem Cc_E : Cc.E 23 = some 5 := rfl
theorem Cc_P : Cc.P = Tryd.prog := rfl
theorem Cc_GE : Cc.GE = GEt := rfl
theorem T3 : Cc.T 3 = some ⟨(.int .i64), .int .i64 0, 1, 8⟩ := rfl
theorem T4 : Cc.T 4 = some ⟨.bool, .bool false, 1, 1⟩ := rfl
theorem T5 : Cc.T 5 = some ⟨(.int .u8), .int .u8 0, 1, 1⟩ := rfl
theorem T9 : Cc.T 9 = some ⟨.string, .string ⟨#[]⟩, 1, 16⟩ := rfl
theorem T21 : Cc.T 21 = some ⟨(.int .i32), .int .i32 0, 1, 4⟩ := rfl
theorem T22 : Cc.T 22 = some ⟨(.struct [(0, 3), (1, 3), (2, 3), (3, 3), (4, 3)]), .agg #[.int .i64 0, .int .i64 0, .int .i64 0, .int .i64 0, .int .i64 0], 5, 40⟩ := rfl
theorem T23 : Cc.T 23 = some ⟨(.struct [(0, 3), (1, 3), (2, 3), (3, 3), (4, 3)]), .agg #[.int .i64 0, .int .i64 0, .int .i64 0, .int .i64 0, .int .i64 0], 5, 40⟩ := rfl
theorem T24 : Cc.T 24 = some ⟨(.slice 3), .slice none 0 0, 1, 24⟩ := rfl
theorem T25 : Cc.T 25 = some ⟨(.ptr 60), .pointer none, 1, 8⟩ := rfl
theorem T27 : Cc.T 27 = some ⟨(.slice 23), .slice none 0 0, 1, 24⟩ := rfl
theorem T28 : Cc.T 28 = some ⟨(.slice 49), .slice none 0 0, 1, 24⟩ := rfl
theorem T29 : Cc.T 29 = some ⟨(.struct [(0, 3), (1, 27), (2, 28)]), .agg #[.int .i64 0, .slice none 0 0, .slice none 0 0], 3, 56⟩ := rfl
theorem T30 : Cc.T 30 = some ⟨(.struct [(0, 3), (1, 27), (2, 28)]), .agg #[.int .i64 0, .slice none 0 0, .slice none 0 0], 3, 56⟩ := rfl
theorem T33 : Cc.T 33 = some ⟨(.int .u64), .int .u64 0, 1, 8⟩ := rfl
theorem T35 : Cc.T 35 = some ⟨(.int .i64), .int .i64 0, 1, 8⟩ := rfl
theorem T48 : Cc.T 48 = some ⟨(.struct [(0, 3), (1, 24)]), .agg #[.int .i64 0, .slice none 0 0], 2, 32⟩ := rfl
theorem T49 : Cc.T 49 = some ⟨(.struct [(0, 3), (1, 24)]), .agg #[.int .i64 0, .slice none 0 0], 2, 32⟩ := rfl
theorem T53 : Cc.T 53 = some ⟨(.slice 30), .slice none 0 0, 1, 24⟩ := rfl
theorem T54 : Cc.T 54 = some ⟨(.slice 24), .slice none 0 0, 1, 24⟩ := rfl
theorem T60 : Cc.T 60 = some ⟨(.struct [(0, 24), (1, 3)]), .agg #[.slice none 0 0, .int .i64 0], 2, 32⟩ := rfl
theorem T62 : Cc.T 62 = some ⟨(.struct [(0, 9), (1, 3), (2, 3), (3, 3)]), .agg #[.string ⟨#[]⟩, .int .i64 0, .int .i64 0, .int .i64 0], 4, 40⟩ := rfl
theorem T70 : Cc.T 70 = some ⟨(.ptr 72), .pointer none, 1, 8⟩ := rfl
theorem T72 : Cc.T 72 = some ⟨(.struct [(0, 30), (3, 27), (4, 3)]), .agg #[.int .i64 0, .slice none 0 0, .slice none 0 0, .slice none 0 0, .int .i64 0], 5, 88⟩ := rfl
theorem T75 : Cc.T 75 = some ⟨(.ptr 3), .pointer none, 1, 8⟩ := rfl
theorem T76 : Cc.T 76 = some ⟨(.ptr 23), .pointer none, 1, 8⟩ := rfl
theorem T85 : Cc.T 85 = some ⟨(.slice 62), .slice none 0 0, 1, 24⟩ := rfl
theorem T86 : Cc.T 86 = some ⟨(.int .i64), .int .i64 0, 1, 8⟩ := rfl
theorem T93 : Cc.T 93 = some ⟨(.map 3 4), .map none, 1, 8⟩ := rfl
theorem T98 : Cc.T 98 = some ⟨(.array 2 3), .agg #[.int .i64 0, .int .i64 0], 2, 16⟩ := rfl
theorem T99 : Cc.T 99 = some ⟨(.array 11 98), .agg #[.int .i64 0, .int .i64 0, .int .i64 0, .int .i64 0, .int .i64 0, .int .i64 0, .int .i64 0, .int .i64 0, .int .i64 0, .int .i64 0, .int .i64 0, .int .i64 0, .int .i64 0, .int .i64 0, .int .i64 0, .int .i64 0, .int .i64 0, .int .i64 0, .int .i64 0, .int .i64 0, .int .i64 0, .int .i64 0], 22, 176⟩ := rfl
theorem GEt_cl (g : Nat) (p : PV) (h : Cc.GE g = some p) : Cl 0 0 p := by
  rw [Cc_GE] at h
  unfold GEt at h
  split at h
  · cases h; simp [Cl_rop, Cl_val]
  · cases h
theorem go3 : isGo Cc.P 3 = true := by rw [Cc_P]; kernel_rfl
theorem go4 : isGo Cc.P 4 = true := by rw [Cc_P]; kernel_rfl
theorem go5 : isGo Cc.P 5 = true := by rw [Cc_P]; kernel_rfl
theorem go6 : isGo Cc.P 6 = true := by rw [Cc_P]; kernel_rfl
theorem go7 : isGo Cc.P 7 = true := by rw [Cc_P]; kernel_rfl
theorem go8 : isGo Cc.P 8 = true := by rw [Cc_P]; kernel_rfl
theorem go9 : isGo Cc.P 9 = true := by rw [Cc_P]; kernel_rfl
theorem go10 : isGo Cc.P 10 = true := by rw [Cc_P]; kernel_rfl
theorem go11 : isGo Cc.P 11 = true := by rw [Cc_P]; kernel_rfl
theorem go12 : isGo Cc.P 12 = true := by rw [Cc_P]; kernel_rfl
theorem go13 : isGo Cc.P 13 = true := by rw [Cc_P]; kernel_rfl
theorem go14 : isGo Cc.P 14 = true := by rw [Cc_P]; kernel_rfl
theorem go15 : isGo Cc.P 15 = true := by rw [Cc_P]; kernel_rfl
theorem go16 : isGo Cc.P 16 = true := by rw [Cc_P]; kernel_rfl
theorem go17 : isGo Cc.P 17 = true := by rw [Cc_P]; kernel_rfl
theorem go18 : isGo Cc.P 18 = true := by rw [Cc_P]; kernel_rfl
theorem go19 : isGo Cc.P 19 = true := by rw [Cc_P]; kernel_rfl
theorem go20 : isGo Cc.P 20 = true := by rw [Cc_P]; kernel_rfl
theorem go21 : isGo Cc.P 21 = true := by rw [Cc_P]; kernel_rfl
theorem go22 : isGo Cc.P 22 = true := by rw [Cc_P]; kernel_rfl
theorem go23 : isGo Cc.P 23 = true := by rw [Cc_P]; kernel_rfl
theorem go24 : isGo Cc.P 24 = true := by rw [Cc_P]; kernel_rfl
theorem go25 : isGo Cc.P 25 = true := by rw [Cc_P]; kernel_rfl
theorem go26 : isGo Cc.P 26 = true := by rw [Cc_P]; kernel_rfl
theorem go27 : isGo Cc.P 27 = true := by rw [Cc_P]; kernel_rfl
theorem go28 : isGo Cc.P 28 = true := by rw [Cc_P]; kernel_rfl
theorem go29 : isGo Cc.P 29 = true := by rw [Cc_P]; kernel_rfl
theorem go30 : isGo Cc.P 30 = true := by rw [Cc_P]; kernel_rfl
theorem go31 : isGo Cc.P 31 = true := by rw [Cc_P]; kernel_rfl
theorem go32 : isGo Cc.P 32 = true := by rw [Cc_P]; kernel_rfl
theorem go33 : isGo Cc.P 33 = true := by rw [Cc_P]; kernel_rfl
theorem go34 : isGo Cc.P 34 = true := by rw [Cc_P]; kernel_rfl
theorem go35 : isGo Cc.P 35 = true := by rw [Cc_P]; kernel_rfl
theorem go36 : isGo Cc.P 36 = true := by rw [Cc_P]; kernel_rfl
theorem go37 : isGo Cc.P 37 = true := by rw [Cc_P]; kernel_rfl
theorem go38 : isGo Cc.P 38 = true := by rw [Cc_P]; kernel_rfl
theorem go39 : isGo Cc.P 39 = true := by rw [Cc_P]; kernel_rfl
theorem go40 : isGo Cc.P 40 = true := by rw [Cc_P]; kernel_rfl
theorem go41 : isGo Cc.P 41 = true := by rw [Cc_P]; kernel_rfl
theorem go42 : isGo Cc.P 42 = true := by rw [Cc_P]; kernel_rfl
theorem go43 : isGo Cc.P 43 = true := by rw [Cc_P]; kernel_rfl
theorem go44 : isGo Cc.P 44 = true := by rw [Cc_P]; kernel_rfl
theorem go45 : isGo Cc.P 45 = true := by rw [Cc_P]; kernel_rfl
theorem go46 : isGo Cc.P 46 = true := by rw [Cc_P]; kernel_rfl
theorem go47 : isGo Cc.P 47 = true := by rw [Cc_P]; kernel_rfl
theorem go48 : isGo Cc.P 48 = true := by rw [Cc_P]; kernel_rfl
theorem go49 : isGo Cc.P 49 = true := by rw [Cc_P]; kernel_rfl
theorem go50 : isGo Cc.P 50 = true := by rw [Cc_P]; kernel_rfl
theorem go51 : isGo Cc.P 51 = true := by rw [Cc_P]; kernel_rfl
theorem go52 : isGo Cc.P 52 = true := by rw [Cc_P]; kernel_rfl
theorem go53 : isGo Cc.P 53 = true := by rw [Cc_P]; kernel_rfl
theorem go54 : isGo Cc.P 54 = true := by rw [Cc_P]; kernel_rfl
theorem go55 : isGo Cc.P 55 = true := by rw [Cc_P]; kernel_rfl
theorem go56 : isGo Cc.P 56 = true := by rw [Cc_P]; kernel_rfl
theorem go57 : isGo Cc.P 57 = true := by rw [Cc_P]; kernel_rfl
theorem go58 : isGo Cc.P 58 = true := by rw [Cc_P]; kernel_rfl
theorem go59 : isGo Cc.P 59 = true := by rw [Cc_P]; kernel_rfl
theorem go60 : isGo Cc.P 60 = true := by rw [Cc_P]; kernel_rfl
theorem go61 : isGo Cc.P 61 = true := by rw [Cc_P]; kernel_rfl
theorem go62 : isGo Cc.P 62 = true := by rw [Cc_P]; kernel_rfl
theorem go63 : isGo Cc.P 63 = true := by rw [Cc_P]; kernel_rfl
theorem go64 : isGo Cc.P 64 = true := by rw [Cc_P]; kernel_rfl
theorem go65 : isGo Cc.P 65 = true := by rw [Cc_P]; kernel_rfl
theorem go66 : isGo Cc.P 66 = true := by rw [Cc_P]; kernel_rfl
theorem go67 : isGo Cc.P 67 = true := by rw [Cc_P]; kernel_rfl
theorem mixed : Cc.P.follows .mixedOrders = true := by rw [Cc_P]; kernel_rfl
end Go.Proofs.YtgabnlkkjmepnaaDoor

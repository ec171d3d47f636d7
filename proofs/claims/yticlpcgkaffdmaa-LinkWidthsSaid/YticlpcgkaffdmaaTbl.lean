/- The types of the translation, as the abstract logic wants them. Written by gen.py. -/
import Derived.Test.YticlpcgkaffdmaaProg
import Derived.Test.YticlpcgkaffdmaaAlSet
namespace Go.Proofs.Yticlpcgkaffdmaa
set_option linter.unusedVariables false
set_option linter.unusedSimpArgs false
set_option linter.unusedSectionVars false
def tbl : TT
  | 1 => some { k := .func, size := 1, bytes := 8, zero := [.nilFunc] }
  | 2 => some { k := .int .i64, size := 1, bytes := 8, zero := [.int .i64 0] }
  | 3 => some { k := .int .i64, size := 1, bytes := 8, zero := [.int .i64 0] }
  | 4 => some { k := .bool, size := 1, bytes := 1, zero := [.bool false] }
  | 5 => some { k := .int .u8, size := 1, bytes := 1, zero := [.int .u8 0] }
  | 6 => some { k := .int .u8, size := 1, bytes := 1, zero := [.int .u8 0] }
  | 7 => some { k := .struct [(0, 2), (1, 3), (2, 4), (3, 6)], size := 4, bytes := 24, zero := [.int .i64 0, .int .i64 0, .bool false, .int .u8 0] }
  | 8 => some { k := .struct [(0, 2), (1, 3), (2, 4), (3, 6)], size := 4, bytes := 24, zero := [.int .i64 0, .int .i64 0, .bool false, .int .u8 0] }
  | 9 => some { k := .str, size := 1, bytes := 16, zero := [.string ByteArray.empty] }
  | 10 => some { k := .str, size := 1, bytes := 16, zero := [.string ByteArray.empty] }
  | 11 => some { k := .str, size := 1, bytes := 16, zero := [.string ByteArray.empty] }
  | 12 => some { k := .int .u64, size := 1, bytes := 8, zero := [.int .u64 0] }
  | 13 => some { k := .struct [(0, 9), (1, 12)], size := 2, bytes := 24, zero := [.string ByteArray.empty, .int .u64 0] }
  | 14 => some { k := .struct [(0, 9), (1, 12)], size := 2, bytes := 24, zero := [.string ByteArray.empty, .int .u64 0] }
  | 15 => some { k := .ptr 66, size := 1, bytes := 8, zero := [.pointer none] }
  | 16 => some { k := .ptr 69, size := 1, bytes := 8, zero := [.pointer none] }
  | 17 => some { k := .ptr 79, size := 1, bytes := 8, zero := [.pointer none] }
  | 18 => some { k := .struct [(0, 17)], size := 1, bytes := 8, zero := [.pointer none] }
  | 19 => some { k := .struct [(0, 17)], size := 1, bytes := 8, zero := [.pointer none] }
  | 20 => some { k := .iface, size := 1, bytes := 16, zero := [.nilIface] }
  | 21 => some { k := .int .i32, size := 1, bytes := 4, zero := [.int .i32 0] }
  | 22 => some { k := .slice 24, size := 1, bytes := 24, zero := [.slice none 0 0] }
  | 23 => some { k := .struct [(0, 3), (1, 3), (2, 3), (3, 3), (4, 3)], size := 5, bytes := 40, zero := [.int .i64 0, .int .i64 0, .int .i64 0, .int .i64 0, .int .i64 0], eq := [.int, .int, .int, .int, .int] }
  | 24 => some { k := .struct [(0, 3), (1, 3), (2, 3), (3, 3), (4, 3)], size := 5, bytes := 40, zero := [.int .i64 0, .int .i64 0, .int .i64 0, .int .i64 0, .int .i64 0], eq := [.int, .int, .int, .int, .int] }
  | 25 => some { k := .struct [(0, 3), (1, 3)], size := 2, bytes := 16, zero := [.int .i64 0, .int .i64 0], eq := [.int, .int] }
  | 26 => some { k := .struct [(0, 3), (1, 3)], size := 2, bytes := 16, zero := [.int .i64 0, .int .i64 0], eq := [.int, .int] }
  | 27 => some { k := .struct [(0, 3), (1, 3)], size := 2, bytes := 16, zero := [.int .i64 0, .int .i64 0], eq := [.int, .int] }
  | 28 => some { k := .func, size := 1, bytes := 8, zero := [.nilFunc] }
  | 29 => some { k := .func, size := 1, bytes := 8, zero := [.nilFunc] }
  | 30 => some { k := .int .i64, size := 1, bytes := 8, zero := [.int .i64 0] }
  | 32 => some { k := .func, size := 1, bytes := 8, zero := [.nilFunc] }
  | 34 => some { k := .func, size := 1, bytes := 8, zero := [.nilFunc] }
  | 35 => some { k := .func, size := 1, bytes := 8, zero := [.nilFunc] }
  | 36 => some { k := .func, size := 1, bytes := 8, zero := [.nilFunc] }
  | 37 => some { k := .func, size := 1, bytes := 8, zero := [.nilFunc] }
  | 38 => some { k := .func, size := 1, bytes := 8, zero := [.nilFunc] }
  | 39 => some { k := .func, size := 1, bytes := 8, zero := [.nilFunc] }
  | 40 => some { k := .func, size := 1, bytes := 8, zero := [.nilFunc] }
  | 41 => some { k := .func, size := 1, bytes := 8, zero := [.nilFunc] }
  | 42 => some { k := .slice 3, size := 1, bytes := 24, zero := [.slice none 0 0] }
  | 43 => some { k := .func, size := 1, bytes := 8, zero := [.nilFunc] }
  | 44 => some { k := .int .u16, size := 1, bytes := 2, zero := [.int .u16 0] }
  | 45 => some { k := .array 4 44, size := 4, bytes := 8, zero := [.int .u16 0, .int .u16 0, .int .u16 0, .int .u16 0], eq := [.int, .int, .int, .int] }
  | 46 => some { k := .func, size := 1, bytes := 8, zero := [.nilFunc] }
  | 47 => some { k := .func, size := 1, bytes := 8, zero := [.nilFunc] }
  | 48 => some { k := .func, size := 1, bytes := 8, zero := [.nilFunc] }
  | 49 => some { k := .func, size := 1, bytes := 8, zero := [.nilFunc] }
  | 50 => some { k := .func, size := 1, bytes := 8, zero := [.nilFunc] }
  | 51 => some { k := .array 5 4, size := 5, bytes := 5, zero := [.bool false, .bool false, .bool false, .bool false, .bool false], eq := [.bool, .bool, .bool, .bool, .bool] }
  | 52 => some { k := .func, size := 1, bytes := 8, zero := [.nilFunc] }
  | 53 => some { k := .func, size := 1, bytes := 8, zero := [.nilFunc] }
  | 54 => some { k := .func, size := 1, bytes := 8, zero := [.nilFunc] }
  | 55 => some { k := .func, size := 1, bytes := 8, zero := [.nilFunc] }
  | 56 => some { k := .func, size := 1, bytes := 8, zero := [.nilFunc] }
  | 57 => some { k := .func, size := 1, bytes := 8, zero := [.nilFunc] }
  | 58 => some { k := .func, size := 1, bytes := 8, zero := [.nilFunc] }
  | 59 => some { k := .func, size := 1, bytes := 8, zero := [.nilFunc] }
  | 60 => some { k := .func, size := 1, bytes := 8, zero := [.nilFunc] }
  | 61 => some { k := .func, size := 1, bytes := 8, zero := [.nilFunc] }
  | 62 => some { k := .func, size := 1, bytes := 8, zero := [.nilFunc] }
  | 63 => some { k := .func, size := 1, bytes := 8, zero := [.nilFunc] }
  | 64 => some { k := .func, size := 1, bytes := 8, zero := [.nilFunc] }
  | 65 => some { k := .struct [(0, 17), (1, 17), (2, 17), (3, 9)], size := 4, bytes := 40, zero := [.pointer none, .pointer none, .pointer none, .string ByteArray.empty] }
  | 66 => some { k := .struct [(0, 17), (1, 17), (2, 17), (3, 9)], size := 4, bytes := 40, zero := [.pointer none, .pointer none, .pointer none, .string ByteArray.empty] }
  | 67 => some { k := .array 0 16, size := 0, bytes := 0, zero := [] }
  | 68 => some { k := .struct [(0, 67)], size := 0, bytes := 0, zero := [] }
  | 69 => some { k := .struct [(0, 67)], size := 0, bytes := 0, zero := [] }
  | 70 => some { k := .func, size := 1, bytes := 8, zero := [.nilFunc] }
  | 71 => some { k := .int .u32, size := 1, bytes := 4, zero := [.int .u32 0] }
  | 72 => some { k := .int .u8, size := 1, bytes := 1, zero := [.int .u8 0] }
  | 73 => some { k := .int .u8, size := 1, bytes := 1, zero := [.int .u8 0] }
  | 74 => some { k := .func, size := 1, bytes := 8, zero := [.nilFunc] }
  | 75 => some { k := .ptr 5, size := 1, bytes := 8, zero := [.pointer none] }
  | 76 => some { k := .int .i32, size := 1, bytes := 4, zero := [.int .i32 0] }
  | 77 => some { k := .int .i32, size := 1, bytes := 4, zero := [.int .i32 0] }
  | 78 => some { k := .struct [(0, 12), (1, 12), (2, 71), (3, 72), (4, 5), (5, 5), (6, 73), (7, 74), (8, 75), (9, 76), (10, 77)], size := 11, bytes := 48, zero := [.int .u64 0, .int .u64 0, .int .u32 0, .int .u8 0, .int .u8 0, .int .u8 0, .int .u8 0, .nilFunc, .pointer none, .int .i32 0, .int .i32 0] }
  | 79 => some { k := .struct [(0, 12), (1, 12), (2, 71), (3, 72), (4, 5), (5, 5), (6, 73), (7, 74), (8, 75), (9, 76), (10, 77)], size := 11, bytes := 48, zero := [.int .u64 0, .int .u64 0, .int .u32 0, .int .u8 0, .int .u8 0, .int .u8 0, .int .u8 0, .nilFunc, .pointer none, .int .i32 0, .int .i32 0] }
  | _ => none
@[go_sem] theorem tbl_1 : tbl 1 = some { k := .func, size := 1, bytes := 8, zero := [.nilFunc] } := rfl
@[go_sem] theorem tbl_2 : tbl 2 = some { k := .int .i64, size := 1, bytes := 8, zero := [.int .i64 0] } := rfl
@[go_sem] theorem tbl_3 : tbl 3 = some { k := .int .i64, size := 1, bytes := 8, zero := [.int .i64 0] } := rfl
@[go_sem] theorem tbl_4 : tbl 4 = some { k := .bool, size := 1, bytes := 1, zero := [.bool false] } := rfl
@[go_sem] theorem tbl_5 : tbl 5 = some { k := .int .u8, size := 1, bytes := 1, zero := [.int .u8 0] } := rfl
@[go_sem] theorem tbl_6 : tbl 6 = some { k := .int .u8, size := 1, bytes := 1, zero := [.int .u8 0] } := rfl
@[go_sem] theorem tbl_7 : tbl 7 = some { k := .struct [(0, 2), (1, 3), (2, 4), (3, 6)], size := 4, bytes := 24, zero := [.int .i64 0, .int .i64 0, .bool false, .int .u8 0] } := rfl
@[go_sem] theorem tbl_8 : tbl 8 = some { k := .struct [(0, 2), (1, 3), (2, 4), (3, 6)], size := 4, bytes := 24, zero := [.int .i64 0, .int .i64 0, .bool false, .int .u8 0] } := rfl
@[go_sem] theorem tbl_9 : tbl 9 = some { k := .str, size := 1, bytes := 16, zero := [.string ByteArray.empty] } := rfl
@[go_sem] theorem tbl_10 : tbl 10 = some { k := .str, size := 1, bytes := 16, zero := [.string ByteArray.empty] } := rfl
@[go_sem] theorem tbl_11 : tbl 11 = some { k := .str, size := 1, bytes := 16, zero := [.string ByteArray.empty] } := rfl
@[go_sem] theorem tbl_12 : tbl 12 = some { k := .int .u64, size := 1, bytes := 8, zero := [.int .u64 0] } := rfl
@[go_sem] theorem tbl_13 : tbl 13 = some { k := .struct [(0, 9), (1, 12)], size := 2, bytes := 24, zero := [.string ByteArray.empty, .int .u64 0] } := rfl
@[go_sem] theorem tbl_14 : tbl 14 = some { k := .struct [(0, 9), (1, 12)], size := 2, bytes := 24, zero := [.string ByteArray.empty, .int .u64 0] } := rfl
@[go_sem] theorem tbl_15 : tbl 15 = some { k := .ptr 66, size := 1, bytes := 8, zero := [.pointer none] } := rfl
@[go_sem] theorem tbl_16 : tbl 16 = some { k := .ptr 69, size := 1, bytes := 8, zero := [.pointer none] } := rfl
@[go_sem] theorem tbl_17 : tbl 17 = some { k := .ptr 79, size := 1, bytes := 8, zero := [.pointer none] } := rfl
@[go_sem] theorem tbl_18 : tbl 18 = some { k := .struct [(0, 17)], size := 1, bytes := 8, zero := [.pointer none] } := rfl
@[go_sem] theorem tbl_19 : tbl 19 = some { k := .struct [(0, 17)], size := 1, bytes := 8, zero := [.pointer none] } := rfl
@[go_sem] theorem tbl_20 : tbl 20 = some { k := .iface, size := 1, bytes := 16, zero := [.nilIface] } := rfl
@[go_sem] theorem tbl_21 : tbl 21 = some { k := .int .i32, size := 1, bytes := 4, zero := [.int .i32 0] } := rfl
@[go_sem] theorem tbl_22 : tbl 22 = some { k := .slice 24, size := 1, bytes := 24, zero := [.slice none 0 0] } := rfl
@[go_sem] theorem tbl_23 : tbl 23 = some { k := .struct [(0, 3), (1, 3), (2, 3), (3, 3), (4, 3)], size := 5, bytes := 40, zero := [.int .i64 0, .int .i64 0, .int .i64 0, .int .i64 0, .int .i64 0], eq := [.int, .int, .int, .int, .int] } := rfl
@[go_sem] theorem tbl_24 : tbl 24 = some { k := .struct [(0, 3), (1, 3), (2, 3), (3, 3), (4, 3)], size := 5, bytes := 40, zero := [.int .i64 0, .int .i64 0, .int .i64 0, .int .i64 0, .int .i64 0], eq := [.int, .int, .int, .int, .int] } := rfl
@[go_sem] theorem tbl_25 : tbl 25 = some { k := .struct [(0, 3), (1, 3)], size := 2, bytes := 16, zero := [.int .i64 0, .int .i64 0], eq := [.int, .int] } := rfl
@[go_sem] theorem tbl_26 : tbl 26 = some { k := .struct [(0, 3), (1, 3)], size := 2, bytes := 16, zero := [.int .i64 0, .int .i64 0], eq := [.int, .int] } := rfl
@[go_sem] theorem tbl_27 : tbl 27 = some { k := .struct [(0, 3), (1, 3)], size := 2, bytes := 16, zero := [.int .i64 0, .int .i64 0], eq := [.int, .int] } := rfl
@[go_sem] theorem tbl_28 : tbl 28 = some { k := .func, size := 1, bytes := 8, zero := [.nilFunc] } := rfl
@[go_sem] theorem tbl_29 : tbl 29 = some { k := .func, size := 1, bytes := 8, zero := [.nilFunc] } := rfl
@[go_sem] theorem tbl_30 : tbl 30 = some { k := .int .i64, size := 1, bytes := 8, zero := [.int .i64 0] } := rfl
@[go_sem] theorem tbl_32 : tbl 32 = some { k := .func, size := 1, bytes := 8, zero := [.nilFunc] } := rfl
@[go_sem] theorem tbl_34 : tbl 34 = some { k := .func, size := 1, bytes := 8, zero := [.nilFunc] } := rfl
@[go_sem] theorem tbl_35 : tbl 35 = some { k := .func, size := 1, bytes := 8, zero := [.nilFunc] } := rfl
@[go_sem] theorem tbl_36 : tbl 36 = some { k := .func, size := 1, bytes := 8, zero := [.nilFunc] } := rfl
@[go_sem] theorem tbl_37 : tbl 37 = some { k := .func, size := 1, bytes := 8, zero := [.nilFunc] } := rfl
@[go_sem] theorem tbl_38 : tbl 38 = some { k := .func, size := 1, bytes := 8, zero := [.nilFunc] } := rfl
@[go_sem] theorem tbl_39 : tbl 39 = some { k := .func, size := 1, bytes := 8, zero := [.nilFunc] } := rfl
@[go_sem] theorem tbl_40 : tbl 40 = some { k := .func, size := 1, bytes := 8, zero := [.nilFunc] } := rfl
@[go_sem] theorem tbl_41 : tbl 41 = some { k := .func, size := 1, bytes := 8, zero := [.nilFunc] } := rfl
@[go_sem] theorem tbl_42 : tbl 42 = some { k := .slice 3, size := 1, bytes := 24, zero := [.slice none 0 0] } := rfl
@[go_sem] theorem tbl_43 : tbl 43 = some { k := .func, size := 1, bytes := 8, zero := [.nilFunc] } := rfl
@[go_sem] theorem tbl_44 : tbl 44 = some { k := .int .u16, size := 1, bytes := 2, zero := [.int .u16 0] } := rfl
@[go_sem] theorem tbl_45 : tbl 45 = some { k := .array 4 44, size := 4, bytes := 8, zero := [.int .u16 0, .int .u16 0, .int .u16 0, .int .u16 0], eq := [.int, .int, .int, .int] } := rfl
@[go_sem] theorem tbl_46 : tbl 46 = some { k := .func, size := 1, bytes := 8, zero := [.nilFunc] } := rfl
@[go_sem] theorem tbl_47 : tbl 47 = some { k := .func, size := 1, bytes := 8, zero := [.nilFunc] } := rfl
@[go_sem] theorem tbl_48 : tbl 48 = some { k := .func, size := 1, bytes := 8, zero := [.nilFunc] } := rfl
@[go_sem] theorem tbl_49 : tbl 49 = some { k := .func, size := 1, bytes := 8, zero := [.nilFunc] } := rfl
@[go_sem] theorem tbl_50 : tbl 50 = some { k := .func, size := 1, bytes := 8, zero := [.nilFunc] } := rfl
@[go_sem] theorem tbl_51 : tbl 51 = some { k := .array 5 4, size := 5, bytes := 5, zero := [.bool false, .bool false, .bool false, .bool false, .bool false], eq := [.bool, .bool, .bool, .bool, .bool] } := rfl
@[go_sem] theorem tbl_52 : tbl 52 = some { k := .func, size := 1, bytes := 8, zero := [.nilFunc] } := rfl
@[go_sem] theorem tbl_53 : tbl 53 = some { k := .func, size := 1, bytes := 8, zero := [.nilFunc] } := rfl
@[go_sem] theorem tbl_54 : tbl 54 = some { k := .func, size := 1, bytes := 8, zero := [.nilFunc] } := rfl
@[go_sem] theorem tbl_55 : tbl 55 = some { k := .func, size := 1, bytes := 8, zero := [.nilFunc] } := rfl
@[go_sem] theorem tbl_56 : tbl 56 = some { k := .func, size := 1, bytes := 8, zero := [.nilFunc] } := rfl
@[go_sem] theorem tbl_57 : tbl 57 = some { k := .func, size := 1, bytes := 8, zero := [.nilFunc] } := rfl
@[go_sem] theorem tbl_58 : tbl 58 = some { k := .func, size := 1, bytes := 8, zero := [.nilFunc] } := rfl
@[go_sem] theorem tbl_59 : tbl 59 = some { k := .func, size := 1, bytes := 8, zero := [.nilFunc] } := rfl
@[go_sem] theorem tbl_60 : tbl 60 = some { k := .func, size := 1, bytes := 8, zero := [.nilFunc] } := rfl
@[go_sem] theorem tbl_61 : tbl 61 = some { k := .func, size := 1, bytes := 8, zero := [.nilFunc] } := rfl
@[go_sem] theorem tbl_62 : tbl 62 = some { k := .func, size := 1, bytes := 8, zero := [.nilFunc] } := rfl
@[go_sem] theorem tbl_63 : tbl 63 = some { k := .func, size := 1, bytes := 8, zero := [.nilFunc] } := rfl
@[go_sem] theorem tbl_64 : tbl 64 = some { k := .func, size := 1, bytes := 8, zero := [.nilFunc] } := rfl
@[go_sem] theorem tbl_65 : tbl 65 = some { k := .struct [(0, 17), (1, 17), (2, 17), (3, 9)], size := 4, bytes := 40, zero := [.pointer none, .pointer none, .pointer none, .string ByteArray.empty] } := rfl
@[go_sem] theorem tbl_66 : tbl 66 = some { k := .struct [(0, 17), (1, 17), (2, 17), (3, 9)], size := 4, bytes := 40, zero := [.pointer none, .pointer none, .pointer none, .string ByteArray.empty] } := rfl
@[go_sem] theorem tbl_67 : tbl 67 = some { k := .array 0 16, size := 0, bytes := 0, zero := [] } := rfl
@[go_sem] theorem tbl_68 : tbl 68 = some { k := .struct [(0, 67)], size := 0, bytes := 0, zero := [] } := rfl
@[go_sem] theorem tbl_69 : tbl 69 = some { k := .struct [(0, 67)], size := 0, bytes := 0, zero := [] } := rfl
@[go_sem] theorem tbl_70 : tbl 70 = some { k := .func, size := 1, bytes := 8, zero := [.nilFunc] } := rfl
@[go_sem] theorem tbl_71 : tbl 71 = some { k := .int .u32, size := 1, bytes := 4, zero := [.int .u32 0] } := rfl
@[go_sem] theorem tbl_72 : tbl 72 = some { k := .int .u8, size := 1, bytes := 1, zero := [.int .u8 0] } := rfl
@[go_sem] theorem tbl_73 : tbl 73 = some { k := .int .u8, size := 1, bytes := 1, zero := [.int .u8 0] } := rfl
@[go_sem] theorem tbl_74 : tbl 74 = some { k := .func, size := 1, bytes := 8, zero := [.nilFunc] } := rfl
@[go_sem] theorem tbl_75 : tbl 75 = some { k := .ptr 5, size := 1, bytes := 8, zero := [.pointer none] } := rfl
@[go_sem] theorem tbl_76 : tbl 76 = some { k := .int .i32, size := 1, bytes := 4, zero := [.int .i32 0] } := rfl
@[go_sem] theorem tbl_77 : tbl 77 = some { k := .int .i32, size := 1, bytes := 4, zero := [.int .i32 0] } := rfl
@[go_sem] theorem tbl_78 : tbl 78 = some { k := .struct [(0, 12), (1, 12), (2, 71), (3, 72), (4, 5), (5, 5), (6, 73), (7, 74), (8, 75), (9, 76), (10, 77)], size := 11, bytes := 48, zero := [.int .u64 0, .int .u64 0, .int .u32 0, .int .u8 0, .int .u8 0, .int .u8 0, .int .u8 0, .nilFunc, .pointer none, .int .i32 0, .int .i32 0] } := rfl
@[go_sem] theorem tbl_79 : tbl 79 = some { k := .struct [(0, 12), (1, 12), (2, 71), (3, 72), (4, 5), (5, 5), (6, 73), (7, 74), (8, 75), (9, 76), (10, 77)], size := 11, bytes := 48, zero := [.int .u64 0, .int .u64 0, .int .u32 0, .int .u8 0, .int .u8 0, .int .u8 0, .int .u8 0, .nilFunc, .pointer none, .int .i32 0, .int .i32 0] } := rfl
set_option maxHeartbeats 4000000 in
theorem tblOk : TOk Try.prog tbl := by
  intro t i h
  unfold tbl at h
  split at h
  all_goals first | (cases h; done) | (cases h; exact ⟨by kernel_rfl, by kernel_rfl, by kernel_rfl⟩)
end Go.Proofs.Yticlpcgkaffdmaa

/- The types of the translation, as the abstract logic wants them. Written by gen.py. -/
import Derived.Test.YtcdgncmkkknmlaaGreatDoorProg
import Derived.Test.YtcdgncmkkknmlaaGreatDoorA3
namespace Go.Proofs.YtcdgncmkkknmlaaGreatDoor
def tbl : TT
  | 1 => some { k := .func, size := 1, bytes := 8, zero := [.nilFunc] }
  | 2 => some { k := .int .i64, size := 1, bytes := 8, zero := [.int .i64 0] }
  | 3 => some { k := .int .i64, size := 1, bytes := 8, zero := [.int .i64 0] }
  | 4 => some { k := .bool, size := 1, bytes := 1, zero := [.bool false] }
  | 5 => some { k := .int .u8, size := 1, bytes := 1, zero := [.int .u8 0] }
  | 6 => some { k := .int .u8, size := 1, bytes := 1, zero := [.int .u8 0] }
  | 7 => some { k := .struct [(0, 2), (1, 3), (2, 4), (3, 6)], size := 4, bytes := 24, zero := [.int .i64 0, .int .i64 0, .bool false, .int .u8 0] }
  | 8 => some { k := .struct [(0, 2), (1, 3), (2, 4), (3, 6)], size := 4, bytes := 24, zero := [.int .i64 0, .int .i64 0, .bool false, .int .u8 0] }
  | 9 => some { k := .str, size := 1, bytes := 16, zero := [.string ByteArray.empty] }
  | 10 => some { k := .str, size := 1, bytes := 16, zero := [.string ByteArray.empty] }
  | 11 => some { k := .str, size := 1, bytes := 16, zero := [.string ByteArray.empty] }
  | 12 => some { k := .int .u64, size := 1, bytes := 8, zero := [.int .u64 0] }
  | 13 => some { k := .struct [(0, 9), (1, 12)], size := 2, bytes := 24, zero := [.string ByteArray.empty, .int .u64 0] }
  | 14 => some { k := .struct [(0, 9), (1, 12)], size := 2, bytes := 24, zero := [.string ByteArray.empty, .int .u64 0] }
  | 15 => some { k := .ptr 198, size := 1, bytes := 8, zero := [.pointer none] }
  | 16 => some { k := .ptr 201, size := 1, bytes := 8, zero := [.pointer none] }
  | 17 => some { k := .ptr 209, size := 1, bytes := 8, zero := [.pointer none] }
  | 18 => some { k := .struct [(0, 17)], size := 1, bytes := 8, zero := [.pointer none] }
  | 19 => some { k := .struct [(0, 17)], size := 1, bytes := 8, zero := [.pointer none] }
  | 20 => some { k := .iface, size := 1, bytes := 16, zero := [.nilIface] }
  | 22 => some { k := .slice 73, size := 1, bytes := 24, zero := [.slice none 0 0] }
  | 23 => some { k := .slice 49, size := 1, bytes := 24, zero := [.slice none 0 0] }
  | 24 => some { k := .slice 52, size := 1, bytes := 24, zero := [.slice none 0 0] }
  | 25 => some { k := .slice 67, size := 1, bytes := 24, zero := [.slice none 0 0] }
  | 26 => some { k := .struct [(0, 22), (1, 23), (2, 24), (3, 25), (4, 3), (5, 3), (6, 3)], size := 7, bytes := 120, zero := [.slice none 0 0, .slice none 0 0, .slice none 0 0, .slice none 0 0, .int .i64 0, .int .i64 0, .int .i64 0] }
  | 27 => some { k := .struct [(0, 22), (1, 23), (2, 24), (3, 25), (4, 3), (5, 3), (6, 3)], size := 7, bytes := 120, zero := [.slice none 0 0, .slice none 0 0, .slice none 0 0, .slice none 0 0, .int .i64 0, .int .i64 0, .int .i64 0] }
  | 28 => some { k := .struct [(0, 3), (1, 3)], size := 2, bytes := 16, zero := [.int .i64 0, .int .i64 0], eq := [.int, .int] }
  | 29 => some { k := .struct [(0, 3), (1, 3)], size := 2, bytes := 16, zero := [.int .i64 0, .int .i64 0], eq := [.int, .int] }
  | 32 => some { k := .int .i64, size := 1, bytes := 8, zero := [.int .i64 0] }
  | 35 => some { k := .slice 62, size := 1, bytes := 24, zero := [.slice none 0 0] }
  | 36 => some { k := .struct [(0, 3), (1, 3), (2, 3), (3, 3), (4, 35)], size := 5, bytes := 56, zero := [.int .i64 0, .int .i64 0, .int .i64 0, .int .i64 0, .slice none 0 0] }
  | 37 => some { k := .struct [(0, 3), (1, 3), (2, 3), (3, 3), (4, 35)], size := 5, bytes := 56, zero := [.int .i64 0, .int .i64 0, .int .i64 0, .int .i64 0, .slice none 0 0] }
  | 41 => some { k := .slice 84, size := 1, bytes := 24, zero := [.slice none 0 0] }
  | 47 => some { k := .struct [(0, 3), (1, 3)], size := 2, bytes := 16, zero := [.int .i64 0, .int .i64 0], eq := [.int, .int] }
  | 48 => some { k := .struct [(0, 3), (1, 3), (2, 47), (4, 47)], size := 6, bytes := 48, zero := [.int .i64 0, .int .i64 0, .int .i64 0, .int .i64 0, .int .i64 0, .int .i64 0], eq := [.int, .int, .int, .int, .int, .int] }
  | 49 => some { k := .struct [(0, 3), (1, 3), (2, 47), (4, 47)], size := 6, bytes := 48, zero := [.int .i64 0, .int .i64 0, .int .i64 0, .int .i64 0, .int .i64 0, .int .i64 0], eq := [.int, .int, .int, .int, .int, .int] }
  | 51 => some { k := .struct [(0, 3), (1, 3), (2, 3), (3, 3)], size := 4, bytes := 32, zero := [.int .i64 0, .int .i64 0, .int .i64 0, .int .i64 0], eq := [.int, .int, .int, .int] }
  | 52 => some { k := .struct [(0, 3), (1, 3), (2, 3), (3, 3)], size := 4, bytes := 32, zero := [.int .i64 0, .int .i64 0, .int .i64 0, .int .i64 0], eq := [.int, .int, .int, .int] }
  | 53 => some { k := .slice 56, size := 1, bytes := 24, zero := [.slice none 0 0] }
  | 55 => some { k := .struct [(0, 3), (1, 3), (2, 3), (3, 3), (4, 3)], size := 5, bytes := 40, zero := [.int .i64 0, .int .i64 0, .int .i64 0, .int .i64 0, .int .i64 0], eq := [.int, .int, .int, .int, .int] }
  | 56 => some { k := .struct [(0, 3), (1, 3), (2, 3), (3, 3), (4, 3)], size := 5, bytes := 40, zero := [.int .i64 0, .int .i64 0, .int .i64 0, .int .i64 0, .int .i64 0], eq := [.int, .int, .int, .int, .int] }
  | 61 => some { k := .struct [(0, 3), (1, 3), (2, 3), (3, 56)], size := 8, bytes := 64, zero := [.int .i64 0, .int .i64 0, .int .i64 0, .int .i64 0, .int .i64 0, .int .i64 0, .int .i64 0, .int .i64 0], eq := [.int, .int, .int, .int, .int, .int, .int, .int] }
  | 62 => some { k := .struct [(0, 3), (1, 3), (2, 3), (3, 56)], size := 8, bytes := 64, zero := [.int .i64 0, .int .i64 0, .int .i64 0, .int .i64 0, .int .i64 0, .int .i64 0, .int .i64 0, .int .i64 0], eq := [.int, .int, .int, .int, .int, .int, .int, .int] }
  | 64 => some { k := .int .u16, size := 1, bytes := 2, zero := [.int .u16 0] }
  | 66 => some { k := .struct [(0, 3), (1, 3), (2, 53)], size := 3, bytes := 40, zero := [.int .i64 0, .int .i64 0, .slice none 0 0] }
  | 67 => some { k := .struct [(0, 3), (1, 3), (2, 53)], size := 3, bytes := 40, zero := [.int .i64 0, .int .i64 0, .slice none 0 0] }
  | 70 => some { k := .slice 3, size := 1, bytes := 24, zero := [.slice none 0 0] }
  | 71 => some { k := .slice 70, size := 1, bytes := 24, zero := [.slice none 0 0] }
  | 72 => some { k := .struct [(0, 70), (1, 70), (2, 71)], size := 3, bytes := 72, zero := [.slice none 0 0, .slice none 0 0, .slice none 0 0] }
  | 73 => some { k := .struct [(0, 70), (1, 70), (2, 71)], size := 3, bytes := 72, zero := [.slice none 0 0, .slice none 0 0, .slice none 0 0] }
  | 81 => some { k := .struct [(0, 3), (1, 3)], size := 2, bytes := 16, zero := [.int .i64 0, .int .i64 0], eq := [.int, .int] }
  | 82 => some { k := .struct [(0, 3), (1, 3)], size := 2, bytes := 16, zero := [.int .i64 0, .int .i64 0], eq := [.int, .int] }
  | 83 => some { k := .struct [(0, 3), (1, 3), (2, 3), (3, 3), (4, 3), (5, 82)], size := 7, bytes := 56, zero := [.int .i64 0, .int .i64 0, .int .i64 0, .int .i64 0, .int .i64 0, .int .i64 0, .int .i64 0], eq := [.int, .int, .int, .int, .int, .int, .int] }
  | 84 => some { k := .struct [(0, 3), (1, 3), (2, 3), (3, 3), (4, 3), (5, 82)], size := 7, bytes := 56, zero := [.int .i64 0, .int .i64 0, .int .i64 0, .int .i64 0, .int .i64 0, .int .i64 0, .int .i64 0], eq := [.int, .int, .int, .int, .int, .int, .int] }
  | 86 => some { k := .struct [(0, 3), (1, 3), (2, 47), (4, 47)], size := 6, bytes := 48, zero := [.int .i64 0, .int .i64 0, .int .i64 0, .int .i64 0, .int .i64 0, .int .i64 0], eq := [.int, .int, .int, .int, .int, .int] }
  | 89 => some { k := .slice 86, size := 1, bytes := 24, zero := [.slice none 0 0] }
  | 91 => some { k := .func, size := 1, bytes := 8, zero := [.nilFunc] }
  | 96 => some { k := .func, size := 1, bytes := 8, zero := [.nilFunc] }
  | 97 => some { k := .func, size := 1, bytes := 8, zero := [.nilFunc] }
  | 98 => some { k := .struct [(0, 3), (1, 3), (2, 3), (3, 3)], size := 4, bytes := 32, zero := [.int .i64 0, .int .i64 0, .int .i64 0, .int .i64 0], eq := [.int, .int, .int, .int] }
  | 99 => some { k := .func, size := 1, bytes := 8, zero := [.nilFunc] }
  | 104 => some { k := .slice 98, size := 1, bytes := 24, zero := [.slice none 0 0] }
  | 106 => some { k := .func, size := 1, bytes := 8, zero := [.nilFunc] }
  | 113 => some { k := .func, size := 1, bytes := 8, zero := [.nilFunc] }
  | 114 => some { k := .func, size := 1, bytes := 8, zero := [.nilFunc] }
  | 117 => some { k := .func, size := 1, bytes := 8, zero := [.nilFunc] }
  | 118 => some { k := .func, size := 1, bytes := 8, zero := [.nilFunc] }
  | 123 => some { k := .func, size := 1, bytes := 8, zero := [.nilFunc] }
  | 128 => some { k := .func, size := 1, bytes := 8, zero := [.nilFunc] }
  | 133 => some { k := .map 134 4, size := 1, bytes := 8, zero := [.map none] }
  | 134 => some { k := .array 2 3, size := 2, bytes := 16, zero := [.int .i64 0, .int .i64 0], eq := [.int, .int] }
  | 142 => some { k := .func, size := 1, bytes := 8, zero := [.nilFunc] }
  | 144 => some { k := .int .u64, size := 1, bytes := 8, zero := [.int .u64 0] }
  | 145 => some { k := .struct [(0, 144), (1, 144), (2, 144), (3, 4)], size := 4, bytes := 32, zero := [.int .u64 0, .int .u64 0, .int .u64 0, .bool false], eq := [.int, .int, .int, .bool] }
  | 146 => some { k := .struct [(0, 144), (1, 144), (2, 144), (3, 4)], size := 4, bytes := 32, zero := [.int .u64 0, .int .u64 0, .int .u64 0, .bool false], eq := [.int, .int, .int, .bool] }
  | 147 => some { k := .func, size := 1, bytes := 8, zero := [.nilFunc] }
  | 150 => some { k := .func, size := 1, bytes := 8, zero := [.nilFunc] }
  | 153 => some { k := .slice 134, size := 1, bytes := 24, zero := [.slice none 0 0] }
  | 155 => some { k := .func, size := 1, bytes := 8, zero := [.nilFunc] }
  | 159 => some { k := .ptr 3, size := 1, bytes := 8, zero := [.pointer none] }
  | 160 => some { k := .func, size := 1, bytes := 8, zero := [.nilFunc] }
  | 161 => some { k := .int .u64, size := 1, bytes := 8, zero := [.int .u64 0] }
  | 162 => some { k := .func, size := 1, bytes := 8, zero := [.nilFunc] }
  | 173 => some { k := .iface, size := 1, bytes := 16, zero := [.nilIface] }
  | 174 => some { k := .iface, size := 1, bytes := 16, zero := [.nilIface] }
  | 178 => some { k := .slice 5, size := 1, bytes := 24, zero := [.slice none 0 0] }
  | 183 => some { k := .array 24 5, size := 24, bytes := 24, zero := [.int .u8 0, .int .u8 0, .int .u8 0, .int .u8 0, .int .u8 0, .int .u8 0, .int .u8 0, .int .u8 0, .int .u8 0, .int .u8 0, .int .u8 0, .int .u8 0, .int .u8 0, .int .u8 0, .int .u8 0, .int .u8 0, .int .u8 0, .int .u8 0, .int .u8 0, .int .u8 0, .int .u8 0, .int .u8 0, .int .u8 0, .int .u8 0], eq := [.int, .int, .int, .int, .int, .int, .int, .int, .int, .int, .int, .int, .int, .int, .int, .int, .int, .int, .int, .int, .int, .int, .int, .int] }
  | 188 => some { k := .array 20 144, size := 20, bytes := 160, zero := [.int .u64 0, .int .u64 0, .int .u64 0, .int .u64 0, .int .u64 0, .int .u64 0, .int .u64 0, .int .u64 0, .int .u64 0, .int .u64 0, .int .u64 0, .int .u64 0, .int .u64 0, .int .u64 0, .int .u64 0, .int .u64 0, .int .u64 0, .int .u64 0, .int .u64 0, .int .u64 0], eq := [.int, .int, .int, .int, .int, .int, .int, .int, .int, .int, .int, .int, .int, .int, .int, .int, .int, .int, .int, .int] }
  | 189 => some { k := .int .u32, size := 1, bytes := 4, zero := [.int .u32 0] }
  | 193 => some { k := .array 32 5, size := 32, bytes := 32, zero := [.int .u8 0, .int .u8 0, .int .u8 0, .int .u8 0, .int .u8 0, .int .u8 0, .int .u8 0, .int .u8 0, .int .u8 0, .int .u8 0, .int .u8 0, .int .u8 0, .int .u8 0, .int .u8 0, .int .u8 0, .int .u8 0, .int .u8 0, .int .u8 0, .int .u8 0, .int .u8 0, .int .u8 0, .int .u8 0, .int .u8 0, .int .u8 0, .int .u8 0, .int .u8 0, .int .u8 0, .int .u8 0, .int .u8 0, .int .u8 0, .int .u8 0, .int .u8 0], eq := [.int, .int, .int, .int, .int, .int, .int, .int, .int, .int, .int, .int, .int, .int, .int, .int, .int, .int, .int, .int, .int, .int, .int, .int, .int, .int, .int, .int, .int, .int, .int, .int] }
  | 194 => some { k := .array 64 5, size := 64, bytes := 64, zero := [.int .u8 0, .int .u8 0, .int .u8 0, .int .u8 0, .int .u8 0, .int .u8 0, .int .u8 0, .int .u8 0, .int .u8 0, .int .u8 0, .int .u8 0, .int .u8 0, .int .u8 0, .int .u8 0, .int .u8 0, .int .u8 0, .int .u8 0, .int .u8 0, .int .u8 0, .int .u8 0, .int .u8 0, .int .u8 0, .int .u8 0, .int .u8 0, .int .u8 0, .int .u8 0, .int .u8 0, .int .u8 0, .int .u8 0, .int .u8 0, .int .u8 0, .int .u8 0, .int .u8 0, .int .u8 0, .int .u8 0, .int .u8 0, .int .u8 0, .int .u8 0, .int .u8 0, .int .u8 0, .int .u8 0, .int .u8 0, .int .u8 0, .int .u8 0, .int .u8 0, .int .u8 0, .int .u8 0, .int .u8 0, .int .u8 0, .int .u8 0, .int .u8 0, .int .u8 0, .int .u8 0, .int .u8 0, .int .u8 0, .int .u8 0, .int .u8 0, .int .u8 0, .int .u8 0, .int .u8 0, .int .u8 0, .int .u8 0, .int .u8 0, .int .u8 0], eq := [.int, .int, .int, .int, .int, .int, .int, .int, .int, .int, .int, .int, .int, .int, .int, .int, .int, .int, .int, .int, .int, .int, .int, .int, .int, .int, .int, .int, .int, .int, .int, .int, .int, .int, .int, .int, .int, .int, .int, .int, .int, .int, .int, .int, .int, .int, .int, .int, .int, .int, .int, .int, .int, .int, .int, .int, .int, .int, .int, .int, .int, .int, .int, .int] }
  | 195 => some { k := .ptr 211, size := 1, bytes := 8, zero := [.pointer none] }
  | 203 => some { k := .int .u8, size := 1, bytes := 1, zero := [.int .u8 0] }
  | _ => none
@[go_sem] theorem tbl_1 : tbl 1 = some { k := .func, size := 1, bytes := 8, zero := [.nilFunc] } := rfl
@[go_sem] theorem tbl_2 : tbl 2 = some { k := .int .i64, size := 1, bytes := 8, zero := [.int .i64 0] } := rfl
@[go_sem] theorem tbl_3 : tbl 3 = some { k := .int .i64, size := 1, bytes := 8, zero := [.int .i64 0] } := rfl
@[go_sem] theorem tbl_4 : tbl 4 = some { k := .bool, size := 1, bytes := 1, zero := [.bool false] } := rfl
@[go_sem] theorem tbl_5 : tbl 5 = some { k := .int .u8, size := 1, bytes := 1, zero := [.int .u8 0] } := rfl
@[go_sem] theorem tbl_6 : tbl 6 = some { k := .int .u8, size := 1, bytes := 1, zero := [.int .u8 0] } := rfl
@[go_sem] theorem tbl_7 : tbl 7 = some { k := .struct [(0, 2), (1, 3), (2, 4), (3, 6)], size := 4, bytes := 24, zero := [.int .i64 0, .int .i64 0, .bool false, .int .u8 0] } := rfl
@[go_sem] theorem tbl_8 : tbl 8 = some { k := .struct [(0, 2), (1, 3), (2, 4), (3, 6)], size := 4, bytes := 24, zero := [.int .i64 0, .int .i64 0, .bool false, .int .u8 0] } := rfl
@[go_sem] theorem tbl_9 : tbl 9 = some { k := .str, size := 1, bytes := 16, zero := [.string ByteArray.empty] } := rfl
@[go_sem] theorem tbl_10 : tbl 10 = some { k := .str, size := 1, bytes := 16, zero := [.string ByteArray.empty] } := rfl
@[go_sem] theorem tbl_11 : tbl 11 = some { k := .str, size := 1, bytes := 16, zero := [.string ByteArray.empty] } := rfl
@[go_sem] theorem tbl_12 : tbl 12 = some { k := .int .u64, size := 1, bytes := 8, zero := [.int .u64 0] } := rfl
@[go_sem] theorem tbl_13 : tbl 13 = some { k := .struct [(0, 9), (1, 12)], size := 2, bytes := 24, zero := [.string ByteArray.empty, .int .u64 0] } := rfl
@[go_sem] theorem tbl_14 : tbl 14 = some { k := .struct [(0, 9), (1, 12)], size := 2, bytes := 24, zero := [.string ByteArray.empty, .int .u64 0] } := rfl
@[go_sem] theorem tbl_15 : tbl 15 = some { k := .ptr 198, size := 1, bytes := 8, zero := [.pointer none] } := rfl
@[go_sem] theorem tbl_16 : tbl 16 = some { k := .ptr 201, size := 1, bytes := 8, zero := [.pointer none] } := rfl
@[go_sem] theorem tbl_17 : tbl 17 = some { k := .ptr 209, size := 1, bytes := 8, zero := [.pointer none] } := rfl
@[go_sem] theorem tbl_18 : tbl 18 = some { k := .struct [(0, 17)], size := 1, bytes := 8, zero := [.pointer none] } := rfl
@[go_sem] theorem tbl_19 : tbl 19 = some { k := .struct [(0, 17)], size := 1, bytes := 8, zero := [.pointer none] } := rfl
@[go_sem] theorem tbl_20 : tbl 20 = some { k := .iface, size := 1, bytes := 16, zero := [.nilIface] } := rfl
@[go_sem] theorem tbl_22 : tbl 22 = some { k := .slice 73, size := 1, bytes := 24, zero := [.slice none 0 0] } := rfl
@[go_sem] theorem tbl_23 : tbl 23 = some { k := .slice 49, size := 1, bytes := 24, zero := [.slice none 0 0] } := rfl
@[go_sem] theorem tbl_24 : tbl 24 = some { k := .slice 52, size := 1, bytes := 24, zero := [.slice none 0 0] } := rfl
@[go_sem] theorem tbl_25 : tbl 25 = some { k := .slice 67, size := 1, bytes := 24, zero := [.slice none 0 0] } := rfl
@[go_sem] theorem tbl_26 : tbl 26 = some { k := .struct [(0, 22), (1, 23), (2, 24), (3, 25), (4, 3), (5, 3), (6, 3)], size := 7, bytes := 120, zero := [.slice none 0 0, .slice none 0 0, .slice none 0 0, .slice none 0 0, .int .i64 0, .int .i64 0, .int .i64 0] } := rfl
@[go_sem] theorem tbl_27 : tbl 27 = some { k := .struct [(0, 22), (1, 23), (2, 24), (3, 25), (4, 3), (5, 3), (6, 3)], size := 7, bytes := 120, zero := [.slice none 0 0, .slice none 0 0, .slice none 0 0, .slice none 0 0, .int .i64 0, .int .i64 0, .int .i64 0] } := rfl
@[go_sem] theorem tbl_28 : tbl 28 = some { k := .struct [(0, 3), (1, 3)], size := 2, bytes := 16, zero := [.int .i64 0, .int .i64 0], eq := [.int, .int] } := rfl
@[go_sem] theorem tbl_29 : tbl 29 = some { k := .struct [(0, 3), (1, 3)], size := 2, bytes := 16, zero := [.int .i64 0, .int .i64 0], eq := [.int, .int] } := rfl
@[go_sem] theorem tbl_32 : tbl 32 = some { k := .int .i64, size := 1, bytes := 8, zero := [.int .i64 0] } := rfl
@[go_sem] theorem tbl_35 : tbl 35 = some { k := .slice 62, size := 1, bytes := 24, zero := [.slice none 0 0] } := rfl
@[go_sem] theorem tbl_36 : tbl 36 = some { k := .struct [(0, 3), (1, 3), (2, 3), (3, 3), (4, 35)], size := 5, bytes := 56, zero := [.int .i64 0, .int .i64 0, .int .i64 0, .int .i64 0, .slice none 0 0] } := rfl
@[go_sem] theorem tbl_37 : tbl 37 = some { k := .struct [(0, 3), (1, 3), (2, 3), (3, 3), (4, 35)], size := 5, bytes := 56, zero := [.int .i64 0, .int .i64 0, .int .i64 0, .int .i64 0, .slice none 0 0] } := rfl
@[go_sem] theorem tbl_41 : tbl 41 = some { k := .slice 84, size := 1, bytes := 24, zero := [.slice none 0 0] } := rfl
@[go_sem] theorem tbl_47 : tbl 47 = some { k := .struct [(0, 3), (1, 3)], size := 2, bytes := 16, zero := [.int .i64 0, .int .i64 0], eq := [.int, .int] } := rfl
@[go_sem] theorem tbl_48 : tbl 48 = some { k := .struct [(0, 3), (1, 3), (2, 47), (4, 47)], size := 6, bytes := 48, zero := [.int .i64 0, .int .i64 0, .int .i64 0, .int .i64 0, .int .i64 0, .int .i64 0], eq := [.int, .int, .int, .int, .int, .int] } := rfl
@[go_sem] theorem tbl_49 : tbl 49 = some { k := .struct [(0, 3), (1, 3), (2, 47), (4, 47)], size := 6, bytes := 48, zero := [.int .i64 0, .int .i64 0, .int .i64 0, .int .i64 0, .int .i64 0, .int .i64 0], eq := [.int, .int, .int, .int, .int, .int] } := rfl
@[go_sem] theorem tbl_51 : tbl 51 = some { k := .struct [(0, 3), (1, 3), (2, 3), (3, 3)], size := 4, bytes := 32, zero := [.int .i64 0, .int .i64 0, .int .i64 0, .int .i64 0], eq := [.int, .int, .int, .int] } := rfl
@[go_sem] theorem tbl_52 : tbl 52 = some { k := .struct [(0, 3), (1, 3), (2, 3), (3, 3)], size := 4, bytes := 32, zero := [.int .i64 0, .int .i64 0, .int .i64 0, .int .i64 0], eq := [.int, .int, .int, .int] } := rfl
@[go_sem] theorem tbl_53 : tbl 53 = some { k := .slice 56, size := 1, bytes := 24, zero := [.slice none 0 0] } := rfl
@[go_sem] theorem tbl_55 : tbl 55 = some { k := .struct [(0, 3), (1, 3), (2, 3), (3, 3), (4, 3)], size := 5, bytes := 40, zero := [.int .i64 0, .int .i64 0, .int .i64 0, .int .i64 0, .int .i64 0], eq := [.int, .int, .int, .int, .int] } := rfl
@[go_sem] theorem tbl_56 : tbl 56 = some { k := .struct [(0, 3), (1, 3), (2, 3), (3, 3), (4, 3)], size := 5, bytes := 40, zero := [.int .i64 0, .int .i64 0, .int .i64 0, .int .i64 0, .int .i64 0], eq := [.int, .int, .int, .int, .int] } := rfl
@[go_sem] theorem tbl_61 : tbl 61 = some { k := .struct [(0, 3), (1, 3), (2, 3), (3, 56)], size := 8, bytes := 64, zero := [.int .i64 0, .int .i64 0, .int .i64 0, .int .i64 0, .int .i64 0, .int .i64 0, .int .i64 0, .int .i64 0], eq := [.int, .int, .int, .int, .int, .int, .int, .int] } := rfl
@[go_sem] theorem tbl_62 : tbl 62 = some { k := .struct [(0, 3), (1, 3), (2, 3), (3, 56)], size := 8, bytes := 64, zero := [.int .i64 0, .int .i64 0, .int .i64 0, .int .i64 0, .int .i64 0, .int .i64 0, .int .i64 0, .int .i64 0], eq := [.int, .int, .int, .int, .int, .int, .int, .int] } := rfl
@[go_sem] theorem tbl_64 : tbl 64 = some { k := .int .u16, size := 1, bytes := 2, zero := [.int .u16 0] } := rfl
@[go_sem] theorem tbl_66 : tbl 66 = some { k := .struct [(0, 3), (1, 3), (2, 53)], size := 3, bytes := 40, zero := [.int .i64 0, .int .i64 0, .slice none 0 0] } := rfl
@[go_sem] theorem tbl_67 : tbl 67 = some { k := .struct [(0, 3), (1, 3), (2, 53)], size := 3, bytes := 40, zero := [.int .i64 0, .int .i64 0, .slice none 0 0] } := rfl
@[go_sem] theorem tbl_70 : tbl 70 = some { k := .slice 3, size := 1, bytes := 24, zero := [.slice none 0 0] } := rfl
@[go_sem] theorem tbl_71 : tbl 71 = some { k := .slice 70, size := 1, bytes := 24, zero := [.slice none 0 0] } := rfl
@[go_sem] theorem tbl_72 : tbl 72 = some { k := .struct [(0, 70), (1, 70), (2, 71)], size := 3, bytes := 72, zero := [.slice none 0 0, .slice none 0 0, .slice none 0 0] } := rfl
@[go_sem] theorem tbl_73 : tbl 73 = some { k := .struct [(0, 70), (1, 70), (2, 71)], size := 3, bytes := 72, zero := [.slice none 0 0, .slice none 0 0, .slice none 0 0] } := rfl
@[go_sem] theorem tbl_81 : tbl 81 = some { k := .struct [(0, 3), (1, 3)], size := 2, bytes := 16, zero := [.int .i64 0, .int .i64 0], eq := [.int, .int] } := rfl
@[go_sem] theorem tbl_82 : tbl 82 = some { k := .struct [(0, 3), (1, 3)], size := 2, bytes := 16, zero := [.int .i64 0, .int .i64 0], eq := [.int, .int] } := rfl
@[go_sem] theorem tbl_83 : tbl 83 = some { k := .struct [(0, 3), (1, 3), (2, 3), (3, 3), (4, 3), (5, 82)], size := 7, bytes := 56, zero := [.int .i64 0, .int .i64 0, .int .i64 0, .int .i64 0, .int .i64 0, .int .i64 0, .int .i64 0], eq := [.int, .int, .int, .int, .int, .int, .int] } := rfl
@[go_sem] theorem tbl_84 : tbl 84 = some { k := .struct [(0, 3), (1, 3), (2, 3), (3, 3), (4, 3), (5, 82)], size := 7, bytes := 56, zero := [.int .i64 0, .int .i64 0, .int .i64 0, .int .i64 0, .int .i64 0, .int .i64 0, .int .i64 0], eq := [.int, .int, .int, .int, .int, .int, .int] } := rfl
@[go_sem] theorem tbl_86 : tbl 86 = some { k := .struct [(0, 3), (1, 3), (2, 47), (4, 47)], size := 6, bytes := 48, zero := [.int .i64 0, .int .i64 0, .int .i64 0, .int .i64 0, .int .i64 0, .int .i64 0], eq := [.int, .int, .int, .int, .int, .int] } := rfl
@[go_sem] theorem tbl_89 : tbl 89 = some { k := .slice 86, size := 1, bytes := 24, zero := [.slice none 0 0] } := rfl
@[go_sem] theorem tbl_91 : tbl 91 = some { k := .func, size := 1, bytes := 8, zero := [.nilFunc] } := rfl
@[go_sem] theorem tbl_96 : tbl 96 = some { k := .func, size := 1, bytes := 8, zero := [.nilFunc] } := rfl
@[go_sem] theorem tbl_97 : tbl 97 = some { k := .func, size := 1, bytes := 8, zero := [.nilFunc] } := rfl
@[go_sem] theorem tbl_98 : tbl 98 = some { k := .struct [(0, 3), (1, 3), (2, 3), (3, 3)], size := 4, bytes := 32, zero := [.int .i64 0, .int .i64 0, .int .i64 0, .int .i64 0], eq := [.int, .int, .int, .int] } := rfl
@[go_sem] theorem tbl_99 : tbl 99 = some { k := .func, size := 1, bytes := 8, zero := [.nilFunc] } := rfl
@[go_sem] theorem tbl_104 : tbl 104 = some { k := .slice 98, size := 1, bytes := 24, zero := [.slice none 0 0] } := rfl
@[go_sem] theorem tbl_106 : tbl 106 = some { k := .func, size := 1, bytes := 8, zero := [.nilFunc] } := rfl
@[go_sem] theorem tbl_113 : tbl 113 = some { k := .func, size := 1, bytes := 8, zero := [.nilFunc] } := rfl
@[go_sem] theorem tbl_114 : tbl 114 = some { k := .func, size := 1, bytes := 8, zero := [.nilFunc] } := rfl
@[go_sem] theorem tbl_117 : tbl 117 = some { k := .func, size := 1, bytes := 8, zero := [.nilFunc] } := rfl
@[go_sem] theorem tbl_118 : tbl 118 = some { k := .func, size := 1, bytes := 8, zero := [.nilFunc] } := rfl
@[go_sem] theorem tbl_123 : tbl 123 = some { k := .func, size := 1, bytes := 8, zero := [.nilFunc] } := rfl
@[go_sem] theorem tbl_128 : tbl 128 = some { k := .func, size := 1, bytes := 8, zero := [.nilFunc] } := rfl
@[go_sem] theorem tbl_133 : tbl 133 = some { k := .map 134 4, size := 1, bytes := 8, zero := [.map none] } := rfl
@[go_sem] theorem tbl_134 : tbl 134 = some { k := .array 2 3, size := 2, bytes := 16, zero := [.int .i64 0, .int .i64 0], eq := [.int, .int] } := rfl
@[go_sem] theorem tbl_142 : tbl 142 = some { k := .func, size := 1, bytes := 8, zero := [.nilFunc] } := rfl
@[go_sem] theorem tbl_144 : tbl 144 = some { k := .int .u64, size := 1, bytes := 8, zero := [.int .u64 0] } := rfl
@[go_sem] theorem tbl_145 : tbl 145 = some { k := .struct [(0, 144), (1, 144), (2, 144), (3, 4)], size := 4, bytes := 32, zero := [.int .u64 0, .int .u64 0, .int .u64 0, .bool false], eq := [.int, .int, .int, .bool] } := rfl
@[go_sem] theorem tbl_146 : tbl 146 = some { k := .struct [(0, 144), (1, 144), (2, 144), (3, 4)], size := 4, bytes := 32, zero := [.int .u64 0, .int .u64 0, .int .u64 0, .bool false], eq := [.int, .int, .int, .bool] } := rfl
@[go_sem] theorem tbl_147 : tbl 147 = some { k := .func, size := 1, bytes := 8, zero := [.nilFunc] } := rfl
@[go_sem] theorem tbl_150 : tbl 150 = some { k := .func, size := 1, bytes := 8, zero := [.nilFunc] } := rfl
@[go_sem] theorem tbl_153 : tbl 153 = some { k := .slice 134, size := 1, bytes := 24, zero := [.slice none 0 0] } := rfl
@[go_sem] theorem tbl_155 : tbl 155 = some { k := .func, size := 1, bytes := 8, zero := [.nilFunc] } := rfl
@[go_sem] theorem tbl_159 : tbl 159 = some { k := .ptr 3, size := 1, bytes := 8, zero := [.pointer none] } := rfl
@[go_sem] theorem tbl_160 : tbl 160 = some { k := .func, size := 1, bytes := 8, zero := [.nilFunc] } := rfl
@[go_sem] theorem tbl_161 : tbl 161 = some { k := .int .u64, size := 1, bytes := 8, zero := [.int .u64 0] } := rfl
@[go_sem] theorem tbl_162 : tbl 162 = some { k := .func, size := 1, bytes := 8, zero := [.nilFunc] } := rfl
@[go_sem] theorem tbl_173 : tbl 173 = some { k := .iface, size := 1, bytes := 16, zero := [.nilIface] } := rfl
@[go_sem] theorem tbl_174 : tbl 174 = some { k := .iface, size := 1, bytes := 16, zero := [.nilIface] } := rfl
@[go_sem] theorem tbl_178 : tbl 178 = some { k := .slice 5, size := 1, bytes := 24, zero := [.slice none 0 0] } := rfl
@[go_sem] theorem tbl_183 : tbl 183 = some { k := .array 24 5, size := 24, bytes := 24, zero := [.int .u8 0, .int .u8 0, .int .u8 0, .int .u8 0, .int .u8 0, .int .u8 0, .int .u8 0, .int .u8 0, .int .u8 0, .int .u8 0, .int .u8 0, .int .u8 0, .int .u8 0, .int .u8 0, .int .u8 0, .int .u8 0, .int .u8 0, .int .u8 0, .int .u8 0, .int .u8 0, .int .u8 0, .int .u8 0, .int .u8 0, .int .u8 0], eq := [.int, .int, .int, .int, .int, .int, .int, .int, .int, .int, .int, .int, .int, .int, .int, .int, .int, .int, .int, .int, .int, .int, .int, .int] } := rfl
@[go_sem] theorem tbl_188 : tbl 188 = some { k := .array 20 144, size := 20, bytes := 160, zero := [.int .u64 0, .int .u64 0, .int .u64 0, .int .u64 0, .int .u64 0, .int .u64 0, .int .u64 0, .int .u64 0, .int .u64 0, .int .u64 0, .int .u64 0, .int .u64 0, .int .u64 0, .int .u64 0, .int .u64 0, .int .u64 0, .int .u64 0, .int .u64 0, .int .u64 0, .int .u64 0], eq := [.int, .int, .int, .int, .int, .int, .int, .int, .int, .int, .int, .int, .int, .int, .int, .int, .int, .int, .int, .int] } := rfl
@[go_sem] theorem tbl_189 : tbl 189 = some { k := .int .u32, size := 1, bytes := 4, zero := [.int .u32 0] } := rfl
@[go_sem] theorem tbl_193 : tbl 193 = some { k := .array 32 5, size := 32, bytes := 32, zero := [.int .u8 0, .int .u8 0, .int .u8 0, .int .u8 0, .int .u8 0, .int .u8 0, .int .u8 0, .int .u8 0, .int .u8 0, .int .u8 0, .int .u8 0, .int .u8 0, .int .u8 0, .int .u8 0, .int .u8 0, .int .u8 0, .int .u8 0, .int .u8 0, .int .u8 0, .int .u8 0, .int .u8 0, .int .u8 0, .int .u8 0, .int .u8 0, .int .u8 0, .int .u8 0, .int .u8 0, .int .u8 0, .int .u8 0, .int .u8 0, .int .u8 0, .int .u8 0], eq := [.int, .int, .int, .int, .int, .int, .int, .int, .int, .int, .int, .int, .int, .int, .int, .int, .int, .int, .int, .int, .int, .int, .int, .int, .int, .int, .int, .int, .int, .int, .int, .int] } := rfl
@[go_sem] theorem tbl_194 : tbl 194 = some { k := .array 64 5, size := 64, bytes := 64, zero := [.int .u8 0, .int .u8 0, .int .u8 0, .int .u8 0, .int .u8 0, .int .u8 0, .int .u8 0, .int .u8 0, .int .u8 0, .int .u8 0, .int .u8 0, .int .u8 0, .int .u8 0, .int .u8 0, .int .u8 0, .int .u8 0, .int .u8 0, .int .u8 0, .int .u8 0, .int .u8 0, .int .u8 0, .int .u8 0, .int .u8 0, .int .u8 0, .int .u8 0, .int .u8 0, .int .u8 0, .int .u8 0, .int .u8 0, .int .u8 0, .int .u8 0, .int .u8 0, .int .u8 0, .int .u8 0, .int .u8 0, .int .u8 0, .int .u8 0, .int .u8 0, .int .u8 0, .int .u8 0, .int .u8 0, .int .u8 0, .int .u8 0, .int .u8 0, .int .u8 0, .int .u8 0, .int .u8 0, .int .u8 0, .int .u8 0, .int .u8 0, .int .u8 0, .int .u8 0, .int .u8 0, .int .u8 0, .int .u8 0, .int .u8 0, .int .u8 0, .int .u8 0, .int .u8 0, .int .u8 0, .int .u8 0, .int .u8 0, .int .u8 0, .int .u8 0], eq := [.int, .int, .int, .int, .int, .int, .int, .int, .int, .int, .int, .int, .int, .int, .int, .int, .int, .int, .int, .int, .int, .int, .int, .int, .int, .int, .int, .int, .int, .int, .int, .int, .int, .int, .int, .int, .int, .int, .int, .int, .int, .int, .int, .int, .int, .int, .int, .int, .int, .int, .int, .int, .int, .int, .int, .int, .int, .int, .int, .int, .int, .int, .int, .int] } := rfl
@[go_sem] theorem tbl_195 : tbl 195 = some { k := .ptr 211, size := 1, bytes := 8, zero := [.pointer none] } := rfl
@[go_sem] theorem tbl_203 : tbl 203 = some { k := .int .u8, size := 1, bytes := 1, zero := [.int .u8 0] } := rfl
set_option maxRecDepth 1000000 in
set_option maxHeartbeats 4000000 in
theorem tblOk : TOk Tryz.prog tbl := by
  intro t i h
  unfold tbl at h
  split at h
  all_goals first | (cases h; done) | (cases h; exact ⟨by kernel_rfl, by kernel_rfl, by kernel_rfl⟩)
end Go.Proofs.YtcdgncmkkknmlaaGreatDoor

/- The types of the translation, as the abstract logic wants them. Written by gen.py. -/
import Derived.Test.YtihnjbnlbedpaaaGreatDoorProg
import Derived.Test.YtihnjbnlbedpaaaGreatDoorA3
namespace Go.Proofs.YtihnjbnlbedpaaaGreatDoor
def tbl : TT
  | 1 => some { k := .func, size := 1, bytes := 8, zero := [.nilFunc] }
  | 2 => some { k := .int .i64, size := 1, bytes := 8, zero := [.int .i64 0] }
  | 3 => some { k := .int .i64, size := 1, bytes := 8, zero := [.int .i64 0] }
  | 4 => some { k := .bool, size := 1, bytes := 1, zero := [.bool false] }
  | 5 => some { k := .int .u8, size := 1, bytes := 1, zero := [.int .u8 0] }
  | 6 => some { k := .int .u8, size := 1, bytes := 1, zero := [.int .u8 0] }
  | 7 => some { k := .struct [(0, 2), (1, 3), (2, 4), (3, 6)], size := 4, bytes := 24, zero := [.int .i64 0, .int .i64 0, .bool false, .int .u8 0] }
  | 8 => some { k := .struct [(0, 2), (1, 3), (2, 4), (3, 6)], size := 4, bytes := 24, zero := [.int .i64 0, .int .i64 0, .bool false, .int .u8 0] }
  | 9 => some { k := .str, size := 1, bytes := 16, zero := [.string ByteArray.empty] }
  | 10 => some { k := .str, size := 1, bytes := 16, zero := [.string ByteArray.empty] }
  | 11 => some { k := .str, size := 1, bytes := 16, zero := [.string ByteArray.empty] }
  | 12 => some { k := .int .u64, size := 1, bytes := 8, zero := [.int .u64 0] }
  | 13 => some { k := .struct [(0, 9), (1, 12)], size := 2, bytes := 24, zero := [.string ByteArray.empty, .int .u64 0] }
  | 14 => some { k := .struct [(0, 9), (1, 12)], size := 2, bytes := 24, zero := [.string ByteArray.empty, .int .u64 0] }
  | 15 => some { k := .ptr 259, size := 1, bytes := 8, zero := [.pointer none] }
  | 16 => some { k := .ptr 262, size := 1, bytes := 8, zero := [.pointer none] }
  | 17 => some { k := .ptr 270, size := 1, bytes := 8, zero := [.pointer none] }
  | 18 => some { k := .struct [(0, 17)], size := 1, bytes := 8, zero := [.pointer none] }
  | 19 => some { k := .struct [(0, 17)], size := 1, bytes := 8, zero := [.pointer none] }
  | 20 => some { k := .iface, size := 1, bytes := 16, zero := [.nilIface] }
  | 22 => some { k := .slice 62, size := 1, bytes := 24, zero := [.slice none 0 0] }
  | 23 => some { k := .slice 71, size := 1, bytes := 24, zero := [.slice none 0 0] }
  | 24 => some { k := .slice 31, size := 1, bytes := 24, zero := [.slice none 0 0] }
  | 25 => some { k := .int .u64, size := 1, bytes := 8, zero := [.int .u64 0] }
  | 26 => some { k := .struct [(0, 3), (1, 3)], size := 2, bytes := 16, zero := [.int .i64 0, .int .i64 0], eq := [.int, .int] }
  | 27 => some { k := .struct [(0, 3), (1, 3)], size := 2, bytes := 16, zero := [.int .i64 0, .int .i64 0], eq := [.int, .int] }
  | 28 => some { k := .struct [(0, 3), (1, 3)], size := 2, bytes := 16, zero := [.int .i64 0, .int .i64 0], eq := [.int, .int] }
  | 29 => some { k := .struct [(0, 3), (1, 3)], size := 2, bytes := 16, zero := [.int .i64 0, .int .i64 0], eq := [.int, .int] }
  | 30 => some { k := .struct [(0, 3), (1, 3), (2, 3), (3, 25), (4, 27), (6, 3), (7, 3), (8, 29)], size := 10, bytes := 80, zero := [.int .i64 0, .int .i64 0, .int .i64 0, .int .u64 0, .int .i64 0, .int .i64 0, .int .i64 0, .int .i64 0, .int .i64 0, .int .i64 0], eq := [.int, .int, .int, .int, .int, .int, .int, .int, .int, .int] }
  | 31 => some { k := .struct [(0, 3), (1, 3), (2, 3), (3, 25), (4, 27), (6, 3), (7, 3), (8, 29)], size := 10, bytes := 80, zero := [.int .i64 0, .int .i64 0, .int .i64 0, .int .u64 0, .int .i64 0, .int .i64 0, .int .i64 0, .int .i64 0, .int .i64 0, .int .i64 0], eq := [.int, .int, .int, .int, .int, .int, .int, .int, .int, .int] }
  | 32 => some { k := .struct [(0, 3), (1, 3), (2, 3), (3, 3)], size := 4, bytes := 32, zero := [.int .i64 0, .int .i64 0, .int .i64 0, .int .i64 0], eq := [.int, .int, .int, .int] }
  | 33 => some { k := .struct [(0, 3), (1, 3), (2, 3), (3, 3)], size := 4, bytes := 32, zero := [.int .i64 0, .int .i64 0, .int .i64 0, .int .i64 0], eq := [.int, .int, .int, .int] }
  | 37 => some { k := .slice 3, size := 1, bytes := 24, zero := [.slice none 0 0] }
  | 39 => some { k := .int .i64, size := 1, bytes := 8, zero := [.int .i64 0] }
  | 45 => some { k := .slice 27, size := 1, bytes := 24, zero := [.slice none 0 0] }
  | 48 => some { k := .struct [(0, 24)], size := 1, bytes := 24, zero := [.slice none 0 0] }
  | 49 => some { k := .struct [(0, 24)], size := 1, bytes := 24, zero := [.slice none 0 0] }
  | 52 => some { k := .int .u16, size := 1, bytes := 2, zero := [.int .u16 0] }
  | 53 => some { k := .func, size := 1, bytes := 8, zero := [.nilFunc] }
  | 61 => some { k := .struct [(0, 3), (1, 3), (2, 3), (3, 3), (4, 3), (5, 29)], size := 7, bytes := 56, zero := [.int .i64 0, .int .i64 0, .int .i64 0, .int .i64 0, .int .i64 0, .int .i64 0, .int .i64 0], eq := [.int, .int, .int, .int, .int, .int, .int] }
  | 62 => some { k := .struct [(0, 3), (1, 3), (2, 3), (3, 3), (4, 3), (5, 29)], size := 7, bytes := 56, zero := [.int .i64 0, .int .i64 0, .int .i64 0, .int .i64 0, .int .i64 0, .int .i64 0, .int .i64 0], eq := [.int, .int, .int, .int, .int, .int, .int] }
  | 64 => some { k := .slice 67, size := 1, bytes := 24, zero := [.slice none 0 0] }
  | 66 => some { k := .struct [(0, 3), (1, 3), (2, 3), (3, 3), (4, 3)], size := 5, bytes := 40, zero := [.int .i64 0, .int .i64 0, .int .i64 0, .int .i64 0, .int .i64 0], eq := [.int, .int, .int, .int, .int] }
  | 67 => some { k := .struct [(0, 3), (1, 3), (2, 3), (3, 3), (4, 3)], size := 5, bytes := 40, zero := [.int .i64 0, .int .i64 0, .int .i64 0, .int .i64 0, .int .i64 0], eq := [.int, .int, .int, .int, .int] }
  | 70 => some { k := .struct [(0, 3), (1, 3), (2, 64)], size := 3, bytes := 40, zero := [.int .i64 0, .int .i64 0, .slice none 0 0] }
  | 71 => some { k := .struct [(0, 3), (1, 3), (2, 64)], size := 3, bytes := 40, zero := [.int .i64 0, .int .i64 0, .slice none 0 0] }
  | 74 => some { k := .slice 108, size := 1, bytes := 24, zero := [.slice none 0 0] }
  | 75 => some { k := .slice 95, size := 1, bytes := 24, zero := [.slice none 0 0] }
  | 76 => some { k := .slice 33, size := 1, bytes := 24, zero := [.slice none 0 0] }
  | 77 => some { k := .struct [(0, 74), (1, 75), (2, 76), (3, 23), (4, 3), (5, 3), (6, 3)], size := 7, bytes := 120, zero := [.slice none 0 0, .slice none 0 0, .slice none 0 0, .slice none 0 0, .int .i64 0, .int .i64 0, .int .i64 0] }
  | 78 => some { k := .struct [(0, 74), (1, 75), (2, 76), (3, 23), (4, 3), (5, 3), (6, 3)], size := 7, bytes := 120, zero := [.slice none 0 0, .slice none 0 0, .slice none 0 0, .slice none 0 0, .int .i64 0, .int .i64 0, .int .i64 0] }
  | 82 => some { k := .slice 101, size := 1, bytes := 24, zero := [.slice none 0 0] }
  | 83 => some { k := .struct [(0, 3), (1, 3), (2, 3), (3, 3), (4, 82)], size := 5, bytes := 56, zero := [.int .i64 0, .int .i64 0, .int .i64 0, .int .i64 0, .slice none 0 0] }
  | 84 => some { k := .struct [(0, 3), (1, 3), (2, 3), (3, 3), (4, 82)], size := 5, bytes := 56, zero := [.int .i64 0, .int .i64 0, .int .i64 0, .int .i64 0, .slice none 0 0] }
  | 93 => some { k := .struct [(0, 3), (1, 3)], size := 2, bytes := 16, zero := [.int .i64 0, .int .i64 0], eq := [.int, .int] }
  | 94 => some { k := .struct [(0, 3), (1, 3), (2, 93), (4, 93)], size := 6, bytes := 48, zero := [.int .i64 0, .int .i64 0, .int .i64 0, .int .i64 0, .int .i64 0, .int .i64 0], eq := [.int, .int, .int, .int, .int, .int] }
  | 95 => some { k := .struct [(0, 3), (1, 3), (2, 93), (4, 93)], size := 6, bytes := 48, zero := [.int .i64 0, .int .i64 0, .int .i64 0, .int .i64 0, .int .i64 0, .int .i64 0], eq := [.int, .int, .int, .int, .int, .int] }
  | 100 => some { k := .struct [(0, 3), (1, 3), (2, 3), (3, 67)], size := 8, bytes := 64, zero := [.int .i64 0, .int .i64 0, .int .i64 0, .int .i64 0, .int .i64 0, .int .i64 0, .int .i64 0, .int .i64 0], eq := [.int, .int, .int, .int, .int, .int, .int, .int] }
  | 101 => some { k := .struct [(0, 3), (1, 3), (2, 3), (3, 67)], size := 8, bytes := 64, zero := [.int .i64 0, .int .i64 0, .int .i64 0, .int .i64 0, .int .i64 0, .int .i64 0, .int .i64 0, .int .i64 0], eq := [.int, .int, .int, .int, .int, .int, .int, .int] }
  | 106 => some { k := .slice 37, size := 1, bytes := 24, zero := [.slice none 0 0] }
  | 107 => some { k := .struct [(0, 37), (1, 37), (2, 106)], size := 3, bytes := 72, zero := [.slice none 0 0, .slice none 0 0, .slice none 0 0] }
  | 108 => some { k := .struct [(0, 37), (1, 37), (2, 106)], size := 3, bytes := 72, zero := [.slice none 0 0, .slice none 0 0, .slice none 0 0] }
  | 113 => some { k := .int .u64, size := 1, bytes := 8, zero := [.int .u64 0] }
  | 116 => some { k := .func, size := 1, bytes := 8, zero := [.nilFunc] }
  | 123 => some { k := .struct [(0, 3), (1, 3)], size := 2, bytes := 16, zero := [.int .i64 0, .int .i64 0], eq := [.int, .int] }
  | 124 => some { k := .struct [(0, 3), (1, 3)], size := 2, bytes := 16, zero := [.int .i64 0, .int .i64 0], eq := [.int, .int] }
  | 125 => some { k := .func, size := 1, bytes := 8, zero := [.nilFunc] }
  | 130 => some { k := .struct [(0, 3), (1, 3), (2, 3), (3, 25)], size := 4, bytes := 32, zero := [.int .i64 0, .int .i64 0, .int .i64 0, .int .u64 0], eq := [.int, .int, .int, .int] }
  | 131 => some { k := .struct [(0, 3), (1, 3), (2, 3), (3, 25)], size := 4, bytes := 32, zero := [.int .i64 0, .int .i64 0, .int .i64 0, .int .u64 0], eq := [.int, .int, .int, .int] }
  | 135 => some { k := .func, size := 1, bytes := 8, zero := [.nilFunc] }
  | 138 => some { k := .func, size := 1, bytes := 8, zero := [.nilFunc] }
  | 139 => some { k := .func, size := 1, bytes := 8, zero := [.nilFunc] }
  | 142 => some { k := .func, size := 1, bytes := 8, zero := [.nilFunc] }
  | 144 => some { k := .struct [(0, 3), (1, 3), (2, 93), (4, 93)], size := 6, bytes := 48, zero := [.int .i64 0, .int .i64 0, .int .i64 0, .int .i64 0, .int .i64 0, .int .i64 0], eq := [.int, .int, .int, .int, .int, .int] }
  | 147 => some { k := .slice 144, size := 1, bytes := 24, zero := [.slice none 0 0] }
  | 149 => some { k := .func, size := 1, bytes := 8, zero := [.nilFunc] }
  | 154 => some { k := .func, size := 1, bytes := 8, zero := [.nilFunc] }
  | 155 => some { k := .func, size := 1, bytes := 8, zero := [.nilFunc] }
  | 156 => some { k := .struct [(0, 3), (1, 3), (2, 3), (3, 3)], size := 4, bytes := 32, zero := [.int .i64 0, .int .i64 0, .int .i64 0, .int .i64 0], eq := [.int, .int, .int, .int] }
  | 157 => some { k := .func, size := 1, bytes := 8, zero := [.nilFunc] }
  | 162 => some { k := .slice 156, size := 1, bytes := 24, zero := [.slice none 0 0] }
  | 164 => some { k := .func, size := 1, bytes := 8, zero := [.nilFunc] }
  | 174 => some { k := .slice 5, size := 1, bytes := 24, zero := [.slice none 0 0] }
  | 183 => some { k := .func, size := 1, bytes := 8, zero := [.nilFunc] }
  | 184 => some { k := .func, size := 1, bytes := 8, zero := [.nilFunc] }
  | 193 => some { k := .func, size := 1, bytes := 8, zero := [.nilFunc] }
  | 198 => some { k := .map 199 4, size := 1, bytes := 8, zero := [.map none] }
  | 199 => some { k := .array 2 3, size := 2, bytes := 16, zero := [.int .i64 0, .int .i64 0], eq := [.int, .int] }
  | 204 => some { k := .struct [(0, 25), (1, 25), (2, 25), (3, 4)], size := 4, bytes := 32, zero := [.int .u64 0, .int .u64 0, .int .u64 0, .bool false], eq := [.int, .int, .int, .bool] }
  | 205 => some { k := .struct [(0, 25), (1, 25), (2, 25), (3, 4)], size := 4, bytes := 32, zero := [.int .u64 0, .int .u64 0, .int .u64 0, .bool false], eq := [.int, .int, .int, .bool] }
  | 206 => some { k := .func, size := 1, bytes := 8, zero := [.nilFunc] }
  | 209 => some { k := .func, size := 1, bytes := 8, zero := [.nilFunc] }
  | 210 => some { k := .struct [(0, 3), (1, 3)], size := 2, bytes := 16, zero := [.int .i64 0, .int .i64 0], eq := [.int, .int] }
  | 211 => some { k := .struct [(0, 3), (1, 3)], size := 2, bytes := 16, zero := [.int .i64 0, .int .i64 0], eq := [.int, .int] }
  | 215 => some { k := .ptr 3, size := 1, bytes := 8, zero := [.pointer none] }
  | 216 => some { k := .func, size := 1, bytes := 8, zero := [.nilFunc] }
  | 220 => some { k := .slice 199, size := 1, bytes := 24, zero := [.slice none 0 0] }
  | 222 => some { k := .func, size := 1, bytes := 8, zero := [.nilFunc] }
  | 226 => some { k := .func, size := 1, bytes := 8, zero := [.nilFunc] }
  | 237 => some { k := .iface, size := 1, bytes := 16, zero := [.nilIface] }
  | 238 => some { k := .iface, size := 1, bytes := 16, zero := [.nilIface] }
  | 239 => some { k := .func, size := 1, bytes := 8, zero := [.nilFunc] }
  | 240 => some { k := .func, size := 1, bytes := 8, zero := [.nilFunc] }
  | 242 => some { k := .func, size := 1, bytes := 8, zero := [.nilFunc] }
  | 244 => some { k := .array 24 5, size := 24, bytes := 24, zero := [.int .u8 0, .int .u8 0, .int .u8 0, .int .u8 0, .int .u8 0, .int .u8 0, .int .u8 0, .int .u8 0, .int .u8 0, .int .u8 0, .int .u8 0, .int .u8 0, .int .u8 0, .int .u8 0, .int .u8 0, .int .u8 0, .int .u8 0, .int .u8 0, .int .u8 0, .int .u8 0, .int .u8 0, .int .u8 0, .int .u8 0, .int .u8 0], eq := [.int, .int, .int, .int, .int, .int, .int, .int, .int, .int, .int, .int, .int, .int, .int, .int, .int, .int, .int, .int, .int, .int, .int, .int] }
  | 249 => some { k := .array 20 25, size := 20, bytes := 160, zero := [.int .u64 0, .int .u64 0, .int .u64 0, .int .u64 0, .int .u64 0, .int .u64 0, .int .u64 0, .int .u64 0, .int .u64 0, .int .u64 0, .int .u64 0, .int .u64 0, .int .u64 0, .int .u64 0, .int .u64 0, .int .u64 0, .int .u64 0, .int .u64 0, .int .u64 0, .int .u64 0], eq := [.int, .int, .int, .int, .int, .int, .int, .int, .int, .int, .int, .int, .int, .int, .int, .int, .int, .int, .int, .int] }
  | 250 => some { k := .int .u32, size := 1, bytes := 4, zero := [.int .u32 0] }
  | 254 => some { k := .array 32 5, size := 32, bytes := 32, zero := [.int .u8 0, .int .u8 0, .int .u8 0, .int .u8 0, .int .u8 0, .int .u8 0, .int .u8 0, .int .u8 0, .int .u8 0, .int .u8 0, .int .u8 0, .int .u8 0, .int .u8 0, .int .u8 0, .int .u8 0, .int .u8 0, .int .u8 0, .int .u8 0, .int .u8 0, .int .u8 0, .int .u8 0, .int .u8 0, .int .u8 0, .int .u8 0, .int .u8 0, .int .u8 0, .int .u8 0, .int .u8 0, .int .u8 0, .int .u8 0, .int .u8 0, .int .u8 0], eq := [.int, .int, .int, .int, .int, .int, .int, .int, .int, .int, .int, .int, .int, .int, .int, .int, .int, .int, .int, .int, .int, .int, .int, .int, .int, .int, .int, .int, .int, .int, .int, .int] }
  | 255 => some { k := .array 64 5, size := 64, bytes := 64, zero := [.int .u8 0, .int .u8 0, .int .u8 0, .int .u8 0, .int .u8 0, .int .u8 0, .int .u8 0, .int .u8 0, .int .u8 0, .int .u8 0, .int .u8 0, .int .u8 0, .int .u8 0, .int .u8 0, .int .u8 0, .int .u8 0, .int .u8 0, .int .u8 0, .int .u8 0, .int .u8 0, .int .u8 0, .int .u8 0, .int .u8 0, .int .u8 0, .int .u8 0, .int .u8 0, .int .u8 0, .int .u8 0, .int .u8 0, .int .u8 0, .int .u8 0, .int .u8 0, .int .u8 0, .int .u8 0, .int .u8 0, .int .u8 0, .int .u8 0, .int .u8 0, .int .u8 0, .int .u8 0, .int .u8 0, .int .u8 0, .int .u8 0, .int .u8 0, .int .u8 0, .int .u8 0, .int .u8 0, .int .u8 0, .int .u8 0, .int .u8 0, .int .u8 0, .int .u8 0, .int .u8 0, .int .u8 0, .int .u8 0, .int .u8 0, .int .u8 0, .int .u8 0, .int .u8 0, .int .u8 0, .int .u8 0, .int .u8 0, .int .u8 0, .int .u8 0], eq := [.int, .int, .int, .int, .int, .int, .int, .int, .int, .int, .int, .int, .int, .int, .int, .int, .int, .int, .int, .int, .int, .int, .int, .int, .int, .int, .int, .int, .int, .int, .int, .int, .int, .int, .int, .int, .int, .int, .int, .int, .int, .int, .int, .int, .int, .int, .int, .int, .int, .int, .int, .int, .int, .int, .int, .int, .int, .int, .int, .int, .int, .int, .int, .int] }
  | 256 => some { k := .ptr 273, size := 1, bytes := 8, zero := [.pointer none] }
  | 264 => some { k := .int .u8, size := 1, bytes := 1, zero := [.int .u8 0] }
  | _ => none
@[go_sem] theorem tbl_1 : tbl 1 = some { k := .func, size := 1, bytes := 8, zero := [.nilFunc] } := rfl
@[go_sem] theorem tbl_2 : tbl 2 = some { k := .int .i64, size := 1, bytes := 8, zero := [.int .i64 0] } := rfl
@[go_sem] theorem tbl_3 : tbl 3 = some { k := .int .i64, size := 1, bytes := 8, zero := [.int .i64 0] } := rfl
@[go_sem] theorem tbl_4 : tbl 4 = some { k := .bool, size := 1, bytes := 1, zero := [.bool false] } := rfl
@[go_sem] theorem tbl_5 : tbl 5 = some { k := .int .u8, size := 1, bytes := 1, zero := [.int .u8 0] } := rfl
@[go_sem] theorem tbl_6 : tbl 6 = some { k := .int .u8, size := 1, bytes := 1, zero := [.int .u8 0] } := rfl
@[go_sem] theorem tbl_7 : tbl 7 = some { k := .struct [(0, 2), (1, 3), (2, 4), (3, 6)], size := 4, bytes := 24, zero := [.int .i64 0, .int .i64 0, .bool false, .int .u8 0] } := rfl
@[go_sem] theorem tbl_8 : tbl 8 = some { k := .struct [(0, 2), (1, 3), (2, 4), (3, 6)], size := 4, bytes := 24, zero := [.int .i64 0, .int .i64 0, .bool false, .int .u8 0] } := rfl
@[go_sem] theorem tbl_9 : tbl 9 = some { k := .str, size := 1, bytes := 16, zero := [.string ByteArray.empty] } := rfl
@[go_sem] theorem tbl_10 : tbl 10 = some { k := .str, size := 1, bytes := 16, zero := [.string ByteArray.empty] } := rfl
@[go_sem] theorem tbl_11 : tbl 11 = some { k := .str, size := 1, bytes := 16, zero := [.string ByteArray.empty] } := rfl
@[go_sem] theorem tbl_12 : tbl 12 = some { k := .int .u64, size := 1, bytes := 8, zero := [.int .u64 0] } := rfl
@[go_sem] theorem tbl_13 : tbl 13 = some { k := .struct [(0, 9), (1, 12)], size := 2, bytes := 24, zero := [.string ByteArray.empty, .int .u64 0] } := rfl
@[go_sem] theorem tbl_14 : tbl 14 = some { k := .struct [(0, 9), (1, 12)], size := 2, bytes := 24, zero := [.string ByteArray.empty, .int .u64 0] } := rfl
@[go_sem] theorem tbl_15 : tbl 15 = some { k := .ptr 259, size := 1, bytes := 8, zero := [.pointer none] } := rfl
@[go_sem] theorem tbl_16 : tbl 16 = some { k := .ptr 262, size := 1, bytes := 8, zero := [.pointer none] } := rfl
@[go_sem] theorem tbl_17 : tbl 17 = some { k := .ptr 270, size := 1, bytes := 8, zero := [.pointer none] } := rfl
@[go_sem] theorem tbl_18 : tbl 18 = some { k := .struct [(0, 17)], size := 1, bytes := 8, zero := [.pointer none] } := rfl
@[go_sem] theorem tbl_19 : tbl 19 = some { k := .struct [(0, 17)], size := 1, bytes := 8, zero := [.pointer none] } := rfl
@[go_sem] theorem tbl_20 : tbl 20 = some { k := .iface, size := 1, bytes := 16, zero := [.nilIface] } := rfl
@[go_sem] theorem tbl_22 : tbl 22 = some { k := .slice 62, size := 1, bytes := 24, zero := [.slice none 0 0] } := rfl
@[go_sem] theorem tbl_23 : tbl 23 = some { k := .slice 71, size := 1, bytes := 24, zero := [.slice none 0 0] } := rfl
@[go_sem] theorem tbl_24 : tbl 24 = some { k := .slice 31, size := 1, bytes := 24, zero := [.slice none 0 0] } := rfl
@[go_sem] theorem tbl_25 : tbl 25 = some { k := .int .u64, size := 1, bytes := 8, zero := [.int .u64 0] } := rfl
@[go_sem] theorem tbl_26 : tbl 26 = some { k := .struct [(0, 3), (1, 3)], size := 2, bytes := 16, zero := [.int .i64 0, .int .i64 0], eq := [.int, .int] } := rfl
@[go_sem] theorem tbl_27 : tbl 27 = some { k := .struct [(0, 3), (1, 3)], size := 2, bytes := 16, zero := [.int .i64 0, .int .i64 0], eq := [.int, .int] } := rfl
@[go_sem] theorem tbl_28 : tbl 28 = some { k := .struct [(0, 3), (1, 3)], size := 2, bytes := 16, zero := [.int .i64 0, .int .i64 0], eq := [.int, .int] } := rfl
@[go_sem] theorem tbl_29 : tbl 29 = some { k := .struct [(0, 3), (1, 3)], size := 2, bytes := 16, zero := [.int .i64 0, .int .i64 0], eq := [.int, .int] } := rfl
@[go_sem] theorem tbl_30 : tbl 30 = some { k := .struct [(0, 3), (1, 3), (2, 3), (3, 25), (4, 27), (6, 3), (7, 3), (8, 29)], size := 10, bytes := 80, zero := [.int .i64 0, .int .i64 0, .int .i64 0, .int .u64 0, .int .i64 0, .int .i64 0, .int .i64 0, .int .i64 0, .int .i64 0, .int .i64 0], eq := [.int, .int, .int, .int, .int, .int, .int, .int, .int, .int] } := rfl
@[go_sem] theorem tbl_31 : tbl 31 = some { k := .struct [(0, 3), (1, 3), (2, 3), (3, 25), (4, 27), (6, 3), (7, 3), (8, 29)], size := 10, bytes := 80, zero := [.int .i64 0, .int .i64 0, .int .i64 0, .int .u64 0, .int .i64 0, .int .i64 0, .int .i64 0, .int .i64 0, .int .i64 0, .int .i64 0], eq := [.int, .int, .int, .int, .int, .int, .int, .int, .int, .int] } := rfl
@[go_sem] theorem tbl_32 : tbl 32 = some { k := .struct [(0, 3), (1, 3), (2, 3), (3, 3)], size := 4, bytes := 32, zero := [.int .i64 0, .int .i64 0, .int .i64 0, .int .i64 0], eq := [.int, .int, .int, .int] } := rfl
@[go_sem] theorem tbl_33 : tbl 33 = some { k := .struct [(0, 3), (1, 3), (2, 3), (3, 3)], size := 4, bytes := 32, zero := [.int .i64 0, .int .i64 0, .int .i64 0, .int .i64 0], eq := [.int, .int, .int, .int] } := rfl
@[go_sem] theorem tbl_37 : tbl 37 = some { k := .slice 3, size := 1, bytes := 24, zero := [.slice none 0 0] } := rfl
@[go_sem] theorem tbl_39 : tbl 39 = some { k := .int .i64, size := 1, bytes := 8, zero := [.int .i64 0] } := rfl
@[go_sem] theorem tbl_45 : tbl 45 = some { k := .slice 27, size := 1, bytes := 24, zero := [.slice none 0 0] } := rfl
@[go_sem] theorem tbl_48 : tbl 48 = some { k := .struct [(0, 24)], size := 1, bytes := 24, zero := [.slice none 0 0] } := rfl
@[go_sem] theorem tbl_49 : tbl 49 = some { k := .struct [(0, 24)], size := 1, bytes := 24, zero := [.slice none 0 0] } := rfl
@[go_sem] theorem tbl_52 : tbl 52 = some { k := .int .u16, size := 1, bytes := 2, zero := [.int .u16 0] } := rfl
@[go_sem] theorem tbl_53 : tbl 53 = some { k := .func, size := 1, bytes := 8, zero := [.nilFunc] } := rfl
@[go_sem] theorem tbl_61 : tbl 61 = some { k := .struct [(0, 3), (1, 3), (2, 3), (3, 3), (4, 3), (5, 29)], size := 7, bytes := 56, zero := [.int .i64 0, .int .i64 0, .int .i64 0, .int .i64 0, .int .i64 0, .int .i64 0, .int .i64 0], eq := [.int, .int, .int, .int, .int, .int, .int] } := rfl
@[go_sem] theorem tbl_62 : tbl 62 = some { k := .struct [(0, 3), (1, 3), (2, 3), (3, 3), (4, 3), (5, 29)], size := 7, bytes := 56, zero := [.int .i64 0, .int .i64 0, .int .i64 0, .int .i64 0, .int .i64 0, .int .i64 0, .int .i64 0], eq := [.int, .int, .int, .int, .int, .int, .int] } := rfl
@[go_sem] theorem tbl_64 : tbl 64 = some { k := .slice 67, size := 1, bytes := 24, zero := [.slice none 0 0] } := rfl
@[go_sem] theorem tbl_66 : tbl 66 = some { k := .struct [(0, 3), (1, 3), (2, 3), (3, 3), (4, 3)], size := 5, bytes := 40, zero := [.int .i64 0, .int .i64 0, .int .i64 0, .int .i64 0, .int .i64 0], eq := [.int, .int, .int, .int, .int] } := rfl
@[go_sem] theorem tbl_67 : tbl 67 = some { k := .struct [(0, 3), (1, 3), (2, 3), (3, 3), (4, 3)], size := 5, bytes := 40, zero := [.int .i64 0, .int .i64 0, .int .i64 0, .int .i64 0, .int .i64 0], eq := [.int, .int, .int, .int, .int] } := rfl
@[go_sem] theorem tbl_70 : tbl 70 = some { k := .struct [(0, 3), (1, 3), (2, 64)], size := 3, bytes := 40, zero := [.int .i64 0, .int .i64 0, .slice none 0 0] } := rfl
@[go_sem] theorem tbl_71 : tbl 71 = some { k := .struct [(0, 3), (1, 3), (2, 64)], size := 3, bytes := 40, zero := [.int .i64 0, .int .i64 0, .slice none 0 0] } := rfl
@[go_sem] theorem tbl_74 : tbl 74 = some { k := .slice 108, size := 1, bytes := 24, zero := [.slice none 0 0] } := rfl
@[go_sem] theorem tbl_75 : tbl 75 = some { k := .slice 95, size := 1, bytes := 24, zero := [.slice none 0 0] } := rfl
@[go_sem] theorem tbl_76 : tbl 76 = some { k := .slice 33, size := 1, bytes := 24, zero := [.slice none 0 0] } := rfl
@[go_sem] theorem tbl_77 : tbl 77 = some { k := .struct [(0, 74), (1, 75), (2, 76), (3, 23), (4, 3), (5, 3), (6, 3)], size := 7, bytes := 120, zero := [.slice none 0 0, .slice none 0 0, .slice none 0 0, .slice none 0 0, .int .i64 0, .int .i64 0, .int .i64 0] } := rfl
@[go_sem] theorem tbl_78 : tbl 78 = some { k := .struct [(0, 74), (1, 75), (2, 76), (3, 23), (4, 3), (5, 3), (6, 3)], size := 7, bytes := 120, zero := [.slice none 0 0, .slice none 0 0, .slice none 0 0, .slice none 0 0, .int .i64 0, .int .i64 0, .int .i64 0] } := rfl
@[go_sem] theorem tbl_82 : tbl 82 = some { k := .slice 101, size := 1, bytes := 24, zero := [.slice none 0 0] } := rfl
@[go_sem] theorem tbl_83 : tbl 83 = some { k := .struct [(0, 3), (1, 3), (2, 3), (3, 3), (4, 82)], size := 5, bytes := 56, zero := [.int .i64 0, .int .i64 0, .int .i64 0, .int .i64 0, .slice none 0 0] } := rfl
@[go_sem] theorem tbl_84 : tbl 84 = some { k := .struct [(0, 3), (1, 3), (2, 3), (3, 3), (4, 82)], size := 5, bytes := 56, zero := [.int .i64 0, .int .i64 0, .int .i64 0, .int .i64 0, .slice none 0 0] } := rfl
@[go_sem] theorem tbl_93 : tbl 93 = some { k := .struct [(0, 3), (1, 3)], size := 2, bytes := 16, zero := [.int .i64 0, .int .i64 0], eq := [.int, .int] } := rfl
@[go_sem] theorem tbl_94 : tbl 94 = some { k := .struct [(0, 3), (1, 3), (2, 93), (4, 93)], size := 6, bytes := 48, zero := [.int .i64 0, .int .i64 0, .int .i64 0, .int .i64 0, .int .i64 0, .int .i64 0], eq := [.int, .int, .int, .int, .int, .int] } := rfl
@[go_sem] theorem tbl_95 : tbl 95 = some { k := .struct [(0, 3), (1, 3), (2, 93), (4, 93)], size := 6, bytes := 48, zero := [.int .i64 0, .int .i64 0, .int .i64 0, .int .i64 0, .int .i64 0, .int .i64 0], eq := [.int, .int, .int, .int, .int, .int] } := rfl
@[go_sem] theorem tbl_100 : tbl 100 = some { k := .struct [(0, 3), (1, 3), (2, 3), (3, 67)], size := 8, bytes := 64, zero := [.int .i64 0, .int .i64 0, .int .i64 0, .int .i64 0, .int .i64 0, .int .i64 0, .int .i64 0, .int .i64 0], eq := [.int, .int, .int, .int, .int, .int, .int, .int] } := rfl
@[go_sem] theorem tbl_101 : tbl 101 = some { k := .struct [(0, 3), (1, 3), (2, 3), (3, 67)], size := 8, bytes := 64, zero := [.int .i64 0, .int .i64 0, .int .i64 0, .int .i64 0, .int .i64 0, .int .i64 0, .int .i64 0, .int .i64 0], eq := [.int, .int, .int, .int, .int, .int, .int, .int] } := rfl
@[go_sem] theorem tbl_106 : tbl 106 = some { k := .slice 37, size := 1, bytes := 24, zero := [.slice none 0 0] } := rfl
@[go_sem] theorem tbl_107 : tbl 107 = some { k := .struct [(0, 37), (1, 37), (2, 106)], size := 3, bytes := 72, zero := [.slice none 0 0, .slice none 0 0, .slice none 0 0] } := rfl
@[go_sem] theorem tbl_108 : tbl 108 = some { k := .struct [(0, 37), (1, 37), (2, 106)], size := 3, bytes := 72, zero := [.slice none 0 0, .slice none 0 0, .slice none 0 0] } := rfl
@[go_sem] theorem tbl_113 : tbl 113 = some { k := .int .u64, size := 1, bytes := 8, zero := [.int .u64 0] } := rfl
@[go_sem] theorem tbl_116 : tbl 116 = some { k := .func, size := 1, bytes := 8, zero := [.nilFunc] } := rfl
@[go_sem] theorem tbl_123 : tbl 123 = some { k := .struct [(0, 3), (1, 3)], size := 2, bytes := 16, zero := [.int .i64 0, .int .i64 0], eq := [.int, .int] } := rfl
@[go_sem] theorem tbl_124 : tbl 124 = some { k := .struct [(0, 3), (1, 3)], size := 2, bytes := 16, zero := [.int .i64 0, .int .i64 0], eq := [.int, .int] } := rfl
@[go_sem] theorem tbl_125 : tbl 125 = some { k := .func, size := 1, bytes := 8, zero := [.nilFunc] } := rfl
@[go_sem] theorem tbl_130 : tbl 130 = some { k := .struct [(0, 3), (1, 3), (2, 3), (3, 25)], size := 4, bytes := 32, zero := [.int .i64 0, .int .i64 0, .int .i64 0, .int .u64 0], eq := [.int, .int, .int, .int] } := rfl
@[go_sem] theorem tbl_131 : tbl 131 = some { k := .struct [(0, 3), (1, 3), (2, 3), (3, 25)], size := 4, bytes := 32, zero := [.int .i64 0, .int .i64 0, .int .i64 0, .int .u64 0], eq := [.int, .int, .int, .int] } := rfl
@[go_sem] theorem tbl_135 : tbl 135 = some { k := .func, size := 1, bytes := 8, zero := [.nilFunc] } := rfl
@[go_sem] theorem tbl_138 : tbl 138 = some { k := .func, size := 1, bytes := 8, zero := [.nilFunc] } := rfl
@[go_sem] theorem tbl_139 : tbl 139 = some { k := .func, size := 1, bytes := 8, zero := [.nilFunc] } := rfl
@[go_sem] theorem tbl_142 : tbl 142 = some { k := .func, size := 1, bytes := 8, zero := [.nilFunc] } := rfl
@[go_sem] theorem tbl_144 : tbl 144 = some { k := .struct [(0, 3), (1, 3), (2, 93), (4, 93)], size := 6, bytes := 48, zero := [.int .i64 0, .int .i64 0, .int .i64 0, .int .i64 0, .int .i64 0, .int .i64 0], eq := [.int, .int, .int, .int, .int, .int] } := rfl
@[go_sem] theorem tbl_147 : tbl 147 = some { k := .slice 144, size := 1, bytes := 24, zero := [.slice none 0 0] } := rfl
@[go_sem] theorem tbl_149 : tbl 149 = some { k := .func, size := 1, bytes := 8, zero := [.nilFunc] } := rfl
@[go_sem] theorem tbl_154 : tbl 154 = some { k := .func, size := 1, bytes := 8, zero := [.nilFunc] } := rfl
@[go_sem] theorem tbl_155 : tbl 155 = some { k := .func, size := 1, bytes := 8, zero := [.nilFunc] } := rfl
@[go_sem] theorem tbl_156 : tbl 156 = some { k := .struct [(0, 3), (1, 3), (2, 3), (3, 3)], size := 4, bytes := 32, zero := [.int .i64 0, .int .i64 0, .int .i64 0, .int .i64 0], eq := [.int, .int, .int, .int] } := rfl
@[go_sem] theorem tbl_157 : tbl 157 = some { k := .func, size := 1, bytes := 8, zero := [.nilFunc] } := rfl
@[go_sem] theorem tbl_162 : tbl 162 = some { k := .slice 156, size := 1, bytes := 24, zero := [.slice none 0 0] } := rfl
@[go_sem] theorem tbl_164 : tbl 164 = some { k := .func, size := 1, bytes := 8, zero := [.nilFunc] } := rfl
@[go_sem] theorem tbl_174 : tbl 174 = some { k := .slice 5, size := 1, bytes := 24, zero := [.slice none 0 0] } := rfl
@[go_sem] theorem tbl_183 : tbl 183 = some { k := .func, size := 1, bytes := 8, zero := [.nilFunc] } := rfl
@[go_sem] theorem tbl_184 : tbl 184 = some { k := .func, size := 1, bytes := 8, zero := [.nilFunc] } := rfl
@[go_sem] theorem tbl_193 : tbl 193 = some { k := .func, size := 1, bytes := 8, zero := [.nilFunc] } := rfl
@[go_sem] theorem tbl_198 : tbl 198 = some { k := .map 199 4, size := 1, bytes := 8, zero := [.map none] } := rfl
@[go_sem] theorem tbl_199 : tbl 199 = some { k := .array 2 3, size := 2, bytes := 16, zero := [.int .i64 0, .int .i64 0], eq := [.int, .int] } := rfl
@[go_sem] theorem tbl_204 : tbl 204 = some { k := .struct [(0, 25), (1, 25), (2, 25), (3, 4)], size := 4, bytes := 32, zero := [.int .u64 0, .int .u64 0, .int .u64 0, .bool false], eq := [.int, .int, .int, .bool] } := rfl
@[go_sem] theorem tbl_205 : tbl 205 = some { k := .struct [(0, 25), (1, 25), (2, 25), (3, 4)], size := 4, bytes := 32, zero := [.int .u64 0, .int .u64 0, .int .u64 0, .bool false], eq := [.int, .int, .int, .bool] } := rfl
@[go_sem] theorem tbl_206 : tbl 206 = some { k := .func, size := 1, bytes := 8, zero := [.nilFunc] } := rfl
@[go_sem] theorem tbl_209 : tbl 209 = some { k := .func, size := 1, bytes := 8, zero := [.nilFunc] } := rfl
@[go_sem] theorem tbl_210 : tbl 210 = some { k := .struct [(0, 3), (1, 3)], size := 2, bytes := 16, zero := [.int .i64 0, .int .i64 0], eq := [.int, .int] } := rfl
@[go_sem] theorem tbl_211 : tbl 211 = some { k := .struct [(0, 3), (1, 3)], size := 2, bytes := 16, zero := [.int .i64 0, .int .i64 0], eq := [.int, .int] } := rfl
@[go_sem] theorem tbl_215 : tbl 215 = some { k := .ptr 3, size := 1, bytes := 8, zero := [.pointer none] } := rfl
@[go_sem] theorem tbl_216 : tbl 216 = some { k := .func, size := 1, bytes := 8, zero := [.nilFunc] } := rfl
@[go_sem] theorem tbl_220 : tbl 220 = some { k := .slice 199, size := 1, bytes := 24, zero := [.slice none 0 0] } := rfl
@[go_sem] theorem tbl_222 : tbl 222 = some { k := .func, size := 1, bytes := 8, zero := [.nilFunc] } := rfl
@[go_sem] theorem tbl_226 : tbl 226 = some { k := .func, size := 1, bytes := 8, zero := [.nilFunc] } := rfl
@[go_sem] theorem tbl_237 : tbl 237 = some { k := .iface, size := 1, bytes := 16, zero := [.nilIface] } := rfl
@[go_sem] theorem tbl_238 : tbl 238 = some { k := .iface, size := 1, bytes := 16, zero := [.nilIface] } := rfl
@[go_sem] theorem tbl_239 : tbl 239 = some { k := .func, size := 1, bytes := 8, zero := [.nilFunc] } := rfl
@[go_sem] theorem tbl_240 : tbl 240 = some { k := .func, size := 1, bytes := 8, zero := [.nilFunc] } := rfl
@[go_sem] theorem tbl_242 : tbl 242 = some { k := .func, size := 1, bytes := 8, zero := [.nilFunc] } := rfl
@[go_sem] theorem tbl_244 : tbl 244 = some { k := .array 24 5, size := 24, bytes := 24, zero := [.int .u8 0, .int .u8 0, .int .u8 0, .int .u8 0, .int .u8 0, .int .u8 0, .int .u8 0, .int .u8 0, .int .u8 0, .int .u8 0, .int .u8 0, .int .u8 0, .int .u8 0, .int .u8 0, .int .u8 0, .int .u8 0, .int .u8 0, .int .u8 0, .int .u8 0, .int .u8 0, .int .u8 0, .int .u8 0, .int .u8 0, .int .u8 0], eq := [.int, .int, .int, .int, .int, .int, .int, .int, .int, .int, .int, .int, .int, .int, .int, .int, .int, .int, .int, .int, .int, .int, .int, .int] } := rfl
@[go_sem] theorem tbl_249 : tbl 249 = some { k := .array 20 25, size := 20, bytes := 160, zero := [.int .u64 0, .int .u64 0, .int .u64 0, .int .u64 0, .int .u64 0, .int .u64 0, .int .u64 0, .int .u64 0, .int .u64 0, .int .u64 0, .int .u64 0, .int .u64 0, .int .u64 0, .int .u64 0, .int .u64 0, .int .u64 0, .int .u64 0, .int .u64 0, .int .u64 0, .int .u64 0], eq := [.int, .int, .int, .int, .int, .int, .int, .int, .int, .int, .int, .int, .int, .int, .int, .int, .int, .int, .int, .int] } := rfl
@[go_sem] theorem tbl_250 : tbl 250 = some { k := .int .u32, size := 1, bytes := 4, zero := [.int .u32 0] } := rfl
@[go_sem] theorem tbl_254 : tbl 254 = some { k := .array 32 5, size := 32, bytes := 32, zero := [.int .u8 0, .int .u8 0, .int .u8 0, .int .u8 0, .int .u8 0, .int .u8 0, .int .u8 0, .int .u8 0, .int .u8 0, .int .u8 0, .int .u8 0, .int .u8 0, .int .u8 0, .int .u8 0, .int .u8 0, .int .u8 0, .int .u8 0, .int .u8 0, .int .u8 0, .int .u8 0, .int .u8 0, .int .u8 0, .int .u8 0, .int .u8 0, .int .u8 0, .int .u8 0, .int .u8 0, .int .u8 0, .int .u8 0, .int .u8 0, .int .u8 0, .int .u8 0], eq := [.int, .int, .int, .int, .int, .int, .int, .int, .int, .int, .int, .int, .int, .int, .int, .int, .int, .int, .int, .int, .int, .int, .int, .int, .int, .int, .int, .int, .int, .int, .int, .int] } := rfl
@[go_sem] theorem tbl_255 : tbl 255 = some { k := .array 64 5, size := 64, bytes := 64, zero := [.int .u8 0, .int .u8 0, .int .u8 0, .int .u8 0, .int .u8 0, .int .u8 0, .int .u8 0, .int .u8 0, .int .u8 0, .int .u8 0, .int .u8 0, .int .u8 0, .int .u8 0, .int .u8 0, .int .u8 0, .int .u8 0, .int .u8 0, .int .u8 0, .int .u8 0, .int .u8 0, .int .u8 0, .int .u8 0, .int .u8 0, .int .u8 0, .int .u8 0, .int .u8 0, .int .u8 0, .int .u8 0, .int .u8 0, .int .u8 0, .int .u8 0, .int .u8 0, .int .u8 0, .int .u8 0, .int .u8 0, .int .u8 0, .int .u8 0, .int .u8 0, .int .u8 0, .int .u8 0, .int .u8 0, .int .u8 0, .int .u8 0, .int .u8 0, .int .u8 0, .int .u8 0, .int .u8 0, .int .u8 0, .int .u8 0, .int .u8 0, .int .u8 0, .int .u8 0, .int .u8 0, .int .u8 0, .int .u8 0, .int .u8 0, .int .u8 0, .int .u8 0, .int .u8 0, .int .u8 0, .int .u8 0, .int .u8 0, .int .u8 0, .int .u8 0], eq := [.int, .int, .int, .int, .int, .int, .int, .int, .int, .int, .int, .int, .int, .int, .int, .int, .int, .int, .int, .int, .int, .int, .int, .int, .int, .int, .int, .int, .int, .int, .int, .int, .int, .int, .int, .int, .int, .int, .int, .int, .int, .int, .int, .int, .int, .int, .int, .int, .int, .int, .int, .int, .int, .int, .int, .int, .int, .int, .int, .int, .int, .int, .int, .int] } := rfl
@[go_sem] theorem tbl_256 : tbl 256 = some { k := .ptr 273, size := 1, bytes := 8, zero := [.pointer none] } := rfl
@[go_sem] theorem tbl_264 : tbl 264 = some { k := .int .u8, size := 1, bytes := 1, zero := [.int .u8 0] } := rfl
set_option maxRecDepth 1000000 in
set_option maxHeartbeats 4000000 in
theorem tblOk : TOk Tryz.prog tbl := by
  intro t i h
  unfold tbl at h
  split at h
  all_goals first | (cases h; done) | (cases h; exact ⟨by kernel_rfl, by kernel_rfl, by kernel_rfl⟩)
end Go.Proofs.YtihnjbnlbedpaaaGreatDoor

import Derived.Test.YtchpbdecipcelaaGreatDoorMR01
import Derived.Test.YtchpbdecipcelaaGreatDoorProg
import Derived.Test.YtchpbdecipcelaaGreatDoorMR03
namespace Go.Proofs.YtchpbdecipcelaaGreatDoor
def tbl : TT
 | 1 => some { k := .func, size := 1, bytes := 8, zero := [.nilFunc] }
 | 2 => some { k := .int .i64, size := 1, bytes := 8, zero := [.int .i64 0] }
 | 3 => some { k := .int .i64, size := 1, bytes := 8, zero := [.int .i64 0] }
 | 4 => some { k := .bool, size := 1, bytes := 1, zero := [.bool false] }
 | 5 => some { k := .int .u8, size := 1, bytes := 1, zero := [.int .u8 0] }
 | 6 => some { k := .int .u8, size := 1, bytes := 1, zero := [.int .u8 0] }
 | 7 => some { k := .struct [(0, 2), (1, 3), (2, 4), (3, 6)], size := 4, bytes := 24, zero := [.int .i64 0, .int .i64 0, .bool false, .int .u8 0] }
 | 8 => some { k := .struct [(0, 2), (1, 3), (2, 4), (3, 6)], size := 4, bytes := 24, zero := [.int .i64 0, .int .i64 0, .bool false, .int .u8 0] }
 | 9 => some { k := .str, size := 1, bytes := 16, zero := [.string ByteArray.empty] }
 | 10 => some { k := .str, size := 1, bytes := 16, zero := [.string ByteArray.empty] }
 | 11 => some { k := .str, size := 1, bytes := 16, zero := [.string ByteArray.empty] }
 | 12 => some { k := .int .u64, size := 1, bytes := 8, zero := [.int .u64 0] }
 | 13 => some { k := .struct [(0, 9), (1, 12)], size := 2, bytes := 24, zero := [.string ByteArray.empty, .int .u64 0] }
 | 14 => some { k := .struct [(0, 9), (1, 12)], size := 2, bytes := 24, zero := [.string ByteArray.empty, .int .u64 0] }
 | 15 => some { k := .ptr 309, size := 1, bytes := 8, zero := [.pointer none] }
 | 16 => some { k := .ptr 312, size := 1, bytes := 8, zero := [.pointer none] }
 | 17 => some { k := .ptr 321, size := 1, bytes := 8, zero := [.pointer none] }
 | 18 => some { k := .struct [(0, 17)], size := 1, bytes := 8, zero := [.pointer none] }
 | 19 => some { k := .struct [(0, 17)], size := 1, bytes := 8, zero := [.pointer none] }
 | 20 => some { k := .iface, size := 1, bytes := 16, zero := [.nilIface] }
 | 22 => some { k := .slice 130, size := 1, bytes := 24, zero := [.slice none 0 0] }
 | 23 => some { k := .slice 132, size := 1, bytes := 24, zero := [.slice none 0 0] }
 | 24 => some { k := .slice 74, size := 1, bytes := 24, zero := [.slice none 0 0] }
 | 25 => some { k := .struct [(0, 22), (1, 23), (2, 3), (3, 24)], size := 4, bytes := 80, zero := [.slice none 0 0, .slice none 0 0, .int .i64 0, .slice none 0 0] }
 | 26 => some { k := .struct [(0, 22), (1, 23), (2, 3), (3, 24)], size := 4, bytes := 80, zero := [.slice none 0 0, .slice none 0 0, .int .i64 0, .slice none 0 0] }
 | 27 => some { k := .slice 80, size := 1, bytes := 24, zero := [.slice none 0 0] }
 | 28 => some { k := .slice 134, size := 1, bytes := 24, zero := [.slice none 0 0] }
 | 29 => some { k := .struct [(0, 26), (4, 27), (5, 28)], size := 6, bytes := 128, zero := [.slice none 0 0, .slice none 0 0, .int .i64 0, .slice none 0 0, .slice none 0 0, .slice none 0 0] }
 | 30 => some { k := .struct [(0, 26), (4, 27), (5, 28)], size := 6, bytes := 128, zero := [.slice none 0 0, .slice none 0 0, .int .i64 0, .slice none 0 0, .slice none 0 0, .slice none 0 0] }
 | 31 => some { k := .slice 36, size := 1, bytes := 24, zero := [.slice none 0 0] }
 | 32 => some { k := .slice 57, size := 1, bytes := 24, zero := [.slice none 0 0] }
 | 35 => some { k := .struct [(0, 3), (1, 3), (2, 3), (3, 32)], size := 4, bytes := 48, zero := [.int .i64 0, .int .i64 0, .int .i64 0, .slice none 0 0] }
 | 36 => some { k := .struct [(0, 3), (1, 3), (2, 3), (3, 32)], size := 4, bytes := 48, zero := [.int .i64 0, .int .i64 0, .int .i64 0, .slice none 0 0] }
 | 37 => some { k := .int .i64, size := 1, bytes := 8, zero := [.int .i64 0] }
 | 43 => some { k := .slice 32, size := 1, bytes := 24, zero := [.slice none 0 0] }
 | 51 => some { k := .slice 3, size := 1, bytes := 24, zero := [.slice none 0 0] }
 | 56 => some { k := .struct [(0, 3), (1, 3)], size := 2, bytes := 16, zero := [.int .i64 0, .int .i64 0], eq := [.int, .int] }
 | 57 => some { k := .struct [(0, 3), (1, 3)], size := 2, bytes := 16, zero := [.int .i64 0, .int .i64 0], eq := [.int, .int] }
 | 62 => some { k := .slice 125, size := 1, bytes := 24, zero := [.slice none 0 0] }
 | 63 => some { k := .int .u32, size := 1, bytes := 4, zero := [.int .u32 0] }
 | 64 => some { k := .int .u64, size := 1, bytes := 8, zero := [.int .u64 0] }
 | 65 => some { k := .slice 136, size := 1, bytes := 24, zero := [.slice none 0 0] }
 | 72 => some { k := .slice 77, size := 1, bytes := 24, zero := [.slice none 0 0] }
 | 73 => some { k := .struct [(0, 3), (1, 72)], size := 2, bytes := 32, zero := [.int .i64 0, .slice none 0 0] }
 | 74 => some { k := .struct [(0, 3), (1, 72)], size := 2, bytes := 32, zero := [.int .i64 0, .slice none 0 0] }
 | 75 => some { k := .slice 94, size := 1, bytes := 24, zero := [.slice none 0 0] }
 | 76 => some { k := .struct [(0, 75)], size := 1, bytes := 24, zero := [.slice none 0 0] }
 | 77 => some { k := .struct [(0, 75)], size := 1, bytes := 24, zero := [.slice none 0 0] }
 | 78 => some { k := .slice 51, size := 1, bytes := 24, zero := [.slice none 0 0] }
 | 79 => some { k := .struct [(0, 3), (1, 3), (2, 51), (3, 78)], size := 4, bytes := 64, zero := [.int .i64 0, .int .i64 0, .slice none 0 0, .slice none 0 0] }
 | 80 => some { k := .struct [(0, 3), (1, 3), (2, 51), (3, 78)], size := 4, bytes := 64, zero := [.int .i64 0, .int .i64 0, .slice none 0 0, .slice none 0 0] }
 | 81 => some { k := .ptr 83, size := 1, bytes := 8, zero := [.pointer none] }
 | 82 => some { k := .struct [(0, 30), (6, 31)], size := 7, bytes := 152, zero := [.slice none 0 0, .slice none 0 0, .int .i64 0, .slice none 0 0, .slice none 0 0, .slice none 0 0, .slice none 0 0] }
 | 83 => some { k := .struct [(0, 30), (6, 31)], size := 7, bytes := 152, zero := [.slice none 0 0, .slice none 0 0, .int .i64 0, .slice none 0 0, .slice none 0 0, .slice none 0 0, .slice none 0 0] }
 | 84 => some { k := .func, size := 1, bytes := 8, zero := [.nilFunc] }
 | 85 => some { k := .func, size := 1, bytes := 8, zero := [.nilFunc] }
 | 87 => some { k := .struct [(0, 3), (1, 3), (2, 3), (3, 75)], size := 4, bytes := 48, zero := [.int .i64 0, .int .i64 0, .int .i64 0, .slice none 0 0] }
 | 88 => some { k := .struct [(0, 3), (1, 3), (2, 3), (3, 75)], size := 4, bytes := 48, zero := [.int .i64 0, .int .i64 0, .int .i64 0, .slice none 0 0] }
 | 89 => some { k := .struct [(0, 3), (1, 3)], size := 2, bytes := 16, zero := [.int .i64 0, .int .i64 0], eq := [.int, .int] }
 | 90 => some { k := .struct [(0, 3), (1, 3)], size := 2, bytes := 16, zero := [.int .i64 0, .int .i64 0], eq := [.int, .int] }
 | 91 => some { k := .struct [(0, 3), (1, 3)], size := 2, bytes := 16, zero := [.int .i64 0, .int .i64 0], eq := [.int, .int] }
 | 92 => some { k := .struct [(0, 3), (1, 3)], size := 2, bytes := 16, zero := [.int .i64 0, .int .i64 0], eq := [.int, .int] }
 | 93 => some { k := .struct [(0, 3), (1, 3), (2, 3), (3, 64), (4, 90), (6, 3), (7, 3), (8, 92)], size := 10, bytes := 80, zero := [.int .i64 0, .int .i64 0, .int .i64 0, .int .u64 0, .int .i64 0, .int .i64 0, .int .i64 0, .int .i64 0, .int .i64 0, .int .i64 0], eq := [.int, .int, .int, .int, .int, .int, .int, .int, .int, .int] }
 | 94 => some { k := .struct [(0, 3), (1, 3), (2, 3), (3, 64), (4, 90), (6, 3), (7, 3), (8, 92)], size := 10, bytes := 80, zero := [.int .i64 0, .int .i64 0, .int .i64 0, .int .u64 0, .int .i64 0, .int .i64 0, .int .i64 0, .int .i64 0, .int .i64 0, .int .i64 0], eq := [.int, .int, .int, .int, .int, .int, .int, .int, .int, .int] }
 | 98 => some { k := .struct [(0, 3), (1, 3)], size := 2, bytes := 16, zero := [.int .i64 0, .int .i64 0], eq := [.int, .int] }
 | 106 => some { k := .func, size := 1, bytes := 8, zero := [.nilFunc] }
 | 108 => some { k := .func, size := 1, bytes := 8, zero := [.nilFunc] }
 | 110 => some { k := .func, size := 1, bytes := 8, zero := [.nilFunc] }
 | 114 => some { k := .func, size := 1, bytes := 8, zero := [.nilFunc] }
 | 118 => some { k := .func, size := 1, bytes := 8, zero := [.nilFunc] }
 | 124 => some { k := .struct [(0, 3), (1, 3), (2, 3), (3, 3), (4, 3)], size := 5, bytes := 40, zero := [.int .i64 0, .int .i64 0, .int .i64 0, .int .i64 0, .int .i64 0], eq := [.int, .int, .int, .int, .int] }
 | 125 => some { k := .struct [(0, 3), (1, 3), (2, 3), (3, 3), (4, 3)], size := 5, bytes := 40, zero := [.int .i64 0, .int .i64 0, .int .i64 0, .int .i64 0, .int .i64 0], eq := [.int, .int, .int, .int, .int] }
 | 129 => some { k := .struct [(0, 3), (1, 3), (2, 3), (3, 3), (4, 3), (5, 92)], size := 7, bytes := 56, zero := [.int .i64 0, .int .i64 0, .int .i64 0, .int .i64 0, .int .i64 0, .int .i64 0, .int .i64 0], eq := [.int, .int, .int, .int, .int, .int, .int] }
 | 130 => some { k := .struct [(0, 3), (1, 3), (2, 3), (3, 3), (4, 3), (5, 92)], size := 7, bytes := 56, zero := [.int .i64 0, .int .i64 0, .int .i64 0, .int .i64 0, .int .i64 0, .int .i64 0, .int .i64 0], eq := [.int, .int, .int, .int, .int, .int, .int] }
 | 131 => some { k := .struct [(0, 3), (1, 3), (2, 3), (3, 3)], size := 4, bytes := 32, zero := [.int .i64 0, .int .i64 0, .int .i64 0, .int .i64 0], eq := [.int, .int, .int, .int] }
 | 132 => some { k := .struct [(0, 3), (1, 3), (2, 3), (3, 3)], size := 4, bytes := 32, zero := [.int .i64 0, .int .i64 0, .int .i64 0, .int .i64 0], eq := [.int, .int, .int, .int] }
 | 133 => some { k := .struct [(0, 3), (1, 3), (2, 62)], size := 3, bytes := 40, zero := [.int .i64 0, .int .i64 0, .slice none 0 0] }
 | 134 => some { k := .struct [(0, 3), (1, 3), (2, 62)], size := 3, bytes := 40, zero := [.int .i64 0, .int .i64 0, .slice none 0 0] }
 | 135 => some { k := .int .u16, size := 1, bytes := 2, zero := [.int .u16 0] }
 | 136 => some { k := .array 6 135, size := 6, bytes := 12, zero := [.int .u16 0, .int .u16 0, .int .u16 0, .int .u16 0, .int .u16 0, .int .u16 0], eq := [.int, .int, .int, .int, .int, .int] }
 | 146 => some { k := .func, size := 1, bytes := 8, zero := [.nilFunc] }
 | 147 => some { k := .slice 37, size := 1, bytes := 24, zero := [.slice none 0 0] }
 | 154 => some { k := .func, size := 1, bytes := 8, zero := [.nilFunc] }
 | 157 => some { k := .func, size := 1, bytes := 8, zero := [.nilFunc] }
 | 164 => some { k := .int .u64, size := 1, bytes := 8, zero := [.int .u64 0] }
 | 169 => some { k := .func, size := 1, bytes := 8, zero := [.nilFunc] }
 | 176 => some { k := .func, size := 1, bytes := 8, zero := [.nilFunc] }
 | 181 => some { k := .func, size := 1, bytes := 8, zero := [.nilFunc] }
 | 183 => some { k := .slice 90, size := 1, bytes := 24, zero := [.slice none 0 0] }
 | 186 => some { k := .func, size := 1, bytes := 8, zero := [.nilFunc] }
 | 187 => some { k := .func, size := 1, bytes := 8, zero := [.nilFunc] }
 | 194 => some { k := .func, size := 1, bytes := 8, zero := [.nilFunc] }
 | 201 => some { k := .int .i64, size := 1, bytes := 8, zero := [.int .i64 0] }
 | 211 => some { k := .slice 5, size := 1, bytes := 24, zero := [.slice none 0 0] }
 | 218 => some { k := .struct [(0, 3), (1, 3), (2, 3), (3, 64)], size := 4, bytes := 32, zero := [.int .i64 0, .int .i64 0, .int .i64 0, .int .u64 0], eq := [.int, .int, .int, .int] }
 | 219 => some { k := .struct [(0, 3), (1, 3), (2, 3), (3, 64)], size := 4, bytes := 32, zero := [.int .i64 0, .int .i64 0, .int .i64 0, .int .u64 0], eq := [.int, .int, .int, .int] }
 | 224 => some { k := .struct [(0, 3), (1, 3)], size := 2, bytes := 16, zero := [.int .i64 0, .int .i64 0], eq := [.int, .int] }
 | 225 => some { k := .struct [(0, 3), (1, 3)], size := 2, bytes := 16, zero := [.int .i64 0, .int .i64 0], eq := [.int, .int] }
 | 226 => some { k := .func, size := 1, bytes := 8, zero := [.nilFunc] }
 | 229 => some { k := .func, size := 1, bytes := 8, zero := [.nilFunc] }
 | 231 => some { k := .ptr 94, size := 1, bytes := 8, zero := [.pointer none] }
 | 232 => some { k := .func, size := 1, bytes := 8, zero := [.nilFunc] }
 | 234 => some { k := .func, size := 1, bytes := 8, zero := [.nilFunc] }
 | 235 => some { k := .func, size := 1, bytes := 8, zero := [.nilFunc] }
 | 238 => some { k := .func, size := 1, bytes := 8, zero := [.nilFunc] }
 | 244 => some { k := .struct [(0, 64), (1, 64), (2, 64), (3, 4)], size := 4, bytes := 32, zero := [.int .u64 0, .int .u64 0, .int .u64 0, .bool false], eq := [.int, .int, .int, .bool] }
 | 245 => some { k := .struct [(0, 64), (1, 64), (2, 64), (3, 4)], size := 4, bytes := 32, zero := [.int .u64 0, .int .u64 0, .int .u64 0, .bool false], eq := [.int, .int, .int, .bool] }
 | 246 => some { k := .func, size := 1, bytes := 8, zero := [.nilFunc] }
 | 249 => some { k := .int .u64, size := 1, bytes := 8, zero := [.int .u64 0] }
 | 253 => some { k := .ptr 3, size := 1, bytes := 8, zero := [.pointer none] }
 | 260 => some { k := .array 2 3, size := 2, bytes := 16, zero := [.int .i64 0, .int .i64 0], eq := [.int, .int] }
 | 263 => some { k := .struct [(0, 3), (1, 3)], size := 2, bytes := 16, zero := [.int .i64 0, .int .i64 0], eq := [.int, .int] }
 | 264 => some { k := .struct [(0, 3), (1, 3)], size := 2, bytes := 16, zero := [.int .i64 0, .int .i64 0], eq := [.int, .int] }
 | 268 => some { k := .func, size := 1, bytes := 8, zero := [.nilFunc] }
 | 272 => some { k := .ptr 249, size := 1, bytes := 8, zero := [.pointer none] }
 | 275 => some { k := .func, size := 1, bytes := 8, zero := [.nilFunc] }
 | 279 => some { k := .array 8 5, size := 8, bytes := 8, zero := [.int .u8 0, .int .u8 0, .int .u8 0, .int .u8 0, .int .u8 0, .int .u8 0, .int .u8 0, .int .u8 0], eq := [.int, .int, .int, .int, .int, .int, .int, .int] }
 | 284 => some { k := .func, size := 1, bytes := 8, zero := [.nilFunc] }
 | 290 => some { k := .iface, size := 1, bytes := 16, zero := [.nilIface] }
 | 291 => some { k := .iface, size := 1, bytes := 16, zero := [.nilIface] }
 | 292 => some { k := .func, size := 1, bytes := 8, zero := [.nilFunc] }
 | 293 => some { k := .func, size := 1, bytes := 8, zero := [.nilFunc] }
 | 296 => some { k := .func, size := 1, bytes := 8, zero := [.nilFunc] }
 | 297 => some { k := .array 24 5, size := 24, bytes := 24, zero := [.int .u8 0, .int .u8 0, .int .u8 0, .int .u8 0, .int .u8 0, .int .u8 0, .int .u8 0, .int .u8 0, .int .u8 0, .int .u8 0, .int .u8 0, .int .u8 0, .int .u8 0, .int .u8 0, .int .u8 0, .int .u8 0, .int .u8 0, .int .u8 0, .int .u8 0, .int .u8 0, .int .u8 0, .int .u8 0, .int .u8 0, .int .u8 0], eq := [.int, .int, .int, .int, .int, .int, .int, .int, .int, .int, .int, .int, .int, .int, .int, .int, .int, .int, .int, .int, .int, .int, .int, .int] }
 | 302 => some { k := .array 20 64, size := 20, bytes := 160, zero := [.int .u64 0, .int .u64 0, .int .u64 0, .int .u64 0, .int .u64 0, .int .u64 0, .int .u64 0, .int .u64 0, .int .u64 0, .int .u64 0, .int .u64 0, .int .u64 0, .int .u64 0, .int .u64 0, .int .u64 0, .int .u64 0, .int .u64 0, .int .u64 0, .int .u64 0, .int .u64 0], eq := [.int, .int, .int, .int, .int, .int, .int, .int, .int, .int, .int, .int, .int, .int, .int, .int, .int, .int, .int, .int] }
 | 304 => some { k := .array 32 5, size := 32, bytes := 32, zero := [.int .u8 0, .int .u8 0, .int .u8 0, .int .u8 0, .int .u8 0, .int .u8 0, .int .u8 0, .int .u8 0, .int .u8 0, .int .u8 0, .int .u8 0, .int .u8 0, .int .u8 0, .int .u8 0, .int .u8 0, .int .u8 0, .int .u8 0, .int .u8 0, .int .u8 0, .int .u8 0, .int .u8 0, .int .u8 0, .int .u8 0, .int .u8 0, .int .u8 0, .int .u8 0, .int .u8 0, .int .u8 0, .int .u8 0, .int .u8 0, .int .u8 0, .int .u8 0], eq := [.int, .int, .int, .int, .int, .int, .int, .int, .int, .int, .int, .int, .int, .int, .int, .int, .int, .int, .int, .int, .int, .int, .int, .int, .int, .int, .int, .int, .int, .int, .int, .int] }
 | 305 => some { k := .array 64 5, size := 64, bytes := 64, zero := [.int .u8 0, .int .u8 0, .int .u8 0, .int .u8 0, .int .u8 0, .int .u8 0, .int .u8 0, .int .u8 0, .int .u8 0, .int .u8 0, .int .u8 0, .int .u8 0, .int .u8 0, .int .u8 0, .int .u8 0, .int .u8 0, .int .u8 0, .int .u8 0, .int .u8 0, .int .u8 0, .int .u8 0, .int .u8 0, .int .u8 0, .int .u8 0, .int .u8 0, .int .u8 0, .int .u8 0, .int .u8 0, .int .u8 0, .int .u8 0, .int .u8 0, .int .u8 0, .int .u8 0, .int .u8 0, .int .u8 0, .int .u8 0, .int .u8 0, .int .u8 0, .int .u8 0, .int .u8 0, .int .u8 0, .int .u8 0, .int .u8 0, .int .u8 0, .int .u8 0, .int .u8 0, .int .u8 0, .int .u8 0, .int .u8 0, .int .u8 0, .int .u8 0, .int .u8 0, .int .u8 0, .int .u8 0, .int .u8 0, .int .u8 0, .int .u8 0, .int .u8 0, .int .u8 0, .int .u8 0, .int .u8 0, .int .u8 0, .int .u8 0, .int .u8 0], eq := [.int, .int, .int, .int, .int, .int, .int, .int, .int, .int, .int, .int, .int, .int, .int, .int, .int, .int, .int, .int, .int, .int, .int, .int, .int, .int, .int, .int, .int, .int, .int, .int, .int, .int, .int, .int, .int, .int, .int, .int, .int, .int, .int, .int, .int, .int, .int, .int, .int, .int, .int, .int, .int, .int, .int, .int, .int, .int, .int, .int, .int, .int, .int, .int] }
 | 306 => some { k := .ptr 324, size := 1, bytes := 8, zero := [.pointer none] }
 | 315 => some { k := .int .u8, size := 1, bytes := 1, zero := [.int .u8 0] }
 | _ => none
@[go_sem] theorem tbl_1 : tbl 1 = some { k := .func, size := 1, bytes := 8, zero := [.nilFunc] } := rfl
@[go_sem] theorem tbl_2 : tbl 2 = some { k := .int .i64, size := 1, bytes := 8, zero := [.int .i64 0] } := rfl
@[go_sem] theorem zF3 : tbl 3 = some { k := .int .i64, size := 1, bytes := 8, zero := [.int .i64 0] } := rfl
@[go_sem] theorem tbl_4 : tbl 4 = some { k := .bool, size := 1, bytes := 1, zero := [.bool false] } := rfl
@[go_sem] theorem tbl_5 : tbl 5 = some { k := .int .u8, size := 1, bytes := 1, zero := [.int .u8 0] } := rfl
@[go_sem] theorem tbl_6 : tbl 6 = some { k := .int .u8, size := 1, bytes := 1, zero := [.int .u8 0] } := rfl
@[go_sem] theorem tbl_7 : tbl 7 = some { k := .struct [(0, 2), (1, 3), (2, 4), (3, 6)], size := 4, bytes := 24, zero := [.int .i64 0, .int .i64 0, .bool false, .int .u8 0] } := rfl
@[go_sem] theorem tbl_8 : tbl 8 = some { k := .struct [(0, 2), (1, 3), (2, 4), (3, 6)], size := 4, bytes := 24, zero := [.int .i64 0, .int .i64 0, .bool false, .int .u8 0] } := rfl
@[go_sem] theorem tbl_9 : tbl 9 = some { k := .str, size := 1, bytes := 16, zero := [.string ByteArray.empty] } := rfl
@[go_sem] theorem tbl_10 : tbl 10 = some { k := .str, size := 1, bytes := 16, zero := [.string ByteArray.empty] } := rfl
@[go_sem] theorem tbl_11 : tbl 11 = some { k := .str, size := 1, bytes := 16, zero := [.string ByteArray.empty] } := rfl
@[go_sem] theorem tbl_12 : tbl 12 = some { k := .int .u64, size := 1, bytes := 8, zero := [.int .u64 0] } := rfl
@[go_sem] theorem tbl_13 : tbl 13 = some { k := .struct [(0, 9), (1, 12)], size := 2, bytes := 24, zero := [.string ByteArray.empty, .int .u64 0] } := rfl
@[go_sem] theorem tbl_14 : tbl 14 = some { k := .struct [(0, 9), (1, 12)], size := 2, bytes := 24, zero := [.string ByteArray.empty, .int .u64 0] } := rfl
@[go_sem] theorem tbl_15 : tbl 15 = some { k := .ptr 309, size := 1, bytes := 8, zero := [.pointer none] } := rfl
@[go_sem] theorem tbl_16 : tbl 16 = some { k := .ptr 312, size := 1, bytes := 8, zero := [.pointer none] } := rfl
@[go_sem] theorem tbl_17 : tbl 17 = some { k := .ptr 321, size := 1, bytes := 8, zero := [.pointer none] } := rfl
@[go_sem] theorem tbl_18 : tbl 18 = some { k := .struct [(0, 17)], size := 1, bytes := 8, zero := [.pointer none] } := rfl
@[go_sem] theorem tbl_19 : tbl 19 = some { k := .struct [(0, 17)], size := 1, bytes := 8, zero := [.pointer none] } := rfl
@[go_sem] theorem tbl_20 : tbl 20 = some { k := .iface, size := 1, bytes := 16, zero := [.nilIface] } := rfl
@[go_sem] theorem yCx : tbl 22 = some { k := .slice 130, size := 1, bytes := 24, zero := [.slice none 0 0] } := rfl
@[go_sem] theorem yCw : tbl 23 = some { k := .slice 132, size := 1, bytes := 24, zero := [.slice none 0 0] } := rfl
@[go_sem] theorem yCv : tbl 24 = some { k := .slice 74, size := 1, bytes := 24, zero := [.slice none 0 0] } := rfl
@[go_sem] theorem tbl_25 : tbl 25 = some { k := .struct [(0, 22), (1, 23), (2, 3), (3, 24)], size := 4, bytes := 80, zero := [.slice none 0 0, .slice none 0 0, .int .i64 0, .slice none 0 0] } := rfl
@[go_sem] theorem yCu : tbl 26 = some { k := .struct [(0, 22), (1, 23), (2, 3), (3, 24)], size := 4, bytes := 80, zero := [.slice none 0 0, .slice none 0 0, .int .i64 0, .slice none 0 0] } := rfl
@[go_sem] theorem yCt : tbl 27 = some { k := .slice 80, size := 1, bytes := 24, zero := [.slice none 0 0] } := rfl
@[go_sem] theorem yCs : tbl 28 = some { k := .slice 134, size := 1, bytes := 24, zero := [.slice none 0 0] } := rfl
@[go_sem] theorem tbl_29 : tbl 29 = some { k := .struct [(0, 26), (4, 27), (5, 28)], size := 6, bytes := 128, zero := [.slice none 0 0, .slice none 0 0, .int .i64 0, .slice none 0 0, .slice none 0 0, .slice none 0 0] } := rfl
@[go_sem] theorem yCr : tbl 30 = some { k := .struct [(0, 26), (4, 27), (5, 28)], size := 6, bytes := 128, zero := [.slice none 0 0, .slice none 0 0, .int .i64 0, .slice none 0 0, .slice none 0 0, .slice none 0 0] } := rfl
@[go_sem] theorem tbl_31 : tbl 31 = some { k := .slice 36, size := 1, bytes := 24, zero := [.slice none 0 0] } := rfl
@[go_sem] theorem yCq : tbl 32 = some { k := .slice 57, size := 1, bytes := 24, zero := [.slice none 0 0] } := rfl
@[go_sem] theorem tbl_35 : tbl 35 = some { k := .struct [(0, 3), (1, 3), (2, 3), (3, 32)], size := 4, bytes := 48, zero := [.int .i64 0, .int .i64 0, .int .i64 0, .slice none 0 0] } := rfl
@[go_sem] theorem yCp : tbl 36 = some { k := .struct [(0, 3), (1, 3), (2, 3), (3, 32)], size := 4, bytes := 48, zero := [.int .i64 0, .int .i64 0, .int .i64 0, .slice none 0 0] } := rfl
@[go_sem] theorem tbl_37 : tbl 37 = some { k := .int .i64, size := 1, bytes := 8, zero := [.int .i64 0] } := rfl
@[go_sem] theorem tbl_43 : tbl 43 = some { k := .slice 32, size := 1, bytes := 24, zero := [.slice none 0 0] } := rfl
@[go_sem] theorem yCo : tbl 51 = some { k := .slice 3, size := 1, bytes := 24, zero := [.slice none 0 0] } := rfl
@[go_sem] theorem tbl_56 : tbl 56 = some { k := .struct [(0, 3), (1, 3)], size := 2, bytes := 16, zero := [.int .i64 0, .int .i64 0], eq := [.int, .int] } := rfl
@[go_sem] theorem zSo : tbl 57 = some { k := .struct [(0, 3), (1, 3)], size := 2, bytes := 16, zero := [.int .i64 0, .int .i64 0], eq := [.int, .int] } := rfl
@[go_sem] theorem yCn : tbl 62 = some { k := .slice 125, size := 1, bytes := 24, zero := [.slice none 0 0] } := rfl
@[go_sem] theorem tbl_63 : tbl 63 = some { k := .int .u32, size := 1, bytes := 4, zero := [.int .u32 0] } := rfl
@[go_sem] theorem yCm : tbl 64 = some { k := .int .u64, size := 1, bytes := 8, zero := [.int .u64 0] } := rfl
@[go_sem] theorem tbl_65 : tbl 65 = some { k := .slice 136, size := 1, bytes := 24, zero := [.slice none 0 0] } := rfl
@[go_sem] theorem yCl : tbl 72 = some { k := .slice 77, size := 1, bytes := 24, zero := [.slice none 0 0] } := rfl
@[go_sem] theorem tbl_73 : tbl 73 = some { k := .struct [(0, 3), (1, 72)], size := 2, bytes := 32, zero := [.int .i64 0, .slice none 0 0] } := rfl
@[go_sem] theorem yCk : tbl 74 = some { k := .struct [(0, 3), (1, 72)], size := 2, bytes := 32, zero := [.int .i64 0, .slice none 0 0] } := rfl
@[go_sem] theorem yCj : tbl 75 = some { k := .slice 94, size := 1, bytes := 24, zero := [.slice none 0 0] } := rfl
@[go_sem] theorem tbl_76 : tbl 76 = some { k := .struct [(0, 75)], size := 1, bytes := 24, zero := [.slice none 0 0] } := rfl
@[go_sem] theorem yCi : tbl 77 = some { k := .struct [(0, 75)], size := 1, bytes := 24, zero := [.slice none 0 0] } := rfl
@[go_sem] theorem yCh : tbl 78 = some { k := .slice 51, size := 1, bytes := 24, zero := [.slice none 0 0] } := rfl
@[go_sem] theorem tbl_79 : tbl 79 = some { k := .struct [(0, 3), (1, 3), (2, 51), (3, 78)], size := 4, bytes := 64, zero := [.int .i64 0, .int .i64 0, .slice none 0 0, .slice none 0 0] } := rfl
@[go_sem] theorem yCg : tbl 80 = some { k := .struct [(0, 3), (1, 3), (2, 51), (3, 78)], size := 4, bytes := 64, zero := [.int .i64 0, .int .i64 0, .slice none 0 0, .slice none 0 0] } := rfl
@[go_sem] theorem tbl_81 : tbl 81 = some { k := .ptr 83, size := 1, bytes := 8, zero := [.pointer none] } := rfl
@[go_sem] theorem tbl_82 : tbl 82 = some { k := .struct [(0, 30), (6, 31)], size := 7, bytes := 152, zero := [.slice none 0 0, .slice none 0 0, .int .i64 0, .slice none 0 0, .slice none 0 0, .slice none 0 0, .slice none 0 0] } := rfl
@[go_sem] theorem tbl_83 : tbl 83 = some { k := .struct [(0, 30), (6, 31)], size := 7, bytes := 152, zero := [.slice none 0 0, .slice none 0 0, .int .i64 0, .slice none 0 0, .slice none 0 0, .slice none 0 0, .slice none 0 0] } := rfl
@[go_sem] theorem tbl_84 : tbl 84 = some { k := .func, size := 1, bytes := 8, zero := [.nilFunc] } := rfl
@[go_sem] theorem tbl_85 : tbl 85 = some { k := .func, size := 1, bytes := 8, zero := [.nilFunc] } := rfl
@[go_sem] theorem tbl_87 : tbl 87 = some { k := .struct [(0, 3), (1, 3), (2, 3), (3, 75)], size := 4, bytes := 48, zero := [.int .i64 0, .int .i64 0, .int .i64 0, .slice none 0 0] } := rfl
@[go_sem] theorem tbl_88 : tbl 88 = some { k := .struct [(0, 3), (1, 3), (2, 3), (3, 75)], size := 4, bytes := 48, zero := [.int .i64 0, .int .i64 0, .int .i64 0, .slice none 0 0] } := rfl
@[go_sem] theorem tbl_89 : tbl 89 = some { k := .struct [(0, 3), (1, 3)], size := 2, bytes := 16, zero := [.int .i64 0, .int .i64 0], eq := [.int, .int] } := rfl
@[go_sem] theorem yCf : tbl 90 = some { k := .struct [(0, 3), (1, 3)], size := 2, bytes := 16, zero := [.int .i64 0, .int .i64 0], eq := [.int, .int] } := rfl
@[go_sem] theorem tbl_91 : tbl 91 = some { k := .struct [(0, 3), (1, 3)], size := 2, bytes := 16, zero := [.int .i64 0, .int .i64 0], eq := [.int, .int] } := rfl
@[go_sem] theorem zZ0 : tbl 92 = some { k := .struct [(0, 3), (1, 3)], size := 2, bytes := 16, zero := [.int .i64 0, .int .i64 0], eq := [.int, .int] } := rfl
@[go_sem] theorem tbl_93 : tbl 93 = some { k := .struct [(0, 3), (1, 3), (2, 3), (3, 64), (4, 90), (6, 3), (7, 3), (8, 92)], size := 10, bytes := 80, zero := [.int .i64 0, .int .i64 0, .int .i64 0, .int .u64 0, .int .i64 0, .int .i64 0, .int .i64 0, .int .i64 0, .int .i64 0, .int .i64 0], eq := [.int, .int, .int, .int, .int, .int, .int, .int, .int, .int] } := rfl
@[go_sem] theorem yCe : tbl 94 = some { k := .struct [(0, 3), (1, 3), (2, 3), (3, 64), (4, 90), (6, 3), (7, 3), (8, 92)], size := 10, bytes := 80, zero := [.int .i64 0, .int .i64 0, .int .i64 0, .int .u64 0, .int .i64 0, .int .i64 0, .int .i64 0, .int .i64 0, .int .i64 0, .int .i64 0], eq := [.int, .int, .int, .int, .int, .int, .int, .int, .int, .int] } := rfl
@[go_sem] theorem tbl_98 : tbl 98 = some { k := .struct [(0, 3), (1, 3)], size := 2, bytes := 16, zero := [.int .i64 0, .int .i64 0], eq := [.int, .int] } := rfl
@[go_sem] theorem yJb : tbl 106 = some { k := .func, size := 1, bytes := 8, zero := [.nilFunc] } := rfl
@[go_sem] theorem yJa : tbl 108 = some { k := .func, size := 1, bytes := 8, zero := [.nilFunc] } := rfl
@[go_sem] theorem yJ9 : tbl 110 = some { k := .func, size := 1, bytes := 8, zero := [.nilFunc] } := rfl
@[go_sem] theorem yJ8 : tbl 114 = some { k := .func, size := 1, bytes := 8, zero := [.nilFunc] } := rfl
@[go_sem] theorem yJ7 : tbl 118 = some { k := .func, size := 1, bytes := 8, zero := [.nilFunc] } := rfl
@[go_sem] theorem yJ6 : tbl 124 = some { k := .struct [(0, 3), (1, 3), (2, 3), (3, 3), (4, 3)], size := 5, bytes := 40, zero := [.int .i64 0, .int .i64 0, .int .i64 0, .int .i64 0, .int .i64 0], eq := [.int, .int, .int, .int, .int] } := rfl
@[go_sem] theorem zZt : tbl 125 = some { k := .struct [(0, 3), (1, 3), (2, 3), (3, 3), (4, 3)], size := 5, bytes := 40, zero := [.int .i64 0, .int .i64 0, .int .i64 0, .int .i64 0, .int .i64 0], eq := [.int, .int, .int, .int, .int] } := rfl
@[go_sem] theorem yJ5 : tbl 129 = some { k := .struct [(0, 3), (1, 3), (2, 3), (3, 3), (4, 3), (5, 92)], size := 7, bytes := 56, zero := [.int .i64 0, .int .i64 0, .int .i64 0, .int .i64 0, .int .i64 0, .int .i64 0, .int .i64 0], eq := [.int, .int, .int, .int, .int, .int, .int] } := rfl
@[go_sem] theorem zZs : tbl 130 = some { k := .struct [(0, 3), (1, 3), (2, 3), (3, 3), (4, 3), (5, 92)], size := 7, bytes := 56, zero := [.int .i64 0, .int .i64 0, .int .i64 0, .int .i64 0, .int .i64 0, .int .i64 0, .int .i64 0], eq := [.int, .int, .int, .int, .int, .int, .int] } := rfl
@[go_sem] theorem yJ4 : tbl 131 = some { k := .struct [(0, 3), (1, 3), (2, 3), (3, 3)], size := 4, bytes := 32, zero := [.int .i64 0, .int .i64 0, .int .i64 0, .int .i64 0], eq := [.int, .int, .int, .int] } := rfl
@[go_sem] theorem zZr : tbl 132 = some { k := .struct [(0, 3), (1, 3), (2, 3), (3, 3)], size := 4, bytes := 32, zero := [.int .i64 0, .int .i64 0, .int .i64 0, .int .i64 0], eq := [.int, .int, .int, .int] } := rfl
@[go_sem] theorem yJ3 : tbl 133 = some { k := .struct [(0, 3), (1, 3), (2, 62)], size := 3, bytes := 40, zero := [.int .i64 0, .int .i64 0, .slice none 0 0] } := rfl
@[go_sem] theorem zZq : tbl 134 = some { k := .struct [(0, 3), (1, 3), (2, 62)], size := 3, bytes := 40, zero := [.int .i64 0, .int .i64 0, .slice none 0 0] } := rfl
@[go_sem] theorem yJ2 : tbl 135 = some { k := .int .u16, size := 1, bytes := 2, zero := [.int .u16 0] } := rfl
@[go_sem] theorem yJ1 : tbl 136 = some { k := .array 6 135, size := 6, bytes := 12, zero := [.int .u16 0, .int .u16 0, .int .u16 0, .int .u16 0, .int .u16 0, .int .u16 0], eq := [.int, .int, .int, .int, .int, .int] } := rfl
@[go_sem] theorem yJ0 : tbl 146 = some { k := .func, size := 1, bytes := 8, zero := [.nilFunc] } := rfl
@[go_sem] theorem yIz : tbl 147 = some { k := .slice 37, size := 1, bytes := 24, zero := [.slice none 0 0] } := rfl
@[go_sem] theorem yIy : tbl 154 = some { k := .func, size := 1, bytes := 8, zero := [.nilFunc] } := rfl
@[go_sem] theorem yIx : tbl 157 = some { k := .func, size := 1, bytes := 8, zero := [.nilFunc] } := rfl
@[go_sem] theorem yIw : tbl 164 = some { k := .int .u64, size := 1, bytes := 8, zero := [.int .u64 0] } := rfl
@[go_sem] theorem yIv : tbl 169 = some { k := .func, size := 1, bytes := 8, zero := [.nilFunc] } := rfl
@[go_sem] theorem yIu : tbl 176 = some { k := .func, size := 1, bytes := 8, zero := [.nilFunc] } := rfl
@[go_sem] theorem yIt : tbl 181 = some { k := .func, size := 1, bytes := 8, zero := [.nilFunc] } := rfl
@[go_sem] theorem yIs : tbl 183 = some { k := .slice 90, size := 1, bytes := 24, zero := [.slice none 0 0] } := rfl
@[go_sem] theorem yIr : tbl 186 = some { k := .func, size := 1, bytes := 8, zero := [.nilFunc] } := rfl
@[go_sem] theorem yIq : tbl 187 = some { k := .func, size := 1, bytes := 8, zero := [.nilFunc] } := rfl
@[go_sem] theorem yIp : tbl 194 = some { k := .func, size := 1, bytes := 8, zero := [.nilFunc] } := rfl
@[go_sem] theorem yIo : tbl 201 = some { k := .int .i64, size := 1, bytes := 8, zero := [.int .i64 0] } := rfl
@[go_sem] theorem yIn : tbl 211 = some { k := .slice 5, size := 1, bytes := 24, zero := [.slice none 0 0] } := rfl
@[go_sem] theorem yIm : tbl 218 = some { k := .struct [(0, 3), (1, 3), (2, 3), (3, 64)], size := 4, bytes := 32, zero := [.int .i64 0, .int .i64 0, .int .i64 0, .int .u64 0], eq := [.int, .int, .int, .int] } := rfl
@[go_sem] theorem yIl : tbl 219 = some { k := .struct [(0, 3), (1, 3), (2, 3), (3, 64)], size := 4, bytes := 32, zero := [.int .i64 0, .int .i64 0, .int .i64 0, .int .u64 0], eq := [.int, .int, .int, .int] } := rfl
@[go_sem] theorem yIk : tbl 224 = some { k := .struct [(0, 3), (1, 3)], size := 2, bytes := 16, zero := [.int .i64 0, .int .i64 0], eq := [.int, .int] } := rfl
@[go_sem] theorem yIj : tbl 225 = some { k := .struct [(0, 3), (1, 3)], size := 2, bytes := 16, zero := [.int .i64 0, .int .i64 0], eq := [.int, .int] } := rfl
@[go_sem] theorem yIi : tbl 226 = some { k := .func, size := 1, bytes := 8, zero := [.nilFunc] } := rfl
@[go_sem] theorem yIh : tbl 229 = some { k := .func, size := 1, bytes := 8, zero := [.nilFunc] } := rfl
@[go_sem] theorem yIg : tbl 231 = some { k := .ptr 94, size := 1, bytes := 8, zero := [.pointer none] } := rfl
@[go_sem] theorem yIf : tbl 232 = some { k := .func, size := 1, bytes := 8, zero := [.nilFunc] } := rfl
@[go_sem] theorem yIe : tbl 234 = some { k := .func, size := 1, bytes := 8, zero := [.nilFunc] } := rfl
@[go_sem] theorem yId : tbl 235 = some { k := .func, size := 1, bytes := 8, zero := [.nilFunc] } := rfl
@[go_sem] theorem yIc : tbl 238 = some { k := .func, size := 1, bytes := 8, zero := [.nilFunc] } := rfl
@[go_sem] theorem yIb : tbl 244 = some { k := .struct [(0, 64), (1, 64), (2, 64), (3, 4)], size := 4, bytes := 32, zero := [.int .u64 0, .int .u64 0, .int .u64 0, .bool false], eq := [.int, .int, .int, .bool] } := rfl
@[go_sem] theorem yIa : tbl 245 = some { k := .struct [(0, 64), (1, 64), (2, 64), (3, 4)], size := 4, bytes := 32, zero := [.int .u64 0, .int .u64 0, .int .u64 0, .bool false], eq := [.int, .int, .int, .bool] } := rfl
@[go_sem] theorem yI9 : tbl 246 = some { k := .func, size := 1, bytes := 8, zero := [.nilFunc] } := rfl
@[go_sem] theorem yI8 : tbl 249 = some { k := .int .u64, size := 1, bytes := 8, zero := [.int .u64 0] } := rfl
@[go_sem] theorem yI7 : tbl 253 = some { k := .ptr 3, size := 1, bytes := 8, zero := [.pointer none] } := rfl
@[go_sem] theorem yI6 : tbl 260 = some { k := .array 2 3, size := 2, bytes := 16, zero := [.int .i64 0, .int .i64 0], eq := [.int, .int] } := rfl
@[go_sem] theorem yI5 : tbl 263 = some { k := .struct [(0, 3), (1, 3)], size := 2, bytes := 16, zero := [.int .i64 0, .int .i64 0], eq := [.int, .int] } := rfl
@[go_sem] theorem yI4 : tbl 264 = some { k := .struct [(0, 3), (1, 3)], size := 2, bytes := 16, zero := [.int .i64 0, .int .i64 0], eq := [.int, .int] } := rfl
@[go_sem] theorem yI3 : tbl 268 = some { k := .func, size := 1, bytes := 8, zero := [.nilFunc] } := rfl
@[go_sem] theorem yI2 : tbl 272 = some { k := .ptr 249, size := 1, bytes := 8, zero := [.pointer none] } := rfl
@[go_sem] theorem yI1 : tbl 275 = some { k := .func, size := 1, bytes := 8, zero := [.nilFunc] } := rfl
@[go_sem] theorem yI0 : tbl 279 = some { k := .array 8 5, size := 8, bytes := 8, zero := [.int .u8 0, .int .u8 0, .int .u8 0, .int .u8 0, .int .u8 0, .int .u8 0, .int .u8 0, .int .u8 0], eq := [.int, .int, .int, .int, .int, .int, .int, .int] } := rfl
@[go_sem] theorem yHz : tbl 284 = some { k := .func, size := 1, bytes := 8, zero := [.nilFunc] } := rfl
@[go_sem] theorem yHy : tbl 290 = some { k := .iface, size := 1, bytes := 16, zero := [.nilIface] } := rfl
@[go_sem] theorem yHx : tbl 291 = some { k := .iface, size := 1, bytes := 16, zero := [.nilIface] } := rfl
@[go_sem] theorem yHw : tbl 292 = some { k := .func, size := 1, bytes := 8, zero := [.nilFunc] } := rfl
@[go_sem] theorem yHv : tbl 293 = some { k := .func, size := 1, bytes := 8, zero := [.nilFunc] } := rfl
@[go_sem] theorem yHu : tbl 296 = some { k := .func, size := 1, bytes := 8, zero := [.nilFunc] } := rfl
@[go_sem] theorem yHt : tbl 297 = some { k := .array 24 5, size := 24, bytes := 24, zero := [.int .u8 0, .int .u8 0, .int .u8 0, .int .u8 0, .int .u8 0, .int .u8 0, .int .u8 0, .int .u8 0, .int .u8 0, .int .u8 0, .int .u8 0, .int .u8 0, .int .u8 0, .int .u8 0, .int .u8 0, .int .u8 0, .int .u8 0, .int .u8 0, .int .u8 0, .int .u8 0, .int .u8 0, .int .u8 0, .int .u8 0, .int .u8 0], eq := [.int, .int, .int, .int, .int, .int, .int, .int, .int, .int, .int, .int, .int, .int, .int, .int, .int, .int, .int, .int, .int, .int, .int, .int] } := rfl
@[go_sem] theorem yHs : tbl 302 = some { k := .array 20 64, size := 20, bytes := 160, zero := [.int .u64 0, .int .u64 0, .int .u64 0, .int .u64 0, .int .u64 0, .int .u64 0, .int .u64 0, .int .u64 0, .int .u64 0, .int .u64 0, .int .u64 0, .int .u64 0, .int .u64 0, .int .u64 0, .int .u64 0, .int .u64 0, .int .u64 0, .int .u64 0, .int .u64 0, .int .u64 0], eq := [.int, .int, .int, .int, .int, .int, .int, .int, .int, .int, .int, .int, .int, .int, .int, .int, .int, .int, .int, .int] } := rfl
@[go_sem] theorem yHr : tbl 304 = some { k := .array 32 5, size := 32, bytes := 32, zero := [.int .u8 0, .int .u8 0, .int .u8 0, .int .u8 0, .int .u8 0, .int .u8 0, .int .u8 0, .int .u8 0, .int .u8 0, .int .u8 0, .int .u8 0, .int .u8 0, .int .u8 0, .int .u8 0, .int .u8 0, .int .u8 0, .int .u8 0, .int .u8 0, .int .u8 0, .int .u8 0, .int .u8 0, .int .u8 0, .int .u8 0, .int .u8 0, .int .u8 0, .int .u8 0, .int .u8 0, .int .u8 0, .int .u8 0, .int .u8 0, .int .u8 0, .int .u8 0], eq := [.int, .int, .int, .int, .int, .int, .int, .int, .int, .int, .int, .int, .int, .int, .int, .int, .int, .int, .int, .int, .int, .int, .int, .int, .int, .int, .int, .int, .int, .int, .int, .int] } := rfl
@[go_sem] theorem yHq : tbl 305 = some { k := .array 64 5, size := 64, bytes := 64, zero := [.int .u8 0, .int .u8 0, .int .u8 0, .int .u8 0, .int .u8 0, .int .u8 0, .int .u8 0, .int .u8 0, .int .u8 0, .int .u8 0, .int .u8 0, .int .u8 0, .int .u8 0, .int .u8 0, .int .u8 0, .int .u8 0, .int .u8 0, .int .u8 0, .int .u8 0, .int .u8 0, .int .u8 0, .int .u8 0, .int .u8 0, .int .u8 0, .int .u8 0, .int .u8 0, .int .u8 0, .int .u8 0, .int .u8 0, .int .u8 0, .int .u8 0, .int .u8 0, .int .u8 0, .int .u8 0, .int .u8 0, .int .u8 0, .int .u8 0, .int .u8 0, .int .u8 0, .int .u8 0, .int .u8 0, .int .u8 0, .int .u8 0, .int .u8 0, .int .u8 0, .int .u8 0, .int .u8 0, .int .u8 0, .int .u8 0, .int .u8 0, .int .u8 0, .int .u8 0, .int .u8 0, .int .u8 0, .int .u8 0, .int .u8 0, .int .u8 0, .int .u8 0, .int .u8 0, .int .u8 0, .int .u8 0, .int .u8 0, .int .u8 0, .int .u8 0], eq := [.int, .int, .int, .int, .int, .int, .int, .int, .int, .int, .int, .int, .int, .int, .int, .int, .int, .int, .int, .int, .int, .int, .int, .int, .int, .int, .int, .int, .int, .int, .int, .int, .int, .int, .int, .int, .int, .int, .int, .int, .int, .int, .int, .int, .int, .int, .int, .int, .int, .int, .int, .int, .int, .int, .int, .int, .int, .int, .int, .int, .int, .int, .int, .int] } := rfl
@[go_sem] theorem yHp : tbl 306 = some { k := .ptr 324, size := 1, bytes := 8, zero := [.pointer none] } := rfl
@[go_sem] theorem yHo : tbl 315 = some { k := .int .u8, size := 1, bytes := 1, zero := [.int .u8 0] } := rfl
set_option maxRecDepth 1000000 in
set_option maxHeartbeats 4000000 in
theorem yH : TOk Tryz.prog tbl := by
 intro t i h
 unfold tbl at h
 split at h
 all_goals first | (cases h; done) | (cases h; exact ⟨by kernel_rfl, by kernel_rfl, by kernel_rfl⟩)
end Go.Proofs.YtchpbdecipcelaaGreatDoor

import Derived.Test.YtchpbdecipcelaaGreatDoorHO01
import Derived.Test.YtchpbdecipcelaaGreatDoorProg
import Derived.Test.YtchpbdecipcelaaGreatDoorHO03
namespace Go.Proofs.YtchpbdecipcelaaGreatDoor
def tbl : TT
 | 1 => some ⟨.func, 1, 8, [.nilFunc], []⟩
 | 2 => some ⟨.int .i64, 1, 8, [.int .i64 0], []⟩
 | 3 => some ⟨.int .i64, 1, 8, [.int .i64 0], []⟩
 | 4 => some ⟨.bool, 1, 1, [.bool false], []⟩
 | 5 => some ⟨.int .u8, 1, 1, [.int .u8 0], []⟩
 | 6 => some ⟨.int .u8, 1, 1, [.int .u8 0], []⟩
 | 7 => some ⟨.struct [(0, 2), (1, 3), (2, 4), (3, 6)], 4, 24, [.int .i64 0, .int .i64 0, .bool false, .int .u8 0], []⟩
 | 8 => some ⟨.struct [(0, 2), (1, 3), (2, 4), (3, 6)], 4, 24, [.int .i64 0, .int .i64 0, .bool false, .int .u8 0], []⟩
 | 9 => some ⟨.str, 1, 16, [.string ByteArray.empty], []⟩
 | 10 => some ⟨.str, 1, 16, [.string ByteArray.empty], []⟩
 | 11 => some ⟨.str, 1, 16, [.string ByteArray.empty], []⟩
 | 12 => some ⟨.int .u64, 1, 8, [.int .u64 0], []⟩
 | 13 => some ⟨.struct [(0, 9), (1, 12)], 2, 24, [.string ByteArray.empty, .int .u64 0], []⟩
 | 14 => some ⟨.struct [(0, 9), (1, 12)], 2, 24, [.string ByteArray.empty, .int .u64 0], []⟩
 | 15 => some ⟨.ptr 309, 1, 8, [.pointer none], []⟩
 | 16 => some ⟨.ptr 312, 1, 8, [.pointer none], []⟩
 | 17 => some ⟨.ptr 321, 1, 8, [.pointer none], []⟩
 | 18 => some ⟨.struct [(0, 17)], 1, 8, [.pointer none], []⟩
 | 19 => some ⟨.struct [(0, 17)], 1, 8, [.pointer none], []⟩
 | 20 => some ⟨.iface, 1, 16, [.nilIface], []⟩
 | 22 => some ⟨.slice 130, 1, 24, [.slice none 0 0], []⟩
 | 23 => some ⟨.slice 132, 1, 24, [.slice none 0 0], []⟩
 | 24 => some ⟨.slice 74, 1, 24, [.slice none 0 0], []⟩
 | 25 => some ⟨.struct [(0, 22), (1, 23), (2, 3), (3, 24)], 4, 80, [.slice none 0 0, .slice none 0 0, .int .i64 0, .slice none 0 0], []⟩
 | 26 => some ⟨.struct [(0, 22), (1, 23), (2, 3), (3, 24)], 4, 80, [.slice none 0 0, .slice none 0 0, .int .i64 0, .slice none 0 0], []⟩
 | 27 => some ⟨.slice 80, 1, 24, [.slice none 0 0], []⟩
 | 28 => some ⟨.slice 134, 1, 24, [.slice none 0 0], []⟩
 | 29 => some ⟨.struct [(0, 26), (4, 27), (5, 28)], 6, 128, [.slice none 0 0, .slice none 0 0, .int .i64 0, .slice none 0 0, .slice none 0 0, .slice none 0 0], []⟩
 | 30 => some ⟨.struct [(0, 26), (4, 27), (5, 28)], 6, 128, [.slice none 0 0, .slice none 0 0, .int .i64 0, .slice none 0 0, .slice none 0 0, .slice none 0 0], []⟩
 | 31 => some ⟨.slice 36, 1, 24, [.slice none 0 0], []⟩
 | 32 => some ⟨.slice 57, 1, 24, [.slice none 0 0], []⟩
 | 35 => some ⟨.struct [(0, 3), (1, 3), (2, 3), (3, 32)], 4, 48, [.int .i64 0, .int .i64 0, .int .i64 0, .slice none 0 0], []⟩
 | 36 => some ⟨.struct [(0, 3), (1, 3), (2, 3), (3, 32)], 4, 48, [.int .i64 0, .int .i64 0, .int .i64 0, .slice none 0 0], []⟩
 | 37 => some ⟨.int .i64, 1, 8, [.int .i64 0], []⟩
 | 43 => some ⟨.slice 32, 1, 24, [.slice none 0 0], []⟩
 | 51 => some ⟨.slice 3, 1, 24, [.slice none 0 0], []⟩
 | 56 => some ⟨.struct [(0, 3), (1, 3)], 2, 16, [.int .i64 0, .int .i64 0], [.int, .int]⟩
 | 57 => some ⟨.struct [(0, 3), (1, 3)], 2, 16, [.int .i64 0, .int .i64 0], [.int, .int]⟩
 | 62 => some ⟨.slice 125, 1, 24, [.slice none 0 0], []⟩
 | 63 => some ⟨.int .u32, 1, 4, [.int .u32 0], []⟩
 | 64 => some ⟨.int .u64, 1, 8, [.int .u64 0], []⟩
 | 65 => some ⟨.slice 136, 1, 24, [.slice none 0 0], []⟩
 | 72 => some ⟨.slice 77, 1, 24, [.slice none 0 0], []⟩
 | 73 => some ⟨.struct [(0, 3), (1, 72)], 2, 32, [.int .i64 0, .slice none 0 0], []⟩
 | 74 => some ⟨.struct [(0, 3), (1, 72)], 2, 32, [.int .i64 0, .slice none 0 0], []⟩
 | 75 => some ⟨.slice 94, 1, 24, [.slice none 0 0], []⟩
 | 76 => some ⟨.struct [(0, 75)], 1, 24, [.slice none 0 0], []⟩
 | 77 => some ⟨.struct [(0, 75)], 1, 24, [.slice none 0 0], []⟩
 | 78 => some ⟨.slice 51, 1, 24, [.slice none 0 0], []⟩
 | 79 => some ⟨.struct [(0, 3), (1, 3), (2, 51), (3, 78)], 4, 64, [.int .i64 0, .int .i64 0, .slice none 0 0, .slice none 0 0], []⟩
 | 80 => some ⟨.struct [(0, 3), (1, 3), (2, 51), (3, 78)], 4, 64, [.int .i64 0, .int .i64 0, .slice none 0 0, .slice none 0 0], []⟩
 | 81 => some ⟨.ptr 83, 1, 8, [.pointer none], []⟩
 | 82 => some ⟨.struct [(0, 30), (6, 31)], 7, 152, [.slice none 0 0, .slice none 0 0, .int .i64 0, .slice none 0 0, .slice none 0 0, .slice none 0 0, .slice none 0 0], []⟩
 | 83 => some ⟨.struct [(0, 30), (6, 31)], 7, 152, [.slice none 0 0, .slice none 0 0, .int .i64 0, .slice none 0 0, .slice none 0 0, .slice none 0 0, .slice none 0 0], []⟩
 | 84 => some ⟨.func, 1, 8, [.nilFunc], []⟩
 | 85 => some ⟨.func, 1, 8, [.nilFunc], []⟩
 | 87 => some ⟨.struct [(0, 3), (1, 3), (2, 3), (3, 75)], 4, 48, [.int .i64 0, .int .i64 0, .int .i64 0, .slice none 0 0], []⟩
 | 88 => some ⟨.struct [(0, 3), (1, 3), (2, 3), (3, 75)], 4, 48, [.int .i64 0, .int .i64 0, .int .i64 0, .slice none 0 0], []⟩
 | 89 => some ⟨.struct [(0, 3), (1, 3)], 2, 16, [.int .i64 0, .int .i64 0], [.int, .int]⟩
 | 90 => some ⟨.struct [(0, 3), (1, 3)], 2, 16, [.int .i64 0, .int .i64 0], [.int, .int]⟩
 | 91 => some ⟨.struct [(0, 3), (1, 3)], 2, 16, [.int .i64 0, .int .i64 0], [.int, .int]⟩
 | 92 => some ⟨.struct [(0, 3), (1, 3)], 2, 16, [.int .i64 0, .int .i64 0], [.int, .int]⟩
 | 93 => some ⟨.struct [(0, 3), (1, 3), (2, 3), (3, 64), (4, 90), (6, 3), (7, 3), (8, 92)], 10, 80, [.int .i64 0, .int .i64 0, .int .i64 0, .int .u64 0, .int .i64 0, .int .i64 0, .int .i64 0, .int .i64 0, .int .i64 0, .int .i64 0], [.int, .int, .int, .int, .int, .int, .int, .int, .int, .int]⟩
 | 94 => some ⟨.struct [(0, 3), (1, 3), (2, 3), (3, 64), (4, 90), (6, 3), (7, 3), (8, 92)], 10, 80, [.int .i64 0, .int .i64 0, .int .i64 0, .int .u64 0, .int .i64 0, .int .i64 0, .int .i64 0, .int .i64 0, .int .i64 0, .int .i64 0], [.int, .int, .int, .int, .int, .int, .int, .int, .int, .int]⟩
 | 98 => some ⟨.struct [(0, 3), (1, 3)], 2, 16, [.int .i64 0, .int .i64 0], [.int, .int]⟩
 | 106 => some ⟨.func, 1, 8, [.nilFunc], []⟩
 | 108 => some ⟨.func, 1, 8, [.nilFunc], []⟩
 | 110 => some ⟨.func, 1, 8, [.nilFunc], []⟩
 | 114 => some ⟨.func, 1, 8, [.nilFunc], []⟩
 | 118 => some ⟨.func, 1, 8, [.nilFunc], []⟩
 | 124 => some ⟨.struct [(0, 3), (1, 3), (2, 3), (3, 3), (4, 3)], 5, 40, [.int .i64 0, .int .i64 0, .int .i64 0, .int .i64 0, .int .i64 0], [.int, .int, .int, .int, .int]⟩
 | 125 => some ⟨.struct [(0, 3), (1, 3), (2, 3), (3, 3), (4, 3)], 5, 40, [.int .i64 0, .int .i64 0, .int .i64 0, .int .i64 0, .int .i64 0], [.int, .int, .int, .int, .int]⟩
 | 129 => some ⟨.struct [(0, 3), (1, 3), (2, 3), (3, 3), (4, 3), (5, 92)], 7, 56, [.int .i64 0, .int .i64 0, .int .i64 0, .int .i64 0, .int .i64 0, .int .i64 0, .int .i64 0], [.int, .int, .int, .int, .int, .int, .int]⟩
 | 130 => some ⟨.struct [(0, 3), (1, 3), (2, 3), (3, 3), (4, 3), (5, 92)], 7, 56, [.int .i64 0, .int .i64 0, .int .i64 0, .int .i64 0, .int .i64 0, .int .i64 0, .int .i64 0], [.int, .int, .int, .int, .int, .int, .int]⟩
 | 131 => some ⟨.struct [(0, 3), (1, 3), (2, 3), (3, 3)], 4, 32, [.int .i64 0, .int .i64 0, .int .i64 0, .int .i64 0], [.int, .int, .int, .int]⟩
 | 132 => some ⟨.struct [(0, 3), (1, 3), (2, 3), (3, 3)], 4, 32, [.int .i64 0, .int .i64 0, .int .i64 0, .int .i64 0], [.int, .int, .int, .int]⟩
 | 133 => some ⟨.struct [(0, 3), (1, 3), (2, 62)], 3, 40, [.int .i64 0, .int .i64 0, .slice none 0 0], []⟩
 | 134 => some ⟨.struct [(0, 3), (1, 3), (2, 62)], 3, 40, [.int .i64 0, .int .i64 0, .slice none 0 0], []⟩
 | 135 => some ⟨.int .u16, 1, 2, [.int .u16 0], []⟩
 | 136 => some ⟨.array 6 135, 6, 12, [.int .u16 0, .int .u16 0, .int .u16 0, .int .u16 0, .int .u16 0, .int .u16 0], [.int, .int, .int, .int, .int, .int]⟩
 | 146 => some ⟨.func, 1, 8, [.nilFunc], []⟩
 | 147 => some ⟨.slice 37, 1, 24, [.slice none 0 0], []⟩
 | 154 => some ⟨.func, 1, 8, [.nilFunc], []⟩
 | 157 => some ⟨.func, 1, 8, [.nilFunc], []⟩
 | 164 => some ⟨.int .u64, 1, 8, [.int .u64 0], []⟩
 | 169 => some ⟨.func, 1, 8, [.nilFunc], []⟩
 | 176 => some ⟨.func, 1, 8, [.nilFunc], []⟩
 | 181 => some ⟨.func, 1, 8, [.nilFunc], []⟩
 | 183 => some ⟨.slice 90, 1, 24, [.slice none 0 0], []⟩
 | 186 => some ⟨.func, 1, 8, [.nilFunc], []⟩
 | 187 => some ⟨.func, 1, 8, [.nilFunc], []⟩
 | 194 => some ⟨.func, 1, 8, [.nilFunc], []⟩
 | 201 => some ⟨.int .i64, 1, 8, [.int .i64 0], []⟩
 | 211 => some ⟨.slice 5, 1, 24, [.slice none 0 0], []⟩
 | 218 => some ⟨.struct [(0, 3), (1, 3), (2, 3), (3, 64)], 4, 32, [.int .i64 0, .int .i64 0, .int .i64 0, .int .u64 0], [.int, .int, .int, .int]⟩
 | 219 => some ⟨.struct [(0, 3), (1, 3), (2, 3), (3, 64)], 4, 32, [.int .i64 0, .int .i64 0, .int .i64 0, .int .u64 0], [.int, .int, .int, .int]⟩
 | 224 => some ⟨.struct [(0, 3), (1, 3)], 2, 16, [.int .i64 0, .int .i64 0], [.int, .int]⟩
 | 225 => some ⟨.struct [(0, 3), (1, 3)], 2, 16, [.int .i64 0, .int .i64 0], [.int, .int]⟩
 | 226 => some ⟨.func, 1, 8, [.nilFunc], []⟩
 | 229 => some ⟨.func, 1, 8, [.nilFunc], []⟩
 | 231 => some ⟨.ptr 94, 1, 8, [.pointer none], []⟩
 | 232 => some ⟨.func, 1, 8, [.nilFunc], []⟩
 | 234 => some ⟨.func, 1, 8, [.nilFunc], []⟩
 | 235 => some ⟨.func, 1, 8, [.nilFunc], []⟩
 | 238 => some ⟨.func, 1, 8, [.nilFunc], []⟩
 | 244 => some ⟨.struct [(0, 64), (1, 64), (2, 64), (3, 4)], 4, 32, [.int .u64 0, .int .u64 0, .int .u64 0, .bool false], [.int, .int, .int, .bool]⟩
 | 245 => some ⟨.struct [(0, 64), (1, 64), (2, 64), (3, 4)], 4, 32, [.int .u64 0, .int .u64 0, .int .u64 0, .bool false], [.int, .int, .int, .bool]⟩
 | 246 => some ⟨.func, 1, 8, [.nilFunc], []⟩
 | 249 => some ⟨.int .u64, 1, 8, [.int .u64 0], []⟩
 | 253 => some ⟨.ptr 3, 1, 8, [.pointer none], []⟩
 | 260 => some ⟨.array 2 3, 2, 16, [.int .i64 0, .int .i64 0], [.int, .int]⟩
 | 263 => some ⟨.struct [(0, 3), (1, 3)], 2, 16, [.int .i64 0, .int .i64 0], [.int, .int]⟩
 | 264 => some ⟨.struct [(0, 3), (1, 3)], 2, 16, [.int .i64 0, .int .i64 0], [.int, .int]⟩
 | 268 => some ⟨.func, 1, 8, [.nilFunc], []⟩
 | 272 => some ⟨.ptr 249, 1, 8, [.pointer none], []⟩
 | 275 => some ⟨.func, 1, 8, [.nilFunc], []⟩
 | 279 => some ⟨.array 8 5, 8, 8, [.int .u8 0, .int .u8 0, .int .u8 0, .int .u8 0, .int .u8 0, .int .u8 0, .int .u8 0, .int .u8 0], [.int, .int, .int, .int, .int, .int, .int, .int]⟩
 | 284 => some ⟨.func, 1, 8, [.nilFunc], []⟩
 | 290 => some ⟨.iface, 1, 16, [.nilIface], []⟩
 | 291 => some ⟨.iface, 1, 16, [.nilIface], []⟩
 | 292 => some ⟨.func, 1, 8, [.nilFunc], []⟩
 | 293 => some ⟨.func, 1, 8, [.nilFunc], []⟩
 | 296 => some ⟨.func, 1, 8, [.nilFunc], []⟩
 | 297 => some ⟨.array 24 5, 24, 24, [.int .u8 0, .int .u8 0, .int .u8 0, .int .u8 0, .int .u8 0, .int .u8 0, .int .u8 0, .int .u8 0, .int .u8 0, .int .u8 0, .int .u8 0, .int .u8 0, .int .u8 0, .int .u8 0, .int .u8 0, .int .u8 0, .int .u8 0, .int .u8 0, .int .u8 0, .int .u8 0, .int .u8 0, .int .u8 0, .int .u8 0, .int .u8 0], [.int, .int, .int, .int, .int, .int, .int, .int, .int, .int, .int, .int, .int, .int, .int, .int, .int, .int, .int, .int, .int, .int, .int, .int]⟩
 | 302 => some ⟨.array 20 64, 20, 160, [.int .u64 0, .int .u64 0, .int .u64 0, .int .u64 0, .int .u64 0, .int .u64 0, .int .u64 0, .int .u64 0, .int .u64 0, .int .u64 0, .int .u64 0, .int .u64 0, .int .u64 0, .int .u64 0, .int .u64 0, .int .u64 0, .int .u64 0, .int .u64 0, .int .u64 0, .int .u64 0], [.int, .int, .int, .int, .int, .int, .int, .int, .int, .int, .int, .int, .int, .int, .int, .int, .int, .int, .int, .int]⟩
 | 304 => some ⟨.array 32 5, 32, 32, [.int .u8 0, .int .u8 0, .int .u8 0, .int .u8 0, .int .u8 0, .int .u8 0, .int .u8 0, .int .u8 0, .int .u8 0, .int .u8 0, .int .u8 0, .int .u8 0, .int .u8 0, .int .u8 0, .int .u8 0, .int .u8 0, .int .u8 0, .int .u8 0, .int .u8 0, .int .u8 0, .int .u8 0, .int .u8 0, .int .u8 0, .int .u8 0, .int .u8 0, .int .u8 0, .int .u8 0, .int .u8 0, .int .u8 0, .int .u8 0, .int .u8 0, .int .u8 0], [.int, .int, .int, .int, .int, .int, .int, .int, .int, .int, .int, .int, .int, .int, .int, .int, .int, .int, .int, .int, .int, .int, .int, .int, .int, .int, .int, .int, .int, .int, .int, .int]⟩
 | 305 => some ⟨.array 64 5, 64, 64, [.int .u8 0, .int .u8 0, .int .u8 0, .int .u8 0, .int .u8 0, .int .u8 0, .int .u8 0, .int .u8 0, .int .u8 0, .int .u8 0, .int .u8 0, .int .u8 0, .int .u8 0, .int .u8 0, .int .u8 0, .int .u8 0, .int .u8 0, .int .u8 0, .int .u8 0, .int .u8 0, .int .u8 0, .int .u8 0, .int .u8 0, .int .u8 0, .int .u8 0, .int .u8 0, .int .u8 0, .int .u8 0, .int .u8 0, .int .u8 0, .int .u8 0, .int .u8 0, .int .u8 0, .int .u8 0, .int .u8 0, .int .u8 0, .int .u8 0, .int .u8 0, .int .u8 0, .int .u8 0, .int .u8 0, .int .u8 0, .int .u8 0, .int .u8 0, .int .u8 0, .int .u8 0, .int .u8 0, .int .u8 0, .int .u8 0, .int .u8 0, .int .u8 0, .int .u8 0, .int .u8 0, .int .u8 0, .int .u8 0, .int .u8 0, .int .u8 0, .int .u8 0, .int .u8 0, .int .u8 0, .int .u8 0, .int .u8 0, .int .u8 0, .int .u8 0], [.int, .int, .int, .int, .int, .int, .int, .int, .int, .int, .int, .int, .int, .int, .int, .int, .int, .int, .int, .int, .int, .int, .int, .int, .int, .int, .int, .int, .int, .int, .int, .int, .int, .int, .int, .int, .int, .int, .int, .int, .int, .int, .int, .int, .int, .int, .int, .int, .int, .int, .int, .int, .int, .int, .int, .int, .int, .int, .int, .int, .int, .int, .int, .int]⟩
 | 306 => some ⟨.ptr 324, 1, 8, [.pointer none], []⟩
 | 315 => some ⟨.int .u8, 1, 1, [.int .u8 0], []⟩
 | _ => none
@[go_sem] theorem tbl_1 : tbl 1 = some ⟨.func, 1, 8, [.nilFunc], []⟩ := rfl
@[go_sem] theorem tbl_2 : tbl 2 = some ⟨.int .i64, 1, 8, [.int .i64 0], []⟩ := rfl
@[go_sem] theorem yFp : tbl 3 = some ⟨.int .i64, 1, 8, [.int .i64 0], []⟩ := rfl
@[go_sem] theorem tbl_4 : tbl 4 = some ⟨.bool, 1, 1, [.bool false], []⟩ := rfl
@[go_sem] theorem yFj : tbl 5 = some ⟨.int .u8, 1, 1, [.int .u8 0], []⟩ := rfl
@[go_sem] theorem tbl_6 : tbl 6 = some ⟨.int .u8, 1, 1, [.int .u8 0], []⟩ := rfl
@[go_sem] theorem tbl_7 : tbl 7 = some ⟨.struct [(0, 2), (1, 3), (2, 4), (3, 6)], 4, 24, [.int .i64 0, .int .i64 0, .bool false, .int .u8 0], []⟩ := rfl
@[go_sem] theorem tbl_8 : tbl 8 = some ⟨.struct [(0, 2), (1, 3), (2, 4), (3, 6)], 4, 24, [.int .i64 0, .int .i64 0, .bool false, .int .u8 0], []⟩ := rfl
@[go_sem] theorem tbl_9 : tbl 9 = some ⟨.str, 1, 16, [.string ByteArray.empty], []⟩ := rfl
@[go_sem] theorem tbl_10 : tbl 10 = some ⟨.str, 1, 16, [.string ByteArray.empty], []⟩ := rfl
@[go_sem] theorem tbl_11 : tbl 11 = some ⟨.str, 1, 16, [.string ByteArray.empty], []⟩ := rfl
@[go_sem] theorem tbl_12 : tbl 12 = some ⟨.int .u64, 1, 8, [.int .u64 0], []⟩ := rfl
@[go_sem] theorem tbl_13 : tbl 13 = some ⟨.struct [(0, 9), (1, 12)], 2, 24, [.string ByteArray.empty, .int .u64 0], []⟩ := rfl
@[go_sem] theorem tbl_14 : tbl 14 = some ⟨.struct [(0, 9), (1, 12)], 2, 24, [.string ByteArray.empty, .int .u64 0], []⟩ := rfl
@[go_sem] theorem tbl_15 : tbl 15 = some ⟨.ptr 309, 1, 8, [.pointer none], []⟩ := rfl
@[go_sem] theorem tbl_16 : tbl 16 = some ⟨.ptr 312, 1, 8, [.pointer none], []⟩ := rfl
@[go_sem] theorem tbl_17 : tbl 17 = some ⟨.ptr 321, 1, 8, [.pointer none], []⟩ := rfl
@[go_sem] theorem tbl_18 : tbl 18 = some ⟨.struct [(0, 17)], 1, 8, [.pointer none], []⟩ := rfl
@[go_sem] theorem tbl_19 : tbl 19 = some ⟨.struct [(0, 17)], 1, 8, [.pointer none], []⟩ := rfl
@[go_sem] theorem tbl_20 : tbl 20 = some ⟨.iface, 1, 16, [.nilIface], []⟩ := rfl
@[go_sem] theorem tbl_22 : tbl 22 = some ⟨.slice 130, 1, 24, [.slice none 0 0], []⟩ := rfl
@[go_sem] theorem tbl_23 : tbl 23 = some ⟨.slice 132, 1, 24, [.slice none 0 0], []⟩ := rfl
@[go_sem] theorem tbl_24 : tbl 24 = some ⟨.slice 74, 1, 24, [.slice none 0 0], []⟩ := rfl
@[go_sem] theorem tbl_25 : tbl 25 = some ⟨.struct [(0, 22), (1, 23), (2, 3), (3, 24)], 4, 80, [.slice none 0 0, .slice none 0 0, .int .i64 0, .slice none 0 0], []⟩ := rfl
@[go_sem] theorem tbl_26 : tbl 26 = some ⟨.struct [(0, 22), (1, 23), (2, 3), (3, 24)], 4, 80, [.slice none 0 0, .slice none 0 0, .int .i64 0, .slice none 0 0], []⟩ := rfl
@[go_sem] theorem tbl_27 : tbl 27 = some ⟨.slice 80, 1, 24, [.slice none 0 0], []⟩ := rfl
@[go_sem] theorem tbl_28 : tbl 28 = some ⟨.slice 134, 1, 24, [.slice none 0 0], []⟩ := rfl
@[go_sem] theorem tbl_29 : tbl 29 = some ⟨.struct [(0, 26), (4, 27), (5, 28)], 6, 128, [.slice none 0 0, .slice none 0 0, .int .i64 0, .slice none 0 0, .slice none 0 0, .slice none 0 0], []⟩ := rfl
@[go_sem] theorem tbl_30 : tbl 30 = some ⟨.struct [(0, 26), (4, 27), (5, 28)], 6, 128, [.slice none 0 0, .slice none 0 0, .int .i64 0, .slice none 0 0, .slice none 0 0, .slice none 0 0], []⟩ := rfl
@[go_sem] theorem tbl_31 : tbl 31 = some ⟨.slice 36, 1, 24, [.slice none 0 0], []⟩ := rfl
@[go_sem] theorem tbl_32 : tbl 32 = some ⟨.slice 57, 1, 24, [.slice none 0 0], []⟩ := rfl
@[go_sem] theorem tbl_35 : tbl 35 = some ⟨.struct [(0, 3), (1, 3), (2, 3), (3, 32)], 4, 48, [.int .i64 0, .int .i64 0, .int .i64 0, .slice none 0 0], []⟩ := rfl
@[go_sem] theorem tbl_36 : tbl 36 = some ⟨.struct [(0, 3), (1, 3), (2, 3), (3, 32)], 4, 48, [.int .i64 0, .int .i64 0, .int .i64 0, .slice none 0 0], []⟩ := rfl
@[go_sem] theorem tbl_37 : tbl 37 = some ⟨.int .i64, 1, 8, [.int .i64 0], []⟩ := rfl
@[go_sem] theorem tbl_43 : tbl 43 = some ⟨.slice 32, 1, 24, [.slice none 0 0], []⟩ := rfl
@[go_sem] theorem tbl_51 : tbl 51 = some ⟨.slice 3, 1, 24, [.slice none 0 0], []⟩ := rfl
@[go_sem] theorem tbl_56 : tbl 56 = some ⟨.struct [(0, 3), (1, 3)], 2, 16, [.int .i64 0, .int .i64 0], [.int, .int]⟩ := rfl
@[go_sem] theorem zWz : tbl 57 = some ⟨.struct [(0, 3), (1, 3)], 2, 16, [.int .i64 0, .int .i64 0], [.int, .int]⟩ := rfl
@[go_sem] theorem tbl_62 : tbl 62 = some ⟨.slice 125, 1, 24, [.slice none 0 0], []⟩ := rfl
@[go_sem] theorem yAn : tbl 63 = some ⟨.int .u32, 1, 4, [.int .u32 0], []⟩ := rfl
@[go_sem] theorem yAm : tbl 64 = some ⟨.int .u64, 1, 8, [.int .u64 0], []⟩ := rfl
@[go_sem] theorem yAl : tbl 65 = some ⟨.slice 136, 1, 24, [.slice none 0 0], []⟩ := rfl
@[go_sem] theorem tbl_72 : tbl 72 = some ⟨.slice 77, 1, 24, [.slice none 0 0], []⟩ := rfl
@[go_sem] theorem tbl_73 : tbl 73 = some ⟨.struct [(0, 3), (1, 72)], 2, 32, [.int .i64 0, .slice none 0 0], []⟩ := rfl
@[go_sem] theorem tbl_74 : tbl 74 = some ⟨.struct [(0, 3), (1, 72)], 2, 32, [.int .i64 0, .slice none 0 0], []⟩ := rfl
@[go_sem] theorem tbl_75 : tbl 75 = some ⟨.slice 94, 1, 24, [.slice none 0 0], []⟩ := rfl
@[go_sem] theorem tbl_76 : tbl 76 = some ⟨.struct [(0, 75)], 1, 24, [.slice none 0 0], []⟩ := rfl
@[go_sem] theorem tbl_77 : tbl 77 = some ⟨.struct [(0, 75)], 1, 24, [.slice none 0 0], []⟩ := rfl
@[go_sem] theorem tbl_78 : tbl 78 = some ⟨.slice 51, 1, 24, [.slice none 0 0], []⟩ := rfl
@[go_sem] theorem tbl_79 : tbl 79 = some ⟨.struct [(0, 3), (1, 3), (2, 51), (3, 78)], 4, 64, [.int .i64 0, .int .i64 0, .slice none 0 0, .slice none 0 0], []⟩ := rfl
@[go_sem] theorem tbl_80 : tbl 80 = some ⟨.struct [(0, 3), (1, 3), (2, 51), (3, 78)], 4, 64, [.int .i64 0, .int .i64 0, .slice none 0 0, .slice none 0 0], []⟩ := rfl
@[go_sem] theorem tbl_81 : tbl 81 = some ⟨.ptr 83, 1, 8, [.pointer none], []⟩ := rfl
@[go_sem] theorem tbl_82 : tbl 82 = some ⟨.struct [(0, 30), (6, 31)], 7, 152, [.slice none 0 0, .slice none 0 0, .int .i64 0, .slice none 0 0, .slice none 0 0, .slice none 0 0, .slice none 0 0], []⟩ := rfl
@[go_sem] theorem tbl_83 : tbl 83 = some ⟨.struct [(0, 30), (6, 31)], 7, 152, [.slice none 0 0, .slice none 0 0, .int .i64 0, .slice none 0 0, .slice none 0 0, .slice none 0 0, .slice none 0 0], []⟩ := rfl
@[go_sem] theorem tbl_84 : tbl 84 = some ⟨.func, 1, 8, [.nilFunc], []⟩ := rfl
@[go_sem] theorem tbl_85 : tbl 85 = some ⟨.func, 1, 8, [.nilFunc], []⟩ := rfl
@[go_sem] theorem tbl_87 : tbl 87 = some ⟨.struct [(0, 3), (1, 3), (2, 3), (3, 75)], 4, 48, [.int .i64 0, .int .i64 0, .int .i64 0, .slice none 0 0], []⟩ := rfl
@[go_sem] theorem tbl_88 : tbl 88 = some ⟨.struct [(0, 3), (1, 3), (2, 3), (3, 75)], 4, 48, [.int .i64 0, .int .i64 0, .int .i64 0, .slice none 0 0], []⟩ := rfl
@[go_sem] theorem tbl_89 : tbl 89 = some ⟨.struct [(0, 3), (1, 3)], 2, 16, [.int .i64 0, .int .i64 0], [.int, .int]⟩ := rfl
@[go_sem] theorem tbl_90 : tbl 90 = some ⟨.struct [(0, 3), (1, 3)], 2, 16, [.int .i64 0, .int .i64 0], [.int, .int]⟩ := rfl
@[go_sem] theorem tbl_91 : tbl 91 = some ⟨.struct [(0, 3), (1, 3)], 2, 16, [.int .i64 0, .int .i64 0], [.int, .int]⟩ := rfl
@[go_sem] theorem tbl_92 : tbl 92 = some ⟨.struct [(0, 3), (1, 3)], 2, 16, [.int .i64 0, .int .i64 0], [.int, .int]⟩ := rfl
@[go_sem] theorem tbl_93 : tbl 93 = some ⟨.struct [(0, 3), (1, 3), (2, 3), (3, 64), (4, 90), (6, 3), (7, 3), (8, 92)], 10, 80, [.int .i64 0, .int .i64 0, .int .i64 0, .int .u64 0, .int .i64 0, .int .i64 0, .int .i64 0, .int .i64 0, .int .i64 0, .int .i64 0], [.int, .int, .int, .int, .int, .int, .int, .int, .int, .int]⟩ := rfl
@[go_sem] theorem tbl_94 : tbl 94 = some ⟨.struct [(0, 3), (1, 3), (2, 3), (3, 64), (4, 90), (6, 3), (7, 3), (8, 92)], 10, 80, [.int .i64 0, .int .i64 0, .int .i64 0, .int .u64 0, .int .i64 0, .int .i64 0, .int .i64 0, .int .i64 0, .int .i64 0, .int .i64 0], [.int, .int, .int, .int, .int, .int, .int, .int, .int, .int]⟩ := rfl
@[go_sem] theorem tbl_98 : tbl 98 = some ⟨.struct [(0, 3), (1, 3)], 2, 16, [.int .i64 0, .int .i64 0], [.int, .int]⟩ := rfl
@[go_sem] theorem yH9 : tbl 106 = some ⟨.func, 1, 8, [.nilFunc], []⟩ := rfl
@[go_sem] theorem yH8 : tbl 108 = some ⟨.func, 1, 8, [.nilFunc], []⟩ := rfl
@[go_sem] theorem yH7 : tbl 110 = some ⟨.func, 1, 8, [.nilFunc], []⟩ := rfl
@[go_sem] theorem yH6 : tbl 114 = some ⟨.func, 1, 8, [.nilFunc], []⟩ := rfl
@[go_sem] theorem yH5 : tbl 118 = some ⟨.func, 1, 8, [.nilFunc], []⟩ := rfl
@[go_sem] theorem yH4 : tbl 124 = some ⟨.struct [(0, 3), (1, 3), (2, 3), (3, 3), (4, 3)], 5, 40, [.int .i64 0, .int .i64 0, .int .i64 0, .int .i64 0, .int .i64 0], [.int, .int, .int, .int, .int]⟩ := rfl
@[go_sem] theorem zXs : tbl 125 = some ⟨.struct [(0, 3), (1, 3), (2, 3), (3, 3), (4, 3)], 5, 40, [.int .i64 0, .int .i64 0, .int .i64 0, .int .i64 0, .int .i64 0], [.int, .int, .int, .int, .int]⟩ := rfl
@[go_sem] theorem yH3 : tbl 129 = some ⟨.struct [(0, 3), (1, 3), (2, 3), (3, 3), (4, 3), (5, 92)], 7, 56, [.int .i64 0, .int .i64 0, .int .i64 0, .int .i64 0, .int .i64 0, .int .i64 0, .int .i64 0], [.int, .int, .int, .int, .int, .int, .int]⟩ := rfl
@[go_sem] theorem yH2 : tbl 130 = some ⟨.struct [(0, 3), (1, 3), (2, 3), (3, 3), (4, 3), (5, 92)], 7, 56, [.int .i64 0, .int .i64 0, .int .i64 0, .int .i64 0, .int .i64 0, .int .i64 0, .int .i64 0], [.int, .int, .int, .int, .int, .int, .int]⟩ := rfl
@[go_sem] theorem yH1 : tbl 131 = some ⟨.struct [(0, 3), (1, 3), (2, 3), (3, 3)], 4, 32, [.int .i64 0, .int .i64 0, .int .i64 0, .int .i64 0], [.int, .int, .int, .int]⟩ := rfl
@[go_sem] theorem yH0 : tbl 132 = some ⟨.struct [(0, 3), (1, 3), (2, 3), (3, 3)], 4, 32, [.int .i64 0, .int .i64 0, .int .i64 0, .int .i64 0], [.int, .int, .int, .int]⟩ := rfl
@[go_sem] theorem yGz : tbl 133 = some ⟨.struct [(0, 3), (1, 3), (2, 62)], 3, 40, [.int .i64 0, .int .i64 0, .slice none 0 0], []⟩ := rfl
@[go_sem] theorem yGy : tbl 134 = some ⟨.struct [(0, 3), (1, 3), (2, 62)], 3, 40, [.int .i64 0, .int .i64 0, .slice none 0 0], []⟩ := rfl
@[go_sem] theorem zXr : tbl 135 = some ⟨.int .u16, 1, 2, [.int .u16 0], []⟩ := rfl
@[go_sem] theorem zR8 : tbl 136 = some ⟨.array 6 135, 6, 12, [.int .u16 0, .int .u16 0, .int .u16 0, .int .u16 0, .int .u16 0, .int .u16 0], [.int, .int, .int, .int, .int, .int]⟩ := rfl
@[go_sem] theorem yGx : tbl 146 = some ⟨.func, 1, 8, [.nilFunc], []⟩ := rfl
@[go_sem] theorem yGw : tbl 147 = some ⟨.slice 37, 1, 24, [.slice none 0 0], []⟩ := rfl
@[go_sem] theorem yGv : tbl 154 = some ⟨.func, 1, 8, [.nilFunc], []⟩ := rfl
@[go_sem] theorem yGu : tbl 157 = some ⟨.func, 1, 8, [.nilFunc], []⟩ := rfl
@[go_sem] theorem yGt : tbl 164 = some ⟨.int .u64, 1, 8, [.int .u64 0], []⟩ := rfl
@[go_sem] theorem yGs : tbl 169 = some ⟨.func, 1, 8, [.nilFunc], []⟩ := rfl
@[go_sem] theorem yGr : tbl 176 = some ⟨.func, 1, 8, [.nilFunc], []⟩ := rfl
@[go_sem] theorem yGq : tbl 181 = some ⟨.func, 1, 8, [.nilFunc], []⟩ := rfl
@[go_sem] theorem yGp : tbl 183 = some ⟨.slice 90, 1, 24, [.slice none 0 0], []⟩ := rfl
@[go_sem] theorem yGo : tbl 186 = some ⟨.func, 1, 8, [.nilFunc], []⟩ := rfl
@[go_sem] theorem yGn : tbl 187 = some ⟨.func, 1, 8, [.nilFunc], []⟩ := rfl
@[go_sem] theorem yGm : tbl 194 = some ⟨.func, 1, 8, [.nilFunc], []⟩ := rfl
@[go_sem] theorem yGl : tbl 201 = some ⟨.int .i64, 1, 8, [.int .i64 0], []⟩ := rfl
@[go_sem] theorem yGk : tbl 211 = some ⟨.slice 5, 1, 24, [.slice none 0 0], []⟩ := rfl
@[go_sem] theorem yGj : tbl 218 = some ⟨.struct [(0, 3), (1, 3), (2, 3), (3, 64)], 4, 32, [.int .i64 0, .int .i64 0, .int .i64 0, .int .u64 0], [.int, .int, .int, .int]⟩ := rfl
@[go_sem] theorem yGi : tbl 219 = some ⟨.struct [(0, 3), (1, 3), (2, 3), (3, 64)], 4, 32, [.int .i64 0, .int .i64 0, .int .i64 0, .int .u64 0], [.int, .int, .int, .int]⟩ := rfl
@[go_sem] theorem yGh : tbl 224 = some ⟨.struct [(0, 3), (1, 3)], 2, 16, [.int .i64 0, .int .i64 0], [.int, .int]⟩ := rfl
@[go_sem] theorem yGg : tbl 225 = some ⟨.struct [(0, 3), (1, 3)], 2, 16, [.int .i64 0, .int .i64 0], [.int, .int]⟩ := rfl
@[go_sem] theorem yGf : tbl 226 = some ⟨.func, 1, 8, [.nilFunc], []⟩ := rfl
@[go_sem] theorem yGe : tbl 229 = some ⟨.func, 1, 8, [.nilFunc], []⟩ := rfl
@[go_sem] theorem yGd : tbl 231 = some ⟨.ptr 94, 1, 8, [.pointer none], []⟩ := rfl
@[go_sem] theorem yGc : tbl 232 = some ⟨.func, 1, 8, [.nilFunc], []⟩ := rfl
@[go_sem] theorem yGb : tbl 234 = some ⟨.func, 1, 8, [.nilFunc], []⟩ := rfl
@[go_sem] theorem yGa : tbl 235 = some ⟨.func, 1, 8, [.nilFunc], []⟩ := rfl
@[go_sem] theorem yG9 : tbl 238 = some ⟨.func, 1, 8, [.nilFunc], []⟩ := rfl
@[go_sem] theorem yG8 : tbl 244 = some ⟨.struct [(0, 64), (1, 64), (2, 64), (3, 4)], 4, 32, [.int .u64 0, .int .u64 0, .int .u64 0, .bool false], [.int, .int, .int, .bool]⟩ := rfl
@[go_sem] theorem yG7 : tbl 245 = some ⟨.struct [(0, 64), (1, 64), (2, 64), (3, 4)], 4, 32, [.int .u64 0, .int .u64 0, .int .u64 0, .bool false], [.int, .int, .int, .bool]⟩ := rfl
@[go_sem] theorem yG6 : tbl 246 = some ⟨.func, 1, 8, [.nilFunc], []⟩ := rfl
@[go_sem] theorem yG5 : tbl 249 = some ⟨.int .u64, 1, 8, [.int .u64 0], []⟩ := rfl
@[go_sem] theorem yG4 : tbl 253 = some ⟨.ptr 3, 1, 8, [.pointer none], []⟩ := rfl
@[go_sem] theorem yG3 : tbl 260 = some ⟨.array 2 3, 2, 16, [.int .i64 0, .int .i64 0], [.int, .int]⟩ := rfl
@[go_sem] theorem yG2 : tbl 263 = some ⟨.struct [(0, 3), (1, 3)], 2, 16, [.int .i64 0, .int .i64 0], [.int, .int]⟩ := rfl
@[go_sem] theorem yG1 : tbl 264 = some ⟨.struct [(0, 3), (1, 3)], 2, 16, [.int .i64 0, .int .i64 0], [.int, .int]⟩ := rfl
@[go_sem] theorem yG0 : tbl 268 = some ⟨.func, 1, 8, [.nilFunc], []⟩ := rfl
@[go_sem] theorem yFz : tbl 272 = some ⟨.ptr 249, 1, 8, [.pointer none], []⟩ := rfl
@[go_sem] theorem yFy : tbl 275 = some ⟨.func, 1, 8, [.nilFunc], []⟩ := rfl
@[go_sem] theorem yFx : tbl 279 = some ⟨.array 8 5, 8, 8, [.int .u8 0, .int .u8 0, .int .u8 0, .int .u8 0, .int .u8 0, .int .u8 0, .int .u8 0, .int .u8 0], [.int, .int, .int, .int, .int, .int, .int, .int]⟩ := rfl
@[go_sem] theorem yFw : tbl 284 = some ⟨.func, 1, 8, [.nilFunc], []⟩ := rfl
@[go_sem] theorem yFv : tbl 290 = some ⟨.iface, 1, 16, [.nilIface], []⟩ := rfl
@[go_sem] theorem yFu : tbl 291 = some ⟨.iface, 1, 16, [.nilIface], []⟩ := rfl
@[go_sem] theorem yFt : tbl 292 = some ⟨.func, 1, 8, [.nilFunc], []⟩ := rfl
@[go_sem] theorem yFs : tbl 293 = some ⟨.func, 1, 8, [.nilFunc], []⟩ := rfl
@[go_sem] theorem yFr : tbl 296 = some ⟨.func, 1, 8, [.nilFunc], []⟩ := rfl
@[go_sem] theorem yFq : tbl 297 = some ⟨.array 24 5, 24, 24, [.int .u8 0, .int .u8 0, .int .u8 0, .int .u8 0, .int .u8 0, .int .u8 0, .int .u8 0, .int .u8 0, .int .u8 0, .int .u8 0, .int .u8 0, .int .u8 0, .int .u8 0, .int .u8 0, .int .u8 0, .int .u8 0, .int .u8 0, .int .u8 0, .int .u8 0, .int .u8 0, .int .u8 0, .int .u8 0, .int .u8 0, .int .u8 0], [.int, .int, .int, .int, .int, .int, .int, .int, .int, .int, .int, .int, .int, .int, .int, .int, .int, .int, .int, .int, .int, .int, .int, .int]⟩ := rfl
@[go_sem] theorem yFo : tbl 302 = some ⟨.array 20 64, 20, 160, [.int .u64 0, .int .u64 0, .int .u64 0, .int .u64 0, .int .u64 0, .int .u64 0, .int .u64 0, .int .u64 0, .int .u64 0, .int .u64 0, .int .u64 0, .int .u64 0, .int .u64 0, .int .u64 0, .int .u64 0, .int .u64 0, .int .u64 0, .int .u64 0, .int .u64 0, .int .u64 0], [.int, .int, .int, .int, .int, .int, .int, .int, .int, .int, .int, .int, .int, .int, .int, .int, .int, .int, .int, .int]⟩ := rfl
@[go_sem] theorem yFn : tbl 304 = some ⟨.array 32 5, 32, 32, [.int .u8 0, .int .u8 0, .int .u8 0, .int .u8 0, .int .u8 0, .int .u8 0, .int .u8 0, .int .u8 0, .int .u8 0, .int .u8 0, .int .u8 0, .int .u8 0, .int .u8 0, .int .u8 0, .int .u8 0, .int .u8 0, .int .u8 0, .int .u8 0, .int .u8 0, .int .u8 0, .int .u8 0, .int .u8 0, .int .u8 0, .int .u8 0, .int .u8 0, .int .u8 0, .int .u8 0, .int .u8 0, .int .u8 0, .int .u8 0, .int .u8 0, .int .u8 0], [.int, .int, .int, .int, .int, .int, .int, .int, .int, .int, .int, .int, .int, .int, .int, .int, .int, .int, .int, .int, .int, .int, .int, .int, .int, .int, .int, .int, .int, .int, .int, .int]⟩ := rfl
@[go_sem] theorem yFm : tbl 305 = some ⟨.array 64 5, 64, 64, [.int .u8 0, .int .u8 0, .int .u8 0, .int .u8 0, .int .u8 0, .int .u8 0, .int .u8 0, .int .u8 0, .int .u8 0, .int .u8 0, .int .u8 0, .int .u8 0, .int .u8 0, .int .u8 0, .int .u8 0, .int .u8 0, .int .u8 0, .int .u8 0, .int .u8 0, .int .u8 0, .int .u8 0, .int .u8 0, .int .u8 0, .int .u8 0, .int .u8 0, .int .u8 0, .int .u8 0, .int .u8 0, .int .u8 0, .int .u8 0, .int .u8 0, .int .u8 0, .int .u8 0, .int .u8 0, .int .u8 0, .int .u8 0, .int .u8 0, .int .u8 0, .int .u8 0, .int .u8 0, .int .u8 0, .int .u8 0, .int .u8 0, .int .u8 0, .int .u8 0, .int .u8 0, .int .u8 0, .int .u8 0, .int .u8 0, .int .u8 0, .int .u8 0, .int .u8 0, .int .u8 0, .int .u8 0, .int .u8 0, .int .u8 0, .int .u8 0, .int .u8 0, .int .u8 0, .int .u8 0, .int .u8 0, .int .u8 0, .int .u8 0, .int .u8 0], [.int, .int, .int, .int, .int, .int, .int, .int, .int, .int, .int, .int, .int, .int, .int, .int, .int, .int, .int, .int, .int, .int, .int, .int, .int, .int, .int, .int, .int, .int, .int, .int, .int, .int, .int, .int, .int, .int, .int, .int, .int, .int, .int, .int, .int, .int, .int, .int, .int, .int, .int, .int, .int, .int, .int, .int, .int, .int, .int, .int, .int, .int, .int, .int]⟩ := rfl
@[go_sem] theorem yFl : tbl 306 = some ⟨.ptr 324, 1, 8, [.pointer none], []⟩ := rfl
@[go_sem] theorem yFk : tbl 315 = some ⟨.int .u8, 1, 1, [.int .u8 0], []⟩ := rfl
set_option maxRecDepth 1000000 in
set_option maxHeartbeats 4000000 in
theorem yQ : TOk Tryz.prog tbl := by
 intro t i h
 unfold tbl at h
 split at h
 all_goals first | (cases h; done) | (cases h; exact ⟨by kernel_rfl, by kernel_rfl, by kernel_rfl⟩)
end Go.Proofs.YtchpbdecipcelaaGreatDoor

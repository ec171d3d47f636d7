/- The types of the translation, as the abstract logic wants them. Written by gen.py. -/
import Derived.Test.YtihnjbnlbedpaaaDoorProg
import Derived.Test.YtihnjbnlbedpaaaDoorA3
namespace Go.Proofs.YtihnjbnlbedpaaaDoor
def tbl : TT
  | 1 => some { k := .func, size := 1, bytes := 8, zero := [.nilFunc] }
  | 2 => some { k := .int .i64, size := 1, bytes := 8, zero := [.int .i64 0] }
  | 3 => some { k := .int .i64, size := 1, bytes := 8, zero := [.int .i64 0] }
  | 4 => some { k := .bool, size := 1, bytes := 1, zero := [.bool false] }
  | 5 => some { k := .int .u8, size := 1, bytes := 1, zero := [.int .u8 0] }
  | 6 => some { k := .int .u8, size := 1, bytes := 1, zero := [.int .u8 0] }
  | 7 => some { k := .struct [(0, 2), (1, 3), (2, 4), (3, 6)], size := 4, bytes := 24, zero := [.int .i64 0, .int .i64 0, .bool false, .int .u8 0] }
  | 8 => some { k := .struct [(0, 2), (1, 3), (2, 4), (3, 6)], size := 4, bytes := 24, zero := [.int .i64 0, .int .i64 0, .bool false, .int .u8 0] }
  | 9 => some { k := .str, size := 1, bytes := 16, zero := [.string ByteArray.empty] }
  | 10 => some { k := .str, size := 1, bytes := 16, zero := [.string ByteArray.empty] }
  | 11 => some { k := .str, size := 1, bytes := 16, zero := [.string ByteArray.empty] }
  | 12 => some { k := .int .u64, size := 1, bytes := 8, zero := [.int .u64 0] }
  | 13 => some { k := .struct [(0, 9), (1, 12)], size := 2, bytes := 24, zero := [.string ByteArray.empty, .int .u64 0] }
  | 14 => some { k := .struct [(0, 9), (1, 12)], size := 2, bytes := 24, zero := [.string ByteArray.empty, .int .u64 0] }
  | 15 => some { k := .ptr 179, size := 1, bytes := 8, zero := [.pointer none] }
  | 16 => some { k := .ptr 182, size := 1, bytes := 8, zero := [.pointer none] }
  | 17 => some { k := .ptr 191, size := 1, bytes := 8, zero := [.pointer none] }
  | 18 => some { k := .struct [(0, 17)], size := 1, bytes := 8, zero := [.pointer none] }
  | 19 => some { k := .struct [(0, 17)], size := 1, bytes := 8, zero := [.pointer none] }
  | 20 => some { k := .iface, size := 1, bytes := 16, zero := [.nilIface] }
  | 21 => some { k := .int .i32, size := 1, bytes := 4, zero := [.int .i32 0] }
  | 22 => some { k := .slice 26, size := 1, bytes := 24, zero := [.slice none 0 0] }
  | 23 => some { k := .struct [(0, 3), (1, 3)], size := 2, bytes := 16, zero := [.int .i64 0, .int .i64 0], eq := [.int, .int] }
  | 24 => some { k := .struct [(0, 3), (1, 3)], size := 2, bytes := 16, zero := [.int .i64 0, .int .i64 0], eq := [.int, .int] }
  | 25 => some { k := .struct [(0, 3), (1, 3), (2, 3), (3, 3), (4, 3), (5, 24)], size := 7, bytes := 56, zero := [.int .i64 0, .int .i64 0, .int .i64 0, .int .i64 0, .int .i64 0, .int .i64 0, .int .i64 0], eq := [.int, .int, .int, .int, .int, .int, .int] }
  | 26 => some { k := .struct [(0, 3), (1, 3), (2, 3), (3, 3), (4, 3), (5, 24)], size := 7, bytes := 56, zero := [.int .i64 0, .int .i64 0, .int .i64 0, .int .i64 0, .int .i64 0, .int .i64 0, .int .i64 0], eq := [.int, .int, .int, .int, .int, .int, .int] }
  | 27 => some { k := .struct [(0, 3), (1, 3)], size := 2, bytes := 16, zero := [.int .i64 0, .int .i64 0], eq := [.int, .int] }
  | 28 => some { k := .struct [(0, 3), (1, 3)], size := 2, bytes := 16, zero := [.int .i64 0, .int .i64 0], eq := [.int, .int] }
  | 29 => some { k := .func, size := 1, bytes := 8, zero := [.nilFunc] }
  | 30 => some { k := .func, size := 1, bytes := 8, zero := [.nilFunc] }
  | 31 => some { k := .int .i64, size := 1, bytes := 8, zero := [.int .i64 0] }
  | 33 => some { k := .func, size := 1, bytes := 8, zero := [.nilFunc] }
  | 34 => some { k := .func, size := 1, bytes := 8, zero := [.nilFunc] }
  | 35 => some { k := .slice 3, size := 1, bytes := 24, zero := [.slice none 0 0] }
  | 36 => some { k := .func, size := 1, bytes := 8, zero := [.nilFunc] }
  | 37 => some { k := .func, size := 1, bytes := 8, zero := [.nilFunc] }
  | 39 => some { k := .func, size := 1, bytes := 8, zero := [.nilFunc] }
  | 40 => some { k := .func, size := 1, bytes := 8, zero := [.nilFunc] }
  | 42 => some { k := .func, size := 1, bytes := 8, zero := [.nilFunc] }
  | 43 => some { k := .func, size := 1, bytes := 8, zero := [.nilFunc] }
  | 44 => some { k := .func, size := 1, bytes := 8, zero := [.nilFunc] }
  | 45 => some { k := .func, size := 1, bytes := 8, zero := [.nilFunc] }
  | 46 => some { k := .func, size := 1, bytes := 8, zero := [.nilFunc] }
  | 47 => some { k := .func, size := 1, bytes := 8, zero := [.nilFunc] }
  | 48 => some { k := .func, size := 1, bytes := 8, zero := [.nilFunc] }
  | 49 => some { k := .func, size := 1, bytes := 8, zero := [.nilFunc] }
  | 50 => some { k := .func, size := 1, bytes := 8, zero := [.nilFunc] }
  | 51 => some { k := .func, size := 1, bytes := 8, zero := [.nilFunc] }
  | 52 => some { k := .int .u64, size := 1, bytes := 8, zero := [.int .u64 0] }
  | 53 => some { k := .struct [(0, 3), (1, 3), (2, 3), (3, 52), (4, 28), (6, 3), (7, 3), (8, 24)], size := 10, bytes := 80, zero := [.int .i64 0, .int .i64 0, .int .i64 0, .int .u64 0, .int .i64 0, .int .i64 0, .int .i64 0, .int .i64 0, .int .i64 0, .int .i64 0], eq := [.int, .int, .int, .int, .int, .int, .int, .int, .int, .int] }
  | 54 => some { k := .struct [(0, 3), (1, 3), (2, 3), (3, 52), (4, 28), (6, 3), (7, 3), (8, 24)], size := 10, bytes := 80, zero := [.int .i64 0, .int .i64 0, .int .i64 0, .int .u64 0, .int .i64 0, .int .i64 0, .int .i64 0, .int .i64 0, .int .i64 0, .int .i64 0], eq := [.int, .int, .int, .int, .int, .int, .int, .int, .int, .int] }
  | 55 => some { k := .func, size := 1, bytes := 8, zero := [.nilFunc] }
  | 56 => some { k := .func, size := 1, bytes := 8, zero := [.nilFunc] }
  | 57 => some { k := .func, size := 1, bytes := 8, zero := [.nilFunc] }
  | 58 => some { k := .struct [(0, 3), (1, 3), (2, 3), (3, 3)], size := 4, bytes := 32, zero := [.int .i64 0, .int .i64 0, .int .i64 0, .int .i64 0], eq := [.int, .int, .int, .int] }
  | 59 => some { k := .struct [(0, 3), (1, 3), (2, 3), (3, 3)], size := 4, bytes := 32, zero := [.int .i64 0, .int .i64 0, .int .i64 0, .int .i64 0], eq := [.int, .int, .int, .int] }
  | 60 => some { k := .int .u16, size := 1, bytes := 2, zero := [.int .u16 0] }
  | 61 => some { k := .func, size := 1, bytes := 8, zero := [.nilFunc] }
  | 62 => some { k := .func, size := 1, bytes := 8, zero := [.nilFunc] }
  | 63 => some { k := .func, size := 1, bytes := 8, zero := [.nilFunc] }
  | 64 => some { k := .slice 102, size := 1, bytes := 24, zero := [.slice none 0 0] }
  | 65 => some { k := .slice 54, size := 1, bytes := 24, zero := [.slice none 0 0] }
  | 66 => some { k := .func, size := 1, bytes := 8, zero := [.nilFunc] }
  | 67 => some { k := .slice 28, size := 1, bytes := 24, zero := [.slice none 0 0] }
  | 69 => some { k := .func, size := 1, bytes := 8, zero := [.nilFunc] }
  | 70 => some { k := .struct [(0, 65)], size := 1, bytes := 24, zero := [.slice none 0 0] }
  | 71 => some { k := .struct [(0, 65)], size := 1, bytes := 24, zero := [.slice none 0 0] }
  | 72 => some { k := .func, size := 1, bytes := 8, zero := [.nilFunc] }
  | 73 => some { k := .func, size := 1, bytes := 8, zero := [.nilFunc] }
  | 74 => some { k := .func, size := 1, bytes := 8, zero := [.nilFunc] }
  | 75 => some { k := .func, size := 1, bytes := 8, zero := [.nilFunc] }
  | 76 => some { k := .func, size := 1, bytes := 8, zero := [.nilFunc] }
  | 77 => some { k := .struct [(0, 31), (1, 29)], size := 2, bytes := 16, zero := [.int .i64 0, .nilFunc] }
  | 78 => some { k := .struct [(0, 31), (1, 29)], size := 2, bytes := 16, zero := [.int .i64 0, .nilFunc] }
  | 80 => some { k := .func, size := 1, bytes := 8, zero := [.nilFunc] }
  | 81 => some { k := .func, size := 1, bytes := 8, zero := [.nilFunc] }
  | 82 => some { k := .slice 78, size := 1, bytes := 24, zero := [.slice none 0 0] }
  | 84 => some { k := .func, size := 1, bytes := 8, zero := [.nilFunc] }
  | 85 => some { k := .func, size := 1, bytes := 8, zero := [.nilFunc] }
  | 86 => some { k := .func, size := 1, bytes := 8, zero := [.nilFunc] }
  | 87 => some { k := .func, size := 1, bytes := 8, zero := [.nilFunc] }
  | 88 => some { k := .func, size := 1, bytes := 8, zero := [.nilFunc] }
  | 89 => some { k := .func, size := 1, bytes := 8, zero := [.nilFunc] }
  | 90 => some { k := .func, size := 1, bytes := 8, zero := [.nilFunc] }
  | 91 => some { k := .func, size := 1, bytes := 8, zero := [.nilFunc] }
  | 92 => some { k := .func, size := 1, bytes := 8, zero := [.nilFunc] }
  | 93 => some { k := .func, size := 1, bytes := 8, zero := [.nilFunc] }
  | 95 => some { k := .func, size := 1, bytes := 8, zero := [.nilFunc] }
  | 96 => some { k := .func, size := 1, bytes := 8, zero := [.nilFunc] }
  | 97 => some { k := .func, size := 1, bytes := 8, zero := [.nilFunc] }
  | 98 => some { k := .struct [(0, 3), (1, 3), (2, 3), (3, 3), (4, 3)], size := 5, bytes := 40, zero := [.int .i64 0, .int .i64 0, .int .i64 0, .int .i64 0, .int .i64 0], eq := [.int, .int, .int, .int, .int] }
  | 99 => some { k := .struct [(0, 3), (1, 3), (2, 3), (3, 3), (4, 3)], size := 5, bytes := 40, zero := [.int .i64 0, .int .i64 0, .int .i64 0, .int .i64 0, .int .i64 0], eq := [.int, .int, .int, .int, .int] }
  | 100 => some { k := .slice 99, size := 1, bytes := 24, zero := [.slice none 0 0] }
  | 101 => some { k := .struct [(0, 3), (1, 3), (2, 100)], size := 3, bytes := 40, zero := [.int .i64 0, .int .i64 0, .slice none 0 0] }
  | 102 => some { k := .struct [(0, 3), (1, 3), (2, 100)], size := 3, bytes := 40, zero := [.int .i64 0, .int .i64 0, .slice none 0 0] }
  | 103 => some { k := .func, size := 1, bytes := 8, zero := [.nilFunc] }
  | 104 => some { k := .struct [(0, 3), (1, 3), (2, 3), (3, 52)], size := 4, bytes := 32, zero := [.int .i64 0, .int .i64 0, .int .i64 0, .int .u64 0], eq := [.int, .int, .int, .int] }
  | 105 => some { k := .struct [(0, 3), (1, 3), (2, 3), (3, 52)], size := 4, bytes := 32, zero := [.int .i64 0, .int .i64 0, .int .i64 0, .int .u64 0], eq := [.int, .int, .int, .int] }
  | 106 => some { k := .func, size := 1, bytes := 8, zero := [.nilFunc] }
  | 107 => some { k := .int .u64, size := 1, bytes := 8, zero := [.int .u64 0] }
  | 108 => some { k := .func, size := 1, bytes := 8, zero := [.nilFunc] }
  | 109 => some { k := .func, size := 1, bytes := 8, zero := [.nilFunc] }
  | 111 => some { k := .func, size := 1, bytes := 8, zero := [.nilFunc] }
  | 112 => some { k := .struct [(0, 3), (1, 3)], size := 2, bytes := 16, zero := [.int .i64 0, .int .i64 0], eq := [.int, .int] }
  | 113 => some { k := .struct [(0, 3), (1, 3)], size := 2, bytes := 16, zero := [.int .i64 0, .int .i64 0], eq := [.int, .int] }
  | 114 => some { k := .func, size := 1, bytes := 8, zero := [.nilFunc] }
  | 115 => some { k := .func, size := 1, bytes := 8, zero := [.nilFunc] }
  | 117 => some { k := .func, size := 1, bytes := 8, zero := [.nilFunc] }
  | 119 => some { k := .func, size := 1, bytes := 8, zero := [.nilFunc] }
  | 120 => some { k := .func, size := 1, bytes := 8, zero := [.nilFunc] }
  | 121 => some { k := .func, size := 1, bytes := 8, zero := [.nilFunc] }
  | 122 => some { k := .func, size := 1, bytes := 8, zero := [.nilFunc] }
  | 123 => some { k := .func, size := 1, bytes := 8, zero := [.nilFunc] }
  | 124 => some { k := .func, size := 1, bytes := 8, zero := [.nilFunc] }
  | 125 => some { k := .func, size := 1, bytes := 8, zero := [.nilFunc] }
  | 126 => some { k := .func, size := 1, bytes := 8, zero := [.nilFunc] }
  | 127 => some { k := .slice 5, size := 1, bytes := 24, zero := [.slice none 0 0] }
  | 129 => some { k := .func, size := 1, bytes := 8, zero := [.nilFunc] }
  | 130 => some { k := .func, size := 1, bytes := 8, zero := [.nilFunc] }
  | 131 => some { k := .func, size := 1, bytes := 8, zero := [.nilFunc] }
  | 132 => some { k := .func, size := 1, bytes := 8, zero := [.nilFunc] }
  | 133 => some { k := .func, size := 1, bytes := 8, zero := [.nilFunc] }
  | 134 => some { k := .func, size := 1, bytes := 8, zero := [.nilFunc] }
  | 135 => some { k := .func, size := 1, bytes := 8, zero := [.nilFunc] }
  | 136 => some { k := .func, size := 1, bytes := 8, zero := [.nilFunc] }
  | 137 => some { k := .func, size := 1, bytes := 8, zero := [.nilFunc] }
  | 138 => some { k := .func, size := 1, bytes := 8, zero := [.nilFunc] }
  | 139 => some { k := .func, size := 1, bytes := 8, zero := [.nilFunc] }
  | 140 => some { k := .func, size := 1, bytes := 8, zero := [.nilFunc] }
  | 141 => some { k := .func, size := 1, bytes := 8, zero := [.nilFunc] }
  | 142 => some { k := .ptr 3, size := 1, bytes := 8, zero := [.pointer none] }
  | 143 => some { k := .func, size := 1, bytes := 8, zero := [.nilFunc] }
  | 144 => some { k := .func, size := 1, bytes := 8, zero := [.nilFunc] }
  | 145 => some { k := .func, size := 1, bytes := 8, zero := [.nilFunc] }
  | 146 => some { k := .func, size := 1, bytes := 8, zero := [.nilFunc] }
  | 147 => some { k := .func, size := 1, bytes := 8, zero := [.nilFunc] }
  | 148 => some { k := .struct [(0, 3), (1, 3)], size := 2, bytes := 16, zero := [.int .i64 0, .int .i64 0], eq := [.int, .int] }
  | 149 => some { k := .struct [(0, 3), (1, 3)], size := 2, bytes := 16, zero := [.int .i64 0, .int .i64 0], eq := [.int, .int] }
  | 150 => some { k := .func, size := 1, bytes := 8, zero := [.nilFunc] }
  | 151 => some { k := .func, size := 1, bytes := 8, zero := [.nilFunc] }
  | 152 => some { k := .func, size := 1, bytes := 8, zero := [.nilFunc] }
  | 153 => some { k := .func, size := 1, bytes := 8, zero := [.nilFunc] }
  | 154 => some { k := .func, size := 1, bytes := 8, zero := [.nilFunc] }
  | 155 => some { k := .func, size := 1, bytes := 8, zero := [.nilFunc] }
  | 156 => some { k := .func, size := 1, bytes := 8, zero := [.nilFunc] }
  | 157 => some { k := .func, size := 1, bytes := 8, zero := [.nilFunc] }
  | 158 => some { k := .func, size := 1, bytes := 8, zero := [.nilFunc] }
  | 159 => some { k := .func, size := 1, bytes := 8, zero := [.nilFunc] }
  | 160 => some { k := .func, size := 1, bytes := 8, zero := [.nilFunc] }
  | 161 => some { k := .func, size := 1, bytes := 8, zero := [.nilFunc] }
  | 162 => some { k := .func, size := 1, bytes := 8, zero := [.nilFunc] }
  | 163 => some { k := .func, size := 1, bytes := 8, zero := [.nilFunc] }
  | 164 => some { k := .array 24 5, size := 24, bytes := 24, zero := [.int .u8 0, .int .u8 0, .int .u8 0, .int .u8 0, .int .u8 0, .int .u8 0, .int .u8 0, .int .u8 0, .int .u8 0, .int .u8 0, .int .u8 0, .int .u8 0, .int .u8 0, .int .u8 0, .int .u8 0, .int .u8 0, .int .u8 0, .int .u8 0, .int .u8 0, .int .u8 0, .int .u8 0, .int .u8 0, .int .u8 0, .int .u8 0], eq := [.int, .int, .int, .int, .int, .int, .int, .int, .int, .int, .int, .int, .int, .int, .int, .int, .int, .int, .int, .int, .int, .int, .int, .int] }
  | 165 => some { k := .func, size := 1, bytes := 8, zero := [.nilFunc] }
  | 166 => some { k := .func, size := 1, bytes := 8, zero := [.nilFunc] }
  | 168 => some { k := .func, size := 1, bytes := 8, zero := [.nilFunc] }
  | 169 => some { k := .func, size := 1, bytes := 8, zero := [.nilFunc] }
  | 170 => some { k := .array 20 52, size := 20, bytes := 160, zero := [.int .u64 0, .int .u64 0, .int .u64 0, .int .u64 0, .int .u64 0, .int .u64 0, .int .u64 0, .int .u64 0, .int .u64 0, .int .u64 0, .int .u64 0, .int .u64 0, .int .u64 0, .int .u64 0, .int .u64 0, .int .u64 0, .int .u64 0, .int .u64 0, .int .u64 0, .int .u64 0], eq := [.int, .int, .int, .int, .int, .int, .int, .int, .int, .int, .int, .int, .int, .int, .int, .int, .int, .int, .int, .int] }
  | 171 => some { k := .int .u32, size := 1, bytes := 4, zero := [.int .u32 0] }
  | 173 => some { k := .func, size := 1, bytes := 8, zero := [.nilFunc] }
  | 174 => some { k := .func, size := 1, bytes := 8, zero := [.nilFunc] }
  | 175 => some { k := .array 32 5, size := 32, bytes := 32, zero := [.int .u8 0, .int .u8 0, .int .u8 0, .int .u8 0, .int .u8 0, .int .u8 0, .int .u8 0, .int .u8 0, .int .u8 0, .int .u8 0, .int .u8 0, .int .u8 0, .int .u8 0, .int .u8 0, .int .u8 0, .int .u8 0, .int .u8 0, .int .u8 0, .int .u8 0, .int .u8 0, .int .u8 0, .int .u8 0, .int .u8 0, .int .u8 0, .int .u8 0, .int .u8 0, .int .u8 0, .int .u8 0, .int .u8 0, .int .u8 0, .int .u8 0, .int .u8 0], eq := [.int, .int, .int, .int, .int, .int, .int, .int, .int, .int, .int, .int, .int, .int, .int, .int, .int, .int, .int, .int, .int, .int, .int, .int, .int, .int, .int, .int, .int, .int, .int, .int] }
  | 176 => some { k := .array 64 5, size := 64, bytes := 64, zero := [.int .u8 0, .int .u8 0, .int .u8 0, .int .u8 0, .int .u8 0, .int .u8 0, .int .u8 0, .int .u8 0, .int .u8 0, .int .u8 0, .int .u8 0, .int .u8 0, .int .u8 0, .int .u8 0, .int .u8 0, .int .u8 0, .int .u8 0, .int .u8 0, .int .u8 0, .int .u8 0, .int .u8 0, .int .u8 0, .int .u8 0, .int .u8 0, .int .u8 0, .int .u8 0, .int .u8 0, .int .u8 0, .int .u8 0, .int .u8 0, .int .u8 0, .int .u8 0, .int .u8 0, .int .u8 0, .int .u8 0, .int .u8 0, .int .u8 0, .int .u8 0, .int .u8 0, .int .u8 0, .int .u8 0, .int .u8 0, .int .u8 0, .int .u8 0, .int .u8 0, .int .u8 0, .int .u8 0, .int .u8 0, .int .u8 0, .int .u8 0, .int .u8 0, .int .u8 0, .int .u8 0, .int .u8 0, .int .u8 0, .int .u8 0, .int .u8 0, .int .u8 0, .int .u8 0, .int .u8 0, .int .u8 0, .int .u8 0, .int .u8 0, .int .u8 0], eq := [.int, .int, .int, .int, .int, .int, .int, .int, .int, .int, .int, .int, .int, .int, .int, .int, .int, .int, .int, .int, .int, .int, .int, .int, .int, .int, .int, .int, .int, .int, .int, .int, .int, .int, .int, .int, .int, .int, .int, .int, .int, .int, .int, .int, .int, .int, .int, .int, .int, .int, .int, .int, .int, .int, .int, .int, .int, .int, .int, .int, .int, .int, .int, .int] }
  | 177 => some { k := .func, size := 1, bytes := 8, zero := [.nilFunc] }
  | 178 => some { k := .struct [(0, 17), (1, 17), (2, 17), (3, 9)], size := 4, bytes := 40, zero := [.pointer none, .pointer none, .pointer none, .string ByteArray.empty] }
  | 179 => some { k := .struct [(0, 17), (1, 17), (2, 17), (3, 9)], size := 4, bytes := 40, zero := [.pointer none, .pointer none, .pointer none, .string ByteArray.empty] }
  | 180 => some { k := .array 0 16, size := 0, bytes := 0, zero := [] }
  | 181 => some { k := .struct [(0, 180)], size := 0, bytes := 0, zero := [] }
  | 182 => some { k := .struct [(0, 180)], size := 0, bytes := 0, zero := [] }
  | 183 => some { k := .func, size := 1, bytes := 8, zero := [.nilFunc] }
  | 184 => some { k := .int .u8, size := 1, bytes := 1, zero := [.int .u8 0] }
  | 185 => some { k := .int .u8, size := 1, bytes := 1, zero := [.int .u8 0] }
  | 186 => some { k := .func, size := 1, bytes := 8, zero := [.nilFunc] }
  | 187 => some { k := .ptr 5, size := 1, bytes := 8, zero := [.pointer none] }
  | 188 => some { k := .int .i32, size := 1, bytes := 4, zero := [.int .i32 0] }
  | 189 => some { k := .int .i32, size := 1, bytes := 4, zero := [.int .i32 0] }
  | 190 => some { k := .struct [(0, 12), (1, 12), (2, 171), (3, 184), (4, 5), (5, 5), (6, 185), (7, 186), (8, 187), (9, 188), (10, 189)], size := 11, bytes := 48, zero := [.int .u64 0, .int .u64 0, .int .u32 0, .int .u8 0, .int .u8 0, .int .u8 0, .int .u8 0, .nilFunc, .pointer none, .int .i32 0, .int .i32 0] }
  | 191 => some { k := .struct [(0, 12), (1, 12), (2, 171), (3, 184), (4, 5), (5, 5), (6, 185), (7, 186), (8, 187), (9, 188), (10, 189)], size := 11, bytes := 48, zero := [.int .u64 0, .int .u64 0, .int .u32 0, .int .u8 0, .int .u8 0, .int .u8 0, .int .u8 0, .nilFunc, .pointer none, .int .i32 0, .int .i32 0] }
  | 192 => some { k := .func, size := 1, bytes := 8, zero := [.nilFunc] }
  | _ => none
@[go_sem] theorem tbl_1 : tbl 1 = some { k := .func, size := 1, bytes := 8, zero := [.nilFunc] } := rfl
@[go_sem] theorem tbl_2 : tbl 2 = some { k := .int .i64, size := 1, bytes := 8, zero := [.int .i64 0] } := rfl
@[go_sem] theorem tbl_3 : tbl 3 = some { k := .int .i64, size := 1, bytes := 8, zero := [.int .i64 0] } := rfl
@[go_sem] theorem tbl_4 : tbl 4 = some { k := .bool, size := 1, bytes := 1, zero := [.bool false] } := rfl
@[go_sem] theorem tbl_5 : tbl 5 = some { k := .int .u8, size := 1, bytes := 1, zero := [.int .u8 0] } := rfl
@[go_sem] theorem tbl_6 : tbl 6 = some { k := .int .u8, size := 1, bytes := 1, zero := [.int .u8 0] } := rfl
@[go_sem] theorem tbl_7 : tbl 7 = some { k := .struct [(0, 2), (1, 3), (2, 4), (3, 6)], size := 4, bytes := 24, zero := [.int .i64 0, .int .i64 0, .bool false, .int .u8 0] } := rfl
@[go_sem] theorem tbl_8 : tbl 8 = some { k := .struct [(0, 2), (1, 3), (2, 4), (3, 6)], size := 4, bytes := 24, zero := [.int .i64 0, .int .i64 0, .bool false, .int .u8 0] } := rfl
@[go_sem] theorem tbl_9 : tbl 9 = some { k := .str, size := 1, bytes := 16, zero := [.string ByteArray.empty] } := rfl
@[go_sem] theorem tbl_10 : tbl 10 = some { k := .str, size := 1, bytes := 16, zero := [.string ByteArray.empty] } := rfl
@[go_sem] theorem tbl_11 : tbl 11 = some { k := .str, size := 1, bytes := 16, zero := [.string ByteArray.empty] } := rfl
@[go_sem] theorem tbl_12 : tbl 12 = some { k := .int .u64, size := 1, bytes := 8, zero := [.int .u64 0] } := rfl
@[go_sem] theorem tbl_13 : tbl 13 = some { k := .struct [(0, 9), (1, 12)], size := 2, bytes := 24, zero := [.string ByteArray.empty, .int .u64 0] } := rfl
@[go_sem] theorem tbl_14 : tbl 14 = some { k := .struct [(0, 9), (1, 12)], size := 2, bytes := 24, zero := [.string ByteArray.empty, .int .u64 0] } := rfl
@[go_sem] theorem tbl_15 : tbl 15 = some { k := .ptr 179, size := 1, bytes := 8, zero := [.pointer none] } := rfl
@[go_sem] theorem tbl_16 : tbl 16 = some { k := .ptr 182, size := 1, bytes := 8, zero := [.pointer none] } := rfl
@[go_sem] theorem tbl_17 : tbl 17 = some { k := .ptr 191, size := 1, bytes := 8, zero := [.pointer none] } := rfl
@[go_sem] theorem tbl_18 : tbl 18 = some { k := .struct [(0, 17)], size := 1, bytes := 8, zero := [.pointer none] } := rfl
@[go_sem] theorem tbl_19 : tbl 19 = some { k := .struct [(0, 17)], size := 1, bytes := 8, zero := [.pointer none] } := rfl
@[go_sem] theorem tbl_20 : tbl 20 = some { k := .iface, size := 1, bytes := 16, zero := [.nilIface] } := rfl
@[go_sem] theorem tbl_21 : tbl 21 = some { k := .int .i32, size := 1, bytes := 4, zero := [.int .i32 0] } := rfl
@[go_sem] theorem tbl_22 : tbl 22 = some { k := .slice 26, size := 1, bytes := 24, zero := [.slice none 0 0] } := rfl
@[go_sem] theorem tbl_23 : tbl 23 = some { k := .struct [(0, 3), (1, 3)], size := 2, bytes := 16, zero := [.int .i64 0, .int .i64 0], eq := [.int, .int] } := rfl
@[go_sem] theorem tbl_24 : tbl 24 = some { k := .struct [(0, 3), (1, 3)], size := 2, bytes := 16, zero := [.int .i64 0, .int .i64 0], eq := [.int, .int] } := rfl
@[go_sem] theorem tbl_25 : tbl 25 = some { k := .struct [(0, 3), (1, 3), (2, 3), (3, 3), (4, 3), (5, 24)], size := 7, bytes := 56, zero := [.int .i64 0, .int .i64 0, .int .i64 0, .int .i64 0, .int .i64 0, .int .i64 0, .int .i64 0], eq := [.int, .int, .int, .int, .int, .int, .int] } := rfl
@[go_sem] theorem tbl_26 : tbl 26 = some { k := .struct [(0, 3), (1, 3), (2, 3), (3, 3), (4, 3), (5, 24)], size := 7, bytes := 56, zero := [.int .i64 0, .int .i64 0, .int .i64 0, .int .i64 0, .int .i64 0, .int .i64 0, .int .i64 0], eq := [.int, .int, .int, .int, .int, .int, .int] } := rfl
@[go_sem] theorem tbl_27 : tbl 27 = some { k := .struct [(0, 3), (1, 3)], size := 2, bytes := 16, zero := [.int .i64 0, .int .i64 0], eq := [.int, .int] } := rfl
@[go_sem] theorem tbl_28 : tbl 28 = some { k := .struct [(0, 3), (1, 3)], size := 2, bytes := 16, zero := [.int .i64 0, .int .i64 0], eq := [.int, .int] } := rfl
@[go_sem] theorem tbl_29 : tbl 29 = some { k := .func, size := 1, bytes := 8, zero := [.nilFunc] } := rfl
@[go_sem] theorem tbl_30 : tbl 30 = some { k := .func, size := 1, bytes := 8, zero := [.nilFunc] } := rfl
@[go_sem] theorem tbl_31 : tbl 31 = some { k := .int .i64, size := 1, bytes := 8, zero := [.int .i64 0] } := rfl
@[go_sem] theorem tbl_33 : tbl 33 = some { k := .func, size := 1, bytes := 8, zero := [.nilFunc] } := rfl
@[go_sem] theorem tbl_34 : tbl 34 = some { k := .func, size := 1, bytes := 8, zero := [.nilFunc] } := rfl
@[go_sem] theorem tbl_35 : tbl 35 = some { k := .slice 3, size := 1, bytes := 24, zero := [.slice none 0 0] } := rfl
@[go_sem] theorem tbl_36 : tbl 36 = some { k := .func, size := 1, bytes := 8, zero := [.nilFunc] } := rfl
@[go_sem] theorem tbl_37 : tbl 37 = some { k := .func, size := 1, bytes := 8, zero := [.nilFunc] } := rfl
@[go_sem] theorem tbl_39 : tbl 39 = some { k := .func, size := 1, bytes := 8, zero := [.nilFunc] } := rfl
@[go_sem] theorem tbl_40 : tbl 40 = some { k := .func, size := 1, bytes := 8, zero := [.nilFunc] } := rfl
@[go_sem] theorem tbl_42 : tbl 42 = some { k := .func, size := 1, bytes := 8, zero := [.nilFunc] } := rfl
@[go_sem] theorem tbl_43 : tbl 43 = some { k := .func, size := 1, bytes := 8, zero := [.nilFunc] } := rfl
@[go_sem] theorem tbl_44 : tbl 44 = some { k := .func, size := 1, bytes := 8, zero := [.nilFunc] } := rfl
@[go_sem] theorem tbl_45 : tbl 45 = some { k := .func, size := 1, bytes := 8, zero := [.nilFunc] } := rfl
@[go_sem] theorem tbl_46 : tbl 46 = some { k := .func, size := 1, bytes := 8, zero := [.nilFunc] } := rfl
@[go_sem] theorem tbl_47 : tbl 47 = some { k := .func, size := 1, bytes := 8, zero := [.nilFunc] } := rfl
@[go_sem] theorem tbl_48 : tbl 48 = some { k := .func, size := 1, bytes := 8, zero := [.nilFunc] } := rfl
@[go_sem] theorem tbl_49 : tbl 49 = some { k := .func, size := 1, bytes := 8, zero := [.nilFunc] } := rfl
@[go_sem] theorem tbl_50 : tbl 50 = some { k := .func, size := 1, bytes := 8, zero := [.nilFunc] } := rfl
@[go_sem] theorem tbl_51 : tbl 51 = some { k := .func, size := 1, bytes := 8, zero := [.nilFunc] } := rfl
@[go_sem] theorem tbl_52 : tbl 52 = some { k := .int .u64, size := 1, bytes := 8, zero := [.int .u64 0] } := rfl
@[go_sem] theorem tbl_53 : tbl 53 = some { k := .struct [(0, 3), (1, 3), (2, 3), (3, 52), (4, 28), (6, 3), (7, 3), (8, 24)], size := 10, bytes := 80, zero := [.int .i64 0, .int .i64 0, .int .i64 0, .int .u64 0, .int .i64 0, .int .i64 0, .int .i64 0, .int .i64 0, .int .i64 0, .int .i64 0], eq := [.int, .int, .int, .int, .int, .int, .int, .int, .int, .int] } := rfl
@[go_sem] theorem tbl_54 : tbl 54 = some { k := .struct [(0, 3), (1, 3), (2, 3), (3, 52), (4, 28), (6, 3), (7, 3), (8, 24)], size := 10, bytes := 80, zero := [.int .i64 0, .int .i64 0, .int .i64 0, .int .u64 0, .int .i64 0, .int .i64 0, .int .i64 0, .int .i64 0, .int .i64 0, .int .i64 0], eq := [.int, .int, .int, .int, .int, .int, .int, .int, .int, .int] } := rfl
@[go_sem] theorem tbl_55 : tbl 55 = some { k := .func, size := 1, bytes := 8, zero := [.nilFunc] } := rfl
@[go_sem] theorem tbl_56 : tbl 56 = some { k := .func, size := 1, bytes := 8, zero := [.nilFunc] } := rfl
@[go_sem] theorem tbl_57 : tbl 57 = some { k := .func, size := 1, bytes := 8, zero := [.nilFunc] } := rfl
@[go_sem] theorem tbl_58 : tbl 58 = some { k := .struct [(0, 3), (1, 3), (2, 3), (3, 3)], size := 4, bytes := 32, zero := [.int .i64 0, .int .i64 0, .int .i64 0, .int .i64 0], eq := [.int, .int, .int, .int] } := rfl
@[go_sem] theorem tbl_59 : tbl 59 = some { k := .struct [(0, 3), (1, 3), (2, 3), (3, 3)], size := 4, bytes := 32, zero := [.int .i64 0, .int .i64 0, .int .i64 0, .int .i64 0], eq := [.int, .int, .int, .int] } := rfl
@[go_sem] theorem tbl_60 : tbl 60 = some { k := .int .u16, size := 1, bytes := 2, zero := [.int .u16 0] } := rfl
@[go_sem] theorem tbl_61 : tbl 61 = some { k := .func, size := 1, bytes := 8, zero := [.nilFunc] } := rfl
@[go_sem] theorem tbl_62 : tbl 62 = some { k := .func, size := 1, bytes := 8, zero := [.nilFunc] } := rfl
@[go_sem] theorem tbl_63 : tbl 63 = some { k := .func, size := 1, bytes := 8, zero := [.nilFunc] } := rfl
@[go_sem] theorem tbl_64 : tbl 64 = some { k := .slice 102, size := 1, bytes := 24, zero := [.slice none 0 0] } := rfl
@[go_sem] theorem tbl_65 : tbl 65 = some { k := .slice 54, size := 1, bytes := 24, zero := [.slice none 0 0] } := rfl
@[go_sem] theorem tbl_66 : tbl 66 = some { k := .func, size := 1, bytes := 8, zero := [.nilFunc] } := rfl
@[go_sem] theorem tbl_67 : tbl 67 = some { k := .slice 28, size := 1, bytes := 24, zero := [.slice none 0 0] } := rfl
@[go_sem] theorem tbl_69 : tbl 69 = some { k := .func, size := 1, bytes := 8, zero := [.nilFunc] } := rfl
@[go_sem] theorem tbl_70 : tbl 70 = some { k := .struct [(0, 65)], size := 1, bytes := 24, zero := [.slice none 0 0] } := rfl
@[go_sem] theorem tbl_71 : tbl 71 = some { k := .struct [(0, 65)], size := 1, bytes := 24, zero := [.slice none 0 0] } := rfl
@[go_sem] theorem tbl_72 : tbl 72 = some { k := .func, size := 1, bytes := 8, zero := [.nilFunc] } := rfl
@[go_sem] theorem tbl_73 : tbl 73 = some { k := .func, size := 1, bytes := 8, zero := [.nilFunc] } := rfl
@[go_sem] theorem tbl_74 : tbl 74 = some { k := .func, size := 1, bytes := 8, zero := [.nilFunc] } := rfl
@[go_sem] theorem tbl_75 : tbl 75 = some { k := .func, size := 1, bytes := 8, zero := [.nilFunc] } := rfl
@[go_sem] theorem tbl_76 : tbl 76 = some { k := .func, size := 1, bytes := 8, zero := [.nilFunc] } := rfl
@[go_sem] theorem tbl_77 : tbl 77 = some { k := .struct [(0, 31), (1, 29)], size := 2, bytes := 16, zero := [.int .i64 0, .nilFunc] } := rfl
@[go_sem] theorem tbl_78 : tbl 78 = some { k := .struct [(0, 31), (1, 29)], size := 2, bytes := 16, zero := [.int .i64 0, .nilFunc] } := rfl
@[go_sem] theorem tbl_80 : tbl 80 = some { k := .func, size := 1, bytes := 8, zero := [.nilFunc] } := rfl
@[go_sem] theorem tbl_81 : tbl 81 = some { k := .func, size := 1, bytes := 8, zero := [.nilFunc] } := rfl
@[go_sem] theorem tbl_82 : tbl 82 = some { k := .slice 78, size := 1, bytes := 24, zero := [.slice none 0 0] } := rfl
@[go_sem] theorem tbl_84 : tbl 84 = some { k := .func, size := 1, bytes := 8, zero := [.nilFunc] } := rfl
@[go_sem] theorem tbl_85 : tbl 85 = some { k := .func, size := 1, bytes := 8, zero := [.nilFunc] } := rfl
@[go_sem] theorem tbl_86 : tbl 86 = some { k := .func, size := 1, bytes := 8, zero := [.nilFunc] } := rfl
@[go_sem] theorem tbl_87 : tbl 87 = some { k := .func, size := 1, bytes := 8, zero := [.nilFunc] } := rfl
@[go_sem] theorem tbl_88 : tbl 88 = some { k := .func, size := 1, bytes := 8, zero := [.nilFunc] } := rfl
@[go_sem] theorem tbl_89 : tbl 89 = some { k := .func, size := 1, bytes := 8, zero := [.nilFunc] } := rfl
@[go_sem] theorem tbl_90 : tbl 90 = some { k := .func, size := 1, bytes := 8, zero := [.nilFunc] } := rfl
@[go_sem] theorem tbl_91 : tbl 91 = some { k := .func, size := 1, bytes := 8, zero := [.nilFunc] } := rfl
@[go_sem] theorem tbl_92 : tbl 92 = some { k := .func, size := 1, bytes := 8, zero := [.nilFunc] } := rfl
@[go_sem] theorem tbl_93 : tbl 93 = some { k := .func, size := 1, bytes := 8, zero := [.nilFunc] } := rfl
@[go_sem] theorem tbl_95 : tbl 95 = some { k := .func, size := 1, bytes := 8, zero := [.nilFunc] } := rfl
@[go_sem] theorem tbl_96 : tbl 96 = some { k := .func, size := 1, bytes := 8, zero := [.nilFunc] } := rfl
@[go_sem] theorem tbl_97 : tbl 97 = some { k := .func, size := 1, bytes := 8, zero := [.nilFunc] } := rfl
@[go_sem] theorem tbl_98 : tbl 98 = some { k := .struct [(0, 3), (1, 3), (2, 3), (3, 3), (4, 3)], size := 5, bytes := 40, zero := [.int .i64 0, .int .i64 0, .int .i64 0, .int .i64 0, .int .i64 0], eq := [.int, .int, .int, .int, .int] } := rfl
@[go_sem] theorem tbl_99 : tbl 99 = some { k := .struct [(0, 3), (1, 3), (2, 3), (3, 3), (4, 3)], size := 5, bytes := 40, zero := [.int .i64 0, .int .i64 0, .int .i64 0, .int .i64 0, .int .i64 0], eq := [.int, .int, .int, .int, .int] } := rfl
@[go_sem] theorem tbl_100 : tbl 100 = some { k := .slice 99, size := 1, bytes := 24, zero := [.slice none 0 0] } := rfl
@[go_sem] theorem tbl_101 : tbl 101 = some { k := .struct [(0, 3), (1, 3), (2, 100)], size := 3, bytes := 40, zero := [.int .i64 0, .int .i64 0, .slice none 0 0] } := rfl
@[go_sem] theorem tbl_102 : tbl 102 = some { k := .struct [(0, 3), (1, 3), (2, 100)], size := 3, bytes := 40, zero := [.int .i64 0, .int .i64 0, .slice none 0 0] } := rfl
@[go_sem] theorem tbl_103 : tbl 103 = some { k := .func, size := 1, bytes := 8, zero := [.nilFunc] } := rfl
@[go_sem] theorem tbl_104 : tbl 104 = some { k := .struct [(0, 3), (1, 3), (2, 3), (3, 52)], size := 4, bytes := 32, zero := [.int .i64 0, .int .i64 0, .int .i64 0, .int .u64 0], eq := [.int, .int, .int, .int] } := rfl
@[go_sem] theorem tbl_105 : tbl 105 = some { k := .struct [(0, 3), (1, 3), (2, 3), (3, 52)], size := 4, bytes := 32, zero := [.int .i64 0, .int .i64 0, .int .i64 0, .int .u64 0], eq := [.int, .int, .int, .int] } := rfl
@[go_sem] theorem tbl_106 : tbl 106 = some { k := .func, size := 1, bytes := 8, zero := [.nilFunc] } := rfl
@[go_sem] theorem tbl_107 : tbl 107 = some { k := .int .u64, size := 1, bytes := 8, zero := [.int .u64 0] } := rfl
@[go_sem] theorem tbl_108 : tbl 108 = some { k := .func, size := 1, bytes := 8, zero := [.nilFunc] } := rfl
@[go_sem] theorem tbl_109 : tbl 109 = some { k := .func, size := 1, bytes := 8, zero := [.nilFunc] } := rfl
@[go_sem] theorem tbl_111 : tbl 111 = some { k := .func, size := 1, bytes := 8, zero := [.nilFunc] } := rfl
@[go_sem] theorem tbl_112 : tbl 112 = some { k := .struct [(0, 3), (1, 3)], size := 2, bytes := 16, zero := [.int .i64 0, .int .i64 0], eq := [.int, .int] } := rfl
@[go_sem] theorem tbl_113 : tbl 113 = some { k := .struct [(0, 3), (1, 3)], size := 2, bytes := 16, zero := [.int .i64 0, .int .i64 0], eq := [.int, .int] } := rfl
@[go_sem] theorem tbl_114 : tbl 114 = some { k := .func, size := 1, bytes := 8, zero := [.nilFunc] } := rfl
@[go_sem] theorem tbl_115 : tbl 115 = some { k := .func, size := 1, bytes := 8, zero := [.nilFunc] } := rfl
@[go_sem] theorem tbl_117 : tbl 117 = some { k := .func, size := 1, bytes := 8, zero := [.nilFunc] } := rfl
@[go_sem] theorem tbl_119 : tbl 119 = some { k := .func, size := 1, bytes := 8, zero := [.nilFunc] } := rfl
@[go_sem] theorem tbl_120 : tbl 120 = some { k := .func, size := 1, bytes := 8, zero := [.nilFunc] } := rfl
@[go_sem] theorem tbl_121 : tbl 121 = some { k := .func, size := 1, bytes := 8, zero := [.nilFunc] } := rfl
@[go_sem] theorem tbl_122 : tbl 122 = some { k := .func, size := 1, bytes := 8, zero := [.nilFunc] } := rfl
@[go_sem] theorem tbl_123 : tbl 123 = some { k := .func, size := 1, bytes := 8, zero := [.nilFunc] } := rfl
@[go_sem] theorem tbl_124 : tbl 124 = some { k := .func, size := 1, bytes := 8, zero := [.nilFunc] } := rfl
@[go_sem] theorem tbl_125 : tbl 125 = some { k := .func, size := 1, bytes := 8, zero := [.nilFunc] } := rfl
@[go_sem] theorem tbl_126 : tbl 126 = some { k := .func, size := 1, bytes := 8, zero := [.nilFunc] } := rfl
@[go_sem] theorem tbl_127 : tbl 127 = some { k := .slice 5, size := 1, bytes := 24, zero := [.slice none 0 0] } := rfl
@[go_sem] theorem tbl_129 : tbl 129 = some { k := .func, size := 1, bytes := 8, zero := [.nilFunc] } := rfl
@[go_sem] theorem tbl_130 : tbl 130 = some { k := .func, size := 1, bytes := 8, zero := [.nilFunc] } := rfl
@[go_sem] theorem tbl_131 : tbl 131 = some { k := .func, size := 1, bytes := 8, zero := [.nilFunc] } := rfl
@[go_sem] theorem tbl_132 : tbl 132 = some { k := .func, size := 1, bytes := 8, zero := [.nilFunc] } := rfl
@[go_sem] theorem tbl_133 : tbl 133 = some { k := .func, size := 1, bytes := 8, zero := [.nilFunc] } := rfl
@[go_sem] theorem tbl_134 : tbl 134 = some { k := .func, size := 1, bytes := 8, zero := [.nilFunc] } := rfl
@[go_sem] theorem tbl_135 : tbl 135 = some { k := .func, size := 1, bytes := 8, zero := [.nilFunc] } := rfl
@[go_sem] theorem tbl_136 : tbl 136 = some { k := .func, size := 1, bytes := 8, zero := [.nilFunc] } := rfl
@[go_sem] theorem tbl_137 : tbl 137 = some { k := .func, size := 1, bytes := 8, zero := [.nilFunc] } := rfl
@[go_sem] theorem tbl_138 : tbl 138 = some { k := .func, size := 1, bytes := 8, zero := [.nilFunc] } := rfl
@[go_sem] theorem tbl_139 : tbl 139 = some { k := .func, size := 1, bytes := 8, zero := [.nilFunc] } := rfl
@[go_sem] theorem tbl_140 : tbl 140 = some { k := .func, size := 1, bytes := 8, zero := [.nilFunc] } := rfl
@[go_sem] theorem tbl_141 : tbl 141 = some { k := .func, size := 1, bytes := 8, zero := [.nilFunc] } := rfl
@[go_sem] theorem tbl_142 : tbl 142 = some { k := .ptr 3, size := 1, bytes := 8, zero := [.pointer none] } := rfl
@[go_sem] theorem tbl_143 : tbl 143 = some { k := .func, size := 1, bytes := 8, zero := [.nilFunc] } := rfl
@[go_sem] theorem tbl_144 : tbl 144 = some { k := .func, size := 1, bytes := 8, zero := [.nilFunc] } := rfl
@[go_sem] theorem tbl_145 : tbl 145 = some { k := .func, size := 1, bytes := 8, zero := [.nilFunc] } := rfl
@[go_sem] theorem tbl_146 : tbl 146 = some { k := .func, size := 1, bytes := 8, zero := [.nilFunc] } := rfl
@[go_sem] theorem tbl_147 : tbl 147 = some { k := .func, size := 1, bytes := 8, zero := [.nilFunc] } := rfl
@[go_sem] theorem tbl_148 : tbl 148 = some { k := .struct [(0, 3), (1, 3)], size := 2, bytes := 16, zero := [.int .i64 0, .int .i64 0], eq := [.int, .int] } := rfl
@[go_sem] theorem tbl_149 : tbl 149 = some { k := .struct [(0, 3), (1, 3)], size := 2, bytes := 16, zero := [.int .i64 0, .int .i64 0], eq := [.int, .int] } := rfl
@[go_sem] theorem tbl_150 : tbl 150 = some { k := .func, size := 1, bytes := 8, zero := [.nilFunc] } := rfl
@[go_sem] theorem tbl_151 : tbl 151 = some { k := .func, size := 1, bytes := 8, zero := [.nilFunc] } := rfl
@[go_sem] theorem tbl_152 : tbl 152 = some { k := .func, size := 1, bytes := 8, zero := [.nilFunc] } := rfl
@[go_sem] theorem tbl_153 : tbl 153 = some { k := .func, size := 1, bytes := 8, zero := [.nilFunc] } := rfl
@[go_sem] theorem tbl_154 : tbl 154 = some { k := .func, size := 1, bytes := 8, zero := [.nilFunc] } := rfl
@[go_sem] theorem tbl_155 : tbl 155 = some { k := .func, size := 1, bytes := 8, zero := [.nilFunc] } := rfl
@[go_sem] theorem tbl_156 : tbl 156 = some { k := .func, size := 1, bytes := 8, zero := [.nilFunc] } := rfl
@[go_sem] theorem tbl_157 : tbl 157 = some { k := .func, size := 1, bytes := 8, zero := [.nilFunc] } := rfl
@[go_sem] theorem tbl_158 : tbl 158 = some { k := .func, size := 1, bytes := 8, zero := [.nilFunc] } := rfl
@[go_sem] theorem tbl_159 : tbl 159 = some { k := .func, size := 1, bytes := 8, zero := [.nilFunc] } := rfl
@[go_sem] theorem tbl_160 : tbl 160 = some { k := .func, size := 1, bytes := 8, zero := [.nilFunc] } := rfl
@[go_sem] theorem tbl_161 : tbl 161 = some { k := .func, size := 1, bytes := 8, zero := [.nilFunc] } := rfl
@[go_sem] theorem tbl_162 : tbl 162 = some { k := .func, size := 1, bytes := 8, zero := [.nilFunc] } := rfl
@[go_sem] theorem tbl_163 : tbl 163 = some { k := .func, size := 1, bytes := 8, zero := [.nilFunc] } := rfl
@[go_sem] theorem tbl_164 : tbl 164 = some { k := .array 24 5, size := 24, bytes := 24, zero := [.int .u8 0, .int .u8 0, .int .u8 0, .int .u8 0, .int .u8 0, .int .u8 0, .int .u8 0, .int .u8 0, .int .u8 0, .int .u8 0, .int .u8 0, .int .u8 0, .int .u8 0, .int .u8 0, .int .u8 0, .int .u8 0, .int .u8 0, .int .u8 0, .int .u8 0, .int .u8 0, .int .u8 0, .int .u8 0, .int .u8 0, .int .u8 0], eq := [.int, .int, .int, .int, .int, .int, .int, .int, .int, .int, .int, .int, .int, .int, .int, .int, .int, .int, .int, .int, .int, .int, .int, .int] } := rfl
@[go_sem] theorem tbl_165 : tbl 165 = some { k := .func, size := 1, bytes := 8, zero := [.nilFunc] } := rfl
@[go_sem] theorem tbl_166 : tbl 166 = some { k := .func, size := 1, bytes := 8, zero := [.nilFunc] } := rfl
@[go_sem] theorem tbl_168 : tbl 168 = some { k := .func, size := 1, bytes := 8, zero := [.nilFunc] } := rfl
@[go_sem] theorem tbl_169 : tbl 169 = some { k := .func, size := 1, bytes := 8, zero := [.nilFunc] } := rfl
@[go_sem] theorem tbl_170 : tbl 170 = some { k := .array 20 52, size := 20, bytes := 160, zero := [.int .u64 0, .int .u64 0, .int .u64 0, .int .u64 0, .int .u64 0, .int .u64 0, .int .u64 0, .int .u64 0, .int .u64 0, .int .u64 0, .int .u64 0, .int .u64 0, .int .u64 0, .int .u64 0, .int .u64 0, .int .u64 0, .int .u64 0, .int .u64 0, .int .u64 0, .int .u64 0], eq := [.int, .int, .int, .int, .int, .int, .int, .int, .int, .int, .int, .int, .int, .int, .int, .int, .int, .int, .int, .int] } := rfl
@[go_sem] theorem tbl_171 : tbl 171 = some { k := .int .u32, size := 1, bytes := 4, zero := [.int .u32 0] } := rfl
@[go_sem] theorem tbl_173 : tbl 173 = some { k := .func, size := 1, bytes := 8, zero := [.nilFunc] } := rfl
@[go_sem] theorem tbl_174 : tbl 174 = some { k := .func, size := 1, bytes := 8, zero := [.nilFunc] } := rfl
@[go_sem] theorem tbl_175 : tbl 175 = some { k := .array 32 5, size := 32, bytes := 32, zero := [.int .u8 0, .int .u8 0, .int .u8 0, .int .u8 0, .int .u8 0, .int .u8 0, .int .u8 0, .int .u8 0, .int .u8 0, .int .u8 0, .int .u8 0, .int .u8 0, .int .u8 0, .int .u8 0, .int .u8 0, .int .u8 0, .int .u8 0, .int .u8 0, .int .u8 0, .int .u8 0, .int .u8 0, .int .u8 0, .int .u8 0, .int .u8 0, .int .u8 0, .int .u8 0, .int .u8 0, .int .u8 0, .int .u8 0, .int .u8 0, .int .u8 0, .int .u8 0], eq := [.int, .int, .int, .int, .int, .int, .int, .int, .int, .int, .int, .int, .int, .int, .int, .int, .int, .int, .int, .int, .int, .int, .int, .int, .int, .int, .int, .int, .int, .int, .int, .int] } := rfl
@[go_sem] theorem tbl_176 : tbl 176 = some { k := .array 64 5, size := 64, bytes := 64, zero := [.int .u8 0, .int .u8 0, .int .u8 0, .int .u8 0, .int .u8 0, .int .u8 0, .int .u8 0, .int .u8 0, .int .u8 0, .int .u8 0, .int .u8 0, .int .u8 0, .int .u8 0, .int .u8 0, .int .u8 0, .int .u8 0, .int .u8 0, .int .u8 0, .int .u8 0, .int .u8 0, .int .u8 0, .int .u8 0, .int .u8 0, .int .u8 0, .int .u8 0, .int .u8 0, .int .u8 0, .int .u8 0, .int .u8 0, .int .u8 0, .int .u8 0, .int .u8 0, .int .u8 0, .int .u8 0, .int .u8 0, .int .u8 0, .int .u8 0, .int .u8 0, .int .u8 0, .int .u8 0, .int .u8 0, .int .u8 0, .int .u8 0, .int .u8 0, .int .u8 0, .int .u8 0, .int .u8 0, .int .u8 0, .int .u8 0, .int .u8 0, .int .u8 0, .int .u8 0, .int .u8 0, .int .u8 0, .int .u8 0, .int .u8 0, .int .u8 0, .int .u8 0, .int .u8 0, .int .u8 0, .int .u8 0, .int .u8 0, .int .u8 0, .int .u8 0], eq := [.int, .int, .int, .int, .int, .int, .int, .int, .int, .int, .int, .int, .int, .int, .int, .int, .int, .int, .int, .int, .int, .int, .int, .int, .int, .int, .int, .int, .int, .int, .int, .int, .int, .int, .int, .int, .int, .int, .int, .int, .int, .int, .int, .int, .int, .int, .int, .int, .int, .int, .int, .int, .int, .int, .int, .int, .int, .int, .int, .int, .int, .int, .int, .int] } := rfl
@[go_sem] theorem tbl_177 : tbl 177 = some { k := .func, size := 1, bytes := 8, zero := [.nilFunc] } := rfl
@[go_sem] theorem tbl_178 : tbl 178 = some { k := .struct [(0, 17), (1, 17), (2, 17), (3, 9)], size := 4, bytes := 40, zero := [.pointer none, .pointer none, .pointer none, .string ByteArray.empty] } := rfl
@[go_sem] theorem tbl_179 : tbl 179 = some { k := .struct [(0, 17), (1, 17), (2, 17), (3, 9)], size := 4, bytes := 40, zero := [.pointer none, .pointer none, .pointer none, .string ByteArray.empty] } := rfl
@[go_sem] theorem tbl_180 : tbl 180 = some { k := .array 0 16, size := 0, bytes := 0, zero := [] } := rfl
@[go_sem] theorem tbl_181 : tbl 181 = some { k := .struct [(0, 180)], size := 0, bytes := 0, zero := [] } := rfl
@[go_sem] theorem tbl_182 : tbl 182 = some { k := .struct [(0, 180)], size := 0, bytes := 0, zero := [] } := rfl
@[go_sem] theorem tbl_183 : tbl 183 = some { k := .func, size := 1, bytes := 8, zero := [.nilFunc] } := rfl
@[go_sem] theorem tbl_184 : tbl 184 = some { k := .int .u8, size := 1, bytes := 1, zero := [.int .u8 0] } := rfl
@[go_sem] theorem tbl_185 : tbl 185 = some { k := .int .u8, size := 1, bytes := 1, zero := [.int .u8 0] } := rfl
@[go_sem] theorem tbl_186 : tbl 186 = some { k := .func, size := 1, bytes := 8, zero := [.nilFunc] } := rfl
@[go_sem] theorem tbl_187 : tbl 187 = some { k := .ptr 5, size := 1, bytes := 8, zero := [.pointer none] } := rfl
@[go_sem] theorem tbl_188 : tbl 188 = some { k := .int .i32, size := 1, bytes := 4, zero := [.int .i32 0] } := rfl
@[go_sem] theorem tbl_189 : tbl 189 = some { k := .int .i32, size := 1, bytes := 4, zero := [.int .i32 0] } := rfl
@[go_sem] theorem tbl_190 : tbl 190 = some { k := .struct [(0, 12), (1, 12), (2, 171), (3, 184), (4, 5), (5, 5), (6, 185), (7, 186), (8, 187), (9, 188), (10, 189)], size := 11, bytes := 48, zero := [.int .u64 0, .int .u64 0, .int .u32 0, .int .u8 0, .int .u8 0, .int .u8 0, .int .u8 0, .nilFunc, .pointer none, .int .i32 0, .int .i32 0] } := rfl
@[go_sem] theorem tbl_191 : tbl 191 = some { k := .struct [(0, 12), (1, 12), (2, 171), (3, 184), (4, 5), (5, 5), (6, 185), (7, 186), (8, 187), (9, 188), (10, 189)], size := 11, bytes := 48, zero := [.int .u64 0, .int .u64 0, .int .u32 0, .int .u8 0, .int .u8 0, .int .u8 0, .int .u8 0, .nilFunc, .pointer none, .int .i32 0, .int .i32 0] } := rfl
@[go_sem] theorem tbl_192 : tbl 192 = some { k := .func, size := 1, bytes := 8, zero := [.nilFunc] } := rfl
set_option maxRecDepth 1000000 in
set_option maxHeartbeats 4000000 in
theorem tblOk : TOk Tryd.prog tbl := by
  intro t i h
  unfold tbl at h
  split at h
  all_goals first | (cases h; done) | (cases h; exact ⟨by kernel_rfl, by kernel_rfl, by kernel_rfl⟩)
end Go.Proofs.YtihnjbnlbedpaaaDoor

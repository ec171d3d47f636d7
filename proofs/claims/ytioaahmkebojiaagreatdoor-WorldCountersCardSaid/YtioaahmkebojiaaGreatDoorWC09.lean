import Derived.Test.YtioaahmkebojiaaGreatDoorWC01
import Derived.Test.YtioaahmkebojiaaGreatDoorProg
import Derived.Test.YtioaahmkebojiaaGreatDoorWC03
namespace Go.Proofs.YtioaahmkebojiaaGreatDoor
set_option maxHeartbeats 4000000
set_option maxRecDepth 100000
@[go_sem] def B1 : TI := ⟨.func, 1, 8, [.nilFunc], []⟩
@[go_sem] def B2 : TI := ⟨.int .i64, 1, 8, [.int .i64 0], []⟩
@[go_sem] def B3 : TI := ⟨.bool, 1, 1, [.bool false], []⟩
@[go_sem] def B4 : TI := ⟨.int .u8, 1, 1, [.int .u8 0], []⟩
@[go_sem] def B5 : TI := ⟨.struct [(0, 2), (1, 3), (2, 4), (3, 6)], 4, 24, [.int .i64 0, .int .i64 0, .bool false, .int .u8 0], []⟩
@[go_sem] def B6 : TI := ⟨.str, 1, 16, [.string ByteArray.empty], []⟩
@[go_sem] def B7 : TI := ⟨.int .u64, 1, 8, [.int .u64 0], []⟩
@[go_sem] def B8 : TI := ⟨.struct [(0, 9), (1, 12)], 2, 24, [.string ByteArray.empty, .int .u64 0], []⟩
@[go_sem] def B9 : TI := ⟨.ptr 510, 1, 8, [.pointer none], []⟩
@[go_sem] def B10 : TI := ⟨.ptr 513, 1, 8, [.pointer none], []⟩
@[go_sem] def B11 : TI := ⟨.ptr 521, 1, 8, [.pointer none], []⟩
@[go_sem] def B12 : TI := ⟨.struct [(0, 17)], 1, 8, [.pointer none], []⟩
@[go_sem] def B13 : TI := ⟨.iface, 1, 16, [.nilIface], []⟩
@[go_sem] def B14 : TI := ⟨.int .i32, 1, 4, [.int .i32 0], []⟩
@[go_sem] def B15 : TI := ⟨.slice 80, 1, 24, [.slice none 0 0], []⟩
@[go_sem] def B16 : TI := ⟨.slice 87, 1, 24, [.slice none 0 0], []⟩
@[go_sem] def B17 : TI := ⟨.slice 103, 1, 24, [.slice none 0 0], []⟩
@[go_sem] def B18 : TI := ⟨.slice 84, 1, 24, [.slice none 0 0], []⟩
@[go_sem] def B19 : TI := ⟨.struct [(0, 22), (1, 23), (2, 24), (3, 25), (4, 3), (5, 3), (6, 3)], 7, 120, [.slice none 0 0, .slice none 0 0, .slice none 0 0, .slice none 0 0, .int .i64 0, .int .i64 0, .int .i64 0], []⟩
@[go_sem] def B20 : TI := ⟨.struct [(0, 3), (1, 3)], 2, 16, [.int .i64 0, .int .i64 0], [.int, .int]⟩
@[go_sem] def B21 : TI := ⟨.struct [(0, 3), (1, 29)], 3, 24, [.int .i64 0, .int .i64 0, .int .i64 0], [.int, .int, .int]⟩
@[go_sem] def B22 : TI := ⟨.struct [(0, 3), (1, 3), (2, 3)], 3, 24, [.int .i64 0, .int .i64 0, .int .i64 0], [.int, .int, .int]⟩
@[go_sem] def B23 : TI := ⟨.slice 77, 1, 24, [.slice none 0 0], []⟩
@[go_sem] def B24 : TI := ⟨.slice 111, 1, 24, [.slice none 0 0], []⟩
@[go_sem] def B25 : TI := ⟨.slice 74, 1, 24, [.slice none 0 0], []⟩
@[go_sem] def B26 : TI := ⟨.slice 155, 1, 24, [.slice none 0 0], []⟩
@[go_sem] def B27 : TI := ⟨.slice 171, 1, 24, [.slice none 0 0], []⟩
@[go_sem] def B28 : TI := ⟨.struct [(0, 3), (1, 37), (2, 38)], 3, 56, [.int .i64 0, .slice none 0 0, .slice none 0 0], []⟩
@[go_sem] def B29 : TI := ⟨.slice 5, 1, 24, [.slice none 0 0], []⟩
@[go_sem] def B30 : TI := ⟨.struct [(0,3),(1,3),(2,3),(3,3),(4,3),(5,4),(6,4),(7,31),(10,33),(13,34),(14,3),(15,3),(16,35),(17,36),(18,40),(21,41)],22,264,[.int .i64 0,.int .i64 0,.int .i64 0,.int .i64 0,.int .i64 0,.bool false,.bool false,.int .i64 0,.int .i64 0,.int .i64 0,.int .i64 0,.int .i64 0,.int .i64 0,.slice none 0 0,.int .i64 0,.int .i64 0,.slice none 0 0,.slice none 0 0,.int .i64 0,.slice none 0 0,.slice none 0 0,.slice none 0 0],[]⟩
@[go_sem] def B31 : TI := ⟨.array 3 3, 3, 24, [.int .i64 0, .int .i64 0, .int .i64 0], [.int, .int, .int]⟩
@[go_sem] def B32 : TI := ⟨.slice 43, 1, 24, [.slice none 0 0], []⟩
@[go_sem] def B33 : TI := ⟨.struct [(0, 27), (7, 3), (8, 47)], 9, 152, [.slice none 0 0, .slice none 0 0, .slice none 0 0, .slice none 0 0, .int .i64 0, .int .i64 0, .int .i64 0, .int .i64 0, .slice none 0 0], []⟩
@[go_sem] def B34 : TI := ⟨.struct [(0, 3), (1, 29), (3, 3), (4, 3), (5, 3), (6, 4), (7, 50), (8, 36)], 9, 88, [.int .i64 0, .int .i64 0, .int .i64 0, .int .i64 0, .int .i64 0, .int .i64 0, .bool false, .int .i64 0, .slice none 0 0], []⟩
@[go_sem] def B35 : TI := ⟨.struct [(0, 3), (1, 3), (2, 3), (3, 3), (4, 3), (5, 35)], 6, 64, [.int .i64 0, .int .i64 0, .int .i64 0, .int .i64 0, .int .i64 0, .slice none 0 0], []⟩
@[go_sem] def B36 : TI := ⟨.slice 3, 1, 24, [.slice none 0 0], []⟩
@[go_sem] def B37 : TI := ⟨.slice 162, 1, 24, [.slice none 0 0], []⟩
@[go_sem] def B38 : TI := ⟨.struct [(0, 75)], 1, 24, [.slice none 0 0], []⟩
@[go_sem] def B39 : TI := ⟨.slice 69, 1, 24, [.slice none 0 0], []⟩
@[go_sem] def B40 : TI := ⟨.struct [(0, 69), (1, 69), (2, 78)], 3, 72, [.slice none 0 0, .slice none 0 0, .slice none 0 0], []⟩
@[go_sem] def B41 : TI := ⟨.slice 105, 1, 24, [.slice none 0 0], []⟩
@[go_sem] def B42 : TI := ⟨.struct [(0, 3), (1, 3), (2, 82)], 3, 40, [.int .i64 0, .int .i64 0, .slice none 0 0], []⟩
@[go_sem] def B43 : TI := ⟨.struct [(0, 3), (1, 3), (2, 61), (4, 61)], 6, 48, [.int .i64 0, .int .i64 0, .int .i64 0, .int .i64 0, .int .i64 0, .int .i64 0], [.int, .int, .int, .int, .int, .int]⟩
@[go_sem] def B44 : TI := ⟨.map 3 92, 1, 8, [.map none], []⟩
@[go_sem] def B45 : TI := ⟨.struct [(0,49),(9,58),(15,43)],37,480,[.slice none 0 0,.slice none 0 0,.slice none 0 0,.slice none 0 0,.int .i64 0,.int .i64 0,.int .i64 0,.int .i64 0,.slice none 0 0,.int .i64 0,.int .i64 0,.int .i64 0,.int .i64 0,.int .i64 0,.slice none 0 0,.int .i64 0,.int .i64 0,.int .i64 0,.int .i64 0,.int .i64 0,.bool false,.bool false,.int .i64 0,.int .i64 0,.int .i64 0,.int .i64 0,.int .i64 0,.int .i64 0,.slice none 0 0,.int .i64 0,.int .i64 0,.slice none 0 0,.slice none 0 0,.int .i64 0,.slice none 0 0,.slice none 0 0,.slice none 0 0],[]⟩
@[go_sem] def B46 : TI := ⟨.struct [(0, 43)], 22, 264, [.int .i64 0, .int .i64 0, .int .i64 0, .int .i64 0, .int .i64 0, .bool false, .bool false, .int .i64 0, .int .i64 0, .int .i64 0, .int .i64 0, .int .i64 0, .int .i64 0, .slice none 0 0, .int .i64 0, .int .i64 0, .slice none 0 0, .slice none 0 0, .int .i64 0, .slice none 0 0, .slice none 0 0, .slice none 0 0], []⟩
@[go_sem] def B47 : TI := ⟨.struct [(0, 3), (1, 3), (2, 3), (3, 3)], 4, 32, [.int .i64 0, .int .i64 0, .int .i64 0, .int .i64 0], [.int, .int, .int, .int]⟩
@[go_sem] def B48 : TI := ⟨.struct [(0, 3), (1, 3), (2, 3), (3, 3), (4, 3)], 5, 40, [.int .i64 0, .int .i64 0, .int .i64 0, .int .i64 0, .int .i64 0], [.int, .int, .int, .int, .int]⟩
@[go_sem] def B49 : TI := ⟨.struct [(0, 3), (1, 4), (2, 3), (3, 3), (4, 29)], 6, 48, [.int .i64 0, .bool false, .int .i64 0, .int .i64 0, .int .i64 0, .int .i64 0], [.int, .bool, .int, .int, .int, .int]⟩
@[go_sem] def B50 : TI := ⟨.slice 117, 1, 24, [.slice none 0 0], []⟩
@[go_sem] def B51 : TI := ⟨.slice 120, 1, 24, [.slice none 0 0], []⟩
@[go_sem] def B52 : TI := ⟨.slice 58, 1, 24, [.slice none 0 0], []⟩
@[go_sem] def B53 : TI := ⟨.struct [(0, 141), (1, 141), (2, 141), (3, 4)], 4, 32, [.int .u64 0, .int .u64 0, .int .u64 0, .bool false], [.int, .int, .int, .bool]⟩
@[go_sem] def B54 : TI := ⟨.struct [(0, 3), (1, 3), (2, 3), (3, 4)], 4, 32, [.int .i64 0, .int .i64 0, .int .i64 0, .bool false], [.int, .int, .int, .bool]⟩
@[go_sem] def B55 : TI := ⟨.struct [(0, 3), (1, 3), (2, 3), (3, 141), (4, 29), (6, 3), (7, 3), (8, 160)], 10, 80, [.int .i64 0, .int .i64 0, .int .i64 0, .int .u64 0, .int .i64 0, .int .i64 0, .int .i64 0, .int .i64 0, .int .i64 0, .int .i64 0], List.replicate 10 (.int)⟩
@[go_sem] def B56 : TI := ⟨.slice 174, 1, 24, [.slice none 0 0], []⟩
@[go_sem] def B57 : TI := ⟨.slice 177, 1, 24, [.slice none 0 0], []⟩
@[go_sem] def B58 : TI := ⟨.struct [(0, 3), (1, 3), (2, 168), (3, 169)], 4, 64, [.int .i64 0, .int .i64 0, .slice none 0 0, .slice none 0 0], []⟩
@[go_sem] def B59 : TI := ⟨.struct [(0, 3), (1, 3), (2, 4)], 3, 24, [.int .i64 0, .int .i64 0, .bool false], [.int, .int, .bool]⟩
@[go_sem] def B60 : TI := ⟨.slice 29, 1, 24, [.slice none 0 0], []⟩
@[go_sem] def B61 : TI := ⟨.map 195 4, 1, 8, [.map none], []⟩
@[go_sem] def B62 : TI := ⟨.array 2 3, 2, 16, [.int .i64 0, .int .i64 0], [.int, .int]⟩
@[go_sem] def B63 : TI := ⟨.struct [(0, 3), (1, 34)], 2, 32, [.int .i64 0, .slice none 0 0], []⟩
@[go_sem] def B64 : TI := ⟨.struct [(0, 3), (1, 3), (2, 141), (3, 3), (4, 3), (5, 69), (6, 75)], 7, 88, [.int .i64 0, .int .i64 0, .int .u64 0, .int .i64 0, .int .i64 0, .slice none 0 0, .slice none 0 0], []⟩
@[go_sem] def B65 : TI := ⟨.struct [(0, 31)], 3, 24, [.int .i64 0, .int .i64 0, .int .i64 0], [.int, .int, .int]⟩
@[go_sem] def B66 : TI := ⟨.slice 345, 1, 24, [.slice none 0 0], []⟩
@[go_sem] def B67 : TI := ⟨.slice 195, 1, 24, [.slice none 0 0], []⟩
@[go_sem] def B68 : TI := ⟨.struct [(0, 9), (1, 3), (2, 3), (3, 3), (4, 3)], 5, 48, [.string ByteArray.empty, .int .i64 0, .int .i64 0, .int .i64 0, .int .i64 0], [.str, .int, .int, .int, .int]⟩
@[go_sem] def B69 : TI := ⟨.map 3 272, 1, 8, [.map none], []⟩
@[go_sem] def B70 : TI := ⟨.struct [(0, 33)], 3, 24, [.int .i64 0, .int .i64 0, .int .i64 0], [.int, .int, .int]⟩
@[go_sem] def B71 : TI := ⟨.struct [(0, 171)], 4, 64, [.int .i64 0, .int .i64 0, .slice none 0 0, .slice none 0 0], []⟩
@[go_sem] def B72 : TI := ⟨.map 3 3, 1, 8, [.map none], []⟩
@[go_sem] def B73 : TI := ⟨.struct [(0, 3), (1, 3), (2, 3), (3, 3), (4, 3), (5, 160)], 7, 56, [.int .i64 0, .int .i64 0, .int .i64 0, .int .i64 0, .int .i64 0, .int .i64 0, .int .i64 0], [.int, .int, .int, .int, .int, .int, .int]⟩
@[go_sem] def B74 : TI := ⟨.array 8 5, 8, 8, [.int .u8 0, .int .u8 0, .int .u8 0, .int .u8 0, .int .u8 0, .int .u8 0, .int .u8 0, .int .u8 0], [.int, .int, .int, .int, .int, .int, .int, .int]⟩
@[go_sem] def B75 : TI := ⟨.slice 41, 1, 24, [.slice none 0 0], []⟩
@[go_sem] def B76 : TI := ⟨.ptr 162, 1, 8, [.pointer none], []⟩
@[go_sem] def B77 : TI := ⟨.struct [(0, 3), (1, 3), (2, 3), (3, 141)], 4, 32, [.int .i64 0, .int .i64 0, .int .i64 0, .int .u64 0], [.int, .int, .int, .int]⟩
@[go_sem] def B78 : TI := ⟨.ptr 402, 1, 8, [.pointer none], []⟩
@[go_sem] def B79 : TI := ⟨.struct [(0, 162), (10, 333)], 12, 96, [.int .i64 0, .int .i64 0, .int .i64 0, .int .u64 0, .int .i64 0, .int .i64 0, .int .i64 0, .int .i64 0, .int .i64 0, .int .i64 0, .int .i64 0, .int .i64 0], List.replicate 12 (.int)⟩
@[go_sem] def B80 : TI := ⟨.ptr 333, 1, 8, [.pointer none], []⟩
@[go_sem] def B81 : TI := ⟨.ptr 3, 1, 8, [.pointer none], []⟩
@[go_sem] def B82 : TI := ⟨.array 11 404, 11, 88, List.replicate 11 (.pointer none), []⟩
@[go_sem] def B83 : TI := ⟨.slice 404, 1, 24, [.slice none 0 0], []⟩
@[go_sem] def B84 : TI := ⟨.map 3 141, 1, 8, [.map none], []⟩
@[go_sem] def B85 : TI := ⟨.ptr 428, 1, 8, [.pointer none], []⟩
@[go_sem] def B86 : TI := ⟨.struct [(0, 69)], 1, 24, [.slice none 0 0], []⟩
@[go_sem] def B87 : TI := ⟨.int .u32, 1, 4, [.int .u32 0], []⟩
@[go_sem] def B88 : TI := ⟨.ptr 456, 1, 8, [.pointer none], []⟩
@[go_sem] def B89 : TI := ⟨.struct [(0, 41), (1, 3)], 2, 32, [.slice none 0 0, .int .i64 0], []⟩
@[go_sem] def B90 : TI := ⟨.ptr 460, 1, 8, [.pointer none], []⟩
@[go_sem] def B91 : TI := ⟨.slice 476, 1, 24, [.slice none 0 0], []⟩
@[go_sem] def B92 : TI := ⟨.array 24 5, 24, 24, List.replicate 24 (.int .u8 0), List.replicate 24 (.int)⟩
@[go_sem] def B93 : TI := ⟨.array 20 141, 20, 160, List.replicate 20 (.int .u64 0), List.replicate 20 (.int)⟩
@[go_sem] def B94 : TI := ⟨.array 65 5, 65, 65, List.replicate 65 (.int .u8 0), []⟩
@[go_sem] def B95 : TI := ⟨.array 32 5, 32, 32, List.replicate 32 (.int .u8 0), List.replicate 32 (.int)⟩
@[go_sem] def B96 : TI := ⟨.array 64 5, 64, 64, List.replicate 64 (.int .u8 0), List.replicate 64 (.int)⟩
@[go_sem] def B97 : TI := ⟨.ptr 554, 1, 8, [.pointer none], []⟩
@[go_sem] def B98 : TI := ⟨.slice 9, 1, 24, [.slice none 0 0], []⟩
@[go_sem] def B99 : TI := ⟨.slice 200, 1, 24, [.slice none 0 0], []⟩
@[go_sem] def yMa : TI := ⟨.array 256 5, 256, 256, List.replicate 256 (.int .u8 0), []⟩
@[go_sem] def yM9 : TI := ⟨.ptr 543, 1, 8, [.pointer none], []⟩
@[go_sem] def yCq : TI := ⟨.struct [(0, 5), (1, 5)], 2, 2, [.int .u8 0, .int .u8 0], [.int, .int]⟩
@[go_sem] def yM8 : TI := ⟨.array 16 538, 32, 32, List.replicate 32 (.int .u8 0), List.replicate 32 (.int)⟩
@[go_sem] def yM7 : TI := ⟨.slice 546, 1, 24, [.slice none 0 0], []⟩
@[go_sem] def yM6 : TI := ⟨.slice 549, 1, 24, [.slice none 0 0], []⟩
@[go_sem] def yCp : TI := ⟨.struct [(0, 540), (1, 541), (2, 3)], 3, 56, [.slice none 0 0, .slice none 0 0, .int .i64 0], []⟩
@[go_sem] def yM5 : TI := ⟨.int .u16, 1, 2, [.int .u16 0], []⟩
@[go_sem] def yCo : TI := ⟨.struct [(0, 544), (1, 544), (2, 544)], 3, 6, [.int .u16 0, .int .u16 0, .int .u16 0], [.int, .int, .int]⟩
@[go_sem] def yCn : TI := ⟨.struct [(0, 443), (1, 443), (2, 443)], 3, 12, [.int .u32 0, .int .u32 0, .int .u32 0], [.int, .int, .int]⟩
@[go_sem] def B110 : TI := ⟨.ptr 546, 1, 8, [.pointer none], []⟩
@[go_sem] def B111 : TI := ⟨.ptr 549, 1, 8, [.pointer none], []⟩
def tbl : TT
 | 1 => some B1
 | 2 => some B2
 | 3 => some B2
 | 4 => some B3
 | 5 => some B4
 | 6 => some B4
 | 7 => some B5
 | 8 => some B5
 | 9 => some B6
 | 10 => some B6
 | 11 => some B6
 | 12 => some B7
 | 13 => some B8
 | 14 => some B8
 | 15 => some B9
 | 16 => some B10
 | 17 => some B11
 | 18 => some B12
 | 19 => some B12
 | 20 => some B13
 | 21 => some B14
 | 22 => some B15
 | 23 => some B16
 | 24 => some B17
 | 25 => some B18
 | 26 => some B19
 | 27 => some B19
 | 28 => some B20
 | 29 => some B20
 | 30 => some B21
 | 31 => some B21
 | 32 => some B22
 | 33 => some B22
 | 34 => some B23
 | 35 => some B24
 | 36 => some B25
 | 37 => some B26
 | 38 => some B27
 | 39 => some B28
 | 40 => some B28
 | 41 => some B29
 | 42 => some B30
 | 43 => some B30
 | 44 => some B31
 | 47 => some B32
 | 48 => some B33
 | 49 => some B33
 | 50 => some B2
 | 53 => some B34
 | 54 => some B34
 | 57 => some B35
 | 58 => some B35
 | 61 => some B20
 | 69 => some B36
 | 73 => some B20
 | 74 => some B20
 | 75 => some B37
 | 76 => some B38
 | 77 => some B38
 | 78 => some B39
 | 79 => some B40
 | 80 => some B40
 | 82 => some B41
 | 83 => some B42
 | 84 => some B42
 | 85 => some B1
 | 86 => some B43
 | 87 => some B43
 | 92 => some B1
 | 93 => some B44
 | 95 => some B45
 | 96 => some B45
 | 97 => some B46
 | 98 => some B46
 | 102 => some B47
 | 103 => some B47
 | 104 => some B48
 | 105 => some B48
 | 110 => some B49
 | 111 => some B49
 | 116 => some B1
 | 117 => some B43
 | 119 => some B1
 | 120 => some B47
 | 121 => some B1
 | 124 => some B50
 | 126 => some B1
 | 130 => some B51
 | 132 => some B1
 | 136 => some B52
 | 138 => some B1
 | 141 => some B7
 | 142 => some B53
 | 143 => some B53
 | 144 => some B1
 | 146 => some B1
 | 154 => some B54
 | 155 => some B54
 | 157 => some B1
 | 159 => some B20
 | 160 => some B20
 | 161 => some B55
 | 162 => some B55
 | 168 => some B56
 | 169 => some B57
 | 170 => some B58
 | 171 => some B58
 | 173 => some B20
 | 174 => some B20
 | 176 => some B59
 | 177 => some B59
 | 180 => some B60
 | 187 => some B1
 | 194 => some B61
 | 195 => some B62
 | 198 => some B35
 | 199 => some B13
 | 200 => some B13
 | 219 => some B1
 | 230 => some B63
 | 231 => some B63
 | 234 => some B64
 | 235 => some B64
 | 246 => some B65
 | 247 => some B65
 | 249 => some B1
 | 250 => some B66
 | 260 => some B1
 | 267 => some B67
 | 269 => some B1
 | 270 => some B1
 | 271 => some B68
 | 272 => some B68
 | 274 => some B69
 | 276 => some B49
 | 278 => some B1
 | 279 => some B70
 | 280 => some B70
 | 284 => some B1
 | 285 => some B1
 | 289 => some B1
 | 290 => some B1
 | 291 => some B71
 | 292 => some B71
 | 293 => some B72
 | 296 => some B1
 | 299 => some B1
 | 311 => some B1
 | 312 => some B1
 | 313 => some B1
 | 316 => some B1
 | 317 => some B1
 | 318 => some B1
 | 325 => some B1
 | 331 => some B1
 | 332 => some B20
 | 333 => some B20
 | 340 => some B1
 | 344 => some B73
 | 345 => some B73
 | 351 => some B20
 | 352 => some B20
 | 353 => some B1
 | 358 => some B1
 | 360 => some B1
 | 362 => some B1
 | 370 => some B7
 | 371 => some B74
 | 374 => some B75
 | 380 => some B1
 | 381 => some B13
 | 382 => some B13
 | 384 => some B1
 | 387 => some B76
 | 388 => some B1
 | 398 => some B77
 | 399 => some B77
 | 400 => some B78
 | 401 => some B79
 | 402 => some B79
 | 403 => some B80
 | 404 => some B81
 | 405 => some B82
 | 407 => some B83
 | 408 => some B1
 | 410 => some B84
 | 413 => some B1
 | 423 => some B1
 | 424 => some B2
 | 426 => some B85
 | 427 => some B86
 | 428 => some B86
 | 436 => some B2
 | 443 => some B87
 | 449 => some B1
 | 454 => some B88
 | 455 => some B89
 | 456 => some B89
 | 457 => some B1
 | 458 => some B1
 | 460 => some B7
 | 469 => some B1
 | 471 => some B1
 | 472 => some B1
 | 473 => some B1
 | 475 => some B20
 | 476 => some B20
 | 478 => some B1
 | 480 => some B90
 | 484 => some B91
 | 486 => some B1
 | 487 => some B1
 | 489 => some B92
 | 495 => some B93
 | 496 => some B94
 | 504 => some B95
 | 505 => some B96
 | 507 => some B97
 | 515 => some B4
 | 523 => some B6
 | 524 => some B2
 | 525 => some B98
 | 526 => some B1
 | 527 => some B1
 | 529 => some B99
 | 530 => some B1
 | 531 => some yMa
 | 536 => some yM9
 | 537 => some yCq
 | 538 => some yCq
 | 539 => some yM8
 | 540 => some yM7
 | 541 => some yM6
 | 542 => some yCp
 | 543 => some yCp
 | 544 => some yM5
 | 545 => some yCo
 | 546 => some yCo
 | 548 => some yCn
 | 549 => some yCn
 | 551 => some B110
 | 552 => some B111
 | _ => none
@[go_sem] theorem tbl_1 : tbl 1 = some B1 := rfl
@[go_sem] theorem tbl_2 : tbl 2 = some B2 := rfl
@[go_sem] theorem zIm : tbl 3 = some B2 := rfl
@[go_sem] theorem yI0 : tbl 4 = some B3 := rfl
@[go_sem] theorem yGx : tbl 5 = some B4 := rfl
@[go_sem] theorem tbl_6 : tbl 6 = some B4 := rfl
@[go_sem] theorem tbl_7 : tbl 7 = some B5 := rfl
@[go_sem] theorem tbl_8 : tbl 8 = some B5 := rfl
@[go_sem] theorem tbl_9 : tbl 9 = some B6 := rfl
@[go_sem] theorem tbl_10 : tbl 10 = some B6 := rfl
@[go_sem] theorem tbl_11 : tbl 11 = some B6 := rfl
@[go_sem] theorem tbl_12 : tbl 12 = some B7 := rfl
@[go_sem] theorem tbl_13 : tbl 13 = some B8 := rfl
@[go_sem] theorem tbl_14 : tbl 14 = some B8 := rfl
@[go_sem] theorem tbl_15 : tbl 15 = some B9 := rfl
@[go_sem] theorem tbl_16 : tbl 16 = some B10 := rfl
@[go_sem] theorem tbl_17 : tbl 17 = some B11 := rfl
@[go_sem] theorem tbl_18 : tbl 18 = some B12 := rfl
@[go_sem] theorem tbl_19 : tbl 19 = some B12 := rfl
@[go_sem] theorem tbl_20 : tbl 20 = some B13 := rfl
@[go_sem] theorem tbl_21 : tbl 21 = some B14 := rfl
@[go_sem] theorem yB1 : tbl 22 = some B15 := rfl
@[go_sem] theorem yB0 : tbl 23 = some B16 := rfl
@[go_sem] theorem yAz : tbl 24 = some B17 := rfl
@[go_sem] theorem yAy : tbl 25 = some B18 := rfl
@[go_sem] theorem tbl_26 : tbl 26 = some B19 := rfl
@[go_sem] theorem yAx : tbl 27 = some B19 := rfl
@[go_sem] theorem tbl_28 : tbl 28 = some B20 := rfl
@[go_sem] theorem yAw : tbl 29 = some B20 := rfl
@[go_sem] theorem tbl_30 : tbl 30 = some B21 := rfl
@[go_sem] theorem yAv : tbl 31 = some B21 := rfl
@[go_sem] theorem tbl_32 : tbl 32 = some B22 := rfl
@[go_sem] theorem yAu : tbl 33 = some B22 := rfl
@[go_sem] theorem yAt : tbl 34 = some B23 := rfl
@[go_sem] theorem yAs : tbl 35 = some B24 := rfl
@[go_sem] theorem yAr : tbl 36 = some B25 := rfl
@[go_sem] theorem yAq : tbl 37 = some B26 := rfl
@[go_sem] theorem yAp : tbl 38 = some B27 := rfl
@[go_sem] theorem tbl_39 : tbl 39 = some B28 := rfl
@[go_sem] theorem yAo : tbl 40 = some B28 := rfl
@[go_sem] theorem yAn : tbl 41 = some B29 := rfl
@[go_sem] theorem tbl_42 : tbl 42 = some B30 := rfl
@[go_sem] theorem yAm : tbl 43 = some B30 := rfl
@[go_sem] theorem yAl : tbl 44 = some B31 := rfl
@[go_sem] theorem tbl_47 : tbl 47 = some B32 := rfl
@[go_sem] theorem tbl_48 : tbl 48 = some B33 := rfl
@[go_sem] theorem tbl_49 : tbl 49 = some B33 := rfl
@[go_sem] theorem tbl_50 : tbl 50 = some B2 := rfl
@[go_sem] theorem tbl_53 : tbl 53 = some B34 := rfl
@[go_sem] theorem tbl_54 : tbl 54 = some B34 := rfl
@[go_sem] theorem tbl_57 : tbl 57 = some B35 := rfl
@[go_sem] theorem tbl_58 : tbl 58 = some B35 := rfl
@[go_sem] theorem yAk : tbl 61 = some B20 := rfl
@[go_sem] theorem yAj : tbl 69 = some B36 := rfl
@[go_sem] theorem tbl_73 : tbl 73 = some B20 := rfl
@[go_sem] theorem yAi : tbl 74 = some B20 := rfl
@[go_sem] theorem tbl_75 : tbl 75 = some B37 := rfl
@[go_sem] theorem tbl_76 : tbl 76 = some B38 := rfl
@[go_sem] theorem yAh : tbl 77 = some B38 := rfl
@[go_sem] theorem yAg : tbl 78 = some B39 := rfl
@[go_sem] theorem tbl_79 : tbl 79 = some B40 := rfl
@[go_sem] theorem zWl : tbl 80 = some B40 := rfl
@[go_sem] theorem yAf : tbl 82 = some B41 := rfl
@[go_sem] theorem tbl_83 : tbl 83 = some B42 := rfl
@[go_sem] theorem zWk : tbl 84 = some B42 := rfl
@[go_sem] theorem tbl_85 : tbl 85 = some B1 := rfl
@[go_sem] theorem tbl_86 : tbl 86 = some B43 := rfl
@[go_sem] theorem zWj : tbl 87 = some B43 := rfl
@[go_sem] theorem tbl_92 : tbl 92 = some B1 := rfl
@[go_sem] theorem tbl_93 : tbl 93 = some B44 := rfl
@[go_sem] theorem tbl_95 : tbl 95 = some B45 := rfl
@[go_sem] theorem tbl_96 : tbl 96 = some B45 := rfl
@[go_sem] theorem tbl_97 : tbl 97 = some B46 := rfl
@[go_sem] theorem tbl_98 : tbl 98 = some B46 := rfl
@[go_sem] theorem yKq : tbl 102 = some B47 := rfl
@[go_sem] theorem zQi : tbl 103 = some B47 := rfl
@[go_sem] theorem yKp : tbl 104 = some B48 := rfl
@[go_sem] theorem zXh : tbl 105 = some B48 := rfl
@[go_sem] theorem yKo : tbl 110 = some B49 := rfl
@[go_sem] theorem zXg : tbl 111 = some B49 := rfl
@[go_sem] theorem yKn : tbl 116 = some B1 := rfl
@[go_sem] theorem yKm : tbl 117 = some B43 := rfl
@[go_sem] theorem yKl : tbl 119 = some B1 := rfl
@[go_sem] theorem yKk : tbl 120 = some B47 := rfl
@[go_sem] theorem yKj : tbl 121 = some B1 := rfl
@[go_sem] theorem yKi : tbl 124 = some B50 := rfl
@[go_sem] theorem yKh : tbl 126 = some B1 := rfl
@[go_sem] theorem yKg : tbl 130 = some B51 := rfl
@[go_sem] theorem yKf : tbl 132 = some B1 := rfl
@[go_sem] theorem yKe : tbl 136 = some B52 := rfl
@[go_sem] theorem yKd : tbl 138 = some B1 := rfl
@[go_sem] theorem yKc : tbl 141 = some B7 := rfl
@[go_sem] theorem yKb : tbl 142 = some B53 := rfl
@[go_sem] theorem yKa : tbl 143 = some B53 := rfl
@[go_sem] theorem yK9 : tbl 144 = some B1 := rfl
@[go_sem] theorem yK8 : tbl 146 = some B1 := rfl
@[go_sem] theorem yK7 : tbl 154 = some B54 := rfl
@[go_sem] theorem zXf : tbl 155 = some B54 := rfl
@[go_sem] theorem yK6 : tbl 157 = some B1 := rfl
@[go_sem] theorem yK5 : tbl 159 = some B20 := rfl
@[go_sem] theorem yK4 : tbl 160 = some B20 := rfl
@[go_sem] theorem yK3 : tbl 161 = some B55 := rfl
@[go_sem] theorem yK2 : tbl 162 = some B55 := rfl
@[go_sem] theorem yK1 : tbl 168 = some B56 := rfl
@[go_sem] theorem yK0 : tbl 169 = some B57 := rfl
@[go_sem] theorem yJz : tbl 170 = some B58 := rfl
@[go_sem] theorem zXe : tbl 171 = some B58 := rfl
@[go_sem] theorem yJy : tbl 173 = some B20 := rfl
@[go_sem] theorem yJx : tbl 174 = some B20 := rfl
@[go_sem] theorem yJw : tbl 176 = some B59 := rfl
@[go_sem] theorem yJv : tbl 177 = some B59 := rfl
@[go_sem] theorem yJu : tbl 180 = some B60 := rfl
@[go_sem] theorem yJt : tbl 187 = some B1 := rfl
@[go_sem] theorem yJs : tbl 194 = some B61 := rfl
@[go_sem] theorem yJr : tbl 195 = some B62 := rfl
@[go_sem] theorem yJq : tbl 198 = some B35 := rfl
@[go_sem] theorem yJp : tbl 199 = some B13 := rfl
@[go_sem] theorem yJo : tbl 200 = some B13 := rfl
@[go_sem] theorem yJn : tbl 219 = some B1 := rfl
@[go_sem] theorem yJm : tbl 230 = some B63 := rfl
@[go_sem] theorem yJl : tbl 231 = some B63 := rfl
@[go_sem] theorem yJk : tbl 234 = some B64 := rfl
@[go_sem] theorem yJj : tbl 235 = some B64 := rfl
@[go_sem] theorem yJi : tbl 246 = some B65 := rfl
@[go_sem] theorem yJh : tbl 247 = some B65 := rfl
@[go_sem] theorem yJg : tbl 249 = some B1 := rfl
@[go_sem] theorem yJf : tbl 250 = some B66 := rfl
@[go_sem] theorem yJe : tbl 260 = some B1 := rfl
@[go_sem] theorem yJd : tbl 267 = some B67 := rfl
@[go_sem] theorem yJc : tbl 269 = some B1 := rfl
@[go_sem] theorem yJb : tbl 270 = some B1 := rfl
@[go_sem] theorem yJa : tbl 271 = some B68 := rfl
@[go_sem] theorem yJ9 : tbl 272 = some B68 := rfl
@[go_sem] theorem yJ8 : tbl 274 = some B69 := rfl
@[go_sem] theorem yJ7 : tbl 276 = some B49 := rfl
@[go_sem] theorem yJ6 : tbl 278 = some B1 := rfl
@[go_sem] theorem yJ5 : tbl 279 = some B70 := rfl
@[go_sem] theorem yJ4 : tbl 280 = some B70 := rfl
@[go_sem] theorem yJ3 : tbl 284 = some B1 := rfl
@[go_sem] theorem yJ2 : tbl 285 = some B1 := rfl
@[go_sem] theorem yJ1 : tbl 289 = some B1 := rfl
@[go_sem] theorem yJ0 : tbl 290 = some B1 := rfl
@[go_sem] theorem yIz : tbl 291 = some B71 := rfl
@[go_sem] theorem yIy : tbl 292 = some B71 := rfl
@[go_sem] theorem yIx : tbl 293 = some B72 := rfl
@[go_sem] theorem yIw : tbl 296 = some B1 := rfl
@[go_sem] theorem yIv : tbl 299 = some B1 := rfl
@[go_sem] theorem yIu : tbl 311 = some B1 := rfl
@[go_sem] theorem yIt : tbl 312 = some B1 := rfl
@[go_sem] theorem yIs : tbl 313 = some B1 := rfl
@[go_sem] theorem yIr : tbl 316 = some B1 := rfl
@[go_sem] theorem yIq : tbl 317 = some B1 := rfl
@[go_sem] theorem yIp : tbl 318 = some B1 := rfl
@[go_sem] theorem yIo : tbl 325 = some B1 := rfl
@[go_sem] theorem yIn : tbl 331 = some B1 := rfl
@[go_sem] theorem yIm : tbl 332 = some B20 := rfl
@[go_sem] theorem yIl : tbl 333 = some B20 := rfl
@[go_sem] theorem yIk : tbl 340 = some B1 := rfl
@[go_sem] theorem yIj : tbl 344 = some B73 := rfl
@[go_sem] theorem yIi : tbl 345 = some B73 := rfl
@[go_sem] theorem yIh : tbl 351 = some B20 := rfl
@[go_sem] theorem yIg : tbl 352 = some B20 := rfl
@[go_sem] theorem yIf : tbl 353 = some B1 := rfl
@[go_sem] theorem yIe : tbl 358 = some B1 := rfl
@[go_sem] theorem yId : tbl 360 = some B1 := rfl
@[go_sem] theorem yIc : tbl 362 = some B1 := rfl
@[go_sem] theorem yIb : tbl 370 = some B7 := rfl
@[go_sem] theorem yIa : tbl 371 = some B74 := rfl
@[go_sem] theorem yI9 : tbl 374 = some B75 := rfl
@[go_sem] theorem yI8 : tbl 380 = some B1 := rfl
@[go_sem] theorem yI7 : tbl 381 = some B13 := rfl
@[go_sem] theorem yI6 : tbl 382 = some B13 := rfl
@[go_sem] theorem yI5 : tbl 384 = some B1 := rfl
@[go_sem] theorem yI4 : tbl 387 = some B76 := rfl
@[go_sem] theorem yI3 : tbl 388 = some B1 := rfl
@[go_sem] theorem yI2 : tbl 398 = some B77 := rfl
@[go_sem] theorem yI1 : tbl 399 = some B77 := rfl
@[go_sem] theorem yHz : tbl 400 = some B78 := rfl
@[go_sem] theorem yHy : tbl 401 = some B79 := rfl
@[go_sem] theorem yHx : tbl 402 = some B79 := rfl
@[go_sem] theorem yHw : tbl 403 = some B80 := rfl
@[go_sem] theorem yHv : tbl 404 = some B81 := rfl
@[go_sem] theorem yHu : tbl 405 = some B82 := rfl
@[go_sem] theorem yHt : tbl 407 = some B83 := rfl
@[go_sem] theorem yHs : tbl 408 = some B1 := rfl
@[go_sem] theorem yHr : tbl 410 = some B84 := rfl
@[go_sem] theorem yHq : tbl 413 = some B1 := rfl
@[go_sem] theorem yHp : tbl 423 = some B1 := rfl
@[go_sem] theorem yHo : tbl 424 = some B2 := rfl
@[go_sem] theorem yHn : tbl 426 = some B85 := rfl
@[go_sem] theorem yHm : tbl 427 = some B86 := rfl
@[go_sem] theorem yHl : tbl 428 = some B86 := rfl
@[go_sem] theorem yHk : tbl 436 = some B2 := rfl
@[go_sem] theorem yHj : tbl 443 = some B87 := rfl
@[go_sem] theorem yHi : tbl 449 = some B1 := rfl
@[go_sem] theorem yHh : tbl 454 = some B88 := rfl
@[go_sem] theorem yHg : tbl 455 = some B89 := rfl
@[go_sem] theorem yHf : tbl 456 = some B89 := rfl
@[go_sem] theorem yHe : tbl 457 = some B1 := rfl
@[go_sem] theorem yHd : tbl 458 = some B1 := rfl
@[go_sem] theorem yHc : tbl 460 = some B7 := rfl
@[go_sem] theorem yHb : tbl 469 = some B1 := rfl
@[go_sem] theorem yHa : tbl 471 = some B1 := rfl
@[go_sem] theorem yH9 : tbl 472 = some B1 := rfl
@[go_sem] theorem yH8 : tbl 473 = some B1 := rfl
@[go_sem] theorem yH7 : tbl 475 = some B20 := rfl
@[go_sem] theorem yH6 : tbl 476 = some B20 := rfl
@[go_sem] theorem yH5 : tbl 478 = some B1 := rfl
@[go_sem] theorem yH4 : tbl 480 = some B90 := rfl
@[go_sem] theorem yH3 : tbl 484 = some B91 := rfl
@[go_sem] theorem yH2 : tbl 486 = some B1 := rfl
@[go_sem] theorem yH1 : tbl 487 = some B1 := rfl
@[go_sem] theorem yH0 : tbl 489 = some B92 := rfl
@[go_sem] theorem yGz : tbl 495 = some B93 := rfl
@[go_sem] theorem yGy : tbl 496 = some B94 := rfl
@[go_sem] theorem yGw : tbl 504 = some B95 := rfl
@[go_sem] theorem yGv : tbl 505 = some B96 := rfl
@[go_sem] theorem yGu : tbl 507 = some B97 := rfl
@[go_sem] theorem yGt : tbl 515 = some B4 := rfl
@[go_sem] theorem yGs : tbl 523 = some B6 := rfl
@[go_sem] theorem yGr : tbl 524 = some B2 := rfl
@[go_sem] theorem yGq : tbl 525 = some B98 := rfl
@[go_sem] theorem yGp : tbl 526 = some B1 := rfl
@[go_sem] theorem yGo : tbl 527 = some B1 := rfl
@[go_sem] theorem yGn : tbl 529 = some B99 := rfl
@[go_sem] theorem yGm : tbl 530 = some B1 := rfl
@[go_sem] theorem yGl : tbl 531 = some yMa := rfl
@[go_sem] theorem yGk : tbl 536 = some yM9 := rfl
@[go_sem] theorem yGj : tbl 537 = some yCq := rfl
@[go_sem] theorem yGi : tbl 538 = some yCq := rfl
@[go_sem] theorem yGh : tbl 539 = some yM8 := rfl
@[go_sem] theorem yGg : tbl 540 = some yM7 := rfl
@[go_sem] theorem yGf : tbl 541 = some yM6 := rfl
@[go_sem] theorem yGe : tbl 542 = some yCp := rfl
@[go_sem] theorem yGd : tbl 543 = some yCp := rfl
@[go_sem] theorem yGc : tbl 544 = some yM5 := rfl
@[go_sem] theorem yGb : tbl 545 = some yCo := rfl
@[go_sem] theorem yGa : tbl 546 = some yCo := rfl
@[go_sem] theorem yG9 : tbl 548 = some yCn := rfl
@[go_sem] theorem yG8 : tbl 549 = some yCn := rfl
@[go_sem] theorem yG7 : tbl 551 = some B110 := rfl
@[go_sem] theorem yG6 : tbl 552 = some B111 := rfl
set_option maxRecDepth 1000000 in
set_option maxHeartbeats 4000000 in
theorem zW : TOk Tryz.prog tbl := by
 intro t i h
 unfold tbl at h
 split at h
 all_goals first | (cases h; done) | (cases h; exact ⟨by kernel_rfl, by kernel_rfl, by kernel_rfl⟩)
end Go.Proofs.YtioaahmkebojiaaGreatDoor

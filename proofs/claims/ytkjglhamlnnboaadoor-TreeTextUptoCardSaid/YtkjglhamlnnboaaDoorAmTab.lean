/-
  THE ABSTRACT MACHINE: what is told of this program's types. Printed by program.
-/
import Derived.Test.YtkjglhamlnnboaaDoorAmO
import Derived.Test.YtkjglhamlnnboaaDoorProg
import Derived.KernelRfl
set_option linter.unusedVariables false
namespace Go.Proofs.YtkjglhamlnnboaaDoor.Am
open Go

def ti1 : TI := ⟨1, 8, [.p (.v .nilFunc)], [none], .other⟩
def ti2 : TI := ⟨1, 8, [.p (.v (.int .i64 0))], [none], .other⟩
def ti3 : TI := ⟨1, 8, [.p (.v (.int .i64 0))], [none], .other⟩
def ti4 : TI := ⟨1, 1, [.p (.v (.bool false))], [none], .other⟩
def ti5 : TI := ⟨1, 1, [.p (.v (.int .u8 0))], [none], .other⟩
def ti6 : TI := ⟨1, 1, [.p (.v (.int .u8 0))], [none], .other⟩
def ti7 : TI := ⟨4, 24, [.p (.v (.int .i64 0)), .p (.v (.int .i64 0)), .p (.v (.bool false)), .p (.v (.int .u8 0))], [none, none, none, none], .struct [(0, 2), (1, 3), (2, 4), (3, 6)]⟩
def ti8 : TI := ⟨4, 24, [.p (.v (.int .i64 0)), .p (.v (.int .i64 0)), .p (.v (.bool false)), .p (.v (.int .u8 0))], [none, none, none, none], .struct [(0, 2), (1, 3), (2, 4), (3, 6)]⟩
def ti9 : TI := ⟨1, 16, [.p (.v (.string ByteArray.empty))], [none], .string⟩
def ti10 : TI := ⟨1, 16, [.p (.v (.string ByteArray.empty))], [none], .string⟩
def ti11 : TI := ⟨1, 16, [.p (.v (.string ByteArray.empty))], [none], .string⟩
def ti12 : TI := ⟨1, 8, [.p (.v (.int .u64 0))], [none], .other⟩
def ti13 : TI := ⟨2, 24, [.p (.v (.string ByteArray.empty)), .p (.v (.int .u64 0))], [none, none], .struct [(0, 9), (1, 12)]⟩
def ti14 : TI := ⟨2, 24, [.p (.v (.string ByteArray.empty)), .p (.v (.int .u64 0))], [none, none], .struct [(0, 9), (1, 12)]⟩
def ti15 : TI := ⟨1, 8, [.p (.v (.pointer none))], [none], .other⟩
def ti16 : TI := ⟨1, 8, [.p (.v (.pointer none))], [none], .other⟩
def ti17 : TI := ⟨1, 8, [.p (.v (.pointer none))], [none], .other⟩
def ti18 : TI := ⟨1, 8, [.p (.v (.pointer none))], [none], .struct [(0, 17)]⟩
def ti19 : TI := ⟨1, 8, [.p (.v (.pointer none))], [none], .struct [(0, 17)]⟩
def ti20 : TI := ⟨1, 16, [.p (.v .nilIface)], [none], .other⟩
def ti21 : TI := ⟨1, 4, [.p (.v (.int .i32 0))], [none], .other⟩
def ti22 : TI := ⟨1, 8, [.p (.v .nilFunc)], [none], .other⟩
def ti23 : TI := ⟨1, 8, [.p (.v (.int .i64 0))], [none], .other⟩
def ti24 : TI := ⟨6, 64, [.p (.v (.bool false)), .p (.v (.int .i64 0)), .p (.v (.string ByteArray.empty)), .p (.v (.int .i64 0)), .p (.v (.string ByteArray.empty)), .p (.v (.int .i64 0))], [none, none, none, none, none, none], .struct [(0, 4), (1, 23), (2, 9), (3, 3), (4, 9), (5, 3)]⟩
def ti25 : TI := ⟨6, 64, [.p (.v (.bool false)), .p (.v (.int .i64 0)), .p (.v (.string ByteArray.empty)), .p (.v (.int .i64 0)), .p (.v (.string ByteArray.empty)), .p (.v (.int .i64 0))], [none, none, none, none, none, none], .struct [(0, 4), (1, 23), (2, 9), (3, 3), (4, 9), (5, 3)]⟩
def ti26 : TI := ⟨1, 8, [.p (.v (.int .i64 0))], [none], .other⟩
def ti27 : TI := ⟨1, 8, [.p (.v (.int .i64 0))], [none], .other⟩
def ti28 : TI := ⟨1, 8, [.p (.v (.int .u64 0))], [none], .other⟩
def ti29 : TI := ⟨1, 24, [.nilS], [some (31, 6)], .slice 31⟩
def ti30 : TI := ⟨6, 72, [.p (.v (.int .i64 0)), .p (.v (.int .i64 0)), .p (.v (.string ByteArray.empty)), .p (.v (.int .u64 0)), .nilS, .p (.v (.int .i64 0))], [none, none, none, none, some (31, 6), none], .struct [(0, 26), (1, 27), (2, 9), (3, 28), (4, 29), (5, 3)]⟩
def ti31 : TI := ⟨6, 72, [.p (.v (.int .i64 0)), .p (.v (.int .i64 0)), .p (.v (.string ByteArray.empty)), .p (.v (.int .u64 0)), .nilS, .p (.v (.int .i64 0))], [none, none, none, none, some (31, 6), none], .struct [(0, 26), (1, 27), (2, 9), (3, 28), (4, 29), (5, 3)]⟩
def ti32 : TI := ⟨1, 8, [.p (.v (.int .i64 0))], [none], .other⟩
def ti33 : TI := ⟨1, 24, [.nilS], [some (35, 7)], .slice 35⟩
def ti34 : TI := ⟨7, 112, [.p (.v (.int .i64 0)), .p (.v (.string ByteArray.empty)), .nilS, .p (.v (.int .i64 0)), .nilS, .nilS, .p (.v (.int .i64 0))], [none, none, some (31, 6), none, some (35, 7), some (35, 7), none], .struct [(0, 32), (1, 9), (2, 29), (3, 3), (4, 33), (5, 33), (6, 3)]⟩
def ti35 : TI := ⟨7, 112, [.p (.v (.int .i64 0)), .p (.v (.string ByteArray.empty)), .nilS, .p (.v (.int .i64 0)), .nilS, .nilS, .p (.v (.int .i64 0))], [none, none, some (31, 6), none, some (35, 7), some (35, 7), none], .struct [(0, 32), (1, 9), (2, 29), (3, 3), (4, 33), (5, 33), (6, 3)]⟩
def ti36 : TI := ⟨1, 24, [.nilS], [some (25, 6)], .slice 25⟩
def ti37 : TI := ⟨1, 24, [.nilS], [some (33, 1)], .slice 33⟩
def ti38 : TI := ⟨2, 48, [.nilS, .nilS], [some (25, 6), some (33, 1)], .struct [(0, 36), (1, 37)]⟩
def ti39 : TI := ⟨2, 48, [.nilS, .nilS], [some (25, 6), some (33, 1)], .struct [(0, 36), (1, 37)]⟩
def ti40 : TI := ⟨1, 8, [.p (.v .nilFunc)], [none], .other⟩
def ti41 : TI := ⟨1, 24, [.nilS], [some (9, 1)], .slice 9⟩
def ti42 : TI := ⟨1, 8, [.p (.v .nilFunc)], [none], .other⟩
def ti43 : TI := ⟨1, 8, [.p (.v .nilFunc)], [none], .other⟩
def ti44 : TI := ⟨1, 24, [.nilS], [some (5, 1)], .slice 5⟩
def ti45 : TI := ⟨1, 8, [.p (.v .nilFunc)], [none], .other⟩
def ti46 : TI := ⟨1, 8, [.p (.v .nilFunc)], [none], .other⟩
def ti47 : TI := ⟨1, 8, [.p (.v .nilFunc)], [none], .other⟩
def ti48 : TI := ⟨1, 8, [.p (.v (.pointer none))], [none], .other⟩
def ti49 : TI := ⟨2, 32, [.p (.v (.pointer none)), .nilS], [none, some (5, 1)], .struct [(0, 48), (1, 44)]⟩
def ti50 : TI := ⟨2, 32, [.p (.v (.pointer none)), .nilS], [none, some (5, 1)], .struct [(0, 48), (1, 44)]⟩
def ti51 : TI := ⟨2, 32, [.p (.v (.pointer none)), .nilS], [none, some (5, 1)], .struct [(0, 50)]⟩
def ti52 : TI := ⟨2, 32, [.p (.v (.pointer none)), .nilS], [none, some (5, 1)], .struct [(0, 50)]⟩
def ti53 : TI := ⟨1, 8, [.p (.v .nilFunc)], [none], .other⟩
def ti54 : TI := ⟨1, 8, [.p (.v .nilFunc)], [none], .other⟩
def ti55 : TI := ⟨1, 8, [.p (.v .nilFunc)], [none], .other⟩
def ti56 : TI := ⟨1, 8, [.p (.v .nilFunc)], [none], .other⟩
def ti57 : TI := ⟨1, 8, [.p (.v (.pointer none))], [none], .other⟩
def ti58 : TI := ⟨1, 24, [.nilS], [some (4, 1)], .slice 4⟩
def ti59 : TI := ⟨1, 24, [.nilS], [some (3, 1)], .slice 3⟩
def ti60 : TI := ⟨7, 120, [.nilS, .nilS, .nilS, .nilS, .p (.v (.bool false)), .p (.v (.int .i64 0)), .p (.v (.int .i64 0))], [some (5, 1), some (9, 1), some (4, 1), some (3, 1), none, none, none], .struct [(0, 44), (1, 41), (2, 58), (3, 59), (4, 4), (5, 3), (6, 3)]⟩
def ti61 : TI := ⟨7, 120, [.nilS, .nilS, .nilS, .nilS, .p (.v (.bool false)), .p (.v (.int .i64 0)), .p (.v (.int .i64 0))], [some (5, 1), some (9, 1), some (4, 1), some (3, 1), none, none, none], .struct [(0, 44), (1, 41), (2, 58), (3, 59), (4, 4), (5, 3), (6, 3)]⟩
def ti62 : TI := ⟨1, 8, [.p (.v .nilFunc)], [none], .other⟩
def ti63 : TI := ⟨1, 8, [.p (.v .nilFunc)], [none], .other⟩
def ti64 : TI := ⟨1, 8, [.p (.v .nilFunc)], [none], .other⟩
def ti65 : TI := ⟨1, 8, [.p (.v .nilFunc)], [none], .other⟩
def ti66 : TI := ⟨1, 8, [.p (.v .nilFunc)], [none], .other⟩
def ti67 : TI := ⟨1, 8, [.p (.v .nilFunc)], [none], .other⟩
def ti68 : TI := ⟨1, 8, [.p (.v (.pointer none))], [none], .other⟩
def ti69 : TI := ⟨1, 16, [.p (.v .nilIface)], [none], .other⟩
def ti70 : TI := ⟨1, 16, [.p (.v .nilIface)], [none], .other⟩
def ti72 : TI := ⟨1, 8, [.p (.v .nilFunc)], [none], .other⟩
def ti73 : TI := ⟨1, 8, [.p (.v .nilFunc)], [none], .other⟩
def ti74 : TI := ⟨1, 8, [.p (.v .nilFunc)], [none], .other⟩
def ti75 : TI := ⟨1, 8, [.p (.v .nilFunc)], [none], .other⟩
def ti76 : TI := ⟨1, 8, [.p (.v (.pointer none))], [none], .other⟩
def ti77 : TI := ⟨1, 8, [.p (.v (.int .u64 0))], [none], .other⟩
def ti79 : TI := ⟨1, 8, [.p (.v .nilFunc)], [none], .other⟩
def ti80 : TI := ⟨1, 8, [.p (.v .nilFunc)], [none], .other⟩
def ti81 : TI := ⟨1, 8, [.p (.v .nilFunc)], [none], .other⟩
def ti82 : TI := ⟨1, 8, [.p (.v .nilFunc)], [none], .other⟩
def ti83 : TI := ⟨1, 8, [.p (.v .nilFunc)], [none], .other⟩
def ti84 : TI := ⟨1, 8, [.p (.v .nilFunc)], [none], .other⟩
def ti85 : TI := ⟨1, 8, [.p (.v .nilFunc)], [none], .other⟩
def ti86 : TI := ⟨1, 8, [.p (.v .nilFunc)], [none], .other⟩
def ti88 : TI := ⟨1, 8, [.p (.v .nilFunc)], [none], .other⟩
def ti89 : TI := ⟨24, 24, [.p (.v (.int .u8 0)), .p (.v (.int .u8 0)), .p (.v (.int .u8 0)), .p (.v (.int .u8 0)), .p (.v (.int .u8 0)), .p (.v (.int .u8 0)), .p (.v (.int .u8 0)), .p (.v (.int .u8 0)), .p (.v (.int .u8 0)), .p (.v (.int .u8 0)), .p (.v (.int .u8 0)), .p (.v (.int .u8 0)), .p (.v (.int .u8 0)), .p (.v (.int .u8 0)), .p (.v (.int .u8 0)), .p (.v (.int .u8 0)), .p (.v (.int .u8 0)), .p (.v (.int .u8 0)), .p (.v (.int .u8 0)), .p (.v (.int .u8 0)), .p (.v (.int .u8 0)), .p (.v (.int .u8 0)), .p (.v (.int .u8 0)), .p (.v (.int .u8 0))], [none, none, none, none, none, none, none, none, none, none, none, none, none, none, none, none, none, none, none, none, none, none, none, none], .array 24 5⟩
def ti90 : TI := ⟨1, 8, [.p (.v .nilFunc)], [none], .other⟩
def ti91 : TI := ⟨1, 8, [.p (.v .nilFunc)], [none], .other⟩
def ti93 : TI := ⟨1, 8, [.p (.v .nilFunc)], [none], .other⟩
def ti94 : TI := ⟨1, 8, [.p (.v (.pointer none))], [none], .other⟩
def ti95 : TI := ⟨1, 8, [.p (.v .nilFunc)], [none], .other⟩
def ti96 : TI := ⟨1, 4, [.p (.v (.int .u32 0))], [none], .other⟩
def ti98 : TI := ⟨1, 8, [.p (.v .nilFunc)], [none], .other⟩
def ti100 : TI := ⟨1, 8, [.p (.v .nilFunc)], [none], .other⟩
def ti101 : TI := ⟨1, 8, [.p (.v .nilFunc)], [none], .other⟩
def ti102 : TI := ⟨1, 8, [.p (.v .nilFunc)], [none], .other⟩
def ti103 : TI := ⟨1, 8, [.p (.v .nilFunc)], [none], .other⟩
def ti104 : TI := ⟨20, 160, [.p (.v (.int .u64 0)), .p (.v (.int .u64 0)), .p (.v (.int .u64 0)), .p (.v (.int .u64 0)), .p (.v (.int .u64 0)), .p (.v (.int .u64 0)), .p (.v (.int .u64 0)), .p (.v (.int .u64 0)), .p (.v (.int .u64 0)), .p (.v (.int .u64 0)), .p (.v (.int .u64 0)), .p (.v (.int .u64 0)), .p (.v (.int .u64 0)), .p (.v (.int .u64 0)), .p (.v (.int .u64 0)), .p (.v (.int .u64 0)), .p (.v (.int .u64 0)), .p (.v (.int .u64 0)), .p (.v (.int .u64 0)), .p (.v (.int .u64 0))], [none, none, none, none, none, none, none, none, none, none, none, none, none, none, none, none, none, none, none, none], .array 20 28⟩
def ti106 : TI := ⟨1, 8, [.p (.v .nilFunc)], [none], .other⟩
def ti107 : TI := ⟨1, 8, [.p (.v .nilFunc)], [none], .other⟩
def ti108 : TI := ⟨1, 8, [.p (.v .nilFunc)], [none], .other⟩
def ti109 : TI := ⟨1, 8, [.p (.v .nilFunc)], [none], .other⟩
def ti110 : TI := ⟨32, 32, [.p (.v (.int .u8 0)), .p (.v (.int .u8 0)), .p (.v (.int .u8 0)), .p (.v (.int .u8 0)), .p (.v (.int .u8 0)), .p (.v (.int .u8 0)), .p (.v (.int .u8 0)), .p (.v (.int .u8 0)), .p (.v (.int .u8 0)), .p (.v (.int .u8 0)), .p (.v (.int .u8 0)), .p (.v (.int .u8 0)), .p (.v (.int .u8 0)), .p (.v (.int .u8 0)), .p (.v (.int .u8 0)), .p (.v (.int .u8 0)), .p (.v (.int .u8 0)), .p (.v (.int .u8 0)), .p (.v (.int .u8 0)), .p (.v (.int .u8 0)), .p (.v (.int .u8 0)), .p (.v (.int .u8 0)), .p (.v (.int .u8 0)), .p (.v (.int .u8 0)), .p (.v (.int .u8 0)), .p (.v (.int .u8 0)), .p (.v (.int .u8 0)), .p (.v (.int .u8 0)), .p (.v (.int .u8 0)), .p (.v (.int .u8 0)), .p (.v (.int .u8 0)), .p (.v (.int .u8 0))], [none, none, none, none, none, none, none, none, none, none, none, none, none, none, none, none, none, none, none, none, none, none, none, none, none, none, none, none, none, none, none, none], .array 32 5⟩
def ti112 : TI := ⟨4, 40, [.p (.v (.pointer none)), .p (.v (.pointer none)), .p (.v (.pointer none)), .p (.v (.string ByteArray.empty))], [none, none, none, none], .struct [(0, 17), (1, 17), (2, 17), (3, 9)]⟩
def ti113 : TI := ⟨4, 40, [.p (.v (.pointer none)), .p (.v (.pointer none)), .p (.v (.pointer none)), .p (.v (.string ByteArray.empty))], [none, none, none, none], .struct [(0, 17), (1, 17), (2, 17), (3, 9)]⟩
def ti114 : TI := ⟨0, 0, [], [], .array 0 16⟩
def ti117 : TI := ⟨1, 1, [.p (.v (.int .u8 0))], [none], .other⟩
def ti118 : TI := ⟨1, 1, [.p (.v (.int .u8 0))], [none], .other⟩
def ti119 : TI := ⟨1, 8, [.p (.v .nilFunc)], [none], .other⟩
def ti120 : TI := ⟨1, 4, [.p (.v (.int .i32 0))], [none], .other⟩
def ti121 : TI := ⟨1, 4, [.p (.v (.int .i32 0))], [none], .other⟩
def ti122 : TI := ⟨11, 48, [.p (.v (.int .u64 0)), .p (.v (.int .u64 0)), .p (.v (.int .u32 0)), .p (.v (.int .u8 0)), .p (.v (.int .u8 0)), .p (.v (.int .u8 0)), .p (.v (.int .u8 0)), .p (.v .nilFunc), .p (.v (.pointer none)), .p (.v (.int .i32 0)), .p (.v (.int .i32 0))], [none, none, none, none, none, none, none, none, none, none, none], .struct [(0, 12), (1, 12), (2, 96), (3, 117), (4, 5), (5, 5), (6, 118), (7, 119), (8, 76), (9, 120), (10, 121)]⟩
def ti123 : TI := ⟨11, 48, [.p (.v (.int .u64 0)), .p (.v (.int .u64 0)), .p (.v (.int .u32 0)), .p (.v (.int .u8 0)), .p (.v (.int .u8 0)), .p (.v (.int .u8 0)), .p (.v (.int .u8 0)), .p (.v .nilFunc), .p (.v (.pointer none)), .p (.v (.int .i32 0)), .p (.v (.int .i32 0))], [none, none, none, none, none, none, none, none, none, none, none], .struct [(0, 12), (1, 12), (2, 96), (3, 117), (4, 5), (5, 5), (6, 118), (7, 119), (8, 76), (9, 120), (10, 121)]⟩

def tab : Tab := fun t => match t with
  | 1 => some ti1
  | 2 => some ti2
  | 3 => some ti3
  | 4 => some ti4
  | 5 => some ti5
  | 6 => some ti6
  | 7 => some ti7
  | 8 => some ti8
  | 9 => some ti9
  | 10 => some ti10
  | 11 => some ti11
  | 12 => some ti12
  | 13 => some ti13
  | 14 => some ti14
  | 15 => some ti15
  | 16 => some ti16
  | 17 => some ti17
  | 18 => some ti18
  | 19 => some ti19
  | 20 => some ti20
  | 21 => some ti21
  | 22 => some ti22
  | 23 => some ti23
  | 24 => some ti24
  | 25 => some ti25
  | 26 => some ti26
  | 27 => some ti27
  | 28 => some ti28
  | 29 => some ti29
  | 30 => some ti30
  | 31 => some ti31
  | 32 => some ti32
  | 33 => some ti33
  | 34 => some ti34
  | 35 => some ti35
  | 36 => some ti36
  | 37 => some ti37
  | 38 => some ti38
  | 39 => some ti39
  | 40 => some ti40
  | 41 => some ti41
  | 42 => some ti42
  | 43 => some ti43
  | 44 => some ti44
  | 45 => some ti45
  | 46 => some ti46
  | 47 => some ti47
  | 48 => some ti48
  | 49 => some ti49
  | 50 => some ti50
  | 51 => some ti51
  | 52 => some ti52
  | 53 => some ti53
  | 54 => some ti54
  | 55 => some ti55
  | 56 => some ti56
  | 57 => some ti57
  | 58 => some ti58
  | 59 => some ti59
  | 60 => some ti60
  | 61 => some ti61
  | 62 => some ti62
  | 63 => some ti63
  | 64 => some ti64
  | 65 => some ti65
  | 66 => some ti66
  | 67 => some ti67
  | 68 => some ti68
  | 69 => some ti69
  | 70 => some ti70
  | 72 => some ti72
  | 73 => some ti73
  | 74 => some ti74
  | 75 => some ti75
  | 76 => some ti76
  | 77 => some ti77
  | 79 => some ti79
  | 80 => some ti80
  | 81 => some ti81
  | 82 => some ti82
  | 83 => some ti83
  | 84 => some ti84
  | 85 => some ti85
  | 86 => some ti86
  | 88 => some ti88
  | 89 => some ti89
  | 90 => some ti90
  | 91 => some ti91
  | 93 => some ti93
  | 94 => some ti94
  | 95 => some ti95
  | 96 => some ti96
  | 98 => some ti98
  | 100 => some ti100
  | 101 => some ti101
  | 102 => some ti102
  | 103 => some ti103
  | 104 => some ti104
  | 106 => some ti106
  | 107 => some ti107
  | 108 => some ti108
  | 109 => some ti109
  | 110 => some ti110
  | 112 => some ti112
  | 113 => some ti113
  | 114 => some ti114
  | 117 => some ti117
  | 118 => some ti118
  | 119 => some ti119
  | 120 => some ti120
  | 121 => some ti121
  | 122 => some ti122
  | 123 => some ti123
  | _ => none

theorem tiOk1 : TiOk Proofs.Tryd.prog 1 ti1 := ⟨by kernel_rfl, by kernel_rfl, by kernel_rfl, by kernel_rfl⟩
theorem tiOk2 : TiOk Proofs.Tryd.prog 2 ti2 := ⟨by kernel_rfl, by kernel_rfl, by kernel_rfl, by kernel_rfl⟩
theorem tiOk3 : TiOk Proofs.Tryd.prog 3 ti3 := ⟨by kernel_rfl, by kernel_rfl, by kernel_rfl, by kernel_rfl⟩
theorem tiOk4 : TiOk Proofs.Tryd.prog 4 ti4 := ⟨by kernel_rfl, by kernel_rfl, by kernel_rfl, by kernel_rfl⟩
theorem tiOk5 : TiOk Proofs.Tryd.prog 5 ti5 := ⟨by kernel_rfl, by kernel_rfl, by kernel_rfl, by kernel_rfl⟩
theorem tiOk6 : TiOk Proofs.Tryd.prog 6 ti6 := ⟨by kernel_rfl, by kernel_rfl, by kernel_rfl, by kernel_rfl⟩
theorem tiOk7 : TiOk Proofs.Tryd.prog 7 ti7 := ⟨by kernel_rfl, by kernel_rfl, by kernel_rfl, by kernel_rfl⟩
theorem tiOk8 : TiOk Proofs.Tryd.prog 8 ti8 := ⟨by kernel_rfl, by kernel_rfl, by kernel_rfl, by kernel_rfl⟩
theorem tiOk9 : TiOk Proofs.Tryd.prog 9 ti9 := ⟨by kernel_rfl, by kernel_rfl, by kernel_rfl, by kernel_rfl⟩
theorem tiOk10 : TiOk Proofs.Tryd.prog 10 ti10 := ⟨by kernel_rfl, by kernel_rfl, by kernel_rfl, by kernel_rfl⟩
theorem tiOk11 : TiOk Proofs.Tryd.prog 11 ti11 := ⟨by kernel_rfl, by kernel_rfl, by kernel_rfl, by kernel_rfl⟩
theorem tiOk12 : TiOk Proofs.Tryd.prog 12 ti12 := ⟨by kernel_rfl, by kernel_rfl, by kernel_rfl, by kernel_rfl⟩
theorem tiOk13 : TiOk Proofs.Tryd.prog 13 ti13 := ⟨by kernel_rfl, by kernel_rfl, by kernel_rfl, by kernel_rfl⟩
theorem tiOk14 : TiOk Proofs.Tryd.prog 14 ti14 := ⟨by kernel_rfl, by kernel_rfl, by kernel_rfl, by kernel_rfl⟩
theorem tiOk15 : TiOk Proofs.Tryd.prog 15 ti15 := ⟨by kernel_rfl, by kernel_rfl, by kernel_rfl, by kernel_rfl⟩
theorem tiOk16 : TiOk Proofs.Tryd.prog 16 ti16 := ⟨by kernel_rfl, by kernel_rfl, by kernel_rfl, by kernel_rfl⟩
theorem tiOk17 : TiOk Proofs.Tryd.prog 17 ti17 := ⟨by kernel_rfl, by kernel_rfl, by kernel_rfl, by kernel_rfl⟩
theorem tiOk18 : TiOk Proofs.Tryd.prog 18 ti18 := ⟨by kernel_rfl, by kernel_rfl, by kernel_rfl, by kernel_rfl⟩
theorem tiOk19 : TiOk Proofs.Tryd.prog 19 ti19 := ⟨by kernel_rfl, by kernel_rfl, by kernel_rfl, by kernel_rfl⟩
theorem tiOk20 : TiOk Proofs.Tryd.prog 20 ti20 := ⟨by kernel_rfl, by kernel_rfl, by kernel_rfl, by kernel_rfl⟩
theorem tiOk21 : TiOk Proofs.Tryd.prog 21 ti21 := ⟨by kernel_rfl, by kernel_rfl, by kernel_rfl, by kernel_rfl⟩
theorem tiOk22 : TiOk Proofs.Tryd.prog 22 ti22 := ⟨by kernel_rfl, by kernel_rfl, by kernel_rfl, by kernel_rfl⟩
theorem tiOk23 : TiOk Proofs.Tryd.prog 23 ti23 := ⟨by kernel_rfl, by kernel_rfl, by kernel_rfl, by kernel_rfl⟩
theorem tiOk24 : TiOk Proofs.Tryd.prog 24 ti24 := ⟨by kernel_rfl, by kernel_rfl, by kernel_rfl, by kernel_rfl⟩
theorem tiOk25 : TiOk Proofs.Tryd.prog 25 ti25 := ⟨by kernel_rfl, by kernel_rfl, by kernel_rfl, by kernel_rfl⟩
theorem tiOk26 : TiOk Proofs.Tryd.prog 26 ti26 := ⟨by kernel_rfl, by kernel_rfl, by kernel_rfl, by kernel_rfl⟩
theorem tiOk27 : TiOk Proofs.Tryd.prog 27 ti27 := ⟨by kernel_rfl, by kernel_rfl, by kernel_rfl, by kernel_rfl⟩
theorem tiOk28 : TiOk Proofs.Tryd.prog 28 ti28 := ⟨by kernel_rfl, by kernel_rfl, by kernel_rfl, by kernel_rfl⟩
theorem tiOk29 : TiOk Proofs.Tryd.prog 29 ti29 := ⟨by kernel_rfl, by kernel_rfl, by kernel_rfl, by kernel_rfl⟩
theorem tiOk30 : TiOk Proofs.Tryd.prog 30 ti30 := ⟨by kernel_rfl, by kernel_rfl, by kernel_rfl, by kernel_rfl⟩
theorem tiOk31 : TiOk Proofs.Tryd.prog 31 ti31 := ⟨by kernel_rfl, by kernel_rfl, by kernel_rfl, by kernel_rfl⟩
theorem tiOk32 : TiOk Proofs.Tryd.prog 32 ti32 := ⟨by kernel_rfl, by kernel_rfl, by kernel_rfl, by kernel_rfl⟩
theorem tiOk33 : TiOk Proofs.Tryd.prog 33 ti33 := ⟨by kernel_rfl, by kernel_rfl, by kernel_rfl, by kernel_rfl⟩
theorem tiOk34 : TiOk Proofs.Tryd.prog 34 ti34 := ⟨by kernel_rfl, by kernel_rfl, by kernel_rfl, by kernel_rfl⟩
theorem tiOk35 : TiOk Proofs.Tryd.prog 35 ti35 := ⟨by kernel_rfl, by kernel_rfl, by kernel_rfl, by kernel_rfl⟩
theorem tiOk36 : TiOk Proofs.Tryd.prog 36 ti36 := ⟨by kernel_rfl, by kernel_rfl, by kernel_rfl, by kernel_rfl⟩
theorem tiOk37 : TiOk Proofs.Tryd.prog 37 ti37 := ⟨by kernel_rfl, by kernel_rfl, by kernel_rfl, by kernel_rfl⟩
theorem tiOk38 : TiOk Proofs.Tryd.prog 38 ti38 := ⟨by kernel_rfl, by kernel_rfl, by kernel_rfl, by kernel_rfl⟩
theorem tiOk39 : TiOk Proofs.Tryd.prog 39 ti39 := ⟨by kernel_rfl, by kernel_rfl, by kernel_rfl, by kernel_rfl⟩
theorem tiOk40 : TiOk Proofs.Tryd.prog 40 ti40 := ⟨by kernel_rfl, by kernel_rfl, by kernel_rfl, by kernel_rfl⟩
theorem tiOk41 : TiOk Proofs.Tryd.prog 41 ti41 := ⟨by kernel_rfl, by kernel_rfl, by kernel_rfl, by kernel_rfl⟩
theorem tiOk42 : TiOk Proofs.Tryd.prog 42 ti42 := ⟨by kernel_rfl, by kernel_rfl, by kernel_rfl, by kernel_rfl⟩
theorem tiOk43 : TiOk Proofs.Tryd.prog 43 ti43 := ⟨by kernel_rfl, by kernel_rfl, by kernel_rfl, by kernel_rfl⟩
theorem tiOk44 : TiOk Proofs.Tryd.prog 44 ti44 := ⟨by kernel_rfl, by kernel_rfl, by kernel_rfl, by kernel_rfl⟩
theorem tiOk45 : TiOk Proofs.Tryd.prog 45 ti45 := ⟨by kernel_rfl, by kernel_rfl, by kernel_rfl, by kernel_rfl⟩
theorem tiOk46 : TiOk Proofs.Tryd.prog 46 ti46 := ⟨by kernel_rfl, by kernel_rfl, by kernel_rfl, by kernel_rfl⟩
theorem tiOk47 : TiOk Proofs.Tryd.prog 47 ti47 := ⟨by kernel_rfl, by kernel_rfl, by kernel_rfl, by kernel_rfl⟩
theorem tiOk48 : TiOk Proofs.Tryd.prog 48 ti48 := ⟨by kernel_rfl, by kernel_rfl, by kernel_rfl, by kernel_rfl⟩
theorem tiOk49 : TiOk Proofs.Tryd.prog 49 ti49 := ⟨by kernel_rfl, by kernel_rfl, by kernel_rfl, by kernel_rfl⟩
theorem tiOk50 : TiOk Proofs.Tryd.prog 50 ti50 := ⟨by kernel_rfl, by kernel_rfl, by kernel_rfl, by kernel_rfl⟩
theorem tiOk51 : TiOk Proofs.Tryd.prog 51 ti51 := ⟨by kernel_rfl, by kernel_rfl, by kernel_rfl, by kernel_rfl⟩
theorem tiOk52 : TiOk Proofs.Tryd.prog 52 ti52 := ⟨by kernel_rfl, by kernel_rfl, by kernel_rfl, by kernel_rfl⟩
theorem tiOk53 : TiOk Proofs.Tryd.prog 53 ti53 := ⟨by kernel_rfl, by kernel_rfl, by kernel_rfl, by kernel_rfl⟩
theorem tiOk54 : TiOk Proofs.Tryd.prog 54 ti54 := ⟨by kernel_rfl, by kernel_rfl, by kernel_rfl, by kernel_rfl⟩
theorem tiOk55 : TiOk Proofs.Tryd.prog 55 ti55 := ⟨by kernel_rfl, by kernel_rfl, by kernel_rfl, by kernel_rfl⟩
theorem tiOk56 : TiOk Proofs.Tryd.prog 56 ti56 := ⟨by kernel_rfl, by kernel_rfl, by kernel_rfl, by kernel_rfl⟩
theorem tiOk57 : TiOk Proofs.Tryd.prog 57 ti57 := ⟨by kernel_rfl, by kernel_rfl, by kernel_rfl, by kernel_rfl⟩
theorem tiOk58 : TiOk Proofs.Tryd.prog 58 ti58 := ⟨by kernel_rfl, by kernel_rfl, by kernel_rfl, by kernel_rfl⟩
theorem tiOk59 : TiOk Proofs.Tryd.prog 59 ti59 := ⟨by kernel_rfl, by kernel_rfl, by kernel_rfl, by kernel_rfl⟩
theorem tiOk60 : TiOk Proofs.Tryd.prog 60 ti60 := ⟨by kernel_rfl, by kernel_rfl, by kernel_rfl, by kernel_rfl⟩
theorem tiOk61 : TiOk Proofs.Tryd.prog 61 ti61 := ⟨by kernel_rfl, by kernel_rfl, by kernel_rfl, by kernel_rfl⟩
theorem tiOk62 : TiOk Proofs.Tryd.prog 62 ti62 := ⟨by kernel_rfl, by kernel_rfl, by kernel_rfl, by kernel_rfl⟩
theorem tiOk63 : TiOk Proofs.Tryd.prog 63 ti63 := ⟨by kernel_rfl, by kernel_rfl, by kernel_rfl, by kernel_rfl⟩
theorem tiOk64 : TiOk Proofs.Tryd.prog 64 ti64 := ⟨by kernel_rfl, by kernel_rfl, by kernel_rfl, by kernel_rfl⟩
theorem tiOk65 : TiOk Proofs.Tryd.prog 65 ti65 := ⟨by kernel_rfl, by kernel_rfl, by kernel_rfl, by kernel_rfl⟩
theorem tiOk66 : TiOk Proofs.Tryd.prog 66 ti66 := ⟨by kernel_rfl, by kernel_rfl, by kernel_rfl, by kernel_rfl⟩
theorem tiOk67 : TiOk Proofs.Tryd.prog 67 ti67 := ⟨by kernel_rfl, by kernel_rfl, by kernel_rfl, by kernel_rfl⟩
theorem tiOk68 : TiOk Proofs.Tryd.prog 68 ti68 := ⟨by kernel_rfl, by kernel_rfl, by kernel_rfl, by kernel_rfl⟩
theorem tiOk69 : TiOk Proofs.Tryd.prog 69 ti69 := ⟨by kernel_rfl, by kernel_rfl, by kernel_rfl, by kernel_rfl⟩
theorem tiOk70 : TiOk Proofs.Tryd.prog 70 ti70 := ⟨by kernel_rfl, by kernel_rfl, by kernel_rfl, by kernel_rfl⟩
theorem tiOk72 : TiOk Proofs.Tryd.prog 72 ti72 := ⟨by kernel_rfl, by kernel_rfl, by kernel_rfl, by kernel_rfl⟩
theorem tiOk73 : TiOk Proofs.Tryd.prog 73 ti73 := ⟨by kernel_rfl, by kernel_rfl, by kernel_rfl, by kernel_rfl⟩
theorem tiOk74 : TiOk Proofs.Tryd.prog 74 ti74 := ⟨by kernel_rfl, by kernel_rfl, by kernel_rfl, by kernel_rfl⟩
theorem tiOk75 : TiOk Proofs.Tryd.prog 75 ti75 := ⟨by kernel_rfl, by kernel_rfl, by kernel_rfl, by kernel_rfl⟩
theorem tiOk76 : TiOk Proofs.Tryd.prog 76 ti76 := ⟨by kernel_rfl, by kernel_rfl, by kernel_rfl, by kernel_rfl⟩
theorem tiOk77 : TiOk Proofs.Tryd.prog 77 ti77 := ⟨by kernel_rfl, by kernel_rfl, by kernel_rfl, by kernel_rfl⟩
theorem tiOk79 : TiOk Proofs.Tryd.prog 79 ti79 := ⟨by kernel_rfl, by kernel_rfl, by kernel_rfl, by kernel_rfl⟩
theorem tiOk80 : TiOk Proofs.Tryd.prog 80 ti80 := ⟨by kernel_rfl, by kernel_rfl, by kernel_rfl, by kernel_rfl⟩
theorem tiOk81 : TiOk Proofs.Tryd.prog 81 ti81 := ⟨by kernel_rfl, by kernel_rfl, by kernel_rfl, by kernel_rfl⟩
theorem tiOk82 : TiOk Proofs.Tryd.prog 82 ti82 := ⟨by kernel_rfl, by kernel_rfl, by kernel_rfl, by kernel_rfl⟩
theorem tiOk83 : TiOk Proofs.Tryd.prog 83 ti83 := ⟨by kernel_rfl, by kernel_rfl, by kernel_rfl, by kernel_rfl⟩
theorem tiOk84 : TiOk Proofs.Tryd.prog 84 ti84 := ⟨by kernel_rfl, by kernel_rfl, by kernel_rfl, by kernel_rfl⟩
theorem tiOk85 : TiOk Proofs.Tryd.prog 85 ti85 := ⟨by kernel_rfl, by kernel_rfl, by kernel_rfl, by kernel_rfl⟩
theorem tiOk86 : TiOk Proofs.Tryd.prog 86 ti86 := ⟨by kernel_rfl, by kernel_rfl, by kernel_rfl, by kernel_rfl⟩
theorem tiOk88 : TiOk Proofs.Tryd.prog 88 ti88 := ⟨by kernel_rfl, by kernel_rfl, by kernel_rfl, by kernel_rfl⟩
theorem tiOk89 : TiOk Proofs.Tryd.prog 89 ti89 := ⟨by kernel_rfl, by kernel_rfl, by kernel_rfl, by kernel_rfl⟩
theorem tiOk90 : TiOk Proofs.Tryd.prog 90 ti90 := ⟨by kernel_rfl, by kernel_rfl, by kernel_rfl, by kernel_rfl⟩
theorem tiOk91 : TiOk Proofs.Tryd.prog 91 ti91 := ⟨by kernel_rfl, by kernel_rfl, by kernel_rfl, by kernel_rfl⟩
theorem tiOk93 : TiOk Proofs.Tryd.prog 93 ti93 := ⟨by kernel_rfl, by kernel_rfl, by kernel_rfl, by kernel_rfl⟩
theorem tiOk94 : TiOk Proofs.Tryd.prog 94 ti94 := ⟨by kernel_rfl, by kernel_rfl, by kernel_rfl, by kernel_rfl⟩
theorem tiOk95 : TiOk Proofs.Tryd.prog 95 ti95 := ⟨by kernel_rfl, by kernel_rfl, by kernel_rfl, by kernel_rfl⟩
theorem tiOk96 : TiOk Proofs.Tryd.prog 96 ti96 := ⟨by kernel_rfl, by kernel_rfl, by kernel_rfl, by kernel_rfl⟩
theorem tiOk98 : TiOk Proofs.Tryd.prog 98 ti98 := ⟨by kernel_rfl, by kernel_rfl, by kernel_rfl, by kernel_rfl⟩
theorem tiOk100 : TiOk Proofs.Tryd.prog 100 ti100 := ⟨by kernel_rfl, by kernel_rfl, by kernel_rfl, by kernel_rfl⟩
theorem tiOk101 : TiOk Proofs.Tryd.prog 101 ti101 := ⟨by kernel_rfl, by kernel_rfl, by kernel_rfl, by kernel_rfl⟩
theorem tiOk102 : TiOk Proofs.Tryd.prog 102 ti102 := ⟨by kernel_rfl, by kernel_rfl, by kernel_rfl, by kernel_rfl⟩
theorem tiOk103 : TiOk Proofs.Tryd.prog 103 ti103 := ⟨by kernel_rfl, by kernel_rfl, by kernel_rfl, by kernel_rfl⟩
theorem tiOk104 : TiOk Proofs.Tryd.prog 104 ti104 := ⟨by kernel_rfl, by kernel_rfl, by kernel_rfl, by kernel_rfl⟩
theorem tiOk106 : TiOk Proofs.Tryd.prog 106 ti106 := ⟨by kernel_rfl, by kernel_rfl, by kernel_rfl, by kernel_rfl⟩
theorem tiOk107 : TiOk Proofs.Tryd.prog 107 ti107 := ⟨by kernel_rfl, by kernel_rfl, by kernel_rfl, by kernel_rfl⟩
theorem tiOk108 : TiOk Proofs.Tryd.prog 108 ti108 := ⟨by kernel_rfl, by kernel_rfl, by kernel_rfl, by kernel_rfl⟩
theorem tiOk109 : TiOk Proofs.Tryd.prog 109 ti109 := ⟨by kernel_rfl, by kernel_rfl, by kernel_rfl, by kernel_rfl⟩
theorem tiOk110 : TiOk Proofs.Tryd.prog 110 ti110 := ⟨by kernel_rfl, by kernel_rfl, by kernel_rfl, by kernel_rfl⟩
theorem tiOk112 : TiOk Proofs.Tryd.prog 112 ti112 := ⟨by kernel_rfl, by kernel_rfl, by kernel_rfl, by kernel_rfl⟩
theorem tiOk113 : TiOk Proofs.Tryd.prog 113 ti113 := ⟨by kernel_rfl, by kernel_rfl, by kernel_rfl, by kernel_rfl⟩
theorem tiOk114 : TiOk Proofs.Tryd.prog 114 ti114 := ⟨by kernel_rfl, by kernel_rfl, by kernel_rfl, by kernel_rfl⟩
theorem tiOk117 : TiOk Proofs.Tryd.prog 117 ti117 := ⟨by kernel_rfl, by kernel_rfl, by kernel_rfl, by kernel_rfl⟩
theorem tiOk118 : TiOk Proofs.Tryd.prog 118 ti118 := ⟨by kernel_rfl, by kernel_rfl, by kernel_rfl, by kernel_rfl⟩
theorem tiOk119 : TiOk Proofs.Tryd.prog 119 ti119 := ⟨by kernel_rfl, by kernel_rfl, by kernel_rfl, by kernel_rfl⟩
theorem tiOk120 : TiOk Proofs.Tryd.prog 120 ti120 := ⟨by kernel_rfl, by kernel_rfl, by kernel_rfl, by kernel_rfl⟩
theorem tiOk121 : TiOk Proofs.Tryd.prog 121 ti121 := ⟨by kernel_rfl, by kernel_rfl, by kernel_rfl, by kernel_rfl⟩
theorem tiOk122 : TiOk Proofs.Tryd.prog 122 ti122 := ⟨by kernel_rfl, by kernel_rfl, by kernel_rfl, by kernel_rfl⟩
theorem tiOk123 : TiOk Proofs.Tryd.prog 123 ti123 := ⟨by kernel_rfl, by kernel_rfl, by kernel_rfl, by kernel_rfl⟩

set_option maxRecDepth 20000 in
theorem tabOk : TabOk Proofs.Tryd.prog tab := by
  intro t ti h
  unfold tab at h
  split at h
  · injection h with h; subst h; exact tiOk1
  · injection h with h; subst h; exact tiOk2
  · injection h with h; subst h; exact tiOk3
  · injection h with h; subst h; exact tiOk4
  · injection h with h; subst h; exact tiOk5
  · injection h with h; subst h; exact tiOk6
  · injection h with h; subst h; exact tiOk7
  · injection h with h; subst h; exact tiOk8
  · injection h with h; subst h; exact tiOk9
  · injection h with h; subst h; exact tiOk10
  · injection h with h; subst h; exact tiOk11
  · injection h with h; subst h; exact tiOk12
  · injection h with h; subst h; exact tiOk13
  · injection h with h; subst h; exact tiOk14
  · injection h with h; subst h; exact tiOk15
  · injection h with h; subst h; exact tiOk16
  · injection h with h; subst h; exact tiOk17
  · injection h with h; subst h; exact tiOk18
  · injection h with h; subst h; exact tiOk19
  · injection h with h; subst h; exact tiOk20
  · injection h with h; subst h; exact tiOk21
  · injection h with h; subst h; exact tiOk22
  · injection h with h; subst h; exact tiOk23
  · injection h with h; subst h; exact tiOk24
  · injection h with h; subst h; exact tiOk25
  · injection h with h; subst h; exact tiOk26
  · injection h with h; subst h; exact tiOk27
  · injection h with h; subst h; exact tiOk28
  · injection h with h; subst h; exact tiOk29
  · injection h with h; subst h; exact tiOk30
  · injection h with h; subst h; exact tiOk31
  · injection h with h; subst h; exact tiOk32
  · injection h with h; subst h; exact tiOk33
  · injection h with h; subst h; exact tiOk34
  · injection h with h; subst h; exact tiOk35
  · injection h with h; subst h; exact tiOk36
  · injection h with h; subst h; exact tiOk37
  · injection h with h; subst h; exact tiOk38
  · injection h with h; subst h; exact tiOk39
  · injection h with h; subst h; exact tiOk40
  · injection h with h; subst h; exact tiOk41
  · injection h with h; subst h; exact tiOk42
  · injection h with h; subst h; exact tiOk43
  · injection h with h; subst h; exact tiOk44
  · injection h with h; subst h; exact tiOk45
  · injection h with h; subst h; exact tiOk46
  · injection h with h; subst h; exact tiOk47
  · injection h with h; subst h; exact tiOk48
  · injection h with h; subst h; exact tiOk49
  · injection h with h; subst h; exact tiOk50
  · injection h with h; subst h; exact tiOk51
  · injection h with h; subst h; exact tiOk52
  · injection h with h; subst h; exact tiOk53
  · injection h with h; subst h; exact tiOk54
  · injection h with h; subst h; exact tiOk55
  · injection h with h; subst h; exact tiOk56
  · injection h with h; subst h; exact tiOk57
  · injection h with h; subst h; exact tiOk58
  · injection h with h; subst h; exact tiOk59
  · injection h with h; subst h; exact tiOk60
  · injection h with h; subst h; exact tiOk61
  · injection h with h; subst h; exact tiOk62
  · injection h with h; subst h; exact tiOk63
  · injection h with h; subst h; exact tiOk64
  · injection h with h; subst h; exact tiOk65
  · injection h with h; subst h; exact tiOk66
  · injection h with h; subst h; exact tiOk67
  · injection h with h; subst h; exact tiOk68
  · injection h with h; subst h; exact tiOk69
  · injection h with h; subst h; exact tiOk70
  · injection h with h; subst h; exact tiOk72
  · injection h with h; subst h; exact tiOk73
  · injection h with h; subst h; exact tiOk74
  · injection h with h; subst h; exact tiOk75
  · injection h with h; subst h; exact tiOk76
  · injection h with h; subst h; exact tiOk77
  · injection h with h; subst h; exact tiOk79
  · injection h with h; subst h; exact tiOk80
  · injection h with h; subst h; exact tiOk81
  · injection h with h; subst h; exact tiOk82
  · injection h with h; subst h; exact tiOk83
  · injection h with h; subst h; exact tiOk84
  · injection h with h; subst h; exact tiOk85
  · injection h with h; subst h; exact tiOk86
  · injection h with h; subst h; exact tiOk88
  · injection h with h; subst h; exact tiOk89
  · injection h with h; subst h; exact tiOk90
  · injection h with h; subst h; exact tiOk91
  · injection h with h; subst h; exact tiOk93
  · injection h with h; subst h; exact tiOk94
  · injection h with h; subst h; exact tiOk95
  · injection h with h; subst h; exact tiOk96
  · injection h with h; subst h; exact tiOk98
  · injection h with h; subst h; exact tiOk100
  · injection h with h; subst h; exact tiOk101
  · injection h with h; subst h; exact tiOk102
  · injection h with h; subst h; exact tiOk103
  · injection h with h; subst h; exact tiOk104
  · injection h with h; subst h; exact tiOk106
  · injection h with h; subst h; exact tiOk107
  · injection h with h; subst h; exact tiOk108
  · injection h with h; subst h; exact tiOk109
  · injection h with h; subst h; exact tiOk110
  · injection h with h; subst h; exact tiOk112
  · injection h with h; subst h; exact tiOk113
  · injection h with h; subst h; exact tiOk114
  · injection h with h; subst h; exact tiOk117
  · injection h with h; subst h; exact tiOk118
  · injection h with h; subst h; exact tiOk119
  · injection h with h; subst h; exact tiOk120
  · injection h with h; subst h; exact tiOk121
  · injection h with h; subst h; exact tiOk122
  · injection h with h; subst h; exact tiOk123
  · cases h

/-- Plain types. -/
def undT : Nat → Option TypeDesc := fun t => match t with
  | 2 => some (.int .i64)
  | 3 => some (.int .i64)
  | 4 => some (.bool)
  | 5 => some (.int .u8)
  | 6 => some (.int .u8)
  | 9 => some (.string)
  | 10 => some (.string)
  | 11 => some (.string)
  | 12 => some (.int .u64)
  | 21 => some (.int .i32)
  | 23 => some (.int .i64)
  | 26 => some (.int .i64)
  | 27 => some (.int .i64)
  | 28 => some (.int .u64)
  | 32 => some (.int .i64)
  | 77 => some (.int .u64)
  | 96 => some (.int .u32)
  | 117 => some (.int .u8)
  | 118 => some (.int .u8)
  | 120 => some (.int .i32)
  | 121 => some (.int .i32)
  | _ => none

set_option maxRecDepth 20000 in
theorem undOk {Q : Program} (hQ : Q = Proofs.Tryd.prog) : ∀ {t : Nat} {d : TypeDesc}, undT t = some d → Q.underlying t = some d := by
  subst hQ
  intro t d h
  unfold undT at h
  split at h
  · injection h with h; subst h; kernel_rfl
  · injection h with h; subst h; kernel_rfl
  · injection h with h; subst h; kernel_rfl
  · injection h with h; subst h; kernel_rfl
  · injection h with h; subst h; kernel_rfl
  · injection h with h; subst h; kernel_rfl
  · injection h with h; subst h; kernel_rfl
  · injection h with h; subst h; kernel_rfl
  · injection h with h; subst h; kernel_rfl
  · injection h with h; subst h; kernel_rfl
  · injection h with h; subst h; kernel_rfl
  · injection h with h; subst h; kernel_rfl
  · injection h with h; subst h; kernel_rfl
  · injection h with h; subst h; kernel_rfl
  · injection h with h; subst h; kernel_rfl
  · injection h with h; subst h; kernel_rfl
  · injection h with h; subst h; kernel_rfl
  · injection h with h; subst h; kernel_rfl
  · injection h with h; subst h; kernel_rfl
  · injection h with h; subst h; kernel_rfl
  · injection h with h; subst h; kernel_rfl
  · cases h

end Go.Proofs.YtkjglhamlnnboaaDoor.Am

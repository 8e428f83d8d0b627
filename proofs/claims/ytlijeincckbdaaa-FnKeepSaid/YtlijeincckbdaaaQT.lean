/- The types of the program, as a table; each row is shown to be the program's. -/
import Derived.Test.YtlijeincckbdaaaQd
import Derived.Test.YtlijeincckbdaaaChecked
import Derived.KernelRfl
namespace Go.Proofs.Ytlijeincckbdaaa
open Go.RowKit
def r0 : TyRow := ⟨some (1, false), [], none, none, .other⟩
theorem row0 : rowOf Try.prog 0 = some r0 := by kernel_rfl
def r1 : TyRow := ⟨some (1, false), [], none, some [.nilFunc], .other⟩
theorem row1 : rowOf Try.prog 1 = some r1 := by kernel_rfl
def r2 : TyRow := ⟨some (1, false), [], none, some [.int .i64 0], .int .i64⟩
theorem row2 : rowOf Try.prog 2 = some r2 := by kernel_rfl
def r3 : TyRow := ⟨some (1, false), [], none, some [.int .i64 0], .int .i64⟩
theorem row3 : rowOf Try.prog 3 = some r3 := by kernel_rfl
def r4 : TyRow := ⟨some (1, false), [], none, some [.bool false], .bool⟩
theorem row4 : rowOf Try.prog 4 = some r4 := by kernel_rfl
def r5 : TyRow := ⟨some (1, false), [], none, some [.int .u8 0], .int .u8⟩
theorem row5 : rowOf Try.prog 5 = some r5 := by kernel_rfl
def r6 : TyRow := ⟨some (1, false), [], none, some [.int .u8 0], .int .u8⟩
theorem row6 : rowOf Try.prog 6 = some r6 := by kernel_rfl
def r7 : TyRow := ⟨some (4, true), [some (0, 1, false), some (1, 1, false), some (2, 1, false), some (3, 1, false)], none, some [.int .i64 0, .int .i64 0, .bool false, .int .u8 0], .struct 4⟩
theorem row7 : rowOf Try.prog 7 = some r7 := by kernel_rfl
def r8 : TyRow := ⟨some (4, true), [some (0, 1, false), some (1, 1, false), some (2, 1, false), some (3, 1, false)], none, some [.int .i64 0, .int .i64 0, .bool false, .int .u8 0], .struct 4⟩
theorem row8 : rowOf Try.prog 8 = some r8 := by kernel_rfl
def r9 : TyRow := ⟨some (1, false), [], none, some [.string .empty], .str⟩
theorem row9 : rowOf Try.prog 9 = some r9 := by kernel_rfl
def r10 : TyRow := ⟨some (1, false), [], none, some [.string .empty], .str⟩
theorem row10 : rowOf Try.prog 10 = some r10 := by kernel_rfl
def r11 : TyRow := ⟨some (1, false), [], none, some [.string .empty], .str⟩
theorem row11 : rowOf Try.prog 11 = some r11 := by kernel_rfl
def r12 : TyRow := ⟨some (1, false), [], none, some [.int .u64 0], .int .u64⟩
theorem row12 : rowOf Try.prog 12 = some r12 := by kernel_rfl
def r13 : TyRow := ⟨some (2, true), [some (0, 1, false), some (1, 1, false)], none, some [.string .empty, .int .u64 0], .struct 2⟩
theorem row13 : rowOf Try.prog 13 = some r13 := by kernel_rfl
def r14 : TyRow := ⟨some (2, true), [some (0, 1, false), some (1, 1, false)], none, some [.string .empty, .int .u64 0], .struct 2⟩
theorem row14 : rowOf Try.prog 14 = some r14 := by kernel_rfl
def r15 : TyRow := ⟨some (1, false), [], none, some [.pointer none], .other⟩
theorem row15 : rowOf Try.prog 15 = some r15 := by kernel_rfl
def r16 : TyRow := ⟨some (1, false), [], none, some [.pointer none], .other⟩
theorem row16 : rowOf Try.prog 16 = some r16 := by kernel_rfl
def r17 : TyRow := ⟨some (1, false), [], none, some [.pointer none], .other⟩
theorem row17 : rowOf Try.prog 17 = some r17 := by kernel_rfl
def r18 : TyRow := ⟨some (1, true), [some (0, 1, false)], none, some [.pointer none], .struct 1⟩
theorem row18 : rowOf Try.prog 18 = some r18 := by kernel_rfl
def r19 : TyRow := ⟨some (1, true), [some (0, 1, false)], none, some [.pointer none], .struct 1⟩
theorem row19 : rowOf Try.prog 19 = some r19 := by kernel_rfl
def r20 : TyRow := ⟨some (1, false), [], none, some [.nilIface], .other⟩
theorem row20 : rowOf Try.prog 20 = some r20 := by kernel_rfl
def r21 : TyRow := ⟨some (1, false), [], none, some [.int .i32 0], .int .i32⟩
theorem row21 : rowOf Try.prog 21 = some r21 := by kernel_rfl
def r22 : TyRow := ⟨some (1, false), [], some (201, 3, 40), some [.slice none 0 0], .sl⟩
theorem row22 : rowOf Try.prog 22 = some r22 := by kernel_rfl
def r23 : TyRow := ⟨some (2, true), [some (0, 1, false), some (1, 1, false)], none, some [.slice none 0 0, .int .i64 0], .struct 2⟩
theorem row23 : rowOf Try.prog 23 = some r23 := by kernel_rfl
def r24 : TyRow := ⟨some (2, true), [some (0, 1, false), some (1, 1, false)], none, some [.slice none 0 0, .int .i64 0], .struct 2⟩
theorem row24 : rowOf Try.prog 24 = some r24 := by kernel_rfl
def r25 : TyRow := ⟨some (1, false), [], none, some [.nilFunc], .other⟩
theorem row25 : rowOf Try.prog 25 = some r25 := by kernel_rfl
def r26 : TyRow := ⟨some (1, false), [], some (65, 3, 40), some [.slice none 0 0], .sl⟩
theorem row26 : rowOf Try.prog 26 = some r26 := by kernel_rfl
def r27 : TyRow := ⟨some (2, true), [some (0, 1, false), some (1, 1, false)], none, some [.slice none 0 0, .int .i64 0], .struct 2⟩
theorem row27 : rowOf Try.prog 27 = some r27 := by kernel_rfl
def r28 : TyRow := ⟨some (2, true), [some (0, 1, false), some (1, 1, false)], none, some [.slice none 0 0, .int .i64 0], .struct 2⟩
theorem row28 : rowOf Try.prog 28 = some r28 := by kernel_rfl
def r29 : TyRow := ⟨some (1, false), [], none, some [.nilFunc], .other⟩
theorem row29 : rowOf Try.prog 29 = some r29 := by kernel_rfl
def r30 : TyRow := ⟨some (1, false), [], none, some [.nilFunc], .other⟩
theorem row30 : rowOf Try.prog 30 = some r30 := by kernel_rfl
def r31 : TyRow := ⟨some (1, false), [], none, some [.nilFunc], .other⟩
theorem row31 : rowOf Try.prog 31 = some r31 := by kernel_rfl
def r32 : TyRow := ⟨some (1, false), [], none, some [.nilFunc], .other⟩
theorem row32 : rowOf Try.prog 32 = some r32 := by kernel_rfl
def r33 : TyRow := ⟨some (1, false), [], none, some [.nilFunc], .other⟩
theorem row33 : rowOf Try.prog 33 = some r33 := by kernel_rfl
def r34 : TyRow := ⟨some (1, false), [], some (24, 2, 32), some [.slice none 0 0], .sl⟩
theorem row34 : rowOf Try.prog 34 = some r34 := by kernel_rfl
def r35 : TyRow := ⟨some (3, true), [some (0, 1, false), some (1, 1, false), some (2, 1, false)], none, some [.int .i64 0, .int .i64 0, .slice none 0 0], .struct 3⟩
theorem row35 : rowOf Try.prog 35 = some r35 := by kernel_rfl
def r36 : TyRow := ⟨some (3, true), [some (0, 1, false), some (1, 1, false), some (2, 1, false)], none, some [.int .i64 0, .int .i64 0, .slice none 0 0], .struct 3⟩
theorem row36 : rowOf Try.prog 36 = some r36 := by kernel_rfl
def r37 : TyRow := ⟨some (1, false), [], none, some [.nilFunc], .other⟩
theorem row37 : rowOf Try.prog 37 = some r37 := by kernel_rfl
def r38 : TyRow := ⟨some (1, false), [], some (148, 5, 64), some [.slice none 0 0], .sl⟩
theorem row38 : rowOf Try.prog 38 = some r38 := by kernel_rfl
def r39 : TyRow := ⟨some (1, false), [], none, some [.nilFunc], .other⟩
theorem row39 : rowOf Try.prog 39 = some r39 := by kernel_rfl
def r40 : TyRow := ⟨some (1, false), [], some (28, 2, 32), some [.slice none 0 0], .sl⟩
theorem row40 : rowOf Try.prog 40 = some r40 := by kernel_rfl
def r41 : TyRow := ⟨some (3, true), [some (0, 1, false), some (1, 1, false), some (2, 1, false)], none, some [.int .i64 0, .int .i64 0, .slice none 0 0], .struct 3⟩
theorem row41 : rowOf Try.prog 41 = some r41 := by kernel_rfl
def r42 : TyRow := ⟨some (3, true), [some (0, 1, false), some (1, 1, false), some (2, 1, false)], none, some [.int .i64 0, .int .i64 0, .slice none 0 0], .struct 3⟩
theorem row42 : rowOf Try.prog 42 = some r42 := by kernel_rfl
def r43 : TyRow := ⟨some (1, false), [], none, some [.nilFunc], .other⟩
theorem row43 : rowOf Try.prog 43 = some r43 := by kernel_rfl
def r44 : TyRow := ⟨some (1, false), [], none, some [.nilFunc], .other⟩
theorem row44 : rowOf Try.prog 44 = some r44 := by kernel_rfl
def r45 : TyRow := ⟨some (1, false), [], none, some [.nilFunc], .other⟩
theorem row45 : rowOf Try.prog 45 = some r45 := by kernel_rfl
def r46 : TyRow := ⟨some (1, false), [], none, some [.nilFunc], .other⟩
theorem row46 : rowOf Try.prog 46 = some r46 := by kernel_rfl
def r47 : TyRow := ⟨some (1, false), [], none, some [.nilFunc], .other⟩
theorem row47 : rowOf Try.prog 47 = some r47 := by kernel_rfl
def r48 : TyRow := ⟨some (1, false), [], none, some [.nilFunc], .other⟩
theorem row48 : rowOf Try.prog 48 = some r48 := by kernel_rfl
def r49 : TyRow := ⟨some (1, false), [], none, some [.nilFunc], .other⟩
theorem row49 : rowOf Try.prog 49 = some r49 := by kernel_rfl
def r50 : TyRow := ⟨some (1, false), [], none, some [.nilFunc], .other⟩
theorem row50 : rowOf Try.prog 50 = some r50 := by kernel_rfl
def r51 : TyRow := ⟨some (1, false), [], some (5, 1, 1), some [.slice none 0 0], .sl⟩
theorem row51 : rowOf Try.prog 51 = some r51 := by kernel_rfl
def r52 : TyRow := ⟨some (4, true), [some (0, 1, false), some (1, 1, false), some (2, 1, false), some (3, 1, false)], none, some [.int .i64 0, .string .empty, .string .empty, .string .empty], .struct 4⟩
theorem row52 : rowOf Try.prog 52 = some r52 := by kernel_rfl
def r53 : TyRow := ⟨some (4, true), [some (0, 1, false), some (1, 1, false), some (2, 1, false), some (3, 1, false)], none, some [.int .i64 0, .string .empty, .string .empty, .string .empty], .struct 4⟩
theorem row53 : rowOf Try.prog 53 = some r53 := by kernel_rfl
def r54 : TyRow := ⟨some (1, false), [], none, none, .other⟩
theorem row54 : rowOf Try.prog 54 = some r54 := by kernel_rfl
def r55 : TyRow := ⟨some (1, false), [], none, some [.nilFunc], .other⟩
theorem row55 : rowOf Try.prog 55 = some r55 := by kernel_rfl
def r56 : TyRow := ⟨some (3, true), [some (0, 2, true), some (2, 1, false)], none, some [.slice none 0 0, .int .i64 0, .int .i64 0], .struct 2⟩
theorem row56 : rowOf Try.prog 56 = some r56 := by kernel_rfl
def r57 : TyRow := ⟨some (3, true), [some (0, 2, true), some (2, 1, false)], none, some [.slice none 0 0, .int .i64 0, .int .i64 0], .struct 2⟩
theorem row57 : rowOf Try.prog 57 = some r57 := by kernel_rfl
def r58 : TyRow := ⟨some (1, false), [], none, some [.nilFunc], .other⟩
theorem row58 : rowOf Try.prog 58 = some r58 := by kernel_rfl
def r59 : TyRow := ⟨some (1, false), [], none, some [.nilFunc], .other⟩
theorem row59 : rowOf Try.prog 59 = some r59 := by kernel_rfl
def r60 : TyRow := ⟨some (1, false), [], some (2, 1, 8), some [.slice none 0 0], .sl⟩
theorem row60 : rowOf Try.prog 60 = some r60 := by kernel_rfl
def r61 : TyRow := ⟨some (1, false), [], none, none, .other⟩
theorem row61 : rowOf Try.prog 61 = some r61 := by kernel_rfl
def r62 : TyRow := ⟨some (1, false), [], none, some [.nilFunc], .other⟩
theorem row62 : rowOf Try.prog 62 = some r62 := by kernel_rfl
def r63 : TyRow := ⟨some (1, false), [], none, some [.nilFunc], .other⟩
theorem row63 : rowOf Try.prog 63 = some r63 := by kernel_rfl
def r64 : TyRow := ⟨some (3, true), [some (0, 1, false), some (1, 1, false), some (2, 1, false)], none, some [.string .empty, .string .empty, .int .i64 0], .struct 3⟩
theorem row64 : rowOf Try.prog 64 = some r64 := by kernel_rfl
def r65 : TyRow := ⟨some (3, true), [some (0, 1, false), some (1, 1, false), some (2, 1, false)], none, some [.string .empty, .string .empty, .int .i64 0], .struct 3⟩
theorem row65 : rowOf Try.prog 65 = some r65 := by kernel_rfl
def r66 : TyRow := ⟨some (2, true), [some (0, 1, false), some (1, 1, false)], none, some [.string .empty, .int .i64 0], .struct 2⟩
theorem row66 : rowOf Try.prog 66 = some r66 := by kernel_rfl
def r67 : TyRow := ⟨some (2, true), [some (0, 1, false), some (1, 1, false)], none, some [.string .empty, .int .i64 0], .struct 2⟩
theorem row67 : rowOf Try.prog 67 = some r67 := by kernel_rfl
def r68 : TyRow := ⟨some (1, false), [], none, some [.nilFunc], .other⟩
theorem row68 : rowOf Try.prog 68 = some r68 := by kernel_rfl
def r69 : TyRow := ⟨some (1, false), [], none, some [.nilFunc], .other⟩
theorem row69 : rowOf Try.prog 69 = some r69 := by kernel_rfl
def r70 : TyRow := ⟨some (3, true), [some (0, 1, false), some (1, 1, false), some (2, 1, false)], none, some [.int .i64 0, .int .i64 0, .int .i64 0], .struct 3⟩
theorem row70 : rowOf Try.prog 70 = some r70 := by kernel_rfl
def r71 : TyRow := ⟨some (3, true), [some (0, 1, false), some (1, 1, false), some (2, 1, false)], none, some [.int .i64 0, .int .i64 0, .int .i64 0], .struct 3⟩
theorem row71 : rowOf Try.prog 71 = some r71 := by kernel_rfl
def r72 : TyRow := ⟨some (1, false), [], some (226, 5, 64), some [.slice none 0 0], .sl⟩
theorem row72 : rowOf Try.prog 72 = some r72 := by kernel_rfl
def r73 : TyRow := ⟨some (8, true), [some (0, 3, true), some (3, 3, true), some (6, 1, false), some (7, 1, false)], none, some [.int .i64 0, .int .i64 0, .slice none 0 0, .int .i64 0, .int .i64 0, .int .i64 0, .int .i64 0, .slice none 0 0], .struct 4⟩
theorem row73 : rowOf Try.prog 73 = some r73 := by kernel_rfl
def r74 : TyRow := ⟨some (8, true), [some (0, 3, true), some (3, 3, true), some (6, 1, false), some (7, 1, false)], none, some [.int .i64 0, .int .i64 0, .slice none 0 0, .int .i64 0, .int .i64 0, .int .i64 0, .int .i64 0, .slice none 0 0], .struct 4⟩
theorem row74 : rowOf Try.prog 74 = some r74 := by kernel_rfl
def r75 : TyRow := ⟨some (1, false), [], none, some [.nilFunc], .other⟩
theorem row75 : rowOf Try.prog 75 = some r75 := by kernel_rfl
def r76 : TyRow := ⟨some (1, false), [], none, some [.nilFunc], .other⟩
theorem row76 : rowOf Try.prog 76 = some r76 := by kernel_rfl
def r77 : TyRow := ⟨some (3, true), [some (0, 1, false), some (1, 1, false), some (2, 1, false)], none, some [.int .i64 0, .int .i64 0, .int .i64 0], .struct 3⟩
theorem row77 : rowOf Try.prog 77 = some r77 := by kernel_rfl
def r78 : TyRow := ⟨some (1, false), [], some (169, 5, 64), some [.slice none 0 0], .sl⟩
theorem row78 : rowOf Try.prog 78 = some r78 := by kernel_rfl
def r79 : TyRow := ⟨some (8, true), [some (0, 3, true), some (3, 3, true), some (6, 1, false), some (7, 1, false)], none, some [.int .i64 0, .int .i64 0, .slice none 0 0, .int .i64 0, .int .i64 0, .int .i64 0, .int .i64 0, .slice none 0 0], .struct 4⟩
theorem row79 : rowOf Try.prog 79 = some r79 := by kernel_rfl
def r80 : TyRow := ⟨some (8, true), [some (0, 3, true), some (3, 3, true), some (6, 1, false), some (7, 1, false)], none, some [.int .i64 0, .int .i64 0, .slice none 0 0, .int .i64 0, .int .i64 0, .int .i64 0, .int .i64 0, .slice none 0 0], .struct 4⟩
theorem row80 : rowOf Try.prog 80 = some r80 := by kernel_rfl
def r81 : TyRow := ⟨some (1, false), [], none, some [.nilFunc], .other⟩
theorem row81 : rowOf Try.prog 81 = some r81 := by kernel_rfl
def r82 : TyRow := ⟨some (1, false), [], none, some [.nilFunc], .other⟩
theorem row82 : rowOf Try.prog 82 = some r82 := by kernel_rfl
def r83 : TyRow := ⟨some (1, false), [], none, some [.nilFunc], .other⟩
theorem row83 : rowOf Try.prog 83 = some r83 := by kernel_rfl
def r84 : TyRow := ⟨some (1, false), [], none, some [.nilFunc], .other⟩
theorem row84 : rowOf Try.prog 84 = some r84 := by kernel_rfl
def r85 : TyRow := ⟨some (4, true), [some (0, 1, false), some (1, 1, false), some (2, 1, false), some (3, 1, false)], none, some [.int .i64 0, .string .empty, .string .empty, .string .empty], .struct 4⟩
theorem row85 : rowOf Try.prog 85 = some r85 := by kernel_rfl
def r86 : TyRow := ⟨some (1, false), [], none, some [.nilFunc], .other⟩
theorem row86 : rowOf Try.prog 86 = some r86 := by kernel_rfl
def r87 : TyRow := ⟨some (1, false), [], none, some [.nilFunc], .other⟩
theorem row87 : rowOf Try.prog 87 = some r87 := by kernel_rfl
def r88 : TyRow := ⟨some (1, false), [], none, some [.nilFunc], .other⟩
theorem row88 : rowOf Try.prog 88 = some r88 := by kernel_rfl
def r89 : TyRow := ⟨some (1, false), [], none, some [.nilFunc], .other⟩
theorem row89 : rowOf Try.prog 89 = some r89 := by kernel_rfl
def r90 : TyRow := ⟨some (1, false), [], none, some [.nilFunc], .other⟩
theorem row90 : rowOf Try.prog 90 = some r90 := by kernel_rfl
def r91 : TyRow := ⟨some (1, false), [], none, some [.nilFunc], .other⟩
theorem row91 : rowOf Try.prog 91 = some r91 := by kernel_rfl
def r92 : TyRow := ⟨some (1, false), [], none, some [.nilFunc], .other⟩
theorem row92 : rowOf Try.prog 92 = some r92 := by kernel_rfl
def r93 : TyRow := ⟨some (1, false), [], none, some [.nilFunc], .other⟩
theorem row93 : rowOf Try.prog 93 = some r93 := by kernel_rfl
def r94 : TyRow := ⟨some (1, false), [], none, some [.nilFunc], .other⟩
theorem row94 : rowOf Try.prog 94 = some r94 := by kernel_rfl
def r95 : TyRow := ⟨some (1, false), [], none, some [.nilFunc], .other⟩
theorem row95 : rowOf Try.prog 95 = some r95 := by kernel_rfl
def r96 : TyRow := ⟨some (1, false), [], none, some [.nilFunc], .other⟩
theorem row96 : rowOf Try.prog 96 = some r96 := by kernel_rfl
def r97 : TyRow := ⟨some (4, true), [some (0, 1, false), some (1, 1, false), some (2, 1, false), some (3, 1, false)], none, some [.int .i64 0, .int .i64 0, .int .i64 0, .int .i64 0], .struct 4⟩
theorem row97 : rowOf Try.prog 97 = some r97 := by kernel_rfl
def r98 : TyRow := ⟨some (4, true), [some (0, 1, false), some (1, 1, false), some (2, 1, false), some (3, 1, false)], none, some [.int .i64 0, .int .i64 0, .int .i64 0, .int .i64 0], .struct 4⟩
theorem row98 : rowOf Try.prog 98 = some r98 := by kernel_rfl
def r99 : TyRow := ⟨some (1, false), [], some (184, 3, 40), some [.slice none 0 0], .sl⟩
theorem row99 : rowOf Try.prog 99 = some r99 := by kernel_rfl
def r100 : TyRow := ⟨some (1, false), [], none, some [.nilFunc], .other⟩
theorem row100 : rowOf Try.prog 100 = some r100 := by kernel_rfl
def r101 : TyRow := ⟨some (1, false), [], some (9, 1, 16), some [.slice none 0 0], .sl⟩
theorem row101 : rowOf Try.prog 101 = some r101 := by kernel_rfl
def r102 : TyRow := ⟨some (1, false), [], none, some [.nilFunc], .other⟩
theorem row102 : rowOf Try.prog 102 = some r102 := by kernel_rfl
def r103 : TyRow := ⟨some (4, true), [some (0, 1, false), some (1, 1, false), some (2, 1, false), some (3, 1, false)], none, some [.int .i64 0, .int .i64 0, .int .i64 0, .int .i64 0], .struct 4⟩
theorem row103 : rowOf Try.prog 103 = some r103 := by kernel_rfl
def r104 : TyRow := ⟨some (1, false), [], none, some [.nilFunc], .other⟩
theorem row104 : rowOf Try.prog 104 = some r104 := by kernel_rfl
def r105 : TyRow := ⟨some (1, false), [], some (119, 3, 40), some [.slice none 0 0], .sl⟩
theorem row105 : rowOf Try.prog 105 = some r105 := by kernel_rfl
def r106 : TyRow := ⟨some (1, false), [], none, some [.nilFunc], .other⟩
theorem row106 : rowOf Try.prog 106 = some r106 := by kernel_rfl
def r107 : TyRow := ⟨some (1, false), [], none, some [.nilFunc], .other⟩
theorem row107 : rowOf Try.prog 107 = some r107 := by kernel_rfl
def r108 : TyRow := ⟨some (1, false), [], none, some [.nilFunc], .other⟩
theorem row108 : rowOf Try.prog 108 = some r108 := by kernel_rfl
def r109 : TyRow := ⟨some (1, false), [], none, some [.nilFunc], .other⟩
theorem row109 : rowOf Try.prog 109 = some r109 := by kernel_rfl
def r110 : TyRow := ⟨some (1, false), [], none, some [.nilFunc], .other⟩
theorem row110 : rowOf Try.prog 110 = some r110 := by kernel_rfl
def r111 : TyRow := ⟨some (1, false), [], none, some [.nilFunc], .other⟩
theorem row111 : rowOf Try.prog 111 = some r111 := by kernel_rfl
def r112 : TyRow := ⟨some (1, false), [], none, none, .other⟩
theorem row112 : rowOf Try.prog 112 = some r112 := by kernel_rfl
def r113 : TyRow := ⟨some (1, false), [], none, some [.nilFunc], .other⟩
theorem row113 : rowOf Try.prog 113 = some r113 := by kernel_rfl
def r114 : TyRow := ⟨some (1, false), [], none, some [.nilFunc], .other⟩
theorem row114 : rowOf Try.prog 114 = some r114 := by kernel_rfl
def r115 : TyRow := ⟨some (1, false), [], none, some [.nilFunc], .other⟩
theorem row115 : rowOf Try.prog 115 = some r115 := by kernel_rfl
def r116 : TyRow := ⟨some (1, false), [], none, some [.nilFunc], .other⟩
theorem row116 : rowOf Try.prog 116 = some r116 := by kernel_rfl
def r117 : TyRow := ⟨some (1, false), [], none, some [.nilFunc], .other⟩
theorem row117 : rowOf Try.prog 117 = some r117 := by kernel_rfl
def r118 : TyRow := ⟨some (3, true), [some (0, 1, false), some (1, 1, false), some (2, 1, false)], none, some [.string .empty, .int .i64 0, .string .empty], .struct 3⟩
theorem row118 : rowOf Try.prog 118 = some r118 := by kernel_rfl
def r119 : TyRow := ⟨some (3, true), [some (0, 1, false), some (1, 1, false), some (2, 1, false)], none, some [.string .empty, .int .i64 0, .string .empty], .struct 3⟩
theorem row119 : rowOf Try.prog 119 = some r119 := by kernel_rfl
def r120 : TyRow := ⟨some (1, false), [], some (193, 5, 64), some [.slice none 0 0], .sl⟩
theorem row120 : rowOf Try.prog 120 = some r120 := by kernel_rfl
def r121 : TyRow := ⟨some (1, false), [], none, some [.nilFunc], .other⟩
theorem row121 : rowOf Try.prog 121 = some r121 := by kernel_rfl
def r122 : TyRow := ⟨some (5, true), [some (0, 3, true), some (3, 1, false), some (4, 1, false)], none, some [.int .i64 0, .int .i64 0, .slice none 0 0, .int .i64 0, .int .i64 0], .struct 3⟩
theorem row122 : rowOf Try.prog 122 = some r122 := by kernel_rfl
def r123 : TyRow := ⟨some (5, true), [some (0, 3, true), some (3, 1, false), some (4, 1, false)], none, some [.int .i64 0, .int .i64 0, .slice none 0 0, .int .i64 0, .int .i64 0], .struct 3⟩
theorem row123 : rowOf Try.prog 123 = some r123 := by kernel_rfl
def r124 : TyRow := ⟨some (1, false), [], none, some [.nilFunc], .other⟩
theorem row124 : rowOf Try.prog 124 = some r124 := by kernel_rfl
def r125 : TyRow := ⟨some (1, false), [], none, some [.nilFunc], .other⟩
theorem row125 : rowOf Try.prog 125 = some r125 := by kernel_rfl
def r126 : TyRow := ⟨some (1, false), [], none, some [.nilFunc], .other⟩
theorem row126 : rowOf Try.prog 126 = some r126 := by kernel_rfl
def r127 : TyRow := ⟨some (1, false), [], none, some [.nilFunc], .other⟩
theorem row127 : rowOf Try.prog 127 = some r127 := by kernel_rfl
def r128 : TyRow := ⟨some (1, false), [], none, some [.nilFunc], .other⟩
theorem row128 : rowOf Try.prog 128 = some r128 := by kernel_rfl
def r129 : TyRow := ⟨some (1, false), [], none, some [.nilFunc], .other⟩
theorem row129 : rowOf Try.prog 129 = some r129 := by kernel_rfl
def r130 : TyRow := ⟨some (1, false), [], none, some [.nilFunc], .other⟩
theorem row130 : rowOf Try.prog 130 = some r130 := by kernel_rfl
def r131 : TyRow := ⟨some (1, false), [], none, some [.nilFunc], .other⟩
theorem row131 : rowOf Try.prog 131 = some r131 := by kernel_rfl
def r132 : TyRow := ⟨some (1, false), [], none, some [.nilFunc], .other⟩
theorem row132 : rowOf Try.prog 132 = some r132 := by kernel_rfl
def r133 : TyRow := ⟨some (1, false), [], none, some [.nilFunc], .other⟩
theorem row133 : rowOf Try.prog 133 = some r133 := by kernel_rfl
def r134 : TyRow := ⟨some (1, false), [], none, some [.nilFunc], .other⟩
theorem row134 : rowOf Try.prog 134 = some r134 := by kernel_rfl
def r135 : TyRow := ⟨some (1, false), [], none, some [.nilFunc], .other⟩
theorem row135 : rowOf Try.prog 135 = some r135 := by kernel_rfl
def r136 : TyRow := ⟨some (1, false), [], none, none, .other⟩
theorem row136 : rowOf Try.prog 136 = some r136 := by kernel_rfl
def r137 : TyRow := ⟨some (1, false), [], none, some [.nilFunc], .other⟩
theorem row137 : rowOf Try.prog 137 = some r137 := by kernel_rfl
def r138 : TyRow := ⟨some (1, false), [], none, some [.nilFunc], .other⟩
theorem row138 : rowOf Try.prog 138 = some r138 := by kernel_rfl
def r139 : TyRow := ⟨some (1, false), [], none, some [.nilFunc], .other⟩
theorem row139 : rowOf Try.prog 139 = some r139 := by kernel_rfl
def r140 : TyRow := ⟨some (1, false), [], none, some [.nilFunc], .other⟩
theorem row140 : rowOf Try.prog 140 = some r140 := by kernel_rfl
def r141 : TyRow := ⟨some (1, false), [], none, some [.nilFunc], .other⟩
theorem row141 : rowOf Try.prog 141 = some r141 := by kernel_rfl
def r142 : TyRow := ⟨some (1, false), [], none, some [.nilFunc], .other⟩
theorem row142 : rowOf Try.prog 142 = some r142 := by kernel_rfl
def r143 : TyRow := ⟨some (1, false), [], none, some [.nilFunc], .other⟩
theorem row143 : rowOf Try.prog 143 = some r143 := by kernel_rfl
def r144 : TyRow := ⟨some (1, false), [], none, some [.nilFunc], .other⟩
theorem row144 : rowOf Try.prog 144 = some r144 := by kernel_rfl
def r145 : TyRow := ⟨some (1, false), [], none, some [.nilFunc], .other⟩
theorem row145 : rowOf Try.prog 145 = some r145 := by kernel_rfl
def r146 : TyRow := ⟨some (1, false), [], none, some [.nilFunc], .other⟩
theorem row146 : rowOf Try.prog 146 = some r146 := by kernel_rfl
def r147 : TyRow := ⟨some (5, true), [some (0, 1, false), some (1, 4, true)], none, some [.int .i64 0, .int .i64 0, .string .empty, .string .empty, .string .empty], .struct 2⟩
theorem row147 : rowOf Try.prog 147 = some r147 := by kernel_rfl
def r148 : TyRow := ⟨some (5, true), [some (0, 1, false), some (1, 4, true)], none, some [.int .i64 0, .int .i64 0, .string .empty, .string .empty, .string .empty], .struct 2⟩
theorem row148 : rowOf Try.prog 148 = some r148 := by kernel_rfl
def r149 : TyRow := ⟨some (1, false), [], none, some [.nilFunc], .other⟩
theorem row149 : rowOf Try.prog 149 = some r149 := by kernel_rfl
def r150 : TyRow := ⟨some (1, false), [], none, some [.nilFunc], .other⟩
theorem row150 : rowOf Try.prog 150 = some r150 := by kernel_rfl
def r151 : TyRow := ⟨some (1, false), [], none, some [.nilFunc], .other⟩
theorem row151 : rowOf Try.prog 151 = some r151 := by kernel_rfl
def r152 : TyRow := ⟨some (1, false), [], none, some [.nilFunc], .other⟩
theorem row152 : rowOf Try.prog 152 = some r152 := by kernel_rfl
def r153 : TyRow := ⟨some (1, false), [], none, some [.pointer none], .other⟩
theorem row153 : rowOf Try.prog 153 = some r153 := by kernel_rfl
def r154 : TyRow := ⟨some (1, false), [], none, some [.nilFunc], .other⟩
theorem row154 : rowOf Try.prog 154 = some r154 := by kernel_rfl
def r155 : TyRow := ⟨some (1, false), [], none, some [.nilFunc], .other⟩
theorem row155 : rowOf Try.prog 155 = some r155 := by kernel_rfl
def r156 : TyRow := ⟨some (1, false), [], none, some [.nilFunc], .other⟩
theorem row156 : rowOf Try.prog 156 = some r156 := by kernel_rfl
def r157 : TyRow := ⟨some (1, false), [], none, none, .other⟩
theorem row157 : rowOf Try.prog 157 = some r157 := by kernel_rfl
def r158 : TyRow := ⟨some (1, false), [], none, some [.nilFunc], .other⟩
theorem row158 : rowOf Try.prog 158 = some r158 := by kernel_rfl
def r159 : TyRow := ⟨some (1, false), [], none, some [.nilFunc], .other⟩
theorem row159 : rowOf Try.prog 159 = some r159 := by kernel_rfl
def r160 : TyRow := ⟨some (1, false), [], none, some [.nilFunc], .other⟩
theorem row160 : rowOf Try.prog 160 = some r160 := by kernel_rfl
def r161 : TyRow := ⟨some (1, false), [], none, some [.nilFunc], .other⟩
theorem row161 : rowOf Try.prog 161 = some r161 := by kernel_rfl
def r162 : TyRow := ⟨some (1, false), [], none, some [.nilFunc], .other⟩
theorem row162 : rowOf Try.prog 162 = some r162 := by kernel_rfl
def r163 : TyRow := ⟨some (1, false), [], none, some [.nilFunc], .other⟩
theorem row163 : rowOf Try.prog 163 = some r163 := by kernel_rfl
def r164 : TyRow := ⟨some (1, false), [], none, some [.nilFunc], .other⟩
theorem row164 : rowOf Try.prog 164 = some r164 := by kernel_rfl
def r165 : TyRow := ⟨some (1, false), [], none, some [.nilFunc], .other⟩
theorem row165 : rowOf Try.prog 165 = some r165 := by kernel_rfl
def r166 : TyRow := ⟨some (1, false), [], none, some [.nilFunc], .other⟩
theorem row166 : rowOf Try.prog 166 = some r166 := by kernel_rfl
def r167 : TyRow := ⟨some (1, false), [], none, some [.nilFunc], .other⟩
theorem row167 : rowOf Try.prog 167 = some r167 := by kernel_rfl
def r168 : TyRow := ⟨some (5, true), [some (0, 1, false), some (1, 1, false), some (2, 1, false), some (3, 1, false), some (4, 1, false)], none, some [.int .i64 0, .string .empty, .slice none 0 0, .int .i64 0, .int .i64 0], .struct 5⟩
theorem row168 : rowOf Try.prog 168 = some r168 := by kernel_rfl
def r169 : TyRow := ⟨some (5, true), [some (0, 1, false), some (1, 1, false), some (2, 1, false), some (3, 1, false), some (4, 1, false)], none, some [.int .i64 0, .string .empty, .slice none 0 0, .int .i64 0, .int .i64 0], .struct 5⟩
theorem row169 : rowOf Try.prog 169 = some r169 := by kernel_rfl
def r170 : TyRow := ⟨some (1, false), [], none, some [.nilFunc], .other⟩
theorem row170 : rowOf Try.prog 170 = some r170 := by kernel_rfl
def r171 : TyRow := ⟨some (1, false), [], none, some [.nilFunc], .other⟩
theorem row171 : rowOf Try.prog 171 = some r171 := by kernel_rfl
def r172 : TyRow := ⟨some (1, false), [], none, some [.nilFunc], .other⟩
theorem row172 : rowOf Try.prog 172 = some r172 := by kernel_rfl
def r173 : TyRow := ⟨some (1, false), [], none, some [.nilFunc], .other⟩
theorem row173 : rowOf Try.prog 173 = some r173 := by kernel_rfl
def r174 : TyRow := ⟨some (1, false), [], none, some [.nilFunc], .other⟩
theorem row174 : rowOf Try.prog 174 = some r174 := by kernel_rfl
def r175 : TyRow := ⟨some (1, false), [], none, some [.nilFunc], .other⟩
theorem row175 : rowOf Try.prog 175 = some r175 := by kernel_rfl
def r176 : TyRow := ⟨some (1, false), [], none, some [.nilFunc], .other⟩
theorem row176 : rowOf Try.prog 176 = some r176 := by kernel_rfl
def r177 : TyRow := ⟨some (1, false), [], none, some [.nilFunc], .other⟩
theorem row177 : rowOf Try.prog 177 = some r177 := by kernel_rfl
def r178 : TyRow := ⟨some (1, false), [], none, some [.nilFunc], .other⟩
theorem row178 : rowOf Try.prog 178 = some r178 := by kernel_rfl
def r179 : TyRow := ⟨some (1, false), [], none, some [.nilFunc], .other⟩
theorem row179 : rowOf Try.prog 179 = some r179 := by kernel_rfl
def r180 : TyRow := ⟨some (1, false), [], none, some [.nilFunc], .other⟩
theorem row180 : rowOf Try.prog 180 = some r180 := by kernel_rfl
def r181 : TyRow := ⟨some (1, false), [], none, some [.nilFunc], .other⟩
theorem row181 : rowOf Try.prog 181 = some r181 := by kernel_rfl
def r182 : TyRow := ⟨some (1, false), [], none, some [.nilFunc], .other⟩
theorem row182 : rowOf Try.prog 182 = some r182 := by kernel_rfl
def r183 : TyRow := ⟨some (1, false), [], none, some [.nilFunc], .other⟩
theorem row183 : rowOf Try.prog 183 = some r183 := by kernel_rfl
def r184 : TyRow := ⟨some (3, true), [some (0, 1, false), some (1, 1, false), some (2, 1, false)], none, some [.string .empty, .int .i64 0, .string .empty], .struct 3⟩
theorem row184 : rowOf Try.prog 184 = some r184 := by kernel_rfl
def r185 : TyRow := ⟨some (1, false), [], none, some [.nilFunc], .other⟩
theorem row185 : rowOf Try.prog 185 = some r185 := by kernel_rfl
def r186 : TyRow := ⟨some (1, false), [], none, some [.nilFunc], .other⟩
theorem row186 : rowOf Try.prog 186 = some r186 := by kernel_rfl
def r187 : TyRow := ⟨some (1, false), [], none, some [.nilFunc], .other⟩
theorem row187 : rowOf Try.prog 187 = some r187 := by kernel_rfl
def r188 : TyRow := ⟨some (1, false), [], none, some [.nilFunc], .other⟩
theorem row188 : rowOf Try.prog 188 = some r188 := by kernel_rfl
def r189 : TyRow := ⟨some (1, false), [], none, some [.nilFunc], .other⟩
theorem row189 : rowOf Try.prog 189 = some r189 := by kernel_rfl
def r190 : TyRow := ⟨some (1, false), [], none, some [.nilFunc], .other⟩
theorem row190 : rowOf Try.prog 190 = some r190 := by kernel_rfl
def r191 : TyRow := ⟨some (1, false), [], none, some [.nilFunc], .other⟩
theorem row191 : rowOf Try.prog 191 = some r191 := by kernel_rfl
def r192 : TyRow := ⟨some (5, true), [some (0, 1, false), some (1, 4, true)], none, some [.int .i64 0, .int .i64 0, .string .empty, .string .empty, .string .empty], .struct 2⟩
theorem row192 : rowOf Try.prog 192 = some r192 := by kernel_rfl
def r193 : TyRow := ⟨some (5, true), [some (0, 1, false), some (1, 4, true)], none, some [.int .i64 0, .int .i64 0, .string .empty, .string .empty, .string .empty], .struct 2⟩
theorem row193 : rowOf Try.prog 193 = some r193 := by kernel_rfl
def r194 : TyRow := ⟨some (1, false), [], none, some [.nilFunc], .other⟩
theorem row194 : rowOf Try.prog 194 = some r194 := by kernel_rfl
def r195 : TyRow := ⟨some (1, false), [], none, some [.nilFunc], .other⟩
theorem row195 : rowOf Try.prog 195 = some r195 := by kernel_rfl
def r196 : TyRow := ⟨some (1, false), [], none, some [.nilFunc], .other⟩
theorem row196 : rowOf Try.prog 196 = some r196 := by kernel_rfl
def r197 : TyRow := ⟨some (1, false), [], none, some [.nilFunc], .other⟩
theorem row197 : rowOf Try.prog 197 = some r197 := by kernel_rfl
def r198 : TyRow := ⟨some (1, false), [], none, some [.nilFunc], .other⟩
theorem row198 : rowOf Try.prog 198 = some r198 := by kernel_rfl
def r199 : TyRow := ⟨some (1, false), [], none, some [.nilFunc], .other⟩
theorem row199 : rowOf Try.prog 199 = some r199 := by kernel_rfl
def r200 : TyRow := ⟨some (1, false), [], none, some [.nilFunc], .other⟩
theorem row200 : rowOf Try.prog 200 = some r200 := by kernel_rfl
def r201 : TyRow := ⟨some (3, true), [some (0, 1, false), some (1, 1, false), some (2, 1, false)], none, some [.string .empty, .string .empty, .int .i64 0], .struct 3⟩
theorem row201 : rowOf Try.prog 201 = some r201 := by kernel_rfl
def r202 : TyRow := ⟨some (1, false), [], none, some [.nilFunc], .other⟩
theorem row202 : rowOf Try.prog 202 = some r202 := by kernel_rfl
def r203 : TyRow := ⟨some (1, false), [], none, some [.nilFunc], .other⟩
theorem row203 : rowOf Try.prog 203 = some r203 := by kernel_rfl
def r204 : TyRow := ⟨some (1, false), [], none, some [.nilFunc], .other⟩
theorem row204 : rowOf Try.prog 204 = some r204 := by kernel_rfl
def r205 : TyRow := ⟨some (1, false), [], none, some [.nilFunc], .other⟩
theorem row205 : rowOf Try.prog 205 = some r205 := by kernel_rfl
def r206 : TyRow := ⟨some (1, false), [], none, some [.nilFunc], .other⟩
theorem row206 : rowOf Try.prog 206 = some r206 := by kernel_rfl
def r207 : TyRow := ⟨some (1, false), [], none, some [.nilFunc], .other⟩
theorem row207 : rowOf Try.prog 207 = some r207 := by kernel_rfl
def r208 : TyRow := ⟨some (1, false), [], none, some [.nilFunc], .other⟩
theorem row208 : rowOf Try.prog 208 = some r208 := by kernel_rfl
def r209 : TyRow := ⟨some (1, false), [], none, some [.nilFunc], .other⟩
theorem row209 : rowOf Try.prog 209 = some r209 := by kernel_rfl
def r210 : TyRow := ⟨some (1, false), [], none, some [.nilFunc], .other⟩
theorem row210 : rowOf Try.prog 210 = some r210 := by kernel_rfl
def r211 : TyRow := ⟨some (1, false), [], none, some [.nilFunc], .other⟩
theorem row211 : rowOf Try.prog 211 = some r211 := by kernel_rfl
def r212 : TyRow := ⟨some (1, false), [], none, some [.nilFunc], .other⟩
theorem row212 : rowOf Try.prog 212 = some r212 := by kernel_rfl
def r213 : TyRow := ⟨some (1, false), [], none, some [.int .u64 0], .int .u64⟩
theorem row213 : rowOf Try.prog 213 = some r213 := by kernel_rfl
def r214 : TyRow := ⟨some (4, true), [some (0, 1, false), some (1, 1, false), some (2, 1, false), some (3, 1, false)], none, some [.slice none 0 0, .int .i64 0, .int .u64 0, .int .i64 0], .struct 4⟩
theorem row214 : rowOf Try.prog 214 = some r214 := by kernel_rfl
def r215 : TyRow := ⟨some (4, true), [some (0, 1, false), some (1, 1, false), some (2, 1, false), some (3, 1, false)], none, some [.slice none 0 0, .int .i64 0, .int .u64 0, .int .i64 0], .struct 4⟩
theorem row215 : rowOf Try.prog 215 = some r215 := by kernel_rfl
def r216 : TyRow := ⟨some (1, false), [], none, some [.nilFunc], .other⟩
theorem row216 : rowOf Try.prog 216 = some r216 := by kernel_rfl
def r217 : TyRow := ⟨some (1, false), [], none, some [.nilFunc], .other⟩
theorem row217 : rowOf Try.prog 217 = some r217 := by kernel_rfl
def r218 : TyRow := ⟨some (1, false), [], none, some [.nilFunc], .other⟩
theorem row218 : rowOf Try.prog 218 = some r218 := by kernel_rfl
def r219 : TyRow := ⟨some (1, false), [], none, some [.nilFunc], .other⟩
theorem row219 : rowOf Try.prog 219 = some r219 := by kernel_rfl
def r220 : TyRow := ⟨some (1, false), [], none, some [.nilFunc], .other⟩
theorem row220 : rowOf Try.prog 220 = some r220 := by kernel_rfl
def r221 : TyRow := ⟨some (1, false), [], none, some [.nilFunc], .other⟩
theorem row221 : rowOf Try.prog 221 = some r221 := by kernel_rfl
def r222 : TyRow := ⟨some (1, false), [], none, some [.nilFunc], .other⟩
theorem row222 : rowOf Try.prog 222 = some r222 := by kernel_rfl
def r223 : TyRow := ⟨some (1, false), [], none, some [.int .u64 0], .int .u64⟩
theorem row223 : rowOf Try.prog 223 = some r223 := by kernel_rfl
def r224 : TyRow := ⟨some (1, false), [], none, some [.nilFunc], .other⟩
theorem row224 : rowOf Try.prog 224 = some r224 := by kernel_rfl
def r225 : TyRow := ⟨some (5, true), [some (0, 1, false), some (1, 1, false), some (2, 1, false), some (3, 1, false), some (4, 1, false)], none, some [.int .i64 0, .string .empty, .slice none 0 0, .int .i64 0, .int .i64 0], .struct 5⟩
theorem row225 : rowOf Try.prog 225 = some r225 := by kernel_rfl
def r226 : TyRow := ⟨some (5, true), [some (0, 1, false), some (1, 1, false), some (2, 1, false), some (3, 1, false), some (4, 1, false)], none, some [.int .i64 0, .string .empty, .slice none 0 0, .int .i64 0, .int .i64 0], .struct 5⟩
theorem row226 : rowOf Try.prog 226 = some r226 := by kernel_rfl
def r227 : TyRow := ⟨some (1, false), [], none, some [.nilFunc], .other⟩
theorem row227 : rowOf Try.prog 227 = some r227 := by kernel_rfl
def r228 : TyRow := ⟨some (1, false), [], none, some [.nilFunc], .other⟩
theorem row228 : rowOf Try.prog 228 = some r228 := by kernel_rfl
def r229 : TyRow := ⟨some (1, false), [], none, some [.nilFunc], .other⟩
theorem row229 : rowOf Try.prog 229 = some r229 := by kernel_rfl
def r230 : TyRow := ⟨some (1, false), [], none, some [.nilFunc], .other⟩
theorem row230 : rowOf Try.prog 230 = some r230 := by kernel_rfl
def r231 : TyRow := ⟨some (1, false), [], none, some [.pointer none], .other⟩
theorem row231 : rowOf Try.prog 231 = some r231 := by kernel_rfl
def r232 : TyRow := ⟨some (1, false), [], none, some [.nilFunc], .other⟩
theorem row232 : rowOf Try.prog 232 = some r232 := by kernel_rfl
def r233 : TyRow := ⟨some (1, false), [], none, some [.nilFunc], .other⟩
theorem row233 : rowOf Try.prog 233 = some r233 := by kernel_rfl
def r234 : TyRow := ⟨some (1, false), [], none, some [.nilFunc], .other⟩
theorem row234 : rowOf Try.prog 234 = some r234 := by kernel_rfl
def r235 : TyRow := ⟨some (1, false), [], none, some [.map none], .other⟩
theorem row235 : rowOf Try.prog 235 = some r235 := by kernel_rfl
def r236 : TyRow := ⟨some (1, false), [], none, some [.nilFunc], .other⟩
theorem row236 : rowOf Try.prog 236 = some r236 := by kernel_rfl
def r237 : TyRow := ⟨some (1, false), [], none, some [.nilFunc], .other⟩
theorem row237 : rowOf Try.prog 237 = some r237 := by kernel_rfl
def r238 : TyRow := ⟨some (1, false), [], none, some [.nilFunc], .other⟩
theorem row238 : rowOf Try.prog 238 = some r238 := by kernel_rfl
def r239 : TyRow := ⟨some (1, false), [], none, some [.nilFunc], .other⟩
theorem row239 : rowOf Try.prog 239 = some r239 := by kernel_rfl
def r240 : TyRow := ⟨some (1, false), [], none, some [.nilFunc], .other⟩
theorem row240 : rowOf Try.prog 240 = some r240 := by kernel_rfl
def r241 : TyRow := ⟨some (1, false), [], none, some [.nilFunc], .other⟩
theorem row241 : rowOf Try.prog 241 = some r241 := by kernel_rfl
def r242 : TyRow := ⟨some (1, false), [], none, some [.nilFunc], .other⟩
theorem row242 : rowOf Try.prog 242 = some r242 := by kernel_rfl
def r243 : TyRow := ⟨some (1, false), [], none, some [.nilFunc], .other⟩
theorem row243 : rowOf Try.prog 243 = some r243 := by kernel_rfl
def r244 : TyRow := ⟨some (1, false), [], none, some [.nilFunc], .other⟩
theorem row244 : rowOf Try.prog 244 = some r244 := by kernel_rfl
def r245 : TyRow := ⟨some (1, false), [], none, some [.nilFunc], .other⟩
theorem row245 : rowOf Try.prog 245 = some r245 := by kernel_rfl
def r246 : TyRow := ⟨some (1, false), [], none, some [.nilFunc], .other⟩
theorem row246 : rowOf Try.prog 246 = some r246 := by kernel_rfl
def r247 : TyRow := ⟨some (1, false), [], none, some [.nilFunc], .other⟩
theorem row247 : rowOf Try.prog 247 = some r247 := by kernel_rfl
def r248 : TyRow := ⟨some (2, true), [some (0, 1, false), some (1, 1, false)], none, some [.int .i64 0, .int .i64 0], .struct 2⟩
theorem row248 : rowOf Try.prog 248 = some r248 := by kernel_rfl
def r249 : TyRow := ⟨some (1, false), [], some (248, 2, 16), some [.slice none 0 0], .sl⟩
theorem row249 : rowOf Try.prog 249 = some r249 := by kernel_rfl
def r250 : TyRow := ⟨some (1, false), [], none, some [.nilFunc], .other⟩
theorem row250 : rowOf Try.prog 250 = some r250 := by kernel_rfl
def r251 : TyRow := ⟨some (1, false), [], none, some [.nilFunc], .other⟩
theorem row251 : rowOf Try.prog 251 = some r251 := by kernel_rfl
def r252 : TyRow := ⟨some (1, false), [], none, some [.nilFunc], .other⟩
theorem row252 : rowOf Try.prog 252 = some r252 := by kernel_rfl
def r253 : TyRow := ⟨some (3, true), [some (0, 1, false), some (1, 1, false), some (2, 1, false)], none, some [.slice none 0 0, .string .empty, .int .i64 0], .struct 3⟩
theorem row253 : rowOf Try.prog 253 = some r253 := by kernel_rfl
def r254 : TyRow := ⟨some (3, true), [some (0, 1, false), some (1, 1, false), some (2, 1, false)], none, some [.slice none 0 0, .string .empty, .int .i64 0], .struct 3⟩
theorem row254 : rowOf Try.prog 254 = some r254 := by kernel_rfl
def r255 : TyRow := ⟨some (1, false), [], none, some [.nilFunc], .other⟩
theorem row255 : rowOf Try.prog 255 = some r255 := by kernel_rfl
def r256 : TyRow := ⟨some (1, false), [], none, some [.nilFunc], .other⟩
theorem row256 : rowOf Try.prog 256 = some r256 := by kernel_rfl
def r257 : TyRow := ⟨some (1, false), [], none, some [.pointer none], .other⟩
theorem row257 : rowOf Try.prog 257 = some r257 := by kernel_rfl
def r258 : TyRow := ⟨some (1, false), [], none, some [.nilFunc], .other⟩
theorem row258 : rowOf Try.prog 258 = some r258 := by kernel_rfl
def r259 : TyRow := ⟨some (1, false), [], none, some [.nilFunc], .other⟩
theorem row259 : rowOf Try.prog 259 = some r259 := by kernel_rfl
def r260 : TyRow := ⟨some (1, false), [], some (3, 1, 8), some [.slice none 0 0], .sl⟩
theorem row260 : rowOf Try.prog 260 = some r260 := by kernel_rfl
def r261 : TyRow := ⟨some (1, false), [], none, some [.nilFunc], .other⟩
theorem row261 : rowOf Try.prog 261 = some r261 := by kernel_rfl
def r262 : TyRow := ⟨some (1, false), [], none, some [.nilFunc], .other⟩
theorem row262 : rowOf Try.prog 262 = some r262 := by kernel_rfl
def r263 : TyRow := ⟨some (1, false), [], none, some [.nilFunc], .other⟩
theorem row263 : rowOf Try.prog 263 = some r263 := by kernel_rfl
def r264 : TyRow := ⟨some (1, false), [], none, some [.nilFunc], .other⟩
theorem row264 : rowOf Try.prog 264 = some r264 := by kernel_rfl
def r265 : TyRow := ⟨some (1, false), [], none, some [.nilFunc], .other⟩
theorem row265 : rowOf Try.prog 265 = some r265 := by kernel_rfl
def r266 : TyRow := ⟨some (1, false), [], none, some [.int .i64 0], .int .i64⟩
theorem row266 : rowOf Try.prog 266 = some r266 := by kernel_rfl
def r267 : TyRow := ⟨some (1, false), [], none, none, .other⟩
theorem row267 : rowOf Try.prog 267 = some r267 := by kernel_rfl
def r268 : TyRow := ⟨some (1, false), [], none, some [.nilFunc], .other⟩
theorem row268 : rowOf Try.prog 268 = some r268 := by kernel_rfl
def r269 : TyRow := ⟨some (1, false), [], none, some [.nilFunc], .other⟩
theorem row269 : rowOf Try.prog 269 = some r269 := by kernel_rfl
def r270 : TyRow := ⟨some (1, false), [], none, some [.nilFunc], .other⟩
theorem row270 : rowOf Try.prog 270 = some r270 := by kernel_rfl
def r271 : TyRow := ⟨some (1, false), [], none, some [.nilFunc], .other⟩
theorem row271 : rowOf Try.prog 271 = some r271 := by kernel_rfl
def r272 : TyRow := ⟨some (1, false), [], none, some [.nilFunc], .other⟩
theorem row272 : rowOf Try.prog 272 = some r272 := by kernel_rfl
def r273 : TyRow := ⟨some (1, false), [], none, some [.int .u32 0], .int .u32⟩
theorem row273 : rowOf Try.prog 273 = some r273 := by kernel_rfl
def r274 : TyRow := ⟨some (1, false), [], none, some [.nilFunc], .other⟩
theorem row274 : rowOf Try.prog 274 = some r274 := by kernel_rfl
def r275 : TyRow := ⟨some (1, false), [], some (273, 1, 4), some [.slice none 0 0], .sl⟩
theorem row275 : rowOf Try.prog 275 = some r275 := by kernel_rfl
def r276 : TyRow := ⟨some (1, false), [], none, some [.nilFunc], .other⟩
theorem row276 : rowOf Try.prog 276 = some r276 := by kernel_rfl
def r277 : TyRow := ⟨some (1, false), [], none, some [.nilFunc], .other⟩
theorem row277 : rowOf Try.prog 277 = some r277 := by kernel_rfl
def r278 : TyRow := ⟨some (1, false), [], none, some [.int .u64 0], .int .u64⟩
theorem row278 : rowOf Try.prog 278 = some r278 := by kernel_rfl
def r279 : TyRow := ⟨some (1, false), [], none, some [.nilFunc], .other⟩
theorem row279 : rowOf Try.prog 279 = some r279 := by kernel_rfl
def r280 : TyRow := ⟨some (1, false), [], none, some [.nilFunc], .other⟩
theorem row280 : rowOf Try.prog 280 = some r280 := by kernel_rfl
def r281 : TyRow := ⟨some (1, false), [], none, some [.nilFunc], .other⟩
theorem row281 : rowOf Try.prog 281 = some r281 := by kernel_rfl
def r282 : TyRow := ⟨some (1, false), [], none, some [.pointer none], .other⟩
theorem row282 : rowOf Try.prog 282 = some r282 := by kernel_rfl
def r283 : TyRow := ⟨some (1, false), [], none, some [.nilFunc], .other⟩
theorem row283 : rowOf Try.prog 283 = some r283 := by kernel_rfl
def r284 : TyRow := ⟨some (1, false), [], none, some [.pointer none], .other⟩
theorem row284 : rowOf Try.prog 284 = some r284 := by kernel_rfl
def r285 : TyRow := ⟨some (1, false), [], none, none, .other⟩
theorem row285 : rowOf Try.prog 285 = some r285 := by kernel_rfl
def r286 : TyRow := ⟨some (1, false), [], none, some [.nilFunc], .other⟩
theorem row286 : rowOf Try.prog 286 = some r286 := by kernel_rfl
def r287 : TyRow := ⟨some (4, true), [some (0, 1, false), some (1, 1, false), some (2, 1, false), some (3, 1, false)], none, some [.pointer none, .pointer none, .pointer none, .string .empty], .struct 4⟩
theorem row287 : rowOf Try.prog 287 = some r287 := by kernel_rfl
def r288 : TyRow := ⟨some (4, true), [some (0, 1, false), some (1, 1, false), some (2, 1, false), some (3, 1, false)], none, some [.pointer none, .pointer none, .pointer none, .string .empty], .struct 4⟩
theorem row288 : rowOf Try.prog 288 = some r288 := by kernel_rfl
def r289 : TyRow := ⟨some (0, true), [], none, some [], .other⟩
theorem row289 : rowOf Try.prog 289 = some r289 := by kernel_rfl
def r290 : TyRow := ⟨some (0, true), [none], none, some [], .struct 1⟩
theorem row290 : rowOf Try.prog 290 = some r290 := by kernel_rfl
def r291 : TyRow := ⟨some (0, true), [none], none, some [], .struct 1⟩
theorem row291 : rowOf Try.prog 291 = some r291 := by kernel_rfl
def r292 : TyRow := ⟨some (1, false), [], none, some [.nilFunc], .other⟩
theorem row292 : rowOf Try.prog 292 = some r292 := by kernel_rfl
def r293 : TyRow := ⟨some (1, false), [], none, some [.int .u8 0], .int .u8⟩
theorem row293 : rowOf Try.prog 293 = some r293 := by kernel_rfl
def r294 : TyRow := ⟨some (1, false), [], none, some [.int .u8 0], .int .u8⟩
theorem row294 : rowOf Try.prog 294 = some r294 := by kernel_rfl
def r295 : TyRow := ⟨some (1, false), [], none, some [.nilFunc], .other⟩
theorem row295 : rowOf Try.prog 295 = some r295 := by kernel_rfl
def r296 : TyRow := ⟨some (1, false), [], none, some [.pointer none], .other⟩
theorem row296 : rowOf Try.prog 296 = some r296 := by kernel_rfl
def r297 : TyRow := ⟨some (1, false), [], none, some [.int .i32 0], .int .i32⟩
theorem row297 : rowOf Try.prog 297 = some r297 := by kernel_rfl
def r298 : TyRow := ⟨some (1, false), [], none, some [.int .i32 0], .int .i32⟩
theorem row298 : rowOf Try.prog 298 = some r298 := by kernel_rfl
def r299 : TyRow := ⟨some (11, true), [some (0, 1, false), some (1, 1, false), some (2, 1, false), some (3, 1, false), some (4, 1, false), some (5, 1, false), some (6, 1, false), some (7, 1, false), some (8, 1, false), some (9, 1, false), some (10, 1, false)], none, some [.int .u64 0, .int .u64 0, .int .u32 0, .int .u8 0, .int .u8 0, .int .u8 0, .int .u8 0, .nilFunc, .pointer none, .int .i32 0, .int .i32 0], .struct 11⟩
theorem row299 : rowOf Try.prog 299 = some r299 := by kernel_rfl
def tab : Tab := (.node 150 r150 (.node 75 r75 (.node 37 r37 (.node 18 r18 (.node 9 r9 (.node 4 r4 (.node 2 r2 (.node 1 r1 (.node 0 r0 .nil .nil) .nil) (.node 3 r3 .nil .nil)) (.node 7 r7 (.node 6 r6 (.node 5 r5 .nil .nil) .nil) (.node 8 r8 .nil .nil))) (.node 14 r14 (.node 12 r12 (.node 11 r11 (.node 10 r10 .nil .nil) .nil) (.node 13 r13 .nil .nil)) (.node 16 r16 (.node 15 r15 .nil .nil) (.node 17 r17 .nil .nil)))) (.node 28 r28 (.node 23 r23 (.node 21 r21 (.node 20 r20 (.node 19 r19 .nil .nil) .nil) (.node 22 r22 .nil .nil)) (.node 26 r26 (.node 25 r25 (.node 24 r24 .nil .nil) .nil) (.node 27 r27 .nil .nil))) (.node 33 r33 (.node 31 r31 (.node 30 r30 (.node 29 r29 .nil .nil) .nil) (.node 32 r32 .nil .nil)) (.node 35 r35 (.node 34 r34 .nil .nil) (.node 36 r36 .nil .nil))))) (.node 56 r56 (.node 47 r47 (.node 42 r42 (.node 40 r40 (.node 39 r39 (.node 38 r38 .nil .nil) .nil) (.node 41 r41 .nil .nil)) (.node 45 r45 (.node 44 r44 (.node 43 r43 .nil .nil) .nil) (.node 46 r46 .nil .nil))) (.node 52 r52 (.node 50 r50 (.node 49 r49 (.node 48 r48 .nil .nil) .nil) (.node 51 r51 .nil .nil)) (.node 54 r54 (.node 53 r53 .nil .nil) (.node 55 r55 .nil .nil)))) (.node 66 r66 (.node 61 r61 (.node 59 r59 (.node 58 r58 (.node 57 r57 .nil .nil) .nil) (.node 60 r60 .nil .nil)) (.node 64 r64 (.node 63 r63 (.node 62 r62 .nil .nil) .nil) (.node 65 r65 .nil .nil))) (.node 71 r71 (.node 69 r69 (.node 68 r68 (.node 67 r67 .nil .nil) .nil) (.node 70 r70 .nil .nil)) (.node 73 r73 (.node 72 r72 .nil .nil) (.node 74 r74 .nil .nil)))))) (.node 113 r113 (.node 94 r94 (.node 85 r85 (.node 80 r80 (.node 78 r78 (.node 77 r77 (.node 76 r76 .nil .nil) .nil) (.node 79 r79 .nil .nil)) (.node 83 r83 (.node 82 r82 (.node 81 r81 .nil .nil) .nil) (.node 84 r84 .nil .nil))) (.node 90 r90 (.node 88 r88 (.node 87 r87 (.node 86 r86 .nil .nil) .nil) (.node 89 r89 .nil .nil)) (.node 92 r92 (.node 91 r91 .nil .nil) (.node 93 r93 .nil .nil)))) (.node 104 r104 (.node 99 r99 (.node 97 r97 (.node 96 r96 (.node 95 r95 .nil .nil) .nil) (.node 98 r98 .nil .nil)) (.node 102 r102 (.node 101 r101 (.node 100 r100 .nil .nil) .nil) (.node 103 r103 .nil .nil))) (.node 109 r109 (.node 107 r107 (.node 106 r106 (.node 105 r105 .nil .nil) .nil) (.node 108 r108 .nil .nil)) (.node 111 r111 (.node 110 r110 .nil .nil) (.node 112 r112 .nil .nil))))) (.node 132 r132 (.node 123 r123 (.node 118 r118 (.node 116 r116 (.node 115 r115 (.node 114 r114 .nil .nil) .nil) (.node 117 r117 .nil .nil)) (.node 121 r121 (.node 120 r120 (.node 119 r119 .nil .nil) .nil) (.node 122 r122 .nil .nil))) (.node 128 r128 (.node 126 r126 (.node 125 r125 (.node 124 r124 .nil .nil) .nil) (.node 127 r127 .nil .nil)) (.node 130 r130 (.node 129 r129 .nil .nil) (.node 131 r131 .nil .nil)))) (.node 141 r141 (.node 137 r137 (.node 135 r135 (.node 134 r134 (.node 133 r133 .nil .nil) .nil) (.node 136 r136 .nil .nil)) (.node 139 r139 (.node 138 r138 .nil .nil) (.node 140 r140 .nil .nil))) (.node 146 r146 (.node 144 r144 (.node 143 r143 (.node 142 r142 .nil .nil) .nil) (.node 145 r145 .nil .nil)) (.node 148 r148 (.node 147 r147 .nil .nil) (.node 149 r149 .nil .nil))))))) (.node 225 r225 (.node 188 r188 (.node 169 r169 (.node 160 r160 (.node 155 r155 (.node 153 r153 (.node 152 r152 (.node 151 r151 .nil .nil) .nil) (.node 154 r154 .nil .nil)) (.node 158 r158 (.node 157 r157 (.node 156 r156 .nil .nil) .nil) (.node 159 r159 .nil .nil))) (.node 165 r165 (.node 163 r163 (.node 162 r162 (.node 161 r161 .nil .nil) .nil) (.node 164 r164 .nil .nil)) (.node 167 r167 (.node 166 r166 .nil .nil) (.node 168 r168 .nil .nil)))) (.node 179 r179 (.node 174 r174 (.node 172 r172 (.node 171 r171 (.node 170 r170 .nil .nil) .nil) (.node 173 r173 .nil .nil)) (.node 177 r177 (.node 176 r176 (.node 175 r175 .nil .nil) .nil) (.node 178 r178 .nil .nil))) (.node 184 r184 (.node 182 r182 (.node 181 r181 (.node 180 r180 .nil .nil) .nil) (.node 183 r183 .nil .nil)) (.node 186 r186 (.node 185 r185 .nil .nil) (.node 187 r187 .nil .nil))))) (.node 207 r207 (.node 198 r198 (.node 193 r193 (.node 191 r191 (.node 190 r190 (.node 189 r189 .nil .nil) .nil) (.node 192 r192 .nil .nil)) (.node 196 r196 (.node 195 r195 (.node 194 r194 .nil .nil) .nil) (.node 197 r197 .nil .nil))) (.node 203 r203 (.node 201 r201 (.node 200 r200 (.node 199 r199 .nil .nil) .nil) (.node 202 r202 .nil .nil)) (.node 205 r205 (.node 204 r204 .nil .nil) (.node 206 r206 .nil .nil)))) (.node 216 r216 (.node 212 r212 (.node 210 r210 (.node 209 r209 (.node 208 r208 .nil .nil) .nil) (.node 211 r211 .nil .nil)) (.node 214 r214 (.node 213 r213 .nil .nil) (.node 215 r215 .nil .nil))) (.node 221 r221 (.node 219 r219 (.node 218 r218 (.node 217 r217 .nil .nil) .nil) (.node 220 r220 .nil .nil)) (.node 223 r223 (.node 222 r222 .nil .nil) (.node 224 r224 .nil .nil)))))) (.node 263 r263 (.node 244 r244 (.node 235 r235 (.node 230 r230 (.node 228 r228 (.node 227 r227 (.node 226 r226 .nil .nil) .nil) (.node 229 r229 .nil .nil)) (.node 233 r233 (.node 232 r232 (.node 231 r231 .nil .nil) .nil) (.node 234 r234 .nil .nil))) (.node 240 r240 (.node 238 r238 (.node 237 r237 (.node 236 r236 .nil .nil) .nil) (.node 239 r239 .nil .nil)) (.node 242 r242 (.node 241 r241 .nil .nil) (.node 243 r243 .nil .nil)))) (.node 254 r254 (.node 249 r249 (.node 247 r247 (.node 246 r246 (.node 245 r245 .nil .nil) .nil) (.node 248 r248 .nil .nil)) (.node 252 r252 (.node 251 r251 (.node 250 r250 .nil .nil) .nil) (.node 253 r253 .nil .nil))) (.node 259 r259 (.node 257 r257 (.node 256 r256 (.node 255 r255 .nil .nil) .nil) (.node 258 r258 .nil .nil)) (.node 261 r261 (.node 260 r260 .nil .nil) (.node 262 r262 .nil .nil))))) (.node 282 r282 (.node 273 r273 (.node 268 r268 (.node 266 r266 (.node 265 r265 (.node 264 r264 .nil .nil) .nil) (.node 267 r267 .nil .nil)) (.node 271 r271 (.node 270 r270 (.node 269 r269 .nil .nil) .nil) (.node 272 r272 .nil .nil))) (.node 278 r278 (.node 276 r276 (.node 275 r275 (.node 274 r274 .nil .nil) .nil) (.node 277 r277 .nil .nil)) (.node 280 r280 (.node 279 r279 .nil .nil) (.node 281 r281 .nil .nil)))) (.node 291 r291 (.node 287 r287 (.node 285 r285 (.node 284 r284 (.node 283 r283 .nil .nil) .nil) (.node 286 r286 .nil .nil)) (.node 289 r289 (.node 288 r288 .nil .nil) (.node 290 r290 .nil .nil))) (.node 296 r296 (.node 294 r294 (.node 293 r293 (.node 292 r292 .nil .nil) .nil) (.node 295 r295 .nil .nil)) (.node 298 r298 (.node 297 r297 .nil .nil) (.node 299 r299 .nil .nil))))))))
theorem tab_ok : tab.ok Try.prog := ⟨row150, ⟨row75, ⟨row37, ⟨row18, ⟨row9, ⟨row4, ⟨row2, ⟨row1, ⟨row0, trivial, trivial⟩, trivial⟩, ⟨row3, trivial, trivial⟩⟩, ⟨row7, ⟨row6, ⟨row5, trivial, trivial⟩, trivial⟩, ⟨row8, trivial, trivial⟩⟩⟩, ⟨row14, ⟨row12, ⟨row11, ⟨row10, trivial, trivial⟩, trivial⟩, ⟨row13, trivial, trivial⟩⟩, ⟨row16, ⟨row15, trivial, trivial⟩, ⟨row17, trivial, trivial⟩⟩⟩⟩, ⟨row28, ⟨row23, ⟨row21, ⟨row20, ⟨row19, trivial, trivial⟩, trivial⟩, ⟨row22, trivial, trivial⟩⟩, ⟨row26, ⟨row25, ⟨row24, trivial, trivial⟩, trivial⟩, ⟨row27, trivial, trivial⟩⟩⟩, ⟨row33, ⟨row31, ⟨row30, ⟨row29, trivial, trivial⟩, trivial⟩, ⟨row32, trivial, trivial⟩⟩, ⟨row35, ⟨row34, trivial, trivial⟩, ⟨row36, trivial, trivial⟩⟩⟩⟩⟩, ⟨row56, ⟨row47, ⟨row42, ⟨row40, ⟨row39, ⟨row38, trivial, trivial⟩, trivial⟩, ⟨row41, trivial, trivial⟩⟩, ⟨row45, ⟨row44, ⟨row43, trivial, trivial⟩, trivial⟩, ⟨row46, trivial, trivial⟩⟩⟩, ⟨row52, ⟨row50, ⟨row49, ⟨row48, trivial, trivial⟩, trivial⟩, ⟨row51, trivial, trivial⟩⟩, ⟨row54, ⟨row53, trivial, trivial⟩, ⟨row55, trivial, trivial⟩⟩⟩⟩, ⟨row66, ⟨row61, ⟨row59, ⟨row58, ⟨row57, trivial, trivial⟩, trivial⟩, ⟨row60, trivial, trivial⟩⟩, ⟨row64, ⟨row63, ⟨row62, trivial, trivial⟩, trivial⟩, ⟨row65, trivial, trivial⟩⟩⟩, ⟨row71, ⟨row69, ⟨row68, ⟨row67, trivial, trivial⟩, trivial⟩, ⟨row70, trivial, trivial⟩⟩, ⟨row73, ⟨row72, trivial, trivial⟩, ⟨row74, trivial, trivial⟩⟩⟩⟩⟩⟩, ⟨row113, ⟨row94, ⟨row85, ⟨row80, ⟨row78, ⟨row77, ⟨row76, trivial, trivial⟩, trivial⟩, ⟨row79, trivial, trivial⟩⟩, ⟨row83, ⟨row82, ⟨row81, trivial, trivial⟩, trivial⟩, ⟨row84, trivial, trivial⟩⟩⟩, ⟨row90, ⟨row88, ⟨row87, ⟨row86, trivial, trivial⟩, trivial⟩, ⟨row89, trivial, trivial⟩⟩, ⟨row92, ⟨row91, trivial, trivial⟩, ⟨row93, trivial, trivial⟩⟩⟩⟩, ⟨row104, ⟨row99, ⟨row97, ⟨row96, ⟨row95, trivial, trivial⟩, trivial⟩, ⟨row98, trivial, trivial⟩⟩, ⟨row102, ⟨row101, ⟨row100, trivial, trivial⟩, trivial⟩, ⟨row103, trivial, trivial⟩⟩⟩, ⟨row109, ⟨row107, ⟨row106, ⟨row105, trivial, trivial⟩, trivial⟩, ⟨row108, trivial, trivial⟩⟩, ⟨row111, ⟨row110, trivial, trivial⟩, ⟨row112, trivial, trivial⟩⟩⟩⟩⟩, ⟨row132, ⟨row123, ⟨row118, ⟨row116, ⟨row115, ⟨row114, trivial, trivial⟩, trivial⟩, ⟨row117, trivial, trivial⟩⟩, ⟨row121, ⟨row120, ⟨row119, trivial, trivial⟩, trivial⟩, ⟨row122, trivial, trivial⟩⟩⟩, ⟨row128, ⟨row126, ⟨row125, ⟨row124, trivial, trivial⟩, trivial⟩, ⟨row127, trivial, trivial⟩⟩, ⟨row130, ⟨row129, trivial, trivial⟩, ⟨row131, trivial, trivial⟩⟩⟩⟩, ⟨row141, ⟨row137, ⟨row135, ⟨row134, ⟨row133, trivial, trivial⟩, trivial⟩, ⟨row136, trivial, trivial⟩⟩, ⟨row139, ⟨row138, trivial, trivial⟩, ⟨row140, trivial, trivial⟩⟩⟩, ⟨row146, ⟨row144, ⟨row143, ⟨row142, trivial, trivial⟩, trivial⟩, ⟨row145, trivial, trivial⟩⟩, ⟨row148, ⟨row147, trivial, trivial⟩, ⟨row149, trivial, trivial⟩⟩⟩⟩⟩⟩⟩, ⟨row225, ⟨row188, ⟨row169, ⟨row160, ⟨row155, ⟨row153, ⟨row152, ⟨row151, trivial, trivial⟩, trivial⟩, ⟨row154, trivial, trivial⟩⟩, ⟨row158, ⟨row157, ⟨row156, trivial, trivial⟩, trivial⟩, ⟨row159, trivial, trivial⟩⟩⟩, ⟨row165, ⟨row163, ⟨row162, ⟨row161, trivial, trivial⟩, trivial⟩, ⟨row164, trivial, trivial⟩⟩, ⟨row167, ⟨row166, trivial, trivial⟩, ⟨row168, trivial, trivial⟩⟩⟩⟩, ⟨row179, ⟨row174, ⟨row172, ⟨row171, ⟨row170, trivial, trivial⟩, trivial⟩, ⟨row173, trivial, trivial⟩⟩, ⟨row177, ⟨row176, ⟨row175, trivial, trivial⟩, trivial⟩, ⟨row178, trivial, trivial⟩⟩⟩, ⟨row184, ⟨row182, ⟨row181, ⟨row180, trivial, trivial⟩, trivial⟩, ⟨row183, trivial, trivial⟩⟩, ⟨row186, ⟨row185, trivial, trivial⟩, ⟨row187, trivial, trivial⟩⟩⟩⟩⟩, ⟨row207, ⟨row198, ⟨row193, ⟨row191, ⟨row190, ⟨row189, trivial, trivial⟩, trivial⟩, ⟨row192, trivial, trivial⟩⟩, ⟨row196, ⟨row195, ⟨row194, trivial, trivial⟩, trivial⟩, ⟨row197, trivial, trivial⟩⟩⟩, ⟨row203, ⟨row201, ⟨row200, ⟨row199, trivial, trivial⟩, trivial⟩, ⟨row202, trivial, trivial⟩⟩, ⟨row205, ⟨row204, trivial, trivial⟩, ⟨row206, trivial, trivial⟩⟩⟩⟩, ⟨row216, ⟨row212, ⟨row210, ⟨row209, ⟨row208, trivial, trivial⟩, trivial⟩, ⟨row211, trivial, trivial⟩⟩, ⟨row214, ⟨row213, trivial, trivial⟩, ⟨row215, trivial, trivial⟩⟩⟩, ⟨row221, ⟨row219, ⟨row218, ⟨row217, trivial, trivial⟩, trivial⟩, ⟨row220, trivial, trivial⟩⟩, ⟨row223, ⟨row222, trivial, trivial⟩, ⟨row224, trivial, trivial⟩⟩⟩⟩⟩⟩, ⟨row263, ⟨row244, ⟨row235, ⟨row230, ⟨row228, ⟨row227, ⟨row226, trivial, trivial⟩, trivial⟩, ⟨row229, trivial, trivial⟩⟩, ⟨row233, ⟨row232, ⟨row231, trivial, trivial⟩, trivial⟩, ⟨row234, trivial, trivial⟩⟩⟩, ⟨row240, ⟨row238, ⟨row237, ⟨row236, trivial, trivial⟩, trivial⟩, ⟨row239, trivial, trivial⟩⟩, ⟨row242, ⟨row241, trivial, trivial⟩, ⟨row243, trivial, trivial⟩⟩⟩⟩, ⟨row254, ⟨row249, ⟨row247, ⟨row246, ⟨row245, trivial, trivial⟩, trivial⟩, ⟨row248, trivial, trivial⟩⟩, ⟨row252, ⟨row251, ⟨row250, trivial, trivial⟩, trivial⟩, ⟨row253, trivial, trivial⟩⟩⟩, ⟨row259, ⟨row257, ⟨row256, ⟨row255, trivial, trivial⟩, trivial⟩, ⟨row258, trivial, trivial⟩⟩, ⟨row261, ⟨row260, trivial, trivial⟩, ⟨row262, trivial, trivial⟩⟩⟩⟩⟩, ⟨row282, ⟨row273, ⟨row268, ⟨row266, ⟨row265, ⟨row264, trivial, trivial⟩, trivial⟩, ⟨row267, trivial, trivial⟩⟩, ⟨row271, ⟨row270, ⟨row269, trivial, trivial⟩, trivial⟩, ⟨row272, trivial, trivial⟩⟩⟩, ⟨row278, ⟨row276, ⟨row275, ⟨row274, trivial, trivial⟩, trivial⟩, ⟨row277, trivial, trivial⟩⟩, ⟨row280, ⟨row279, trivial, trivial⟩, ⟨row281, trivial, trivial⟩⟩⟩⟩, ⟨row291, ⟨row287, ⟨row285, ⟨row284, ⟨row283, trivial, trivial⟩, trivial⟩, ⟨row286, trivial, trivial⟩⟩, ⟨row289, ⟨row288, trivial, trivial⟩, ⟨row290, trivial, trivial⟩⟩⟩, ⟨row296, ⟨row294, ⟨row293, ⟨row292, trivial, trivial⟩, trivial⟩, ⟨row295, trivial, trivial⟩⟩, ⟨row298, ⟨row297, trivial, trivial⟩, ⟨row299, trivial, trivial⟩⟩⟩⟩⟩⟩⟩⟩
theorem mix : Try.prog.follows .mixedOrders = true := by kernel_rfl
def tb : Tab := .marks [20, 28, 29, 51, 58, 67, 68, 82, 96, 106, 150, 112, 113, 114, 121, 122, 123, 124, 159, 160, 188, 189, 190, 191, 194, 215, 219, 224, 211] [112, 113, 114, 121, 122, 123, 124, 159, 160, 188, 189, 190, 191, 194, 215, 219, 224, 1000211] [] tab
theorem tb_ok : tb.ok Try.prog := tab_ok
def tbF (o : List (Nat × OT)) : Tab := .marks [20, 28, 29, 51, 58, 67, 68, 82, 96, 106, 150, 112, 113, 114, 121, 122, 123, 124, 159, 160, 188, 189, 190, 191, 194, 215, 219, 224, 211] [112, 113, 114, 121, 122, 123, 124, 159, 160, 188, 189, 190, 191, 194, 215, 219, 224, 1000211] o tab
theorem tbF_ok (o : List (Nat × OT)) : (tbF o).ok Try.prog := tab_ok
end Go.Proofs.Ytlijeincckbdaaa

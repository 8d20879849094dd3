/- The types and functions of the translation, as closed facts. No statement of the seat is proved here; conditions: none. -/
import Derived.Test.YtmmmbkmjkpfleaaGreatProg
import Derived.Test.YtmmmbkmjkpfleaaGreatEngRun
namespace Go.Proofs.YtmmmbkmjkpfleaaGreat
open Go Go.RowKit
theorem prog_mixed : Tryz.prog.follows .mixedOrders = true := by kernel_rfl
theorem tA3 : isA Tryz.prog 3 = some false := by kernel_rfl
theorem tS3 : szT Tryz.prog 3 = some 1 := by kernel_rfl
theorem tZ3 : zeroT Tryz.prog 3 = some #[.int .i64 0] := by kernel_rfl
theorem tI3 : intT Tryz.prog 3 = some .i64 := by kernel_rfl
theorem tY3 : bytesT Tryz.prog 3 = some 8 := by kernel_rfl
theorem tA4 : isA Tryz.prog 4 = some false := by kernel_rfl
theorem tS4 : szT Tryz.prog 4 = some 1 := by kernel_rfl
theorem tZ4 : zeroT Tryz.prog 4 = some #[.bool false] := by kernel_rfl
theorem tA5 : isA Tryz.prog 5 = some false := by kernel_rfl
theorem tS5 : szT Tryz.prog 5 = some 1 := by kernel_rfl
theorem tI5 : intT Tryz.prog 5 = some .u8 := by kernel_rfl
theorem tA22 : isA Tryz.prog 22 = some false := by kernel_rfl
theorem tL22 : sliceT Tryz.prog 22 = some 111 := by kernel_rfl
theorem tA23 : isA Tryz.prog 23 = some false := by kernel_rfl
theorem tL23 : sliceT Tryz.prog 23 = some 70 := by kernel_rfl
theorem tA24 : isA Tryz.prog 24 = some false := by kernel_rfl
theorem tL24 : sliceT Tryz.prog 24 = some 26 := by kernel_rfl
theorem tA25 : isA Tryz.prog 25 = some false := by kernel_rfl
theorem tL25 : sliceT Tryz.prog 25 = some 5 := by kernel_rfl
theorem tS26 : szT Tryz.prog 26 = some 3 := by kernel_rfl
theorem tR26 : arrT Tryz.prog 26 = some (3, 5) := by kernel_rfl
theorem tA28 : isA Tryz.prog 28 = some true := by kernel_rfl
theorem tS28 : szT Tryz.prog 28 = some 7 := by kernel_rfl
theorem tA29 : isA Tryz.prog 29 = some false := by kernel_rfl
theorem tP29 : ptrT Tryz.prog 29 = true := by kernel_rfl
theorem tA30 : isA Tryz.prog 30 = some false := by kernel_rfl
theorem tP30 : ptrT Tryz.prog 30 = true := by kernel_rfl
theorem tA32 : isA Tryz.prog 32 = some true := by kernel_rfl
theorem tS32 : szT Tryz.prog 32 = some 2 := by kernel_rfl
theorem tZ32 : zeroT Tryz.prog 32 = some #[.pointer none, .pointer none] := by kernel_rfl
theorem tA33 : isA Tryz.prog 33 = some false := by kernel_rfl
theorem tL33 : sliceT Tryz.prog 33 = some 56 := by kernel_rfl
theorem tA34 : isA Tryz.prog 34 = some false := by kernel_rfl
theorem tS34 : szT Tryz.prog 34 = some 1 := by kernel_rfl
theorem tL34 : sliceT Tryz.prog 34 = some 3 := by kernel_rfl
theorem tA36 : isA Tryz.prog 36 = some true := by kernel_rfl
theorem tS36 : szT Tryz.prog 36 = some 9 := by kernel_rfl
theorem tZ36 : zeroT Tryz.prog 36 = some #[.pointer none, .pointer none, .pointer none, .pointer none, .slice none 0 0, .slice none 0 0, .slice none 0 0, .slice none 0 0, .slice none 0 0] := by kernel_rfl
theorem tA40 : isA Tryz.prog 40 = some false := by kernel_rfl
theorem tA42 : isA Tryz.prog 42 = some true := by kernel_rfl
theorem tS42 : szT Tryz.prog 42 = some 2 := by kernel_rfl
theorem tZ42 : zeroT Tryz.prog 42 = some #[.pointer none, .slice none 0 0] := by kernel_rfl
theorem tL47 : sliceT Tryz.prog 47 = some 91 := by kernel_rfl
theorem tA56 : isA Tryz.prog 56 = some true := by kernel_rfl
theorem tS56 : szT Tryz.prog 56 = some 3 := by kernel_rfl
theorem tZ56 : zeroT Tryz.prog 56 = some #[.int .i64 0, .int .i64 0, .int .i64 0] := by kernel_rfl
theorem tY56 : bytesT Tryz.prog 56 = some 24 := by kernel_rfl
theorem tA70 : isA Tryz.prog 70 = some true := by kernel_rfl
theorem tS70 : szT Tryz.prog 70 = some 4 := by kernel_rfl
theorem tA82 : isA Tryz.prog 82 = some false := by kernel_rfl
theorem tS82 : szT Tryz.prog 82 = some 1 := by kernel_rfl
theorem tZ82 : zeroT Tryz.prog 82 = some #[.pointer none] := by kernel_rfl
theorem tA83 : isA Tryz.prog 83 = some false := by kernel_rfl
theorem tS83 : szT Tryz.prog 83 = some 1 := by kernel_rfl
theorem tA91 : isA Tryz.prog 91 = some true := by kernel_rfl
theorem tS91 : szT Tryz.prog 91 = some 3 := by kernel_rfl
theorem tZ91 : zeroT Tryz.prog 91 = some #[.int .i64 0, .int .i64 0, .int .i64 0] := by kernel_rfl
theorem tY91 : bytesT Tryz.prog 91 = some 24 := by kernel_rfl
theorem tA103 : isA Tryz.prog 103 = some true := by kernel_rfl
theorem tS103 : szT Tryz.prog 103 = some 6 := by kernel_rfl
theorem tZ103 : zeroT Tryz.prog 103 = some #[.int .i64 0, .int .i64 0, .int .i64 0, .bool false, .bool false, .bool false] := by kernel_rfl
theorem tA111 : isA Tryz.prog 111 = some true := by kernel_rfl
theorem tS111 : szT Tryz.prog 111 = some 4 := by kernel_rfl
theorem tZ111 : zeroT Tryz.prog 111 = some #[.int .i64 0, .int .i64 0, .int .i64 0, .bool false] := by kernel_rfl
theorem tY111 : bytesT Tryz.prog 111 = some 32 := by kernel_rfl
theorem tA123 : isA Tryz.prog 123 = some true := by kernel_rfl
theorem tS123 : szT Tryz.prog 123 = some 6 := by kernel_rfl
theorem tZ123 : zeroT Tryz.prog 123 = some #[.int .i64 0, .int .i64 0, .int .i64 0, .bool false, .bool false, .bool false] := by kernel_rfl
theorem tA128 : isA Tryz.prog 128 = some true := by kernel_rfl
theorem tS128 : szT Tryz.prog 128 = some 9 := by kernel_rfl
theorem tZ128 : zeroT Tryz.prog 128 = some #[.int .i64 0, .int .i64 0, .int .i64 0, .bool false, .bool false, .bool false, .int .i64 0, .int .i64 0, .int .i64 0] := by kernel_rfl
theorem tA135 : isA Tryz.prog 135 = some true := by kernel_rfl
theorem tS135 : szT Tryz.prog 135 = some 9 := by kernel_rfl
theorem tZ135 : zeroT Tryz.prog 135 = some #[.int .i64 0, .int .i64 0, .int .i64 0, .bool false, .bool false, .bool false, .int .i64 0, .slice none 0 0, .slice none 0 0] := by kernel_rfl
theorem tF28_0 : fieldOff Tryz.prog 28 0 = some 0 := by kernel_rfl
theorem tF28_1 : fieldOff Tryz.prog 28 1 = some 1 := by kernel_rfl
theorem tF28_2 : fieldOff Tryz.prog 28 2 = some 2 := by kernel_rfl
theorem tF28_3 : fieldOff Tryz.prog 28 3 = some 3 := by kernel_rfl
theorem tF28_4 : fieldOff Tryz.prog 28 4 = some 4 := by kernel_rfl
theorem tF32_0 : fieldOff Tryz.prog 32 0 = some 0 := by kernel_rfl
theorem tF32_1 : fieldOff Tryz.prog 32 1 = some 1 := by kernel_rfl
theorem tF36_0 : fieldOff Tryz.prog 36 0 = some 0 := by kernel_rfl
theorem tF36_1 : fieldOff Tryz.prog 36 1 = some 1 := by kernel_rfl
theorem tF36_2 : fieldOff Tryz.prog 36 2 = some 2 := by kernel_rfl
theorem tF36_3 : fieldOff Tryz.prog 36 3 = some 4 := by kernel_rfl
theorem tF36_4 : fieldOff Tryz.prog 36 4 = some 5 := by kernel_rfl
theorem tF36_5 : fieldOff Tryz.prog 36 5 = some 6 := by kernel_rfl
theorem tF36_6 : fieldOff Tryz.prog 36 6 = some 7 := by kernel_rfl
theorem tF36_7 : fieldOff Tryz.prog 36 7 = some 8 := by kernel_rfl
theorem tF42_0 : fieldOff Tryz.prog 42 0 = some 0 := by kernel_rfl
theorem tF42_1 : fieldOff Tryz.prog 42 1 = some 1 := by kernel_rfl
theorem tF56_0 : fieldOff Tryz.prog 56 0 = some 0 := by kernel_rfl
theorem tF56_1 : fieldOff Tryz.prog 56 1 = some 1 := by kernel_rfl
theorem tF56_2 : fieldOff Tryz.prog 56 2 = some 2 := by kernel_rfl
theorem tF59_0 : fieldOff Tryz.prog 59 0 = some 0 := by kernel_rfl
theorem tF70_0 : fieldOff Tryz.prog 70 0 = some 0 := by kernel_rfl
theorem tF70_1 : fieldOff Tryz.prog 70 1 = some 1 := by kernel_rfl
theorem tF70_2 : fieldOff Tryz.prog 70 2 = some 2 := by kernel_rfl
theorem tF70_3 : fieldOff Tryz.prog 70 3 = some 3 := by kernel_rfl
theorem tF85_0 : fieldOff Tryz.prog 85 0 = some 0 := by kernel_rfl
theorem tF85_1 : fieldOff Tryz.prog 85 1 = some 1 := by kernel_rfl
theorem tF85_2 : fieldOff Tryz.prog 85 2 = some 3 := by kernel_rfl
theorem tF85_3 : fieldOff Tryz.prog 85 3 = some 4 := by kernel_rfl
theorem tF85_4 : fieldOff Tryz.prog 85 4 = some 5 := by kernel_rfl
theorem tF91_0 : fieldOff Tryz.prog 91 0 = some 0 := by kernel_rfl
theorem tF91_1 : fieldOff Tryz.prog 91 1 = some 1 := by kernel_rfl
theorem tF91_2 : fieldOff Tryz.prog 91 2 = some 2 := by kernel_rfl
theorem tF103_0 : fieldOff Tryz.prog 103 0 = some 0 := by kernel_rfl
theorem tF103_1 : fieldOff Tryz.prog 103 1 = some 1 := by kernel_rfl
theorem tF103_2 : fieldOff Tryz.prog 103 2 = some 2 := by kernel_rfl
theorem tF103_3 : fieldOff Tryz.prog 103 3 = some 3 := by kernel_rfl
theorem tF103_4 : fieldOff Tryz.prog 103 4 = some 4 := by kernel_rfl
theorem tF103_5 : fieldOff Tryz.prog 103 5 = some 5 := by kernel_rfl
theorem tF111_0 : fieldOff Tryz.prog 111 0 = some 0 := by kernel_rfl
theorem tF111_1 : fieldOff Tryz.prog 111 1 = some 1 := by kernel_rfl
theorem tF111_2 : fieldOff Tryz.prog 111 2 = some 2 := by kernel_rfl
theorem tF111_3 : fieldOff Tryz.prog 111 3 = some 3 := by kernel_rfl
theorem tF115_0 : fieldOff Tryz.prog 115 0 = some 0 := by kernel_rfl
theorem tF119_0 : fieldOff Tryz.prog 119 0 = some 0 := by kernel_rfl
theorem tF123_0 : fieldOff Tryz.prog 123 0 = some 0 := by kernel_rfl
theorem tF123_1 : fieldOff Tryz.prog 123 1 = some 1 := by kernel_rfl
theorem tF123_2 : fieldOff Tryz.prog 123 2 = some 2 := by kernel_rfl
theorem tF123_3 : fieldOff Tryz.prog 123 3 = some 3 := by kernel_rfl
theorem tF123_4 : fieldOff Tryz.prog 123 4 = some 4 := by kernel_rfl
theorem tF123_5 : fieldOff Tryz.prog 123 5 = some 5 := by kernel_rfl
theorem tF128_0 : fieldOff Tryz.prog 128 0 = some 0 := by kernel_rfl
theorem tF128_1 : fieldOff Tryz.prog 128 1 = some 6 := by kernel_rfl
theorem tF128_2 : fieldOff Tryz.prog 128 2 = some 7 := by kernel_rfl
theorem tF128_3 : fieldOff Tryz.prog 128 3 = some 8 := by kernel_rfl
theorem tF135_2 : fieldOff Tryz.prog 135 2 = some 7 := by kernel_rfl
theorem isFn4 : IsFn Tryz.prog 4 := ⟨_, Tryz.func4, by kernel_rfl, by kernel_rfl⟩
theorem isFn5 : IsFn Tryz.prog 5 := ⟨_, Tryz.func5, by kernel_rfl, by kernel_rfl⟩
theorem isFn6 : IsFn Tryz.prog 6 := ⟨_, Tryz.func6, by kernel_rfl, by kernel_rfl⟩
theorem isFn7 : IsFn Tryz.prog 7 := ⟨_, Tryz.func7, by kernel_rfl, by kernel_rfl⟩
theorem isFn8 : IsFn Tryz.prog 8 := ⟨_, Tryz.func8, by kernel_rfl, by kernel_rfl⟩
theorem isFn9 : IsFn Tryz.prog 9 := ⟨_, Tryz.func9, by kernel_rfl, by kernel_rfl⟩
theorem isFn10 : IsFn Tryz.prog 10 := ⟨_, Tryz.func10, by kernel_rfl, by kernel_rfl⟩
theorem isFn11 : IsFn Tryz.prog 11 := ⟨_, Tryz.func11, by kernel_rfl, by kernel_rfl⟩
theorem isFn12 : IsFn Tryz.prog 12 := ⟨_, Tryz.func12, by kernel_rfl, by kernel_rfl⟩
theorem isFn13 : IsFn Tryz.prog 13 := ⟨_, Tryz.func13, by kernel_rfl, by kernel_rfl⟩
theorem isFn14 : IsFn Tryz.prog 14 := ⟨_, Tryz.func14, by kernel_rfl, by kernel_rfl⟩
theorem isFn15 : IsFn Tryz.prog 15 := ⟨_, Tryz.func15, by kernel_rfl, by kernel_rfl⟩
theorem isFn16 : IsFn Tryz.prog 16 := ⟨_, Tryz.func16, by kernel_rfl, by kernel_rfl⟩
theorem isFn17 : IsFn Tryz.prog 17 := ⟨_, Tryz.func17, by kernel_rfl, by kernel_rfl⟩
theorem isFn18 : IsFn Tryz.prog 18 := ⟨_, Tryz.func18, by kernel_rfl, by kernel_rfl⟩
theorem isFn19 : IsFn Tryz.prog 19 := ⟨_, Tryz.func19, by kernel_rfl, by kernel_rfl⟩
theorem isFn20 : IsFn Tryz.prog 20 := ⟨_, Tryz.func20, by kernel_rfl, by kernel_rfl⟩
theorem isFn21 : IsFn Tryz.prog 21 := ⟨_, Tryz.func21, by kernel_rfl, by kernel_rfl⟩
theorem isFn22 : IsFn Tryz.prog 22 := ⟨_, Tryz.func22, by kernel_rfl, by kernel_rfl⟩
theorem isFn23 : IsFn Tryz.prog 23 := ⟨_, Tryz.func23, by kernel_rfl, by kernel_rfl⟩
theorem isFn24 : IsFn Tryz.prog 24 := ⟨_, Tryz.func24, by kernel_rfl, by kernel_rfl⟩
theorem isFn25 : IsFn Tryz.prog 25 := ⟨_, Tryz.func25, by kernel_rfl, by kernel_rfl⟩
theorem isFn26 : IsFn Tryz.prog 26 := ⟨_, Tryz.func26, by kernel_rfl, by kernel_rfl⟩
theorem isFn27 : IsFn Tryz.prog 27 := ⟨_, Tryz.func27, by kernel_rfl, by kernel_rfl⟩
theorem isFn28 : IsFn Tryz.prog 28 := ⟨_, Tryz.func28, by kernel_rfl, by kernel_rfl⟩
theorem isFn29 : IsFn Tryz.prog 29 := ⟨_, Tryz.func29, by kernel_rfl, by kernel_rfl⟩
theorem isFn30 : IsFn Tryz.prog 30 := ⟨_, Tryz.func30, by kernel_rfl, by kernel_rfl⟩
theorem isFn31 : IsFn Tryz.prog 31 := ⟨_, Tryz.func31, by kernel_rfl, by kernel_rfl⟩
theorem isFn32 : IsFn Tryz.prog 32 := ⟨_, Tryz.func32, by kernel_rfl, by kernel_rfl⟩
theorem isFn33 : IsFn Tryz.prog 33 := ⟨_, Tryz.func33, by kernel_rfl, by kernel_rfl⟩
theorem isFn34 : IsFn Tryz.prog 34 := ⟨_, Tryz.func34, by kernel_rfl, by kernel_rfl⟩
theorem isFn35 : IsFn Tryz.prog 35 := ⟨_, Tryz.func35, by kernel_rfl, by kernel_rfl⟩
theorem isFn36 : IsFn Tryz.prog 36 := ⟨_, Tryz.func36, by kernel_rfl, by kernel_rfl⟩
theorem isFn37 : IsFn Tryz.prog 37 := ⟨_, Tryz.func37, by kernel_rfl, by kernel_rfl⟩
theorem isFn38 : IsFn Tryz.prog 38 := ⟨_, Tryz.func38, by kernel_rfl, by kernel_rfl⟩
theorem isFn39 : IsFn Tryz.prog 39 := ⟨_, Tryz.func39, by kernel_rfl, by kernel_rfl⟩
theorem isFn40 : IsFn Tryz.prog 40 := ⟨_, Tryz.func40, by kernel_rfl, by kernel_rfl⟩
theorem isFn41 : IsFn Tryz.prog 41 := ⟨_, Tryz.func41, by kernel_rfl, by kernel_rfl⟩
theorem isFn42 : IsFn Tryz.prog 42 := ⟨_, Tryz.func42, by kernel_rfl, by kernel_rfl⟩
theorem isFn43 : IsFn Tryz.prog 43 := ⟨_, Tryz.func43, by kernel_rfl, by kernel_rfl⟩
theorem isFn44 : IsFn Tryz.prog 44 := ⟨_, Tryz.func44, by kernel_rfl, by kernel_rfl⟩
theorem isFn45 : IsFn Tryz.prog 45 := ⟨_, Tryz.func45, by kernel_rfl, by kernel_rfl⟩
theorem isFn46 : IsFn Tryz.prog 46 := ⟨_, Tryz.func46, by kernel_rfl, by kernel_rfl⟩
theorem isFn47 : IsFn Tryz.prog 47 := ⟨_, Tryz.func47, by kernel_rfl, by kernel_rfl⟩
theorem isFn48 : IsFn Tryz.prog 48 := ⟨_, Tryz.func48, by kernel_rfl, by kernel_rfl⟩
theorem isFn49 : IsFn Tryz.prog 49 := ⟨_, Tryz.func49, by kernel_rfl, by kernel_rfl⟩
theorem isFn50 : IsFn Tryz.prog 50 := ⟨_, Tryz.func50, by kernel_rfl, by kernel_rfl⟩
theorem isFn51 : IsFn Tryz.prog 51 := ⟨_, Tryz.func51, by kernel_rfl, by kernel_rfl⟩
theorem isFn52 : IsFn Tryz.prog 52 := ⟨_, Tryz.func52, by kernel_rfl, by kernel_rfl⟩
theorem isFn53 : IsFn Tryz.prog 53 := ⟨_, Tryz.func53, by kernel_rfl, by kernel_rfl⟩
theorem isFn54 : IsFn Tryz.prog 54 := ⟨_, Tryz.func54, by kernel_rfl, by kernel_rfl⟩
theorem isFn55 : IsFn Tryz.prog 55 := ⟨_, Tryz.func55, by kernel_rfl, by kernel_rfl⟩
theorem isFn56 : IsFn Tryz.prog 56 := ⟨_, Tryz.func56, by kernel_rfl, by kernel_rfl⟩
theorem isFn57 : IsFn Tryz.prog 57 := ⟨_, Tryz.func57, by kernel_rfl, by kernel_rfl⟩
theorem isFn58 : IsFn Tryz.prog 58 := ⟨_, Tryz.func58, by kernel_rfl, by kernel_rfl⟩
theorem isFn59 : IsFn Tryz.prog 59 := ⟨_, Tryz.func59, by kernel_rfl, by kernel_rfl⟩
theorem isFn60 : IsFn Tryz.prog 60 := ⟨_, Tryz.func60, by kernel_rfl, by kernel_rfl⟩
theorem isFn61 : IsFn Tryz.prog 61 := ⟨_, Tryz.func61, by kernel_rfl, by kernel_rfl⟩
theorem isFn62 : IsFn Tryz.prog 62 := ⟨_, Tryz.func62, by kernel_rfl, by kernel_rfl⟩
theorem isFn63 : IsFn Tryz.prog 63 := ⟨_, Tryz.func63, by kernel_rfl, by kernel_rfl⟩
theorem isFn64 : IsFn Tryz.prog 64 := ⟨_, Tryz.func64, by kernel_rfl, by kernel_rfl⟩
theorem isFn65 : IsFn Tryz.prog 65 := ⟨_, Tryz.func65, by kernel_rfl, by kernel_rfl⟩
theorem isFn66 : IsFn Tryz.prog 66 := ⟨_, Tryz.func66, by kernel_rfl, by kernel_rfl⟩
theorem isFn67 : IsFn Tryz.prog 67 := ⟨_, Tryz.func67, by kernel_rfl, by kernel_rfl⟩
theorem isFn68 : IsFn Tryz.prog 68 := ⟨_, Tryz.func68, by kernel_rfl, by kernel_rfl⟩
theorem isFn69 : IsFn Tryz.prog 69 := ⟨_, Tryz.func69, by kernel_rfl, by kernel_rfl⟩
theorem isFn70 : IsFn Tryz.prog 70 := ⟨_, Tryz.func70, by kernel_rfl, by kernel_rfl⟩
theorem isFn71 : IsFn Tryz.prog 71 := ⟨_, Tryz.func71, by kernel_rfl, by kernel_rfl⟩
theorem isFn72 : IsFn Tryz.prog 72 := ⟨_, Tryz.func72, by kernel_rfl, by kernel_rfl⟩
theorem isFn73 : IsFn Tryz.prog 73 := ⟨_, Tryz.func73, by kernel_rfl, by kernel_rfl⟩
theorem isFn74 : IsFn Tryz.prog 74 := ⟨_, Tryz.func74, by kernel_rfl, by kernel_rfl⟩
theorem isFn75 : IsFn Tryz.prog 75 := ⟨_, Tryz.func75, by kernel_rfl, by kernel_rfl⟩
theorem isFn76 : IsFn Tryz.prog 76 := ⟨_, Tryz.func76, by kernel_rfl, by kernel_rfl⟩
theorem isFn77 : IsFn Tryz.prog 77 := ⟨_, Tryz.func77, by kernel_rfl, by kernel_rfl⟩
theorem isFn78 : IsFn Tryz.prog 78 := ⟨_, Tryz.func78, by kernel_rfl, by kernel_rfl⟩
theorem isFn79 : IsFn Tryz.prog 79 := ⟨_, Tryz.func79, by kernel_rfl, by kernel_rfl⟩
theorem isFn80 : IsFn Tryz.prog 80 := ⟨_, Tryz.func80, by kernel_rfl, by kernel_rfl⟩
theorem isFn81 : IsFn Tryz.prog 81 := ⟨_, Tryz.func81, by kernel_rfl, by kernel_rfl⟩
theorem isFn82 : IsFn Tryz.prog 82 := ⟨_, Tryz.func82, by kernel_rfl, by kernel_rfl⟩
theorem isFn83 : IsFn Tryz.prog 83 := ⟨_, Tryz.func83, by kernel_rfl, by kernel_rfl⟩
theorem isFn84 : IsFn Tryz.prog 84 := ⟨_, Tryz.func84, by kernel_rfl, by kernel_rfl⟩
theorem isFn85 : IsFn Tryz.prog 85 := ⟨_, Tryz.func85, by kernel_rfl, by kernel_rfl⟩
theorem isFn86 : IsFn Tryz.prog 86 := ⟨_, Tryz.func86, by kernel_rfl, by kernel_rfl⟩
theorem isFn87 : IsFn Tryz.prog 87 := ⟨_, Tryz.func87, by kernel_rfl, by kernel_rfl⟩
theorem isFn88 : IsFn Tryz.prog 88 := ⟨_, Tryz.func88, by kernel_rfl, by kernel_rfl⟩
theorem isFn89 : IsFn Tryz.prog 89 := ⟨_, Tryz.func89, by kernel_rfl, by kernel_rfl⟩
theorem isFn90 : IsFn Tryz.prog 90 := ⟨_, Tryz.func90, by kernel_rfl, by kernel_rfl⟩
theorem isFn91 : IsFn Tryz.prog 91 := ⟨_, Tryz.func91, by kernel_rfl, by kernel_rfl⟩
theorem isFn92 : IsFn Tryz.prog 92 := ⟨_, Tryz.func92, by kernel_rfl, by kernel_rfl⟩
theorem isFn93 : IsFn Tryz.prog 93 := ⟨_, Tryz.func93, by kernel_rfl, by kernel_rfl⟩
theorem isFn94 : IsFn Tryz.prog 94 := ⟨_, Tryz.func94, by kernel_rfl, by kernel_rfl⟩
theorem isFn95 : IsFn Tryz.prog 95 := ⟨_, Tryz.func95, by kernel_rfl, by kernel_rfl⟩
theorem isFn96 : IsFn Tryz.prog 96 := ⟨_, Tryz.func96, by kernel_rfl, by kernel_rfl⟩
theorem isFn97 : IsFn Tryz.prog 97 := ⟨_, Tryz.func97, by kernel_rfl, by kernel_rfl⟩
theorem isFn98 : IsFn Tryz.prog 98 := ⟨_, Tryz.func98, by kernel_rfl, by kernel_rfl⟩
theorem isFn99 : IsFn Tryz.prog 99 := ⟨_, Tryz.func99, by kernel_rfl, by kernel_rfl⟩
theorem isFn100 : IsFn Tryz.prog 100 := ⟨_, Tryz.func100, by kernel_rfl, by kernel_rfl⟩
theorem isFn101 : IsFn Tryz.prog 101 := ⟨_, Tryz.func101, by kernel_rfl, by kernel_rfl⟩
theorem isFn102 : IsFn Tryz.prog 102 := ⟨_, Tryz.func102, by kernel_rfl, by kernel_rfl⟩
def FT : List (Nat × Nat × Nat) := [(28, 0, 0), (28, 1, 1), (28, 2, 2), (28, 3, 3), (28, 4, 4), (32, 0, 0), (32, 1, 1), (36, 0, 0), (36, 1, 1), (36, 2, 2), (36, 3, 4), (36, 4, 5), (36, 5, 6), (36, 6, 7), (36, 7, 8), (42, 0, 0), (42, 1, 1), (56, 0, 0), (56, 1, 1), (56, 2, 2), (59, 0, 0), (70, 0, 0), (70, 1, 1), (70, 2, 2), (70, 3, 3), (85, 0, 0), (85, 1, 1), (85, 2, 3), (85, 3, 4), (85, 4, 5), (91, 0, 0), (91, 1, 1), (91, 2, 2), (103, 0, 0), (103, 1, 1), (103, 2, 2), (103, 3, 3), (103, 4, 4), (103, 5, 5), (111, 0, 0), (111, 1, 1), (111, 2, 2), (111, 3, 3), (115, 0, 0), (119, 0, 0), (123, 0, 0), (123, 1, 1), (123, 2, 2), (123, 3, 3), (123, 4, 4), (123, 5, 5), (128, 0, 0), (128, 1, 6), (128, 2, 7), (128, 3, 8), (135, 2, 7)]
theorem lookF_of {P : Program} : ∀ {ft : List (Nat × Nat × Nat)}, (∀ e ∈ ft, fieldOff P e.1 e.2.1 = some e.2.2) → ∀ S f k, lookF ft S f = some k → fieldOff P S f = some k
  | [], _, _, _, _, h => by cases h
  | (s, g, j) :: r, H, S, f, k, h => by
    simp only [lookF] at h
    cases hq : (Nat.beq s S && Nat.beq g f) with
    | true =>
      rw [hq, cond_true] at h
      simp only [Bool.and_eq_true] at hq
      have h1 := Nat.eq_of_beq_eq_true hq.1
      have h2 := Nat.eq_of_beq_eq_true hq.2
      subst h1 h2
      cases h
      exact H (s, g, j) (List.mem_cons_self)
    | false => rw [hq, cond_false] at h; exact lookF_of (fun e he => H e (by simp [he])) S f k h
theorem FT_ok : ∀ S f k, lookF FT S f = some k → fieldOff Tryz.prog S f = some k := lookF_of (by
  intro e he
  simp only [FT, List.mem_cons, List.not_mem_nil, or_false] at he
  rcases he with rfl | rfl | rfl | rfl | rfl | rfl | rfl | rfl | rfl | rfl | rfl | rfl | rfl | rfl | rfl | rfl | rfl | rfl | rfl | rfl | rfl | rfl | rfl | rfl | rfl | rfl | rfl | rfl | rfl | rfl | rfl | rfl | rfl | rfl | rfl | rfl | rfl | rfl | rfl | rfl | rfl | rfl | rfl | rfl | rfl | rfl | rfl | rfl | rfl | rfl | rfl | rfl | rfl | rfl | rfl | rfl
  · exact tF28_0
  · exact tF28_1
  · exact tF28_2
  · exact tF28_3
  · exact tF28_4
  · exact tF32_0
  · exact tF32_1
  · exact tF36_0
  · exact tF36_1
  · exact tF36_2
  · exact tF36_3
  · exact tF36_4
  · exact tF36_5
  · exact tF36_6
  · exact tF36_7
  · exact tF42_0
  · exact tF42_1
  · exact tF56_0
  · exact tF56_1
  · exact tF56_2
  · exact tF59_0
  · exact tF70_0
  · exact tF70_1
  · exact tF70_2
  · exact tF70_3
  · exact tF85_0
  · exact tF85_1
  · exact tF85_2
  · exact tF85_3
  · exact tF85_4
  · exact tF91_0
  · exact tF91_1
  · exact tF91_2
  · exact tF103_0
  · exact tF103_1
  · exact tF103_2
  · exact tF103_3
  · exact tF103_4
  · exact tF103_5
  · exact tF111_0
  · exact tF111_1
  · exact tF111_2
  · exact tF111_3
  · exact tF115_0
  · exact tF119_0
  · exact tF123_0
  · exact tF123_1
  · exact tF123_2
  · exact tF123_3
  · exact tF123_4
  · exact tF123_5
  · exact tF128_0
  · exact tF128_1
  · exact tF128_2
  · exact tF128_3
  · exact tF135_2)
theorem WL.run {n : Nat} {L : List Oper} {Q : Exit → Act → World → Prop} {rest rest' : List Oper} {l l' : Env} {w : World} (k : Nat) (h : runS FT n k rest l = some (rest', l')) (hk : WL Tryz.prog n L Q rest' l' w) : WL Tryz.prog n L Q rest l w := runS_ok FT_ok k h hk
end Go.Proofs.YtmmmbkmjkpfleaaGreat

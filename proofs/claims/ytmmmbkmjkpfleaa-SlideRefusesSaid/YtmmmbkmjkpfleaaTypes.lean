/- The types and functions of the translation, as closed facts. No statement of the seat is proved here; conditions: none. -/
import Derived.Test.YtmmmbkmjkpfleaaProg
import Derived.Test.YtmmmbkmjkpfleaaEngRun
namespace Go.Proofs.Ytmmmbkmjkpfleaa
open Go Go.RowKit
theorem prog_mixed : Try.prog.follows .mixedOrders = true := by kernel_rfl
theorem tA0 : isA Try.prog 0 = some false := by kernel_rfl
theorem tS0 : szT Try.prog 0 = some 1 := by kernel_rfl
theorem tY0 : bytesT Try.prog 0 = some 0 := by kernel_rfl
theorem tA3 : isA Try.prog 3 = some false := by kernel_rfl
theorem tS3 : szT Try.prog 3 = some 1 := by kernel_rfl
theorem tZ3 : zeroT Try.prog 3 = some #[.int .i64 0] := by kernel_rfl
theorem tI3 : intT Try.prog 3 = some .i64 := by kernel_rfl
theorem tY3 : bytesT Try.prog 3 = some 8 := by kernel_rfl
theorem tA4 : isA Try.prog 4 = some false := by kernel_rfl
theorem tS4 : szT Try.prog 4 = some 1 := by kernel_rfl
theorem tZ4 : zeroT Try.prog 4 = some #[.bool false] := by kernel_rfl
theorem tB4 : boolT Try.prog 4 = true := by kernel_rfl
theorem tY4 : bytesT Try.prog 4 = some 1 := by kernel_rfl
theorem tA5 : isA Try.prog 5 = some false := by kernel_rfl
theorem tS5 : szT Try.prog 5 = some 1 := by kernel_rfl
theorem tZ5 : zeroT Try.prog 5 = some #[.int .u8 0] := by kernel_rfl
theorem tI5 : intT Try.prog 5 = some .u8 := by kernel_rfl
theorem tY5 : bytesT Try.prog 5 = some 1 := by kernel_rfl
theorem tA22 : isA Try.prog 22 = some false := by kernel_rfl
theorem tS22 : szT Try.prog 22 = some 1 := by kernel_rfl
theorem tZ22 : zeroT Try.prog 22 = some #[.slice none 0 0] := by kernel_rfl
theorem tL22 : sliceT Try.prog 22 = some 106 := by kernel_rfl
theorem tY22 : bytesT Try.prog 22 = some 24 := by kernel_rfl
theorem tA23 : isA Try.prog 23 = some false := by kernel_rfl
theorem tS23 : szT Try.prog 23 = some 1 := by kernel_rfl
theorem tZ23 : zeroT Try.prog 23 = some #[.slice none 0 0] := by kernel_rfl
theorem tL23 : sliceT Try.prog 23 = some 63 := by kernel_rfl
theorem tY23 : bytesT Try.prog 23 = some 24 := by kernel_rfl
theorem tA24 : isA Try.prog 24 = some false := by kernel_rfl
theorem tS24 : szT Try.prog 24 = some 1 := by kernel_rfl
theorem tZ24 : zeroT Try.prog 24 = some #[.slice none 0 0] := by kernel_rfl
theorem tL24 : sliceT Try.prog 24 = some 26 := by kernel_rfl
theorem tY24 : bytesT Try.prog 24 = some 24 := by kernel_rfl
theorem tA25 : isA Try.prog 25 = some false := by kernel_rfl
theorem tS25 : szT Try.prog 25 = some 1 := by kernel_rfl
theorem tZ25 : zeroT Try.prog 25 = some #[.slice none 0 0] := by kernel_rfl
theorem tL25 : sliceT Try.prog 25 = some 5 := by kernel_rfl
theorem tY25 : bytesT Try.prog 25 = some 24 := by kernel_rfl
theorem tA26 : isA Try.prog 26 = some true := by kernel_rfl
theorem tS26 : szT Try.prog 26 = some 3 := by kernel_rfl
theorem tZ26 : zeroT Try.prog 26 = some #[.int .u8 0, .int .u8 0, .int .u8 0] := by kernel_rfl
theorem tR26 : arrT Try.prog 26 = some (3, 5) := by kernel_rfl
theorem tY26 : bytesT Try.prog 26 = some 3 := by kernel_rfl
theorem tA28 : isA Try.prog 28 = some true := by kernel_rfl
theorem tS28 : szT Try.prog 28 = some 7 := by kernel_rfl
theorem tZ28 : zeroT Try.prog 28 = some #[.slice none 0 0, .slice none 0 0, .slice none 0 0, .slice none 0 0, .int .u8 0, .int .u8 0, .int .u8 0] := by kernel_rfl
theorem tY28 : bytesT Try.prog 28 = some 104 := by kernel_rfl
theorem tA29 : isA Try.prog 29 = some false := by kernel_rfl
theorem tS29 : szT Try.prog 29 = some 1 := by kernel_rfl
theorem tZ29 : zeroT Try.prog 29 = some #[.int .u16 0] := by kernel_rfl
theorem tI29 : intT Try.prog 29 = some .u16 := by kernel_rfl
theorem tY29 : bytesT Try.prog 29 = some 2 := by kernel_rfl
theorem tA30 : isA Try.prog 30 = some false := by kernel_rfl
theorem tS30 : szT Try.prog 30 = some 1 := by kernel_rfl
theorem tZ30 : zeroT Try.prog 30 = some #[.pointer none] := by kernel_rfl
theorem tP30 : ptrT Try.prog 30 = true := by kernel_rfl
theorem tY30 : bytesT Try.prog 30 = some 8 := by kernel_rfl
theorem tA31 : isA Try.prog 31 = some false := by kernel_rfl
theorem tS31 : szT Try.prog 31 = some 1 := by kernel_rfl
theorem tZ31 : zeroT Try.prog 31 = some #[.pointer none] := by kernel_rfl
theorem tP31 : ptrT Try.prog 31 = true := by kernel_rfl
theorem tY31 : bytesT Try.prog 31 = some 8 := by kernel_rfl
theorem tA33 : isA Try.prog 33 = some true := by kernel_rfl
theorem tS33 : szT Try.prog 33 = some 2 := by kernel_rfl
theorem tZ33 : zeroT Try.prog 33 = some #[.pointer none, .pointer none] := by kernel_rfl
theorem tY33 : bytesT Try.prog 33 = some 16 := by kernel_rfl
theorem tA34 : isA Try.prog 34 = some false := by kernel_rfl
theorem tS34 : szT Try.prog 34 = some 1 := by kernel_rfl
theorem tZ34 : zeroT Try.prog 34 = some #[.slice none 0 0] := by kernel_rfl
theorem tL34 : sliceT Try.prog 34 = some 44 := by kernel_rfl
theorem tY34 : bytesT Try.prog 34 = some 24 := by kernel_rfl
theorem tA35 : isA Try.prog 35 = some false := by kernel_rfl
theorem tS35 : szT Try.prog 35 = some 1 := by kernel_rfl
theorem tZ35 : zeroT Try.prog 35 = some #[.slice none 0 0] := by kernel_rfl
theorem tL35 : sliceT Try.prog 35 = some 3 := by kernel_rfl
theorem tY35 : bytesT Try.prog 35 = some 24 := by kernel_rfl
theorem tA37 : isA Try.prog 37 = some true := by kernel_rfl
theorem tS37 : szT Try.prog 37 = some 9 := by kernel_rfl
theorem tZ37 : zeroT Try.prog 37 = some #[.pointer none, .pointer none, .pointer none, .pointer none, .slice none 0 0, .slice none 0 0, .slice none 0 0, .slice none 0 0, .slice none 0 0] := by kernel_rfl
theorem tY37 : bytesT Try.prog 37 = some 152 := by kernel_rfl
theorem tA38 : isA Try.prog 38 = some false := by kernel_rfl
theorem tS38 : szT Try.prog 38 = some 1 := by kernel_rfl
theorem tY38 : bytesT Try.prog 38 = some 0 := by kernel_rfl
theorem tA41 : isA Try.prog 41 = some false := by kernel_rfl
theorem tS41 : szT Try.prog 41 = some 1 := by kernel_rfl
theorem tZ41 : zeroT Try.prog 41 = some #[.int .i64 0] := by kernel_rfl
theorem tI41 : intT Try.prog 41 = some .i64 := by kernel_rfl
theorem tY41 : bytesT Try.prog 41 = some 8 := by kernel_rfl
theorem tA44 : isA Try.prog 44 = some true := by kernel_rfl
theorem tS44 : szT Try.prog 44 = some 3 := by kernel_rfl
theorem tZ44 : zeroT Try.prog 44 = some #[.int .i64 0, .int .i64 0, .int .i64 0] := by kernel_rfl
theorem tY44 : bytesT Try.prog 44 = some 24 := by kernel_rfl
theorem tA45 : isA Try.prog 45 = some false := by kernel_rfl
theorem tS45 : szT Try.prog 45 = some 1 := by kernel_rfl
theorem tY45 : bytesT Try.prog 45 = some 0 := by kernel_rfl
theorem tA48 : isA Try.prog 48 = some false := by kernel_rfl
theorem tS48 : szT Try.prog 48 = some 1 := by kernel_rfl
theorem tY48 : bytesT Try.prog 48 = some 0 := by kernel_rfl
theorem tA50 : isA Try.prog 50 = some false := by kernel_rfl
theorem tS50 : szT Try.prog 50 = some 1 := by kernel_rfl
theorem tY50 : bytesT Try.prog 50 = some 0 := by kernel_rfl
theorem tA54 : isA Try.prog 54 = some false := by kernel_rfl
theorem tS54 : szT Try.prog 54 = some 1 := by kernel_rfl
theorem tZ54 : zeroT Try.prog 54 = some #[.slice none 0 0] := by kernel_rfl
theorem tL54 : sliceT Try.prog 54 = some 60 := by kernel_rfl
theorem tY54 : bytesT Try.prog 54 = some 24 := by kernel_rfl
theorem tA56 : isA Try.prog 56 = some true := by kernel_rfl
theorem tS56 : szT Try.prog 56 = some 6 := by kernel_rfl
theorem tZ56 : zeroT Try.prog 56 = some #[.int .i64 0, .int .i64 0, .int .i64 0, .bool false, .bool false, .bool false] := by kernel_rfl
theorem tY56 : bytesT Try.prog 56 = some 32 := by kernel_rfl
theorem tA57 : isA Try.prog 57 = some false := by kernel_rfl
theorem tS57 : szT Try.prog 57 = some 1 := by kernel_rfl
theorem tY57 : bytesT Try.prog 57 = some 0 := by kernel_rfl
theorem tA60 : isA Try.prog 60 = some true := by kernel_rfl
theorem tS60 : szT Try.prog 60 = some 6 := by kernel_rfl
theorem tZ60 : zeroT Try.prog 60 = some #[.int .i64 0, .int .i64 0, .int .i64 0, .bool false, .bool false, .bool false] := by kernel_rfl
theorem tY60 : bytesT Try.prog 60 = some 32 := by kernel_rfl
theorem tA63 : isA Try.prog 63 = some true := by kernel_rfl
theorem tS63 : szT Try.prog 63 = some 4 := by kernel_rfl
theorem tZ63 : zeroT Try.prog 63 = some #[.int .u8 0, .int .u8 0, .int .u8 0, .bool false] := by kernel_rfl
theorem tY63 : bytesT Try.prog 63 = some 4 := by kernel_rfl
theorem tA66 : isA Try.prog 66 = some false := by kernel_rfl
theorem tS66 : szT Try.prog 66 = some 1 := by kernel_rfl
theorem tY66 : bytesT Try.prog 66 = some 0 := by kernel_rfl
theorem tA69 : isA Try.prog 69 = some false := by kernel_rfl
theorem tS69 : szT Try.prog 69 = some 1 := by kernel_rfl
theorem tY69 : bytesT Try.prog 69 = some 0 := by kernel_rfl
theorem tA71 : isA Try.prog 71 = some false := by kernel_rfl
theorem tS71 : szT Try.prog 71 = some 1 := by kernel_rfl
theorem tY71 : bytesT Try.prog 71 = some 0 := by kernel_rfl
theorem tA77 : isA Try.prog 77 = some false := by kernel_rfl
theorem tS77 : szT Try.prog 77 = some 1 := by kernel_rfl
theorem tZ77 : zeroT Try.prog 77 = some #[.pointer none] := by kernel_rfl
theorem tP77 : ptrT Try.prog 77 = true := by kernel_rfl
theorem tY77 : bytesT Try.prog 77 = some 8 := by kernel_rfl
theorem tA79 : isA Try.prog 79 = some true := by kernel_rfl
theorem tS79 : szT Try.prog 79 = some 2 := by kernel_rfl
theorem tZ79 : zeroT Try.prog 79 = some #[.pointer none, .slice none 0 0] := by kernel_rfl
theorem tY79 : bytesT Try.prog 79 = some 32 := by kernel_rfl
theorem tA83 : isA Try.prog 83 = some true := by kernel_rfl
theorem tS83 : szT Try.prog 83 = some 9 := by kernel_rfl
theorem tZ83 : zeroT Try.prog 83 = some #[.int .i64 0, .int .i64 0, .int .i64 0, .bool false, .bool false, .bool false, .int .i64 0, .int .i64 0, .int .i64 0] := by kernel_rfl
theorem tY83 : bytesT Try.prog 83 = some 56 := by kernel_rfl
theorem tA84 : isA Try.prog 84 = some false := by kernel_rfl
theorem tS84 : szT Try.prog 84 = some 1 := by kernel_rfl
theorem tY84 : bytesT Try.prog 84 = some 0 := by kernel_rfl
theorem tA86 : isA Try.prog 86 = some false := by kernel_rfl
theorem tS86 : szT Try.prog 86 = some 1 := by kernel_rfl
theorem tY86 : bytesT Try.prog 86 = some 0 := by kernel_rfl
theorem tA89 : isA Try.prog 89 = some false := by kernel_rfl
theorem tS89 : szT Try.prog 89 = some 1 := by kernel_rfl
theorem tY89 : bytesT Try.prog 89 = some 0 := by kernel_rfl
theorem tA94 : isA Try.prog 94 = some false := by kernel_rfl
theorem tS94 : szT Try.prog 94 = some 1 := by kernel_rfl
theorem tZ94 : zeroT Try.prog 94 = some #[.nilFunc] := by kernel_rfl
theorem tY94 : bytesT Try.prog 94 = some 8 := by kernel_rfl
theorem tA95 : isA Try.prog 95 = some false := by kernel_rfl
theorem tS95 : szT Try.prog 95 = some 1 := by kernel_rfl
theorem tZ95 : zeroT Try.prog 95 = some #[.pointer none] := by kernel_rfl
theorem tP95 : ptrT Try.prog 95 = true := by kernel_rfl
theorem tY95 : bytesT Try.prog 95 = some 8 := by kernel_rfl
theorem tA96 : isA Try.prog 96 = some false := by kernel_rfl
theorem tS96 : szT Try.prog 96 = some 1 := by kernel_rfl
theorem tZ96 : zeroT Try.prog 96 = some #[.map none] := by kernel_rfl
theorem tY96 : bytesT Try.prog 96 = some 8 := by kernel_rfl
theorem tA98 : isA Try.prog 98 = some true := by kernel_rfl
theorem tS98 : szT Try.prog 98 = some 6 := by kernel_rfl
theorem tZ98 : zeroT Try.prog 98 = some #[.pointer none, .pointer none, .pointer none, .slice none 0 0, .slice none 0 0, .map none] := by kernel_rfl
theorem tY98 : bytesT Try.prog 98 = some 80 := by kernel_rfl
theorem tA101 : isA Try.prog 101 = some false := by kernel_rfl
theorem tS101 : szT Try.prog 101 = some 1 := by kernel_rfl
theorem tZ101 : zeroT Try.prog 101 = some #[.nilFunc] := by kernel_rfl
theorem tY101 : bytesT Try.prog 101 = some 8 := by kernel_rfl
theorem tA104 : isA Try.prog 104 = some false := by kernel_rfl
theorem tS104 : szT Try.prog 104 = some 1 := by kernel_rfl
theorem tZ104 : zeroT Try.prog 104 = some #[.nilFunc] := by kernel_rfl
theorem tY104 : bytesT Try.prog 104 = some 8 := by kernel_rfl
theorem tA106 : isA Try.prog 106 = some true := by kernel_rfl
theorem tS106 : szT Try.prog 106 = some 4 := by kernel_rfl
theorem tZ106 : zeroT Try.prog 106 = some #[.int .i64 0, .int .i64 0, .int .i64 0, .bool false] := by kernel_rfl
theorem tY106 : bytesT Try.prog 106 = some 32 := by kernel_rfl
theorem tA110 : isA Try.prog 110 = some true := by kernel_rfl
theorem tS110 : szT Try.prog 110 = some 1 := by kernel_rfl
theorem tZ110 : zeroT Try.prog 110 = some #[.slice none 0 0] := by kernel_rfl
theorem tY110 : bytesT Try.prog 110 = some 24 := by kernel_rfl
theorem tA111 : isA Try.prog 111 = some false := by kernel_rfl
theorem tS111 : szT Try.prog 111 = some 1 := by kernel_rfl
theorem tY111 : bytesT Try.prog 111 = some 0 := by kernel_rfl
theorem tA114 : isA Try.prog 114 = some true := by kernel_rfl
theorem tS114 : szT Try.prog 114 = some 1 := by kernel_rfl
theorem tZ114 : zeroT Try.prog 114 = some #[.slice none 0 0] := by kernel_rfl
theorem tY114 : bytesT Try.prog 114 = some 24 := by kernel_rfl
theorem tA115 : isA Try.prog 115 = some false := by kernel_rfl
theorem tS115 : szT Try.prog 115 = some 1 := by kernel_rfl
theorem tZ115 : zeroT Try.prog 115 = some #[.pointer none] := by kernel_rfl
theorem tP115 : ptrT Try.prog 115 = true := by kernel_rfl
theorem tY115 : bytesT Try.prog 115 = some 8 := by kernel_rfl
theorem tA116 : isA Try.prog 116 = some false := by kernel_rfl
theorem tS116 : szT Try.prog 116 = some 1 := by kernel_rfl
theorem tZ116 : zeroT Try.prog 116 = some #[.pointer none] := by kernel_rfl
theorem tP116 : ptrT Try.prog 116 = true := by kernel_rfl
theorem tY116 : bytesT Try.prog 116 = some 8 := by kernel_rfl
theorem tA117 : isA Try.prog 117 = some false := by kernel_rfl
theorem tS117 : szT Try.prog 117 = some 1 := by kernel_rfl
theorem tY117 : bytesT Try.prog 117 = some 0 := by kernel_rfl
theorem tA121 : isA Try.prog 121 = some true := by kernel_rfl
theorem tS121 : szT Try.prog 121 = some 9 := by kernel_rfl
theorem tZ121 : zeroT Try.prog 121 = some #[.int .i64 0, .int .i64 0, .int .i64 0, .bool false, .bool false, .bool false, .int .i64 0, .slice none 0 0, .slice none 0 0] := by kernel_rfl
theorem tY121 : bytesT Try.prog 121 = some 88 := by kernel_rfl
theorem tA124 : isA Try.prog 124 = some true := by kernel_rfl
theorem tS124 : szT Try.prog 124 = some 1 := by kernel_rfl
theorem tZ124 : zeroT Try.prog 124 = some #[.slice none 0 0] := by kernel_rfl
theorem tY124 : bytesT Try.prog 124 = some 24 := by kernel_rfl
theorem tA126 : isA Try.prog 126 = some false := by kernel_rfl
theorem tS126 : szT Try.prog 126 = some 1 := by kernel_rfl
theorem tY126 : bytesT Try.prog 126 = some 0 := by kernel_rfl
theorem tA130 : isA Try.prog 130 = some false := by kernel_rfl
theorem tS130 : szT Try.prog 130 = some 1 := by kernel_rfl
theorem tZ130 : zeroT Try.prog 130 = some #[.map none] := by kernel_rfl
theorem tY130 : bytesT Try.prog 130 = some 8 := by kernel_rfl
theorem tA131 : isA Try.prog 131 = some false := by kernel_rfl
theorem tS131 : szT Try.prog 131 = some 1 := by kernel_rfl
theorem tY131 : bytesT Try.prog 131 = some 0 := by kernel_rfl
theorem tA134 : isA Try.prog 134 = some false := by kernel_rfl
theorem tS134 : szT Try.prog 134 = some 1 := by kernel_rfl
theorem tY134 : bytesT Try.prog 134 = some 0 := by kernel_rfl
theorem tA140 : isA Try.prog 140 = some false := by kernel_rfl
theorem tS140 : szT Try.prog 140 = some 1 := by kernel_rfl
theorem tY140 : bytesT Try.prog 140 = some 0 := by kernel_rfl
theorem tA143 : isA Try.prog 143 = some false := by kernel_rfl
theorem tS143 : szT Try.prog 143 = some 1 := by kernel_rfl
theorem tY143 : bytesT Try.prog 143 = some 0 := by kernel_rfl
theorem tA146 : isA Try.prog 146 = some false := by kernel_rfl
theorem tS146 : szT Try.prog 146 = some 1 := by kernel_rfl
theorem tY146 : bytesT Try.prog 146 = some 0 := by kernel_rfl
theorem tF28_0 : fieldOff Try.prog 28 0 = some 0 := by kernel_rfl
theorem tF28_1 : fieldOff Try.prog 28 1 = some 1 := by kernel_rfl
theorem tF28_2 : fieldOff Try.prog 28 2 = some 2 := by kernel_rfl
theorem tF28_3 : fieldOff Try.prog 28 3 = some 3 := by kernel_rfl
theorem tF28_4 : fieldOff Try.prog 28 4 = some 4 := by kernel_rfl
theorem tF33_0 : fieldOff Try.prog 33 0 = some 0 := by kernel_rfl
theorem tF33_1 : fieldOff Try.prog 33 1 = some 1 := by kernel_rfl
theorem tF37_0 : fieldOff Try.prog 37 0 = some 0 := by kernel_rfl
theorem tF37_1 : fieldOff Try.prog 37 1 = some 1 := by kernel_rfl
theorem tF37_2 : fieldOff Try.prog 37 2 = some 2 := by kernel_rfl
theorem tF37_3 : fieldOff Try.prog 37 3 = some 4 := by kernel_rfl
theorem tF37_4 : fieldOff Try.prog 37 4 = some 5 := by kernel_rfl
theorem tF37_5 : fieldOff Try.prog 37 5 = some 6 := by kernel_rfl
theorem tF37_6 : fieldOff Try.prog 37 6 = some 7 := by kernel_rfl
theorem tF37_7 : fieldOff Try.prog 37 7 = some 8 := by kernel_rfl
theorem tF44_0 : fieldOff Try.prog 44 0 = some 0 := by kernel_rfl
theorem tF44_1 : fieldOff Try.prog 44 1 = some 1 := by kernel_rfl
theorem tF44_2 : fieldOff Try.prog 44 2 = some 2 := by kernel_rfl
theorem tF56_0 : fieldOff Try.prog 56 0 = some 0 := by kernel_rfl
theorem tF56_1 : fieldOff Try.prog 56 1 = some 1 := by kernel_rfl
theorem tF56_2 : fieldOff Try.prog 56 2 = some 2 := by kernel_rfl
theorem tF56_3 : fieldOff Try.prog 56 3 = some 3 := by kernel_rfl
theorem tF56_4 : fieldOff Try.prog 56 4 = some 4 := by kernel_rfl
theorem tF56_5 : fieldOff Try.prog 56 5 = some 5 := by kernel_rfl
theorem tF60_0 : fieldOff Try.prog 60 0 = some 0 := by kernel_rfl
theorem tF60_1 : fieldOff Try.prog 60 1 = some 1 := by kernel_rfl
theorem tF60_2 : fieldOff Try.prog 60 2 = some 2 := by kernel_rfl
theorem tF60_3 : fieldOff Try.prog 60 3 = some 3 := by kernel_rfl
theorem tF60_4 : fieldOff Try.prog 60 4 = some 4 := by kernel_rfl
theorem tF60_5 : fieldOff Try.prog 60 5 = some 5 := by kernel_rfl
theorem tF63_0 : fieldOff Try.prog 63 0 = some 0 := by kernel_rfl
theorem tF63_1 : fieldOff Try.prog 63 1 = some 1 := by kernel_rfl
theorem tF63_2 : fieldOff Try.prog 63 2 = some 2 := by kernel_rfl
theorem tF63_3 : fieldOff Try.prog 63 3 = some 3 := by kernel_rfl
theorem tF79_0 : fieldOff Try.prog 79 0 = some 0 := by kernel_rfl
theorem tF79_1 : fieldOff Try.prog 79 1 = some 1 := by kernel_rfl
theorem tF83_0 : fieldOff Try.prog 83 0 = some 0 := by kernel_rfl
theorem tF83_1 : fieldOff Try.prog 83 1 = some 6 := by kernel_rfl
theorem tF83_2 : fieldOff Try.prog 83 2 = some 7 := by kernel_rfl
theorem tF83_3 : fieldOff Try.prog 83 3 = some 8 := by kernel_rfl
theorem tF98_0 : fieldOff Try.prog 98 0 = some 0 := by kernel_rfl
theorem tF98_1 : fieldOff Try.prog 98 1 = some 1 := by kernel_rfl
theorem tF98_2 : fieldOff Try.prog 98 2 = some 3 := by kernel_rfl
theorem tF98_3 : fieldOff Try.prog 98 3 = some 4 := by kernel_rfl
theorem tF98_4 : fieldOff Try.prog 98 4 = some 5 := by kernel_rfl
theorem tF106_0 : fieldOff Try.prog 106 0 = some 0 := by kernel_rfl
theorem tF106_1 : fieldOff Try.prog 106 1 = some 1 := by kernel_rfl
theorem tF106_2 : fieldOff Try.prog 106 2 = some 2 := by kernel_rfl
theorem tF106_3 : fieldOff Try.prog 106 3 = some 3 := by kernel_rfl
theorem tF110_0 : fieldOff Try.prog 110 0 = some 0 := by kernel_rfl
theorem tF114_0 : fieldOff Try.prog 114 0 = some 0 := by kernel_rfl
theorem tF121_2 : fieldOff Try.prog 121 2 = some 7 := by kernel_rfl
theorem tF124_0 : fieldOff Try.prog 124 0 = some 0 := by kernel_rfl
theorem isFn3 : IsFn Try.prog 3 := ⟨_, Try.func3, by kernel_rfl, by kernel_rfl⟩
theorem isFn4 : IsFn Try.prog 4 := ⟨_, Try.func4, by kernel_rfl, by kernel_rfl⟩
theorem isFn5 : IsFn Try.prog 5 := ⟨_, Try.func5, by kernel_rfl, by kernel_rfl⟩
theorem isFn6 : IsFn Try.prog 6 := ⟨_, Try.func6, by kernel_rfl, by kernel_rfl⟩
theorem isFn7 : IsFn Try.prog 7 := ⟨_, Try.func7, by kernel_rfl, by kernel_rfl⟩
theorem isFn8 : IsFn Try.prog 8 := ⟨_, Try.func8, by kernel_rfl, by kernel_rfl⟩
theorem isFn9 : IsFn Try.prog 9 := ⟨_, Try.func9, by kernel_rfl, by kernel_rfl⟩
theorem isFn10 : IsFn Try.prog 10 := ⟨_, Try.func10, by kernel_rfl, by kernel_rfl⟩
theorem isFn11 : IsFn Try.prog 11 := ⟨_, Try.func11, by kernel_rfl, by kernel_rfl⟩
theorem isFn12 : IsFn Try.prog 12 := ⟨_, Try.func12, by kernel_rfl, by kernel_rfl⟩
theorem isFn13 : IsFn Try.prog 13 := ⟨_, Try.func13, by kernel_rfl, by kernel_rfl⟩
theorem isFn14 : IsFn Try.prog 14 := ⟨_, Try.func14, by kernel_rfl, by kernel_rfl⟩
theorem isFn15 : IsFn Try.prog 15 := ⟨_, Try.func15, by kernel_rfl, by kernel_rfl⟩
theorem isFn16 : IsFn Try.prog 16 := ⟨_, Try.func16, by kernel_rfl, by kernel_rfl⟩
theorem isFn17 : IsFn Try.prog 17 := ⟨_, Try.func17, by kernel_rfl, by kernel_rfl⟩
theorem isFn18 : IsFn Try.prog 18 := ⟨_, Try.func18, by kernel_rfl, by kernel_rfl⟩
theorem isFn19 : IsFn Try.prog 19 := ⟨_, Try.func19, by kernel_rfl, by kernel_rfl⟩
theorem isFn20 : IsFn Try.prog 20 := ⟨_, Try.func20, by kernel_rfl, by kernel_rfl⟩
theorem isFn21 : IsFn Try.prog 21 := ⟨_, Try.func21, by kernel_rfl, by kernel_rfl⟩
theorem isFn22 : IsFn Try.prog 22 := ⟨_, Try.func22, by kernel_rfl, by kernel_rfl⟩
theorem isFn23 : IsFn Try.prog 23 := ⟨_, Try.func23, by kernel_rfl, by kernel_rfl⟩
theorem isFn24 : IsFn Try.prog 24 := ⟨_, Try.func24, by kernel_rfl, by kernel_rfl⟩
theorem isFn25 : IsFn Try.prog 25 := ⟨_, Try.func25, by kernel_rfl, by kernel_rfl⟩
theorem isFn26 : IsFn Try.prog 26 := ⟨_, Try.func26, by kernel_rfl, by kernel_rfl⟩
theorem isFn27 : IsFn Try.prog 27 := ⟨_, Try.func27, by kernel_rfl, by kernel_rfl⟩
theorem isFn28 : IsFn Try.prog 28 := ⟨_, Try.func28, by kernel_rfl, by kernel_rfl⟩
theorem isFn29 : IsFn Try.prog 29 := ⟨_, Try.func29, by kernel_rfl, by kernel_rfl⟩
theorem isFn30 : IsFn Try.prog 30 := ⟨_, Try.func30, by kernel_rfl, by kernel_rfl⟩
theorem isFn31 : IsFn Try.prog 31 := ⟨_, Try.func31, by kernel_rfl, by kernel_rfl⟩
theorem isFn32 : IsFn Try.prog 32 := ⟨_, Try.func32, by kernel_rfl, by kernel_rfl⟩
theorem isFn33 : IsFn Try.prog 33 := ⟨_, Try.func33, by kernel_rfl, by kernel_rfl⟩
theorem isFn34 : IsFn Try.prog 34 := ⟨_, Try.func34, by kernel_rfl, by kernel_rfl⟩
theorem isFn35 : IsFn Try.prog 35 := ⟨_, Try.func35, by kernel_rfl, by kernel_rfl⟩
theorem isFn36 : IsFn Try.prog 36 := ⟨_, Try.func36, by kernel_rfl, by kernel_rfl⟩
theorem isFn37 : IsFn Try.prog 37 := ⟨_, Try.func37, by kernel_rfl, by kernel_rfl⟩
theorem isFn38 : IsFn Try.prog 38 := ⟨_, Try.func38, by kernel_rfl, by kernel_rfl⟩
theorem isFn39 : IsFn Try.prog 39 := ⟨_, Try.func39, by kernel_rfl, by kernel_rfl⟩
theorem isFn40 : IsFn Try.prog 40 := ⟨_, Try.func40, by kernel_rfl, by kernel_rfl⟩
theorem isFn41 : IsFn Try.prog 41 := ⟨_, Try.func41, by kernel_rfl, by kernel_rfl⟩
theorem isFn42 : IsFn Try.prog 42 := ⟨_, Try.func42, by kernel_rfl, by kernel_rfl⟩
theorem isFn43 : IsFn Try.prog 43 := ⟨_, Try.func43, by kernel_rfl, by kernel_rfl⟩
theorem isFn44 : IsFn Try.prog 44 := ⟨_, Try.func44, by kernel_rfl, by kernel_rfl⟩
theorem isFn45 : IsFn Try.prog 45 := ⟨_, Try.func45, by kernel_rfl, by kernel_rfl⟩
theorem isFn46 : IsFn Try.prog 46 := ⟨_, Try.func46, by kernel_rfl, by kernel_rfl⟩
theorem isFn47 : IsFn Try.prog 47 := ⟨_, Try.func47, by kernel_rfl, by kernel_rfl⟩
theorem isFn48 : IsFn Try.prog 48 := ⟨_, Try.func48, by kernel_rfl, by kernel_rfl⟩
theorem isFn49 : IsFn Try.prog 49 := ⟨_, Try.func49, by kernel_rfl, by kernel_rfl⟩
theorem isFn50 : IsFn Try.prog 50 := ⟨_, Try.func50, by kernel_rfl, by kernel_rfl⟩
theorem isFn51 : IsFn Try.prog 51 := ⟨_, Try.func51, by kernel_rfl, by kernel_rfl⟩
theorem isFn52 : IsFn Try.prog 52 := ⟨_, Try.func52, by kernel_rfl, by kernel_rfl⟩
theorem isFn53 : IsFn Try.prog 53 := ⟨_, Try.func53, by kernel_rfl, by kernel_rfl⟩
theorem isFn54 : IsFn Try.prog 54 := ⟨_, Try.func54, by kernel_rfl, by kernel_rfl⟩
theorem isFn55 : IsFn Try.prog 55 := ⟨_, Try.func55, by kernel_rfl, by kernel_rfl⟩
theorem isFn56 : IsFn Try.prog 56 := ⟨_, Try.func56, by kernel_rfl, by kernel_rfl⟩
theorem isFn57 : IsFn Try.prog 57 := ⟨_, Try.func57, by kernel_rfl, by kernel_rfl⟩
theorem isFn58 : IsFn Try.prog 58 := ⟨_, Try.func58, by kernel_rfl, by kernel_rfl⟩
theorem isFn59 : IsFn Try.prog 59 := ⟨_, Try.func59, by kernel_rfl, by kernel_rfl⟩
theorem isFn60 : IsFn Try.prog 60 := ⟨_, Try.func60, by kernel_rfl, by kernel_rfl⟩
theorem isFn61 : IsFn Try.prog 61 := ⟨_, Try.func61, by kernel_rfl, by kernel_rfl⟩
theorem isFn62 : IsFn Try.prog 62 := ⟨_, Try.func62, by kernel_rfl, by kernel_rfl⟩
theorem isFn63 : IsFn Try.prog 63 := ⟨_, Try.func63, by kernel_rfl, by kernel_rfl⟩
theorem isFn64 : IsFn Try.prog 64 := ⟨_, Try.func64, by kernel_rfl, by kernel_rfl⟩
theorem isFn65 : IsFn Try.prog 65 := ⟨_, Try.func65, by kernel_rfl, by kernel_rfl⟩
theorem isFn66 : IsFn Try.prog 66 := ⟨_, Try.func66, by kernel_rfl, by kernel_rfl⟩
theorem isFn67 : IsFn Try.prog 67 := ⟨_, Try.func67, by kernel_rfl, by kernel_rfl⟩
theorem isFn68 : IsFn Try.prog 68 := ⟨_, Try.func68, by kernel_rfl, by kernel_rfl⟩
theorem isFn69 : IsFn Try.prog 69 := ⟨_, Try.func69, by kernel_rfl, by kernel_rfl⟩
theorem isFn70 : IsFn Try.prog 70 := ⟨_, Try.func70, by kernel_rfl, by kernel_rfl⟩
theorem isFn71 : IsFn Try.prog 71 := ⟨_, Try.func71, by kernel_rfl, by kernel_rfl⟩
theorem isFn72 : IsFn Try.prog 72 := ⟨_, Try.func72, by kernel_rfl, by kernel_rfl⟩
theorem isFn73 : IsFn Try.prog 73 := ⟨_, Try.func73, by kernel_rfl, by kernel_rfl⟩
theorem isFn74 : IsFn Try.prog 74 := ⟨_, Try.func74, by kernel_rfl, by kernel_rfl⟩
theorem isFn75 : IsFn Try.prog 75 := ⟨_, Try.func75, by kernel_rfl, by kernel_rfl⟩
theorem isFn76 : IsFn Try.prog 76 := ⟨_, Try.func76, by kernel_rfl, by kernel_rfl⟩
theorem isFn77 : IsFn Try.prog 77 := ⟨_, Try.func77, by kernel_rfl, by kernel_rfl⟩
theorem isFn78 : IsFn Try.prog 78 := ⟨_, Try.func78, by kernel_rfl, by kernel_rfl⟩
theorem isFn79 : IsFn Try.prog 79 := ⟨_, Try.func79, by kernel_rfl, by kernel_rfl⟩
theorem isFn80 : IsFn Try.prog 80 := ⟨_, Try.func80, by kernel_rfl, by kernel_rfl⟩
theorem isFn81 : IsFn Try.prog 81 := ⟨_, Try.func81, by kernel_rfl, by kernel_rfl⟩
theorem isFn82 : IsFn Try.prog 82 := ⟨_, Try.func82, by kernel_rfl, by kernel_rfl⟩
theorem isFn83 : IsFn Try.prog 83 := ⟨_, Try.func83, by kernel_rfl, by kernel_rfl⟩
theorem isFn84 : IsFn Try.prog 84 := ⟨_, Try.func84, by kernel_rfl, by kernel_rfl⟩
theorem isFn85 : IsFn Try.prog 85 := ⟨_, Try.func85, by kernel_rfl, by kernel_rfl⟩
theorem isFn86 : IsFn Try.prog 86 := ⟨_, Try.func86, by kernel_rfl, by kernel_rfl⟩
theorem isFn87 : IsFn Try.prog 87 := ⟨_, Try.func87, by kernel_rfl, by kernel_rfl⟩
theorem isFn88 : IsFn Try.prog 88 := ⟨_, Try.func88, by kernel_rfl, by kernel_rfl⟩
theorem isFn89 : IsFn Try.prog 89 := ⟨_, Try.func89, by kernel_rfl, by kernel_rfl⟩
theorem isFn90 : IsFn Try.prog 90 := ⟨_, Try.func90, by kernel_rfl, by kernel_rfl⟩
theorem isFn91 : IsFn Try.prog 91 := ⟨_, Try.func91, by kernel_rfl, by kernel_rfl⟩
theorem isFn92 : IsFn Try.prog 92 := ⟨_, Try.func92, by kernel_rfl, by kernel_rfl⟩
theorem isFn93 : IsFn Try.prog 93 := ⟨_, Try.func93, by kernel_rfl, by kernel_rfl⟩
theorem isFn94 : IsFn Try.prog 94 := ⟨_, Try.func94, by kernel_rfl, by kernel_rfl⟩
theorem isFn95 : IsFn Try.prog 95 := ⟨_, Try.func95, by kernel_rfl, by kernel_rfl⟩
theorem isFn96 : IsFn Try.prog 96 := ⟨_, Try.func96, by kernel_rfl, by kernel_rfl⟩
def FT : List (Nat × Nat × Nat) := [(28, 0, 0), (28, 1, 1), (28, 2, 2), (28, 3, 3), (28, 4, 4), (33, 0, 0), (33, 1, 1), (37, 0, 0), (37, 1, 1), (37, 2, 2), (37, 3, 4), (37, 4, 5), (37, 5, 6), (37, 6, 7), (37, 7, 8), (44, 0, 0), (44, 1, 1), (44, 2, 2), (56, 0, 0), (56, 1, 1), (56, 2, 2), (56, 3, 3), (56, 4, 4), (56, 5, 5), (60, 0, 0), (60, 1, 1), (60, 2, 2), (60, 3, 3), (60, 4, 4), (60, 5, 5), (63, 0, 0), (63, 1, 1), (63, 2, 2), (63, 3, 3), (79, 0, 0), (79, 1, 1), (83, 0, 0), (83, 1, 6), (83, 2, 7), (83, 3, 8), (98, 0, 0), (98, 1, 1), (98, 2, 3), (98, 3, 4), (98, 4, 5), (106, 0, 0), (106, 1, 1), (106, 2, 2), (106, 3, 3), (110, 0, 0), (114, 0, 0), (121, 2, 7), (124, 0, 0)]
theorem lookF_of {P : Program} : ∀ {ft : List (Nat × Nat × Nat)}, (∀ e ∈ ft, fieldOff P e.1 e.2.1 = some e.2.2) → ∀ S f k, lookF ft S f = some k → fieldOff P S f = some k
  | [], _, _, _, _, h => by cases h
  | (s, g, j) :: r, H, S, f, k, h => by
    simp only [lookF] at h
    cases hq : (Nat.beq s S && Nat.beq g f) with
    | true =>
      rw [hq, cond_true] at h
      simp only [Bool.and_eq_true] at hq
      have h1 := Nat.eq_of_beq_eq_true hq.1
      have h2 := Nat.eq_of_beq_eq_true hq.2
      subst h1 h2
      cases h
      exact H (s, g, j) (List.mem_cons_self)
    | false => rw [hq, cond_false] at h; exact lookF_of (fun e he => H e (by simp [he])) S f k h
theorem FT_ok : ∀ S f k, lookF FT S f = some k → fieldOff Try.prog S f = some k := lookF_of (by
  intro e he
  simp only [FT, List.mem_cons, List.not_mem_nil, or_false] at he
  rcases he with rfl | rfl | rfl | rfl | rfl | rfl | rfl | rfl | rfl | rfl | rfl | rfl | rfl | rfl | rfl | rfl | rfl | rfl | rfl | rfl | rfl | rfl | rfl | rfl | rfl | rfl | rfl | rfl | rfl | rfl | rfl | rfl | rfl | rfl | rfl | rfl | rfl | rfl | rfl | rfl | rfl | rfl | rfl | rfl | rfl | rfl | rfl | rfl | rfl | rfl | rfl | rfl | rfl
  · exact tF28_0
  · exact tF28_1
  · exact tF28_2
  · exact tF28_3
  · exact tF28_4
  · exact tF33_0
  · exact tF33_1
  · exact tF37_0
  · exact tF37_1
  · exact tF37_2
  · exact tF37_3
  · exact tF37_4
  · exact tF37_5
  · exact tF37_6
  · exact tF37_7
  · exact tF44_0
  · exact tF44_1
  · exact tF44_2
  · exact tF56_0
  · exact tF56_1
  · exact tF56_2
  · exact tF56_3
  · exact tF56_4
  · exact tF56_5
  · exact tF60_0
  · exact tF60_1
  · exact tF60_2
  · exact tF60_3
  · exact tF60_4
  · exact tF60_5
  · exact tF63_0
  · exact tF63_1
  · exact tF63_2
  · exact tF63_3
  · exact tF79_0
  · exact tF79_1
  · exact tF83_0
  · exact tF83_1
  · exact tF83_2
  · exact tF83_3
  · exact tF98_0
  · exact tF98_1
  · exact tF98_2
  · exact tF98_3
  · exact tF98_4
  · exact tF106_0
  · exact tF106_1
  · exact tF106_2
  · exact tF106_3
  · exact tF110_0
  · exact tF114_0
  · exact tF121_2
  · exact tF124_0)
theorem WL.run {n : Nat} {L : List Oper} {Q : Exit → Act → World → Prop} {rest rest' : List Oper} {l l' : Env} {w : World} (k : Nat) (h : runS FT n k rest l = some (rest', l')) (hk : WL Try.prog n L Q rest' l' w) : WL Try.prog n L Q rest l w := runS_ok FT_ok k h hk
end Go.Proofs.Ytmmmbkmjkpfleaa

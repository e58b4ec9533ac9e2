/- The tree walked: part a. -/
import Derived.Test.YtmhkanhgmfolhaaGreatProg
import Derived.Test.YtmhkanhgmfolhaaGreatAhS
import Derived.Test.YtmhkanhgmfolhaaGreatAhT
/- Facts of types, as the program has them. -/
open Go Go.Proofs Go.AH
namespace TR
theorem sz0 : sizeT Tryz.prog 0 = some 1 := by kernel_rfl
theorem ag0 : aggT Tryz.prog 0 = some false := by kernel_rfl
theorem sz3 : sizeT Tryz.prog 3 = some 1 := by kernel_rfl
theorem ag3 : aggT Tryz.prog 3 = some false := by kernel_rfl
theorem zr3 : zeroT Tryz.prog 3 = some [.int .i64 0] := by kernel_rfl
theorem in3 : intT Tryz.prog 3 = some .i64 := by kernel_rfl
theorem sz4 : sizeT Tryz.prog 4 = some 1 := by kernel_rfl
theorem ag4 : aggT Tryz.prog 4 = some false := by kernel_rfl
theorem zr4 : zeroT Tryz.prog 4 = some [.bool false] := by kernel_rfl
theorem bt4 : boolT Tryz.prog 4 = true := by kernel_rfl
theorem sz5 : sizeT Tryz.prog 5 = some 1 := by kernel_rfl
theorem ag5 : aggT Tryz.prog 5 = some false := by kernel_rfl
theorem zr5 : zeroT Tryz.prog 5 = some [.int .u8 0] := by kernel_rfl
theorem in5 : intT Tryz.prog 5 = some .u8 := by kernel_rfl
theorem sz9 : sizeT Tryz.prog 9 = some 1 := by kernel_rfl
theorem ag9 : aggT Tryz.prog 9 = some false := by kernel_rfl
theorem zr9 : zeroT Tryz.prog 9 = some [.str ByteArray.empty] := by kernel_rfl
theorem sz20 : sizeT Tryz.prog 20 = some 1 := by kernel_rfl
theorem ag20 : aggT Tryz.prog 20 = some false := by kernel_rfl
theorem zr20 : zeroT Tryz.prog 20 = some [.un] := by kernel_rfl
theorem sz22 : sizeT Tryz.prog 22 = some 1 := by kernel_rfl
theorem ag22 : aggT Tryz.prog 22 = some false := by kernel_rfl
theorem zr22 : zeroT Tryz.prog 22 = some [.zs] := by kernel_rfl
theorem es22 : esizeT Tryz.prog 22 = some 1 := by kernel_rfl
theorem el22 : elemT Tryz.prog 22 = some 3 := by kernel_rfl
theorem un22 : Tryz.prog.underlying 22 = some (.slice 3) := by kernel_rfl
theorem gr22 : growT Tryz.prog 22 = true := by kernel_rfl
theorem sl22 : sliceT Tryz.prog 22 = true := by kernel_rfl
theorem sz25 : sizeT Tryz.prog 25 = some 1 := by kernel_rfl
theorem ag25 : aggT Tryz.prog 25 = some false := by kernel_rfl
theorem zr25 : zeroT Tryz.prog 25 = some [.nilp] := by kernel_rfl
theorem pt25 : ptrT Tryz.prog 25 = true := by kernel_rfl
theorem sz27 : sizeT Tryz.prog 27 = some 1 := by kernel_rfl
theorem ag27 : aggT Tryz.prog 27 = some false := by kernel_rfl
theorem zr27 : zeroT Tryz.prog 27 = some [.zs] := by kernel_rfl
theorem es27 : esizeT Tryz.prog 27 = some 1 := by kernel_rfl
theorem el27 : elemT Tryz.prog 27 = some 22 := by kernel_rfl
theorem un27 : Tryz.prog.underlying 27 = some (.slice 22) := by kernel_rfl
theorem gr27 : growT Tryz.prog 27 = true := by kernel_rfl
theorem sl27 : sliceT Tryz.prog 27 = true := by kernel_rfl
theorem sz29 : sizeT Tryz.prog 29 = some 1 := by kernel_rfl
theorem ag29 : aggT Tryz.prog 29 = some true := by kernel_rfl
theorem fld29_0 : fieldT Tryz.prog 29 0 = some (0, 1, false) := by kernel_rfl
theorem zr29 : zeroT Tryz.prog 29 = some [.zs] := by kernel_rfl
theorem st29 : structT Tryz.prog 29 = true := by kernel_rfl
theorem pl29 : placesT Tryz.prog 29 = some (.str [(0, 1)]) := by kernel_rfl
theorem sz32 : sizeT Tryz.prog 32 = some 3 := by kernel_rfl
theorem ag32 : aggT Tryz.prog 32 = some true := by kernel_rfl
theorem fld32_0 : fieldT Tryz.prog 32 0 = some (0, 1, false) := by kernel_rfl
theorem fld32_1 : fieldT Tryz.prog 32 1 = some (1, 1, false) := by kernel_rfl
theorem fld32_2 : fieldT Tryz.prog 32 2 = some (2, 1, false) := by kernel_rfl
theorem zr32 : zeroT Tryz.prog 32 = some [.int .i64 0, .int .i64 0, .int .i64 0] := by kernel_rfl
theorem ft32 : flatT Tryz.prog 32 = some 3 := by kernel_rfl
theorem st32 : structT Tryz.prog 32 = true := by kernel_rfl
theorem pl32 : placesT Tryz.prog 32 = some (.str [(0, 1), (1, 1), (2, 1)]) := by kernel_rfl
theorem sz34 : sizeT Tryz.prog 34 = some 6 := by kernel_rfl
theorem ag34 : aggT Tryz.prog 34 = some true := by kernel_rfl
theorem fld34_0 : fieldT Tryz.prog 34 0 = some (0, 3, true) := by kernel_rfl
theorem fld34_1 : fieldT Tryz.prog 34 1 = some (3, 1, false) := by kernel_rfl
theorem fld34_2 : fieldT Tryz.prog 34 2 = some (4, 1, false) := by kernel_rfl
theorem fld34_3 : fieldT Tryz.prog 34 3 = some (5, 1, false) := by kernel_rfl
theorem zr34 : zeroT Tryz.prog 34 = some [.int .i64 0, .int .i64 0, .int .i64 0, .int .i64 0, .int .i64 0, .zs] := by kernel_rfl
theorem st34 : structT Tryz.prog 34 = true := by kernel_rfl
theorem pl34 : placesT Tryz.prog 34 = some (.str [(0, 3), (3, 1), (4, 1), (5, 1)]) := by kernel_rfl
theorem sz38 : sizeT Tryz.prog 38 = some 1 := by kernel_rfl
theorem ag38 : aggT Tryz.prog 38 = some false := by kernel_rfl
theorem zr38 : zeroT Tryz.prog 38 = some [.zs] := by kernel_rfl
theorem es38 : esizeT Tryz.prog 38 = some 6 := by kernel_rfl
theorem el38 : elemT Tryz.prog 38 = some 99 := by kernel_rfl
theorem un38 : Tryz.prog.underlying 38 = some (.slice 99) := by kernel_rfl
theorem gr38 : growT Tryz.prog 38 = true := by kernel_rfl
theorem sl38 : sliceT Tryz.prog 38 = true := by kernel_rfl
theorem sz40 : sizeT Tryz.prog 40 = some 8 := by kernel_rfl
theorem ag40 : aggT Tryz.prog 40 = some true := by kernel_rfl
theorem fld40_0 : fieldT Tryz.prog 40 0 = some (0, 6, true) := by kernel_rfl
theorem fld40_1 : fieldT Tryz.prog 40 1 = some (6, 1, false) := by kernel_rfl
theorem fld40_2 : fieldT Tryz.prog 40 2 = some (7, 1, false) := by kernel_rfl
theorem zr40 : zeroT Tryz.prog 40 = some [.int .i64 0, .int .i64 0, .int .i64 0, .int .i64 0, .int .i64 0, .zs, .int .i64 0, .zs] := by kernel_rfl
theorem st40 : structT Tryz.prog 40 = true := by kernel_rfl
theorem pl40 : placesT Tryz.prog 40 = some (.str [(0, 6), (6, 1), (7, 1)]) := by kernel_rfl
theorem sz42 : sizeT Tryz.prog 42 = some 3 := by kernel_rfl
theorem ag42 : aggT Tryz.prog 42 = some true := by kernel_rfl
theorem fld42_0 : fieldT Tryz.prog 42 0 = some (0, 1, false) := by kernel_rfl
theorem fld42_1 : fieldT Tryz.prog 42 1 = some (1, 1, false) := by kernel_rfl
theorem fld42_2 : fieldT Tryz.prog 42 2 = some (2, 1, false) := by kernel_rfl
theorem zr42 : zeroT Tryz.prog 42 = some [.int .i64 0, .int .i64 0, .int .i64 0] := by kernel_rfl
theorem ft42 : flatT Tryz.prog 42 = some 3 := by kernel_rfl
theorem st42 : structT Tryz.prog 42 = true := by kernel_rfl
theorem pl42 : placesT Tryz.prog 42 = some (.str [(0, 1), (1, 1), (2, 1)]) := by kernel_rfl
theorem sz43 : sizeT Tryz.prog 43 = some 1 := by kernel_rfl
theorem ag43 : aggT Tryz.prog 43 = some false := by kernel_rfl
theorem zr43 : zeroT Tryz.prog 43 = some [.int .i64 0] := by kernel_rfl
theorem in43 : intT Tryz.prog 43 = some .i64 := by kernel_rfl
theorem sz44 : sizeT Tryz.prog 44 = some 1 := by kernel_rfl
theorem ag44 : aggT Tryz.prog 44 = some false := by kernel_rfl
theorem sz46 : sizeT Tryz.prog 46 = some 1 := by kernel_rfl
theorem ag46 : aggT Tryz.prog 46 = some false := by kernel_rfl
theorem sz48 : sizeT Tryz.prog 48 = some 1 := by kernel_rfl
theorem ag48 : aggT Tryz.prog 48 = some false := by kernel_rfl
theorem zr48 : zeroT Tryz.prog 48 = some [.zs] := by kernel_rfl
theorem es48 : esizeT Tryz.prog 48 = some 4 := by kernel_rfl
theorem el48 : elemT Tryz.prog 48 = some 57 := by kernel_rfl
theorem un48 : Tryz.prog.underlying 48 = some (.slice 57) := by kernel_rfl
theorem gr48 : growT Tryz.prog 48 = true := by kernel_rfl
theorem sl48 : sliceT Tryz.prog 48 = true := by kernel_rfl
theorem sz49 : sizeT Tryz.prog 49 = some 1 := by kernel_rfl
theorem ag49 : aggT Tryz.prog 49 = some false := by kernel_rfl
theorem sz53 : sizeT Tryz.prog 53 = some 2 := by kernel_rfl
theorem ag53 : aggT Tryz.prog 53 = some true := by kernel_rfl
theorem fld53_0 : fieldT Tryz.prog 53 0 = some (0, 1, false) := by kernel_rfl
theorem fld53_1 : fieldT Tryz.prog 53 1 = some (1, 1, false) := by kernel_rfl
theorem zr53 : zeroT Tryz.prog 53 = some [.zs, .zs] := by kernel_rfl
theorem st53 : structT Tryz.prog 53 = true := by kernel_rfl
theorem pl53 : placesT Tryz.prog 53 = some (.str [(0, 1), (1, 1)]) := by kernel_rfl
theorem sz55 : sizeT Tryz.prog 55 = some 2 := by kernel_rfl
theorem ag55 : aggT Tryz.prog 55 = some true := by kernel_rfl
theorem fld55_0 : fieldT Tryz.prog 55 0 = some (0, 1, false) := by kernel_rfl
theorem fld55_1 : fieldT Tryz.prog 55 1 = some (1, 1, false) := by kernel_rfl
theorem zr55 : zeroT Tryz.prog 55 = some [.int .i64 0, .int .i64 0] := by kernel_rfl
theorem ft55 : flatT Tryz.prog 55 = some 2 := by kernel_rfl
theorem st55 : structT Tryz.prog 55 = true := by kernel_rfl
theorem pl55 : placesT Tryz.prog 55 = some (.str [(0, 1), (1, 1)]) := by kernel_rfl
theorem sz57 : sizeT Tryz.prog 57 = some 4 := by kernel_rfl
theorem ag57 : aggT Tryz.prog 57 = some true := by kernel_rfl
theorem fld57_0 : fieldT Tryz.prog 57 0 = some (0, 2, true) := by kernel_rfl
theorem fld57_1 : fieldT Tryz.prog 57 1 = some (2, 2, true) := by kernel_rfl
theorem zr57 : zeroT Tryz.prog 57 = some [.zs, .zs, .int .i64 0, .int .i64 0] := by kernel_rfl
theorem st57 : structT Tryz.prog 57 = true := by kernel_rfl
theorem pl57 : placesT Tryz.prog 57 = some (.str [(0, 2), (2, 2)]) := by kernel_rfl
theorem sz65 : sizeT Tryz.prog 65 = some 1 := by kernel_rfl
theorem ag65 : aggT Tryz.prog 65 = some false := by kernel_rfl
theorem sz68 : sizeT Tryz.prog 68 = some 1 := by kernel_rfl
theorem ag68 : aggT Tryz.prog 68 = some false := by kernel_rfl
theorem zr68 : zeroT Tryz.prog 68 = some [.zs] := by kernel_rfl
theorem es68 : esizeT Tryz.prog 68 = some 2 := by kernel_rfl
theorem el68 : elemT Tryz.prog 68 = some 55 := by kernel_rfl
theorem un68 : Tryz.prog.underlying 68 = some (.slice 55) := by kernel_rfl
theorem gr68 : growT Tryz.prog 68 = true := by kernel_rfl
theorem sl68 : sliceT Tryz.prog 68 = true := by kernel_rfl
theorem sz69 : sizeT Tryz.prog 69 = some 1 := by kernel_rfl
theorem ag69 : aggT Tryz.prog 69 = some false := by kernel_rfl
theorem sz73 : sizeT Tryz.prog 73 = some 2 := by kernel_rfl
theorem ag73 : aggT Tryz.prog 73 = some true := by kernel_rfl
theorem fld73_0 : fieldT Tryz.prog 73 0 = some (0, 1, false) := by kernel_rfl
theorem fld73_1 : fieldT Tryz.prog 73 1 = some (1, 1, false) := by kernel_rfl
theorem zr73 : zeroT Tryz.prog 73 = some [.zs, .int .i64 0] := by kernel_rfl
theorem st73 : structT Tryz.prog 73 = true := by kernel_rfl
theorem pl73 : placesT Tryz.prog 73 = some (.str [(0, 1), (1, 1)]) := by kernel_rfl
theorem sz76 : sizeT Tryz.prog 76 = some 1 := by kernel_rfl
theorem ag76 : aggT Tryz.prog 76 = some false := by kernel_rfl
theorem sz80 : sizeT Tryz.prog 80 = some 1 := by kernel_rfl
theorem ag80 : aggT Tryz.prog 80 = some false := by kernel_rfl
theorem sz82 : sizeT Tryz.prog 82 = some 1 := by kernel_rfl
theorem ag82 : aggT Tryz.prog 82 = some false := by kernel_rfl
theorem sz87 : sizeT Tryz.prog 87 = some 1 := by kernel_rfl
theorem ag87 : aggT Tryz.prog 87 = some false := by kernel_rfl
theorem zr87 : zeroT Tryz.prog 87 = some [.un] := by kernel_rfl
theorem sz89 : sizeT Tryz.prog 89 = some 1 := by kernel_rfl
theorem ag89 : aggT Tryz.prog 89 = some false := by kernel_rfl
theorem zr89 : zeroT Tryz.prog 89 = some [.zs] := by kernel_rfl
theorem es89 : esizeT Tryz.prog 89 = some 1 := by kernel_rfl
theorem el89 : elemT Tryz.prog 89 = some 48 := by kernel_rfl
theorem un89 : Tryz.prog.underlying 89 = some (.slice 48) := by kernel_rfl
theorem gr89 : growT Tryz.prog 89 = true := by kernel_rfl
theorem sl89 : sliceT Tryz.prog 89 = true := by kernel_rfl
theorem sz95 : sizeT Tryz.prog 95 = some 1 := by kernel_rfl
theorem ag95 : aggT Tryz.prog 95 = some false := by kernel_rfl
theorem zr95 : zeroT Tryz.prog 95 = some [.un] := by kernel_rfl
theorem sz99 : sizeT Tryz.prog 99 = some 6 := by kernel_rfl
theorem ag99 : aggT Tryz.prog 99 = some true := by kernel_rfl
theorem fld99_0 : fieldT Tryz.prog 99 0 = some (0, 2, true) := by kernel_rfl
theorem fld99_1 : fieldT Tryz.prog 99 1 = some (2, 1, false) := by kernel_rfl
theorem fld99_2 : fieldT Tryz.prog 99 2 = some (3, 1, false) := by kernel_rfl
theorem fld99_3 : fieldT Tryz.prog 99 3 = some (4, 1, false) := by kernel_rfl
theorem fld99_4 : fieldT Tryz.prog 99 4 = some (5, 1, false) := by kernel_rfl
theorem zr99 : zeroT Tryz.prog 99 = some [.zs, .zs, .int .i64 0, .int .i64 0, .int .i64 0, .zs] := by kernel_rfl
theorem st99 : structT Tryz.prog 99 = true := by kernel_rfl
theorem pl99 : placesT Tryz.prog 99 = some (.str [(0, 2), (2, 1), (3, 1), (4, 1), (5, 1)]) := by kernel_rfl
theorem sz103 : sizeT Tryz.prog 103 = some 1 := by kernel_rfl
theorem ag103 : aggT Tryz.prog 103 = some false := by kernel_rfl
theorem zr103 : zeroT Tryz.prog 103 = some [.un] := by kernel_rfl
theorem sz104 : sizeT Tryz.prog 104 = some 1 := by kernel_rfl
theorem ag104 : aggT Tryz.prog 104 = some false := by kernel_rfl
theorem zr104 : zeroT Tryz.prog 104 = some [.un] := by kernel_rfl
theorem sz105 : sizeT Tryz.prog 105 = some 1 := by kernel_rfl
theorem ag105 : aggT Tryz.prog 105 = some false := by kernel_rfl
theorem zr105 : zeroT Tryz.prog 105 = some [.un] := by kernel_rfl
theorem sz108 : sizeT Tryz.prog 108 = some 1 := by kernel_rfl
theorem ag108 : aggT Tryz.prog 108 = some false := by kernel_rfl
theorem zr108 : zeroT Tryz.prog 108 = some [.un] := by kernel_rfl
theorem sz109 : sizeT Tryz.prog 109 = some 1 := by kernel_rfl
theorem ag109 : aggT Tryz.prog 109 = some false := by kernel_rfl
theorem zr109 : zeroT Tryz.prog 109 = some [.un] := by kernel_rfl
theorem sz113 : sizeT Tryz.prog 113 = some 1 := by kernel_rfl
theorem ag113 : aggT Tryz.prog 113 = some false := by kernel_rfl
theorem zr113 : zeroT Tryz.prog 113 = some [.nilp] := by kernel_rfl
theorem pt113 : ptrT Tryz.prog 113 = true := by kernel_rfl
theorem sz117 : sizeT Tryz.prog 117 = some 1 := by kernel_rfl
theorem ag117 : aggT Tryz.prog 117 = some false := by kernel_rfl
theorem zr117 : zeroT Tryz.prog 117 = some [.un] := by kernel_rfl
theorem sz124 : sizeT Tryz.prog 124 = some 1 := by kernel_rfl
theorem ag124 : aggT Tryz.prog 124 = some false := by kernel_rfl
theorem zr124 : zeroT Tryz.prog 124 = some [.un] := by kernel_rfl
theorem sz135 : sizeT Tryz.prog 135 = some 1 := by kernel_rfl
theorem ag135 : aggT Tryz.prog 135 = some false := by kernel_rfl
theorem zr135 : zeroT Tryz.prog 135 = some [.int .u64 0] := by kernel_rfl
theorem in135 : intT Tryz.prog 135 = some .u64 := by kernel_rfl
theorem sz136 : sizeT Tryz.prog 136 = some 1 := by kernel_rfl
theorem ag136 : aggT Tryz.prog 136 = some false := by kernel_rfl
theorem zr136 : zeroT Tryz.prog 136 = some [.un] := by kernel_rfl
theorem sz139 : sizeT Tryz.prog 139 = some 1 := by kernel_rfl
theorem ag139 : aggT Tryz.prog 139 = some false := by kernel_rfl
theorem sz142 : sizeT Tryz.prog 142 = some 1 := by kernel_rfl
theorem ag142 : aggT Tryz.prog 142 = some false := by kernel_rfl
theorem zr142 : zeroT Tryz.prog 142 = some [.un] := by kernel_rfl
theorem sz143 : sizeT Tryz.prog 143 = some 1 := by kernel_rfl
theorem ag143 : aggT Tryz.prog 143 = some false := by kernel_rfl
theorem zr143 : zeroT Tryz.prog 143 = some [.un] := by kernel_rfl
theorem sz146 : sizeT Tryz.prog 146 = some 1 := by kernel_rfl
theorem ag146 : aggT Tryz.prog 146 = some false := by kernel_rfl
theorem sz149 : sizeT Tryz.prog 149 = some 1 := by kernel_rfl
theorem ag149 : aggT Tryz.prog 149 = some false := by kernel_rfl
theorem sz153 : sizeT Tryz.prog 153 = some 1 := by kernel_rfl
theorem ag153 : aggT Tryz.prog 153 = some false := by kernel_rfl
theorem zr153 : zeroT Tryz.prog 153 = some [.un] := by kernel_rfl
theorem sz154 : sizeT Tryz.prog 154 = some 1 := by kernel_rfl
theorem ag154 : aggT Tryz.prog 154 = some false := by kernel_rfl
theorem sz160 : sizeT Tryz.prog 160 = some 1 := by kernel_rfl
theorem ag160 : aggT Tryz.prog 160 = some false := by kernel_rfl
theorem zr160 : zeroT Tryz.prog 160 = some [.int .i64 0] := by kernel_rfl
theorem in160 : intT Tryz.prog 160 = some .i64 := by kernel_rfl
theorem sz161 : sizeT Tryz.prog 161 = some 1 := by kernel_rfl
theorem ag161 : aggT Tryz.prog 161 = some false := by kernel_rfl
theorem sz167 : sizeT Tryz.prog 167 = some 1 := by kernel_rfl
theorem ag167 : aggT Tryz.prog 167 = some false := by kernel_rfl
theorem zr167 : zeroT Tryz.prog 167 = some [.int .u32 0] := by kernel_rfl
theorem in167 : intT Tryz.prog 167 = some .u32 := by kernel_rfl
theorem sz169 : sizeT Tryz.prog 169 = some 1 := by kernel_rfl
theorem ag169 : aggT Tryz.prog 169 = some false := by kernel_rfl
theorem zr169 : zeroT Tryz.prog 169 = some [.int .u64 0] := by kernel_rfl
theorem in169 : intT Tryz.prog 169 = some .u64 := by kernel_rfl
theorem sz176 : sizeT Tryz.prog 176 = some 4 := by kernel_rfl
theorem ag176 : aggT Tryz.prog 176 = some true := by kernel_rfl
theorem zr176 : zeroT Tryz.prog 176 = some [.zs, .zs, .zs, .zs] := by kernel_rfl
theorem un176 : Tryz.prog.underlying 176 = some (.array 2 53) := by kernel_rfl
theorem pl176 : placesT Tryz.prog 176 = some (.arr 2) := by kernel_rfl
theorem sz183 : sizeT Tryz.prog 183 = some 1 := by kernel_rfl
theorem ag183 : aggT Tryz.prog 183 = some false := by kernel_rfl
theorem zr183 : zeroT Tryz.prog 183 = some [.int .u64 0] := by kernel_rfl
theorem in183 : intT Tryz.prog 183 = some .u64 := by kernel_rfl
theorem sz187 : sizeT Tryz.prog 187 = some 1 := by kernel_rfl
theorem ag187 : aggT Tryz.prog 187 = some false := by kernel_rfl
theorem zr187 : zeroT Tryz.prog 187 = some [.nilp] := by kernel_rfl
theorem pt187 : ptrT Tryz.prog 187 = true := by kernel_rfl
theorem sz190 : sizeT Tryz.prog 190 = some 1 := by kernel_rfl
theorem ag190 : aggT Tryz.prog 190 = some false := by kernel_rfl
theorem zr190 : zeroT Tryz.prog 190 = some [.un] := by kernel_rfl
theorem sz193 : sizeT Tryz.prog 193 = some 2 := by kernel_rfl
theorem ag193 : aggT Tryz.prog 193 = some true := by kernel_rfl
theorem fld193_0 : fieldT Tryz.prog 193 0 = some (0, 1, false) := by kernel_rfl
theorem fld193_1 : fieldT Tryz.prog 193 1 = some (1, 1, false) := by kernel_rfl
theorem zr193 : zeroT Tryz.prog 193 = some [.int .i64 0, .int .i64 0] := by kernel_rfl
theorem ft193 : flatT Tryz.prog 193 = some 2 := by kernel_rfl
theorem st193 : structT Tryz.prog 193 = true := by kernel_rfl
theorem pl193 : placesT Tryz.prog 193 = some (.str [(0, 1), (1, 1)]) := by kernel_rfl
theorem sz195 : sizeT Tryz.prog 195 = some 1 := by kernel_rfl
theorem ag195 : aggT Tryz.prog 195 = some false := by kernel_rfl
theorem zr195 : zeroT Tryz.prog 195 = some [.nilp] := by kernel_rfl
theorem pt195 : ptrT Tryz.prog 195 = true := by kernel_rfl
theorem sz197 : sizeT Tryz.prog 197 = some 1 := by kernel_rfl
theorem ag197 : aggT Tryz.prog 197 = some false := by kernel_rfl
theorem zr197 : zeroT Tryz.prog 197 = some [.un] := by kernel_rfl
attribute [go_sem] sz0 ag0 sz3 ag3 zr3 in3 sz4 ag4 zr4 bt4 sz5 ag5 zr5 in5 sz9 ag9 zr9 sz20 ag20 zr20 sz22 ag22 zr22 es22 el22 un22 gr22 sl22 sz25 ag25 zr25 pt25 sz27 ag27 zr27 es27 el27 un27 gr27 sl27 sz29 ag29 fld29_0 zr29 st29 pl29 sz32 ag32 fld32_0 fld32_1 fld32_2 zr32 ft32 st32 pl32 sz34 ag34 fld34_0 fld34_1 fld34_2 fld34_3 zr34 st34 pl34 sz38 ag38 zr38 es38 el38 un38 gr38 sl38 sz40 ag40 fld40_0 fld40_1 fld40_2 zr40 st40 pl40 sz42 ag42 fld42_0 fld42_1 fld42_2 zr42 ft42 st42 pl42 sz43 ag43 zr43 in43 sz44 ag44 sz46 ag46 sz48 ag48 zr48 es48 el48 un48 gr48 sl48 sz49 ag49 sz53 ag53 fld53_0 fld53_1 zr53 st53 pl53 sz55 ag55 fld55_0 fld55_1 zr55 ft55 st55 pl55 sz57 ag57 fld57_0 fld57_1 zr57 st57 pl57 sz65 ag65 sz68 ag68 zr68 es68 el68 un68 gr68 sl68 sz69 ag69 sz73 ag73 fld73_0 fld73_1 zr73 st73 pl73 sz76 ag76 sz80 ag80 sz82 ag82 sz87 ag87 zr87 sz89 ag89 zr89 es89 el89 un89 gr89 sl89 sz95 ag95 zr95 sz99 ag99 fld99_0 fld99_1 fld99_2 fld99_3 fld99_4 zr99 st99 pl99 sz103 ag103 zr103 sz104 ag104 zr104 sz105 ag105 zr105 sz108 ag108 zr108 sz109 ag109 zr109 sz113 ag113 zr113 pt113 sz117 ag117 zr117 sz124 ag124 zr124 sz135 ag135 zr135 in135 sz136 ag136 zr136 sz139 ag139 sz142 ag142 zr142 sz143 ag143 zr143 sz146 ag146 sz149 ag149 sz153 ag153 zr153 sz154 ag154 sz160 ag160 zr160 in160 sz161 ag161 sz167 ag167 zr167 in167 sz169 ag169 zr169 in169 sz176 ag176 zr176 un176 pl176 sz183 ag183 zr183 in183 sz187 ag187 zr187 pt187 sz190 ag190 zr190 sz193 ag193 fld193_0 fld193_1 zr193 ft193 st193 pl193 sz195 ag195 zr195 pt195 sz197 ag197 zr197
end TR

/- The plain layer of the tree: words, entries, nodes and trees, how they lie in rows, and small lemmas for walking. -/
open Go Go.Proofs Go.AH
namespace TR
attribute [go_sem] slotsOf List.zip_cons_cons List.zip_nil_right List.zip_nil_left false_and and_false false_or or_false Int.lt_irrefl Nat.zero_mul Nat.one_mul Nat.zero_le List.getElem?_toArray Option.bind_some decide_true decide_false Bool.true_beq Bool.false_beq Bool.not_true Bool.not_false not_true_eq_false not_false_eq_true List.range_zero ne_eq ge_iff_le gt_iff_lt
attribute [go_sem] Tryz.ntmps6 Tryz.results6 Tryz.ntmps7 Tryz.results7 Tryz.ntmps9 Tryz.results9 Tryz.ntmps11 Tryz.results11 Tryz.ntmps12 Tryz.results12 Tryz.ntmps13 Tryz.results13 Tryz.ntmps15 Tryz.results15 Tryz.ntmps18 Tryz.results18 Tryz.ntmps19 Tryz.results19 Tryz.ntmps22 Tryz.results22 Tryz.ntmps23 Tryz.results23 Tryz.ntmps24 Tryz.results24 Tryz.ntmps30 Tryz.results30 Tryz.ntmps32 Tryz.results32 Tryz.ntmps34 Tryz.results34 Tryz.ntmps35 Tryz.results35 Tryz.ntmps36 Tryz.results36 Tryz.ntmps38 Tryz.results38 Tryz.ntmps40 Tryz.results40 Tryz.ntmps44 Tryz.results44 Tryz.ntmps45 Tryz.results45 Tryz.ntmps46 Tryz.results46 Tryz.ntmps47 Tryz.results47 Tryz.ntmps48 Tryz.results48 Tryz.ntmps49 Tryz.results49 Tryz.ntmps50 Tryz.results50 Tryz.ntmps51 Tryz.results51 Tryz.ntmps52 Tryz.results52 Tryz.ntmps53 Tryz.results53 Tryz.ntmps54 Tryz.results54 Tryz.ntmps55 Tryz.results55 Tryz.ntmps56 Tryz.results56 Tryz.ntmps57 Tryz.results57 Tryz.ntmps58 Tryz.results58 Tryz.ntmps62 Tryz.results62 Tryz.ntmps65 Tryz.results65 Tryz.ntmps67 Tryz.results67 Tryz.ntmps69 Tryz.results69 Tryz.ntmps74 Tryz.results74 Tryz.ntmps75 Tryz.results75 Tryz.ntmps76 Tryz.results76 Tryz.ntmps77 Tryz.results77 Tryz.ntmps78 Tryz.results78 Tryz.ntmps79 Tryz.results79 Tryz.ntmps80 Tryz.results80 Tryz.ntmps81 Tryz.results81 Tryz.ntmps82 Tryz.results82 Tryz.ntmps83 Tryz.results83 Tryz.ntmps84 Tryz.results84 Tryz.ntmps85 Tryz.results85 Tryz.ntmps86 Tryz.results86 Tryz.ntmps87 Tryz.results87 Tryz.ntmps88 Tryz.results88 Tryz.ntmps89 Tryz.results89 Tryz.ntmps90 Tryz.results90 Tryz.ntmps91 Tryz.results91 Tryz.ntmps92 Tryz.results92 Tryz.ntmps93 Tryz.results93 Tryz.ntmps94 Tryz.results94 Tryz.ntmps95 Tryz.results95 Tryz.ntmps96 Tryz.results96 Tryz.ntmps97 Tryz.results97 Tryz.ntmps98 Tryz.results98 Tryz.ntmps99 Tryz.results99 Tryz.ntmps100 Tryz.results100 Tryz.ntmps101 Tryz.results101 Tryz.ntmps102 Tryz.results102 Tryz.ntmps104 Tryz.results104 Tryz.ntmps106 Tryz.results106 Tryz.ntmps111 Tryz.results111 Tryz.ntmps112 Tryz.results112 Tryz.ntmps113 Tryz.results113 Tryz.ntmps118 Tryz.results118 Tryz.ntmps119 Tryz.results119 Tryz.ntmps120 Tryz.results120 Tryz.ntmps121 Tryz.results121 Tryz.ntmps122 Tryz.results122 Tryz.ntmps124 Tryz.results124 Tryz.ntmps125 Tryz.results125 Tryz.ntmps126 Tryz.results126 Tryz.ntmps127 Tryz.results127 Tryz.ntmps128 Tryz.results128 Tryz.ntmps129 Tryz.results129 Tryz.ntmps130 Tryz.results130 Tryz.ntmps131 Tryz.results131 Tryz.ntmps132 Tryz.results132 Tryz.ntmps133 Tryz.results133 Tryz.ntmps134 Tryz.results134 Tryz.ntmps135 Tryz.results135 Tryz.ntmps136 Tryz.results136 Tryz.ntmps137 Tryz.results137 Tryz.ntmps138 Tryz.results138 Tryz.ntmps139 Tryz.results139 Tryz.ntmps140 Tryz.results140 Tryz.ntmps141 Tryz.results141 Tryz.ntmps142 Tryz.results142 Tryz.ntmps143 Tryz.results143 Tryz.ntmps144 Tryz.results144 Tryz.ntmps145 Tryz.results145 Tryz.ntmps148 Tryz.results148 Tryz.ntmps150 Tryz.results150 Tryz.ntmps155 Tryz.results155 Tryz.ntmps156 Tryz.results156 Tryz.ntmps157 Tryz.results157 Tryz.ntmps167 Tryz.results167 Tryz.ntmps168 Tryz.results168 Tryz.ntmps169 Tryz.results169 Tryz.ntmps170 Tryz.results170 Tryz.ntmps171 Tryz.results171 Tryz.ntmps172 Tryz.results172 Tryz.ntmps173 Tryz.results173 Tryz.ntmps174 Tryz.results174 Tryz.ntmps175 Tryz.results175 Tryz.ntmps176 Tryz.results176 Tryz.ntmps177 Tryz.results177 Tryz.ntmps178 Tryz.results178 Tryz.ntmps179 Tryz.results179 Tryz.ntmps180 Tryz.results180 Tryz.ntmps184 Tryz.results184 Tryz.ntmps185 Tryz.results185 Tryz.ntmps195 Tryz.results195 Tryz.ntmps196 Tryz.results196
theorem mix : Tryz.prog.follows .mixedOrders = true := by kernel_rfl
theorem anil_int (P : Program) (op : BinOp) (t : TypeId) (k : IntKind) (n : Int) (x : D) : anil P op t (.const (.int k n)) x = none := _root_.id rfl
theorem anil_tmp (P : Program) (op : BinOp) (t : TypeId) (n : Nat) (x : D) : anil P op t (.tmp n) x = none := _root_.id rfl
theorem anil_str (P : Program) (op : BinOp) (t : TypeId) (s : ByteArray) (x : D) : anil P op t (.const (.string s)) x = none := _root_.id rfl
theorem anil_vs {P : Program} {op : BinOp} {t : TypeId} {r : List D} {rs : List (List D)} (h : sliceT P t = true) : anil P op t (.const (.slice none 0 0)) (.vs (r :: rs)) = apnil op false := by simp [anil, h]
theorem anil_rs {P : Program} {op : BinOp} {t : TypeId} {a b c d e : Nat} (h : sliceT P t = true) : anil P op t (.const (.slice none 0 0)) (.rs a b c d e) = apnil op false := by simp [anil, h]
attribute [go_sem] anil_vs anil_rs
theorem bne_dec (x y : Int) : (x != y) = decide (¬ x = y) := by by_cases h : x = y <;> simp [h]
theorem beq_dec (x y : Int) : (x == y) = decide (x = y) := by by_cases h : x = y <;> simp [h]
theorem emp : (#[] : Array Operand).isEmpty = true := _root_.id rfl
attribute [go_sem] anil_int anil_tmp anil_str bne_dec beq_dec emp
theorem drawnB_ok {ops : Array Oper} {fs : List AH.Foot} {T : Unit → Prop} (h : AH.drawOK ops fs = true) (h1 : T ()) : @AH.drawnB ⟨ops⟩ fs ⟨T⟩ := ⟨h, h1⟩
theorem wT {p : Prop} [Decidable p] {T F : Unit → Prop} (h1 : p → T ()) (h2 : ¬ p → F ()) : @wntB (some (decide p == true)) ⟨F⟩ ⟨T⟩ := wntB_decT h1 h2
theorem wF {p : Prop} [Decidable p] {T F : Unit → Prop} (h1 : ¬ p → T ()) (h2 : p → F ()) : @wntB (some (decide p == false)) ⟨F⟩ ⟨T⟩ := wntB_decF h1 h2
theorem cD {p : Prop} [Decidable p] {T F : Unit → Prop} (h1 : p → T ()) (h2 : ¬ p → F ()) : @cndB (.bool (decide p)) ⟨T⟩ ⟨F⟩ := cndB_dec h1 h2
theorem dO {ops : Array Oper} {fs : List AH.Foot} {T : Unit → Prop} (h : AH.drawOK ops fs = true) (h1 : T ()) : @AH.drawnB ⟨ops⟩ fs ⟨T⟩ := ⟨h, h1⟩
theorem callF {P : Program} {f : FuncId} {vals : List D} {H : Heap} {slot : Nat} {K : D → List (Nat × Blk) → List (Nat × Blk) → Prop} {args' : List D} {r : D} (hf : FC P f args' [] r []) (ha : trL (pos []) true true true (look (rdOf H (D.idsL vals))) vals = some args')
    (hr : tr (fun i => (slotsOf slot)[i]?) false false false (fun _ => none) r = some r) (ht : r.flat = true) (hK : K r [] (rdOf H (D.idsL vals))) : @callB ⟨callX P⟩ f vals H slot ⟨K⟩ := call0 true hf ha hr (fun _ => ht) hK
theorem callO {P : Program} {f : FuncId} {vals : List D} {H : Heap} {slot : Nat} {K : D → List (Nat × Blk) → List (Nat × Blk) → Prop} {args' : List D} {r r' : D} {outs outs' : List Blk} (hf : FC P f args' [] r outs) (ha : trL (pos []) false true true (look (rdOf H (D.idsL vals))) vals = some args')
    (hr : tr (fun i => (slotsOf slot)[i]?) false false false (fun _ => none) r = some r') (hb : backB [] slot outs = some outs') (hl : outs.length ≤ 12) (hK : K r' ((slotsOf slot).zip outs') (rdOf H (D.idsL vals))) : @callB ⟨callX P⟩ f vals H slot ⟨K⟩ :=
  .inl ⟨[], false, true, args', [], r, r', outs, outs', by simp, ha, rfl, hf, by simpa using hl, hr, hb, fun h => (nomatch h), hK⟩
/-- A call with blocks that go in by reference. -/
theorem callX2 (X : List Nat) {P : Program} {f : FuncId} {vals : List D} {H : Heap} {slot : Nat} {K : D → List (Nat × Blk) → List (Nat × Blk) → Prop} {args' : List D} {Hin : List Blk} {r r' : D} {outs outs' : List Blk} (hf : FC P f args' Hin r outs) (hX : X.Nodup) (ha : trL (pos X) false true true (look (rdOf H (X ++ D.idsL vals))) vals = some args')
    (hi : insA X (rdOf H (X ++ D.idsL vals)) X = some Hin) (hl : X.length ≤ outs.length ∧ outs.length ≤ X.length + 12) (hr : tr (fun i => (X ++ slotsOf slot)[i]?) false false false (fun _ => none) r = some r') (hb : backB X slot outs = some outs') (hK : K r' ((X ++ slotsOf slot).zip outs') (rdOf H (X ++ D.idsL vals))) : @callB ⟨callX P⟩ f vals H slot ⟨K⟩ :=
  .inl ⟨X, false, true, args', Hin, r, r', outs, outs', hX, ha, hi, hf, hl, hr, hb, fun h => (nomatch h), hK⟩
theorem condU {T F : Unit → Prop} (h1 : T ()) (h2 : F ()) : @cndB .ub ⟨T⟩ ⟨F⟩ := ⟨h1, h2⟩
theorem callVB_ifc {P : Program} {T : FuncId → List D → List D → Prop} {t : TypeId} {name : String} {f : FuncId} (h : methT P t name = some f) : @callVB P (some name) (.ifc t) ⟨T⟩ = T f [.agg []] [] := by
  simp [callVB, callV, h]
theorem wrapS {x : Int} (h1 : -9223372036854775808 ≤ x) (h2 : x < 9223372036854775808) : IntKind.i64.wrap x = x := IntWalk.i64_in x (by omega)
theorem wrapN {a : Nat} (h : a < 9223372036854775808) : IntKind.i64.wrap (a : Int) = a := IntWalk.i64_in _ (by omega)
theorem wrap1 {i : Nat} (h : i < 4611686018427387904) : IntKind.i64.wrap ((i : Int) + 1) = ((i + 1 : Nat) : Int) := by rw [wrapS] <;> omega
theorem ltN (a b : Nat) : ((a : Int) < b) = (a < b) := by simp
theorem leN (a b : Nat) : ((a : Int) ≤ b) = (a ≤ b) := by simp
theorem eqN (a b : Nat) : ((a : Int) = b) = (a = b) := by simp only [eq_iff_iff]; omega
theorem ltN0 (i : Nat) : ((i : Int) < 0) = False := by simp only [eq_iff_iff, iff_false]; omega
theorem gtN0 (i : Nat) : ((i : Int) > 0) = (0 < i) := by simp only [eq_iff_iff]; omega

theorem not_dec (p : Prop) [Decidable p] : (!decide p) = decide (¬ p) := by simp
theorem err9 (p : Prop) [Decidable p] : ((if p then (0 : Int) else 9) = 0) = p := by by_cases h : p <;> simp [h]
theorem err10 (p : Prop) [Decidable p] : ((if p then (0 : Int) else 10) = 0) = p := by by_cases h : p <;> simp [h]
attribute [go_sem] not_dec err9 err10 ltN leN ltN0 gtN0 Int.toNat_natCast
theorem Fin.q {P : Program} {fn : Func} {k : Nat} {r : D} {outs : List Blk} {s : St} (h1 : (match resA P s fn.results.toList with | some l => tr (expo k []) true false true (hget s.H) (oneA l) | none => none) = some r) (h5 : outsA (expo k []) true true s.H (List.range k ++ []) = some outs) : AH.Fin P fn k r outs .ret s := by
  cases h : resA P s fn.results.toList with
  | none => rw [h] at h1; cases h1
  | some l => rw [h] at h1; exact Fin.ret l [] true h (by simp) (by simp) h1 h5

theorem Fin.qy {P : Program} {fn : Func} {k : Nat} {r : D} {outs : List Blk} {s : St} (Y : List Nat) (hn : Y.Nodup) (hk : ∀ y, y ∈ Y → k ≤ y) (h1 : (match resA P s fn.results.toList with | some l => tr (expo k Y) true false true (hget s.H) (oneA l) | none => none) = some r) (h5 : outsA (expo k Y) true true s.H (List.range k ++ Y) = some outs) : AH.Fin P fn k r outs .ret s := by
  cases h : resA P s fn.results.toList with
  | none => rw [h] at h1; cases h1
  | some l => rw [h] at h1; exact Fin.ret l Y true h hn hk h1 h5

theorem Fin.q0 {P : Program} {fn : Func} {k : Nat} {r : D} {outs : List Blk} {s : St} (h1 : (match resA P s fn.results.toList with | some l => tr (expo k []) true false false (hget s.H) (oneA l) | none => none) = some r) (h5 : outsA (expo k []) true false s.H (List.range k ++ []) = some outs) : AH.Fin P fn k r outs .ret s := by
  cases h : resA P s fn.results.toList with
  | none => rw [h] at h1; cases h1
  | some l => rw [h] at h1; exact Fin.ret l [] false h (by simp) (by simp) h1 h5
theorem Fin.qn {P : Program} {fn : Func} {k : Nat} {r : D} {outs : List Blk} {s : St} (h1 : (match resA P s fn.results.toList with | some l => tr (expo k []) true false true (hget s.H) (oneA l) | none => none) = some r) (h5 : outsA (expo k []) true true s.H (List.range k ++ []) = some outs) : AH.Fin P fn k r outs .normal s := by
  obtain ⟨_, h⟩ := Fin.q h1 h5
  exact ⟨.inl rfl, h⟩

/-! ### which of some conditions is the first that holds -/
section
variable (p q r s t u v : Prop)
theorem first2 : (¬ p ∧ ¬ q) ∨ p ∨ (¬ p ∧ q) := by by_cases hp : p <;> by_cases hq : q <;> simp [hp, hq]
theorem first3 : (¬ p ∧ ¬ q ∧ ¬ r) ∨ p ∨ (¬ p ∧ q) ∨ (¬ p ∧ ¬ q ∧ r) := by by_cases hp : p <;> by_cases hq : q <;> by_cases hr : r <;> simp [hp, hq, hr]
theorem first4 : (¬ p ∧ ¬ q ∧ ¬ r ∧ ¬ s) ∨ p ∨ (¬ p ∧ q) ∨ (¬ p ∧ ¬ q ∧ r) ∨ (¬ p ∧ ¬ q ∧ ¬ r ∧ s) := by by_cases hp : p <;> by_cases hq : q <;> by_cases hr : r <;> by_cases hs : s <;> simp [hp, hq, hr, hs]
theorem first5 : (¬ p ∧ ¬ q ∧ ¬ r ∧ ¬ s ∧ ¬ t) ∨ p ∨ (¬ p ∧ q) ∨ (¬ p ∧ ¬ q ∧ r) ∨ (¬ p ∧ ¬ q ∧ ¬ r ∧ s) ∨ (¬ p ∧ ¬ q ∧ ¬ r ∧ ¬ s ∧ t) := by
  by_cases hp : p <;> by_cases hq : q <;> by_cases hr : r <;> by_cases hs : s <;> by_cases ht : t <;> simp [hp, hq, hr, hs, ht]
theorem first7 : (¬ p ∧ ¬ q ∧ ¬ r ∧ ¬ s ∧ ¬ t ∧ ¬ u ∧ ¬ v) ∨ p ∨ (¬ p ∧ q) ∨ (¬ p ∧ ¬ q ∧ r) ∨ (¬ p ∧ ¬ q ∧ ¬ r ∧ s) ∨ (¬ p ∧ ¬ q ∧ ¬ r ∧ ¬ s ∧ t) ∨ (¬ p ∧ ¬ q ∧ ¬ r ∧ ¬ s ∧ ¬ t ∧ u) ∨ (¬ p ∧ ¬ q ∧ ¬ r ∧ ¬ s ∧ ¬ t ∧ ¬ u ∧ v) := by
  by_cases hp : p <;> by_cases hq : q <;> by_cases hr : r <;> by_cases hs : s <;> by_cases ht : t <;> by_cases hu : u <;> by_cases hv : v <;> simp [hp, hq, hr, hs, ht, hu, hv]
end

/-! ### the data -/
structure Wd where
  s : List Int
  b : List Int
  deriving DecidableEq, Inhabited
structure En where
  w : Wd
  p : Int
  q : Int
  deriving DecidableEq, Inhabited
structure Nd where
  w : Wd
  piece : Int
  left : Int
  right : Int
  es : List En
  deriving DecidableEq, Inhabited
structure Sc where
  kind : Int
  band : Int
  gap : Int
  len : Int
  pcs : Int
  cuts : List Int
  deriving DecidableEq, Inhabited
structure Tr where
  sc : Sc
  cap : Int
  ns : List Nd
  deriving DecidableEq, Inhabited
def ints (l : List Int) : List (List D) := l.map fun n => [.int .i64 n]
abbrev V (l : List Int) : D := .vs (ints l)
def Wd.row (w : Wd) : List D := [V w.s, V w.b]
def En.row (e : En) : List D := [V e.w.s, V e.w.b, .int .i64 e.p, .int .i64 e.q]
def ents (l : List En) : List (List D) := l.map En.row
def Nd.row (n : Nd) : List D := [V n.w.s, V n.w.b, .int .i64 n.piece, .int .i64 n.left, .int .i64 n.right, .vs (ents n.es)]
def nods (l : List Nd) : List (List D) := l.map Nd.row
def Sc.row (s : Sc) : List D := [.int .i64 s.kind, .int .i64 s.band, .int .i64 s.gap, .int .i64 s.len, .int .i64 s.pcs, V s.cuts]
def Tr.row (t : Tr) : List D := [.int .i64 t.sc.kind, .int .i64 t.sc.band, .int .i64 t.sc.gap, .int .i64 t.sc.len, .int .i64 t.sc.pcs, V t.sc.cuts, .int .i64 t.cap, .vs (nods t.ns)]
theorem ints_get {l : List Int} {i : Nat} (h : i < l.length) : (ints l)[i]? = some [.int .i64 (l.getD i 0)] := by simp [ints, List.getD, h]
theorem ints_get1 {l : List Int} {i : Nat} (h : i < l.length) : (ints l)[i - 1]? = some [.int .i64 (l.getD (i - 1) 0)] := ints_get (by omega)
theorem ents_get {l : List En} {i : Nat} (h : i < l.length) : (ents l)[i]? = some (l.getD i default).row := by simp [ents, List.getD, h]
theorem nods_get {l : List Nd} {i : Nat} (h : i < l.length) : (nods l)[i]? = some (l.getD i default).row := by simp [nods, List.getD, h]
theorem ints_len (l : List Int) : (ints l).length = l.length := by simp [ints]
theorem ents_len (l : List En) : (ents l).length = l.length := by simp [ents]
theorem nods_len (l : List Nd) : (nods l).length = l.length := by simp [nods]
theorem ints_cons (x : Int) (l : List Int) : ints (x :: l) = [.int .i64 x] :: ints l := rfl
theorem ents_cons (x : En) (l : List En) : ents (x :: l) = x.row :: ents l := rfl
theorem nods_cons (x : Nd) (l : List Nd) : nods (x :: l) = x.row :: nods l := rfl
theorem ints_all (l : List Int) : ((ints l).all fun r => r.length == 1) = true := by simp [ints]
theorem ents_all (l : List En) : ((ents l).all fun r => r.length == 4) = true := by simp [ents, En.row]
theorem nods_all (l : List Nd) : ((nods l).all fun r => r.length == 6) = true := by simp [nods, Nd.row]
theorem ints_pure (l : List Int) : ((ints l).all fun r => r.all D.isPur) = true := by simp [ints, D.isPur]
theorem ents_pure (l : List En) : ((ents l).all fun r => r.all D.isPur) = true := by simp [ents, En.row, D.isPur]
theorem nods_pure (l : List Nd) : ((nods l).all fun r => r.all D.isPur) = true := by simp [nods, Nd.row, D.isPur]
theorem ints_refs (ok : Nat → Bool) (l : List Int) : ((ints l).all (D.refsL ok)) = true := by simp [ints, D.refsL, D.refs]
theorem ents_refs (ok : Nat → Bool) (l : List En) : ((ents l).all (D.refsL ok)) = true := by simp [ents, En.row, D.refsL, D.refs]
theorem nods_refs (ok : Nat → Bool) (l : List Nd) : ((nods l).all (D.refsL ok)) = true := by simp [nods, Nd.row, D.refsL, D.refs]
theorem take_ints (l : List Int) : (ints l).take l.length = ints l := by rw [← ints_len]; exact List.take_length
theorem take_ents (l : List En) : (ents l).take l.length = ents l := by rw [← ents_len]; exact List.take_length
theorem take_nods (l : List Nd) : (nods l).take l.length = nods l := by rw [← nods_len]; exact List.take_length
theorem ints_nil : ints [] = [] := rfl
theorem ents_nil : ents [] = [] := rfl
theorem nods_nil : nods [] = [] := rfl
theorem trRow_ints (ρ : Nat → Option Nat) (ss nn : Bool) (get : Nat → Option Blk) : ∀ l, trRow ρ ss nn get (ints l) = some (ints l)
  | [] => rfl
  | x :: l => by rw [ints_cons, trRow, trRow_ints ρ ss nn get l]; rfl
theorem trRow_ents (ρ : Nat → Option Nat) (ss nn : Bool) (get : Nat → Option Blk) : ∀ l, trRow ρ ss nn get (ents l) = some (ents l)
  | [] => rfl
  | x :: l => by rw [ents_cons, trRow, trRow_ents ρ ss nn get l]; rfl
theorem trRow_nods (ρ : Nat → Option Nat) (ss nn : Bool) (get : Nat → Option Blk) : ∀ l, trRow ρ ss nn get (nods l) = some (nods l)
  | [] => rfl
  | x :: l => by rw [nods_cons, trRow, trRow_nods ρ ss nn get l]; rfl
attribute [go_sem] ints_all ents_all nods_all ints_pure ents_pure nods_pure ints_refs ents_refs nods_refs take_ints take_ents take_nods ints_nil ents_nil nods_nil trRow_ints trRow_ents trRow_nods
attribute [go_sem] ints_len ents_len nods_len Wd.row En.row Nd.row Sc.row Tr.row

/-! ### schemes and words -/
def mOK (k b g : Int) : Prop := 1 ≤ k ∧ k ≤ 5 ∧ 0 ≤ b ∧ b ≤ 32 ∧ (b ≠ 0 → k = 4) ∧ -1000 ≤ g ∧ g ≤ 1000 ∧ (g ≠ 0 → k = 5)
instance (k b g : Int) : Decidable (mOK k b g) := by unfold mOK; infer_instance
def cutOK (l : List Int) (i : Nat) : Prop := -2000 ≤ l.getD i 0 ∧ l.getD i 0 ≤ 2000 ∧ (0 < i → l.getD (i - 1) 0 < l.getD i 0)
instance (l : List Int) (i : Nat) : Decidable (cutOK l i) := by unfold cutOK; infer_instance
def cutsOK (l : List Int) : Prop := ∀ i, i < l.length → cutOK l i
instance (l : List Int) : Decidable (cutsOK l) := by unfold cutsOK; infer_instance
def Sc.pre (s : Sc) : Prop := mOK s.kind s.band s.gap ∧ 2 ≤ s.len ∧ s.len ≤ 32 ∧ 1 ≤ s.pcs ∧ s.pcs ≤ 8 ∧ s.pcs ≤ s.len ∧ s.cuts.length ≤ 15
instance (s : Sc) : Decidable s.pre := by unfold Sc.pre; infer_instance
def Sc.ok (s : Sc) : Prop := s.pre ∧ cutsOK s.cuts
instance (s : Sc) : Decidable s.ok := by unfold Sc.ok; infer_instance
def bitOK (w : Wd) (p : Nat) : Prop := 0 ≤ w.b.getD p 0 ∧ w.b.getD p 0 ≤ 4 ∧ 0 ≤ w.s.getD p 0 ∧ w.s.getD p 0 < 2 ^ (w.b.getD p 0).toNat
instance (w : Wd) (p : Nat) : Decidable (bitOK w p) := by unfold bitOK; infer_instance
/-- A word that is valid for a scheme that is. -/
def Wd.ok (s : Sc) (w : Wd) : Prop := s.ok ∧ (w.s.length : Int) = s.pcs ∧ (w.b.length : Int) = s.pcs ∧ ∀ p, p < w.b.length → bitOK w p
instance (s : Sc) (w : Wd) : Decidable (w.ok s) := by unfold Wd.ok; infer_instance
def Wd.full (w : Wd) : Prop := ∀ p, p < w.b.length → w.b.getD p 0 = 4
instance (w : Wd) : Decidable w.full := by unfold Wd.full; infer_instance
def fits (w f : Wd) (p : Nat) : Prop := f.s.getD p 0 / 2 ^ (4 - w.b.getD p 0).toNat = w.s.getD p 0
instance (w f : Wd) (p : Nat) : Decidable (fits w f p) := by unfold fits; infer_instance
/-- A full word belongs to a word. -/
def Wd.has (s : Sc) (w f : Wd) : Prop := w.ok s ∧ f.ok s ∧ f.full ∧ ∀ p, p < w.b.length → fits w f p
instance (s : Sc) (w f : Wd) : Decidable (w.has s f) := by unfold Wd.has; infer_instance
def En.ok (s : Sc) (e : En) : Prop := e.w.ok s ∧ e.w.full ∧ 0 ≤ e.p ∧ e.p ≤ 2000 ∧ 0 ≤ e.q ∧ e.q ≤ 2000
instance (s : Sc) (e : En) : Decidable (e.ok s) := by unfold En.ok; infer_instance
end TR

/- Schemes and words. -/
open Go Go.Proofs Go.AH
set_option linter.unusedSimpArgs false
set_option linter.unusedVariables false
namespace TR
set_option maxHeartbeats 2000000 in
set_option maxRecDepth 20000 in
theorem cSample (n : Int)  : FC Tryz.prog 124 [.int .i64 n] [] (.bool (decide (-1000 ≤ n ∧ n ≤ 1000))) [] := by
  refine FC.of_run mix Tryz.func124 rfl rfl (by simp [Tryz.ntmps124]) ?_
  repeat' first
    | simp (maxSteps := 1000000) only [go_sem, Int.reduceLT, Int.reduceLE, Int.reduceToNat, Int.reduceEq, Nat.reduceMul, ↓reduceIte, Nat.reduceLT, Nat.reduceLeDiff, Nat.reduceEqDiff, Nat.reduceAdd, Nat.reduceSub, Nat.reduceBEq, reduceCtorEq, *, ge_iff_le]
    | contradiction
    | refine wT ?_ ?_ <;> intro _
    | refine wF ?_ ?_ <;> intro _
    | refine cD ?_ ?_ <;> intro _
    | refine dO (by kernel_rfl) ?_
    | ((first | refine Fin.q ?_ ?_ | refine Fin.qn ?_ ?_) <;> ((try simp (maxSteps := 1000000) only [go_sem, Int.reduceLT, Int.reduceLE, Int.reduceToNat, Int.reduceEq, Nat.reduceMul, ↓reduceIte, Nat.reduceLT, Nat.reduceLeDiff, Nat.reduceEqDiff, Nat.reduceAdd, Nat.reduceSub, Nat.reduceBEq, reduceCtorEq, *, ge_iff_le]) <;> (simp [*])))
set_option maxRecDepth 20000 in
theorem kcSample {n : Int} {H : Heap} {slot : Nat} {K : D → List (Nat × Blk) → List (Nat × Blk) → Prop} (hK : K (.bool (decide (-1000 ≤ n ∧ n ≤ 1000))) [] []) : @callB ⟨callX Tryz.prog⟩ 124 [.int .i64 n] H slot ⟨K⟩ := by
  have he0 : rdOf H (D.idsL [.int .i64 n]) = [] := by simp (maxSteps := 1000000) only [go_sem, Int.reduceLT, Int.reduceLE, Int.reduceToNat, Int.reduceEq, Nat.reduceMul, ↓reduceIte, Nat.reduceLT, Nat.reduceLeDiff, Nat.reduceEqDiff, Nat.reduceAdd, Nat.reduceSub, Nat.reduceBEq, reduceCtorEq]
  refine call0 false (cSample n ) ?_ ?_ (fun h => nomatch h) (by rw [he0]; exact hK)
  iterate 2 (· simp (maxSteps := 1000000) only [go_sem, Int.reduceLT, Int.reduceLE, Int.reduceToNat, Int.reduceEq, Nat.reduceMul, ↓reduceIte, Nat.reduceLT, Nat.reduceLeDiff, Nat.reduceEqDiff, Nat.reduceAdd, Nat.reduceSub, Nat.reduceBEq, reduceCtorEq])
def nameOf (n : Int) : ByteArray := if n = 1 then ⟨#[101, 117, 99, 108, 105, 100]⟩ else if n = 2 then ⟨#[115, 104, 105, 102, 116, 101, 100]⟩ else if n = 3 then ⟨#[110, 111, 114, 109, 97, 108]⟩ else if n = 4 then ⟨#[119, 97, 114, 112]⟩ else if n = 5 then ⟨#[101, 100, 105, 116]⟩ else ⟨#[]⟩
set_option maxHeartbeats 2000000 in
set_option maxRecDepth 20000 in
theorem cname (n : Int)  : FC Tryz.prog 157 [.int .i64 n] [] (.str (nameOf n)) [] := by
  refine FC.of_run mix Tryz.func157 rfl rfl (by simp [Tryz.ntmps157]) ?_
  repeat' first
    | simp (maxSteps := 1000000) only [go_sem, Int.reduceLT, Int.reduceLE, Int.reduceToNat, Int.reduceEq, Nat.reduceMul, ↓reduceIte, Nat.reduceLT, Nat.reduceLeDiff, Nat.reduceEqDiff, Nat.reduceAdd, Nat.reduceSub, Nat.reduceBEq, reduceCtorEq, *]
    | contradiction
    | refine wT ?_ ?_ <;> intro _
    | refine wF ?_ ?_ <;> intro _
    | refine cD ?_ ?_ <;> intro _
    | refine dO (by kernel_rfl) ?_
    | ((first | refine Fin.q ?_ ?_ | refine Fin.qn ?_ ?_) <;> ((try simp (maxSteps := 1000000) only [go_sem, Int.reduceLT, Int.reduceLE, Int.reduceToNat, Int.reduceEq, Nat.reduceMul, ↓reduceIte, Nat.reduceLT, Nat.reduceLeDiff, Nat.reduceEqDiff, Nat.reduceAdd, Nat.reduceSub, Nat.reduceBEq, reduceCtorEq, *]) <;> (simp [nameOf, *])))
set_option maxRecDepth 20000 in
theorem kcname {n : Int} {H : Heap} {slot : Nat} {K : D → List (Nat × Blk) → List (Nat × Blk) → Prop} (hK : K (.str (nameOf n)) [] []) : @callB ⟨callX Tryz.prog⟩ 157 [.int .i64 n] H slot ⟨K⟩ := by
  have he0 : rdOf H (D.idsL [.int .i64 n]) = [] := by simp (maxSteps := 1000000) only [go_sem, Int.reduceLT, Int.reduceLE, Int.reduceToNat, Int.reduceEq, Nat.reduceMul, ↓reduceIte, Nat.reduceLT, Nat.reduceLeDiff, Nat.reduceEqDiff, Nat.reduceAdd, Nat.reduceSub, Nat.reduceBEq, reduceCtorEq]
  refine call0 false (cname n ) ?_ ?_ (fun h => nomatch h) (by rw [he0]; exact hK)
  iterate 2 (· simp (maxSteps := 1000000) only [go_sem, Int.reduceLT, Int.reduceLE, Int.reduceToNat, Int.reduceEq, Nat.reduceMul, ↓reduceIte, Nat.reduceLT, Nat.reduceLeDiff, Nat.reduceEqDiff, Nat.reduceAdd, Nat.reduceSub, Nat.reduceBEq, reduceCtorEq])
theorem nameEmp (n : Int) : astr .eql (nameOf n) ⟨#[]⟩ = some (.bool (decide (¬ (1 ≤ n ∧ n ≤ 5)))) := by
  unfold nameOf
  by_cases h1 : n = 1
  · subst h1; kernel_rfl
  by_cases h2 : n = 2
  · subst h2; kernel_rfl
  by_cases h3 : n = 3
  · subst h3; kernel_rfl
  by_cases h4 : n = 4
  · subst h4; kernel_rfl
  by_cases h5 : n = 5
  · subst h5; kernel_rfl
  rw [if_neg h1, if_neg h2, if_neg h3, if_neg h4, if_neg h5, show decide (¬ (1 ≤ n ∧ n ≤ 5)) = true by simp only [decide_eq_true_eq]; omega]
  kernel_rfl
set_option maxHeartbeats 2000000 in
set_option maxRecDepth 20000 in
theorem cmCheck (k b g : Int)  : FC Tryz.prog 106 [.agg [.int .i64 k, .int .i64 b, .int .i64 g]] [] (.int .i64 (if mOK k b g then 0 else 9)) [] := by
  refine FC.of_run mix Tryz.func106 rfl rfl (by simp [Tryz.ntmps106]) ?_
  repeat' first
    | simp (maxSteps := 1000000) only [go_sem, Int.reduceLT, Int.reduceLE, Int.reduceToNat, Int.reduceEq, Nat.reduceMul, ↓reduceIte, Nat.reduceLT, Nat.reduceLeDiff, Nat.reduceEqDiff, Nat.reduceAdd, Nat.reduceSub, Nat.reduceBEq, reduceCtorEq, *, nameEmp]
    | contradiction
    | refine wT ?_ ?_ <;> intro _
    | refine wF ?_ ?_ <;> intro _
    | refine cD ?_ ?_ <;> intro _
    | refine dO (by kernel_rfl) ?_
    | refine kcname ?_
    | ((first | refine Fin.q ?_ ?_ | refine Fin.qn ?_ ?_) <;> ((try simp (maxSteps := 1000000) only [go_sem, Int.reduceLT, Int.reduceLE, Int.reduceToNat, Int.reduceEq, Nat.reduceMul, ↓reduceIte, Nat.reduceLT, Nat.reduceLeDiff, Nat.reduceEqDiff, Nat.reduceAdd, Nat.reduceSub, Nat.reduceBEq, reduceCtorEq, *, nameEmp]) <;> (first | done | (simp only [Option.some.injEq, D.int.injEq, true_and]; first | rw [if_pos (by unfold mOK; omega)] | rw [if_neg (by unfold mOK; omega)]))))
set_option maxRecDepth 20000 in
theorem kcmCheck {k b g : Int} {H : Heap} {slot : Nat} {K : D → List (Nat × Blk) → List (Nat × Blk) → Prop} (hK : K (.int .i64 (if mOK k b g then 0 else 9)) [] []) : @callB ⟨callX Tryz.prog⟩ 106 [.agg [.int .i64 k, .int .i64 b, .int .i64 g]] H slot ⟨K⟩ := by
  have he0 : rdOf H (D.idsL [.agg [.int .i64 k, .int .i64 b, .int .i64 g]]) = [] := by simp (maxSteps := 1000000) only [go_sem, Int.reduceLT, Int.reduceLE, Int.reduceToNat, Int.reduceEq, Nat.reduceMul, ↓reduceIte, Nat.reduceLT, Nat.reduceLeDiff, Nat.reduceEqDiff, Nat.reduceAdd, Nat.reduceSub, Nat.reduceBEq, reduceCtorEq]
  refine call0 false (cmCheck k b g ) ?_ ?_ (fun h => nomatch h) (by rw [he0]; exact hK)
  iterate 2 (· simp (maxSteps := 1000000) only [go_sem, Int.reduceLT, Int.reduceLE, Int.reduceToNat, Int.reduceEq, Nat.reduceMul, ↓reduceIte, Nat.reduceLT, Nat.reduceLeDiff, Nat.reduceEqDiff, Nat.reduceAdd, Nat.reduceSub, Nat.reduceBEq, reduceCtorEq])
set_option maxHeartbeats 2000000 in
set_option maxRecDepth 20000 in
theorem cmCheckR (k b g : Int)  : FC Tryz.prog 77 [.agg [.int .i64 k, .int .i64 b, .int .i64 g]] [] (.int .i64 (if mOK k b g then 0 else 9)) [] := by
  refine FC.of_run mix Tryz.func77 rfl rfl (by simp [Tryz.ntmps77]) ?_
  repeat' first
    | simp (maxSteps := 1000000) only [go_sem, Int.reduceLT, Int.reduceLE, Int.reduceToNat, Int.reduceEq, Nat.reduceMul, ↓reduceIte, Nat.reduceLT, Nat.reduceLeDiff, Nat.reduceEqDiff, Nat.reduceAdd, Nat.reduceSub, Nat.reduceBEq, reduceCtorEq, *]
    | contradiction
    | refine wT ?_ ?_ <;> intro _
    | refine wF ?_ ?_ <;> intro _
    | refine cD ?_ ?_ <;> intro _
    | refine dO (by kernel_rfl) ?_
    | refine kcSample ?_
    | ((first | refine Fin.q ?_ ?_ | refine Fin.qn ?_ ?_) <;> ((try simp (maxSteps := 1000000) only [go_sem, Int.reduceLT, Int.reduceLE, Int.reduceToNat, Int.reduceEq, Nat.reduceMul, ↓reduceIte, Nat.reduceLT, Nat.reduceLeDiff, Nat.reduceEqDiff, Nat.reduceAdd, Nat.reduceSub, Nat.reduceBEq, reduceCtorEq, *]) <;> (first | done | (simp only [Option.some.injEq, D.int.injEq, true_and]; first | rw [if_pos (by unfold mOK; omega)] | rw [if_neg (by unfold mOK; omega)]))))
set_option maxRecDepth 20000 in
theorem kcmCheckR {k b g : Int} {H : Heap} {slot : Nat} {K : D → List (Nat × Blk) → List (Nat × Blk) → Prop} (hK : K (.int .i64 (if mOK k b g then 0 else 9)) [] []) : @callB ⟨callX Tryz.prog⟩ 77 [.agg [.int .i64 k, .int .i64 b, .int .i64 g]] H slot ⟨K⟩ := by
  have he0 : rdOf H (D.idsL [.agg [.int .i64 k, .int .i64 b, .int .i64 g]]) = [] := by simp (maxSteps := 1000000) only [go_sem, Int.reduceLT, Int.reduceLE, Int.reduceToNat, Int.reduceEq, Nat.reduceMul, ↓reduceIte, Nat.reduceLT, Nat.reduceLeDiff, Nat.reduceEqDiff, Nat.reduceAdd, Nat.reduceSub, Nat.reduceBEq, reduceCtorEq]
  refine call0 false (cmCheckR k b g ) ?_ ?_ (fun h => nomatch h) (by rw [he0]; exact hK)
  iterate 2 (· simp (maxSteps := 1000000) only [go_sem, Int.reduceLT, Int.reduceLE, Int.reduceToNat, Int.reduceEq, Nat.reduceMul, ↓reduceIte, Nat.reduceLT, Nat.reduceLeDiff, Nat.reduceEqDiff, Nat.reduceAdd, Nat.reduceSub, Nat.reduceBEq, reduceCtorEq])
end TR

/- Schemes. -/
open Go Go.Proofs Go.AH
set_option linter.unusedSimpArgs false
set_option linter.unusedVariables false
namespace TR
theorem wrapm1 {i : Nat} (h : 0 < i) (h2 : i < 4611686018427387904) : IntKind.i64.wrap ((i : Int) - 1) = ((i - 1 : Nat) : Int) := by rw [wrapS] <;> omega
theorem upto {i : Nat} {P : Nat → Prop} (hq : ∀ q, q < i → P q) (h : P i) : ∀ q, q < i + 1 → P q := fun q hh => by
  rcases Nat.lt_succ_iff_lt_or_eq.1 hh with hh | rfl
  · exact hq q hh
  · exact h
set_option maxHeartbeats 2000000 in
set_option maxRecDepth 20000 in
theorem cwCheck (s : Sc)  : FC Tryz.prog 62 [.agg s.row] [] (.int .i64 (if s.ok then 0 else 10)) [] := by
  refine FC.of_run mix Tryz.func62 rfl rfl (by simp [Tryz.ntmps62]) ?_
  repeat' first
    | simp (maxSteps := 1000000) only [go_sem, Int.reduceLT, Int.reduceLE, Int.reduceToNat, Int.reduceEq, Nat.reduceMul, ↓reduceIte, Nat.reduceLT, Nat.reduceLeDiff, Nat.reduceEqDiff, Nat.reduceAdd, Nat.reduceSub, Nat.reduceBEq, reduceCtorEq, *]
    | contradiction
    | refine wT ?_ ?_ <;> intro _
    | refine wF ?_ ?_ <;> intro _
    | refine cD ?_ ?_ <;> intro _
    | refine dO (by kernel_rfl) ?_
    | refine kcmCheck ?_
    | ((first | refine Fin.q ?_ ?_ | refine Fin.qn ?_ ?_) <;> ((try simp (maxSteps := 1000000) only [go_sem, Int.reduceLT, Int.reduceLE, Int.reduceToNat, Int.reduceEq, Nat.reduceMul, ↓reduceIte, Nat.reduceLT, Nat.reduceLeDiff, Nat.reduceEqDiff, Nat.reduceAdd, Nat.reduceSub, Nat.reduceBEq, reduceCtorEq, *]) <;> (first | done | rw [if_neg (by rintro ⟨⟨_, _, _, _, _, _, _⟩, _⟩; first | omega | contradiction)])))
  have hpre : s.pre := ⟨Classical.not_not.1 ‹_›, by omega, by omega, by omega, by omega, by omega, by omega⟩
  refine AW.loopx (σ := Nat) mix (fun i => ⟨71, [(45, .int .i64 i), (44, .int .i64 s.cuts.length), (43, V s.cuts), (1, .ptr 0 1 0 0)], [some [s.row]]⟩) (fun i => i ≤ s.cuts.length ∧ ∀ q, q < i → cutOK s.cuts q) (fun i => s.cuts.length - i) 0 ⟨by omega, fun q h => by omega⟩ (Conv.mk ?_ ?_ ?_ ?_ ?_) ?_
  iterate 5 (· (simp (maxSteps := 1000000) only [go_sem, Int.reduceLT, Int.reduceLE, Int.reduceToNat, Int.reduceEq, Nat.reduceMul, ↓reduceIte, Nat.reduceLT, Nat.reduceLeDiff, Nat.reduceEqDiff, Nat.reduceAdd, Nat.reduceSub, Nat.reduceBEq, reduceCtorEq]) <;> (first | rfl | (simp [ints]; done) | (simp [*]; done) | ((repeat' (first | rfl | apply And.intro)); done)))
  intro i ⟨hi, hq⟩
  have hw := wrap1 (i := i) (by omega)
  have hw2 : 0 < i → IntKind.i64.wrap ((i : Int) - 1) = ((i - 1 : Nat) : Int) := fun h => wrapm1 h (by omega)
  repeat' first
    | simp (maxSteps := 1000000) only [go_sem, Int.reduceLT, Int.reduceLE, Int.reduceToNat, Int.reduceEq, Nat.reduceMul, ↓reduceIte, Nat.reduceLT, Nat.reduceLeDiff, Nat.reduceEqDiff, Nat.reduceAdd, Nat.reduceSub, Nat.reduceBEq, reduceCtorEq, *, hw, hw2, ints_get, ints_get1]
    | contradiction
    | refine wT ?_ ?_ <;> intro _
    | refine wF ?_ ?_ <;> intro _
    | refine cD ?_ ?_ <;> intro _
    | refine dO (by kernel_rfl) ?_
    | (refine ⟨i + 1, ?_, ?_, Conv.mk ?_ ?_ ?_ ?_ ?_⟩; (· (first | omega | (simp only; omega) | (simp only [List.length_nil, List.length_cons]; omega))); (· (exact ⟨by omega, upto hq (by unfold cutOK; omega)⟩)))
    | ((first | refine Fin.q ?_ ?_ | refine Fin.qn ?_ ?_) <;> ((try simp (maxSteps := 1000000) only [go_sem, Int.reduceLT, Int.reduceLE, Int.reduceToNat, Int.reduceEq, Nat.reduceMul, ↓reduceIte, Nat.reduceLT, Nat.reduceLeDiff, Nat.reduceEqDiff, Nat.reduceAdd, Nat.reduceSub, Nat.reduceBEq, reduceCtorEq, *, hw, hw2, ints_get, ints_get1]) <;> (first | done | rw [if_neg (by rintro ⟨_, hc⟩; have := hc i (by omega); unfold cutOK at this; omega)] | rw [if_pos ⟨hpre, fun q h => hq q (by omega)⟩])))
set_option maxRecDepth 20000 in
theorem kcwCheck {s : Sc} {H : Heap} {slot : Nat} {K : D → List (Nat × Blk) → List (Nat × Blk) → Prop} (hK : K (.int .i64 (if s.ok then 0 else 10)) [] []) : @callB ⟨callX Tryz.prog⟩ 62 [.agg s.row] H slot ⟨K⟩ := by
  have he0 : rdOf H (D.idsL [.agg s.row]) = [] := by simp (maxSteps := 1000000) only [go_sem, Int.reduceLT, Int.reduceLE, Int.reduceToNat, Int.reduceEq, Nat.reduceMul, ↓reduceIte, Nat.reduceLT, Nat.reduceLeDiff, Nat.reduceEqDiff, Nat.reduceAdd, Nat.reduceSub, Nat.reduceBEq, reduceCtorEq]
  refine call0 false (cwCheck s ) ?_ ?_ (fun h => nomatch h) (by rw [he0]; exact hK)
  iterate 2 (· simp (maxSteps := 1000000) only [go_sem, Int.reduceLT, Int.reduceLE, Int.reduceToNat, Int.reduceEq, Nat.reduceMul, ↓reduceIte, Nat.reduceLT, Nat.reduceLeDiff, Nat.reduceEqDiff, Nat.reduceAdd, Nat.reduceSub, Nat.reduceBEq, reduceCtorEq])
set_option maxHeartbeats 2000000 in
set_option maxRecDepth 20000 in
theorem cwCheckR (s : Sc)  : FC Tryz.prog 36 [.agg s.row] [] (.int .i64 (if s.ok then 0 else 10)) [] := by
  refine FC.of_run mix Tryz.func36 rfl rfl (by simp [Tryz.ntmps36]) ?_
  repeat' first
    | simp (maxSteps := 1000000) only [go_sem, Int.reduceLT, Int.reduceLE, Int.reduceToNat, Int.reduceEq, Nat.reduceMul, ↓reduceIte, Nat.reduceLT, Nat.reduceLeDiff, Nat.reduceEqDiff, Nat.reduceAdd, Nat.reduceSub, Nat.reduceBEq, reduceCtorEq, *]
    | contradiction
    | refine wT ?_ ?_ <;> intro _
    | refine wF ?_ ?_ <;> intro _
    | refine cD ?_ ?_ <;> intro _
    | refine dO (by kernel_rfl) ?_
    | refine kcmCheckR ?_
    | ((first | refine Fin.q ?_ ?_ | refine Fin.qn ?_ ?_) <;> ((try simp (maxSteps := 1000000) only [go_sem, Int.reduceLT, Int.reduceLE, Int.reduceToNat, Int.reduceEq, Nat.reduceMul, ↓reduceIte, Nat.reduceLT, Nat.reduceLeDiff, Nat.reduceEqDiff, Nat.reduceAdd, Nat.reduceSub, Nat.reduceBEq, reduceCtorEq, *]) <;> (first | done | rw [if_neg (by rintro ⟨⟨_, _, _, _, _, _, _⟩, _⟩; first | omega | contradiction)])))
  have hpre : s.pre := ⟨Classical.not_not.1 ‹_›, by omega, by omega, by omega, by omega, by omega, by omega⟩
  refine AW.loopx (σ := Nat) mix (fun i => ⟨80, [(44, .int .i64 i), (43, .int .i64 s.cuts.length), (1, .ptr 0 1 0 0)], [some [s.row]]⟩) (fun i => i ≤ s.cuts.length ∧ ∀ q, q < i → cutOK s.cuts q) (fun i => s.cuts.length - i) 0 ⟨by omega, fun q h => by omega⟩ (Conv.mk ?_ ?_ ?_ ?_ ?_) ?_
  iterate 5 (· (simp (maxSteps := 1000000) only [go_sem, Int.reduceLT, Int.reduceLE, Int.reduceToNat, Int.reduceEq, Nat.reduceMul, ↓reduceIte, Nat.reduceLT, Nat.reduceLeDiff, Nat.reduceEqDiff, Nat.reduceAdd, Nat.reduceSub, Nat.reduceBEq, reduceCtorEq]) <;> (first | rfl | (simp [ints]; done) | (simp [*]; done) | ((repeat' (first | rfl | apply And.intro)); done)))
  intro i ⟨hi, hq⟩
  have hw := wrap1 (i := i) (by omega)
  have hw2 : 0 < i → IntKind.i64.wrap ((i : Int) - 1) = ((i - 1 : Nat) : Int) := fun h => wrapm1 h (by omega)
  repeat' first
    | simp (maxSteps := 1000000) only [go_sem, Int.reduceLT, Int.reduceLE, Int.reduceToNat, Int.reduceEq, Nat.reduceMul, ↓reduceIte, Nat.reduceLT, Nat.reduceLeDiff, Nat.reduceEqDiff, Nat.reduceAdd, Nat.reduceSub, Nat.reduceBEq, reduceCtorEq, *, hw, hw2, ints_get, ints_get1]
    | contradiction
    | refine wT ?_ ?_ <;> intro _
    | refine wF ?_ ?_ <;> intro _
    | refine cD ?_ ?_ <;> intro _
    | refine dO (by kernel_rfl) ?_
    | (refine ⟨i + 1, ?_, ?_, Conv.mk ?_ ?_ ?_ ?_ ?_⟩; (· (first | omega | (simp only; omega) | (simp only [List.length_nil, List.length_cons]; omega))); (· (exact ⟨by omega, upto hq (by unfold cutOK; omega)⟩)))
    | ((first | refine Fin.q ?_ ?_ | refine Fin.qn ?_ ?_) <;> ((try simp (maxSteps := 1000000) only [go_sem, Int.reduceLT, Int.reduceLE, Int.reduceToNat, Int.reduceEq, Nat.reduceMul, ↓reduceIte, Nat.reduceLT, Nat.reduceLeDiff, Nat.reduceEqDiff, Nat.reduceAdd, Nat.reduceSub, Nat.reduceBEq, reduceCtorEq, *, hw, hw2, ints_get, ints_get1]) <;> (first | done | rw [if_neg (by rintro ⟨_, hc⟩; have := hc i (by omega); unfold cutOK at this; omega)] | rw [if_pos ⟨hpre, fun q h => hq q (by omega)⟩])))
set_option maxRecDepth 20000 in
theorem kcwCheckR {s : Sc} {H : Heap} {slot : Nat} {K : D → List (Nat × Blk) → List (Nat × Blk) → Prop} (hK : K (.int .i64 (if s.ok then 0 else 10)) [] []) : @callB ⟨callX Tryz.prog⟩ 36 [.agg s.row] H slot ⟨K⟩ := by
  have he0 : rdOf H (D.idsL [.agg s.row]) = [] := by simp (maxSteps := 1000000) only [go_sem, Int.reduceLT, Int.reduceLE, Int.reduceToNat, Int.reduceEq, Nat.reduceMul, ↓reduceIte, Nat.reduceLT, Nat.reduceLeDiff, Nat.reduceEqDiff, Nat.reduceAdd, Nat.reduceSub, Nat.reduceBEq, reduceCtorEq]
  refine call0 false (cwCheckR s ) ?_ ?_ (fun h => nomatch h) (by rw [he0]; exact hK)
  iterate 2 (· simp (maxSteps := 1000000) only [go_sem, Int.reduceLT, Int.reduceLE, Int.reduceToNat, Int.reduceEq, Nat.reduceMul, ↓reduceIte, Nat.reduceLT, Nat.reduceLeDiff, Nat.reduceEqDiff, Nat.reduceAdd, Nat.reduceSub, Nat.reduceBEq, reduceCtorEq])
end TR

/- Words. -/
open Go Go.Proofs Go.AH
set_option linter.unusedSimpArgs false
set_option linter.unusedVariables false
namespace TR
theorem shl1 {b : Int} (h0 : 0 ≤ b) (h1 : b ≤ 4) : IntKind.i64.wrap (1 * 2 ^ (min b.toNat 64)) = 2 ^ b.toNat := by
  rcases (by omega : b = 0 ∨ b = 1 ∨ b = 2 ∨ b = 3 ∨ b = 4) with rfl | rfl | rfl | rfl | rfl <;> decide
theorem shr4 {x b : Int} (h0 : 0 ≤ b) (h1 : b ≤ 4) : x.fdiv (2 ^ (min (4 - b).toNat 64)) = x / 2 ^ (4 - b).toNat := by
  rw [Int.fdiv_eq_ediv_of_nonneg _ (Int.le_of_lt (Int.pow_pos (by decide)))]
  rcases (by omega : b = 0 ∨ b = 1 ∨ b = 2 ∨ b = 3 ∨ b = 4) with rfl | rfl | rfl | rfl | rfl <;> rfl
theorem bool_congr {p q : Prop} [Decidable p] [Decidable q] (h : p ↔ q) : decide p = decide q := by simp [h]
set_option maxHeartbeats 2000000 in
set_option maxRecDepth 20000 in
theorem cwValid (s : Sc) (w : Wd)  : FC Tryz.prog 141 [.agg s.row, .agg w.row] [] (.bool (decide (w.ok s))) [] := by
  refine FC.of_run mix Tryz.func141 rfl rfl (by simp [Tryz.ntmps141]) ?_
  repeat' first
    | simp (maxSteps := 1000000) only [go_sem, Int.reduceLT, Int.reduceLE, Int.reduceToNat, Int.reduceEq, Nat.reduceMul, ↓reduceIte, Nat.reduceLT, Nat.reduceLeDiff, Nat.reduceEqDiff, Nat.reduceAdd, Nat.reduceSub, Nat.reduceBEq, reduceCtorEq, *]
    | contradiction
    | refine wT ?_ ?_ <;> intro _
    | refine wF ?_ ?_ <;> intro _
    | refine cD ?_ ?_ <;> intro _
    | refine dO (by kernel_rfl) ?_
    | refine kcwCheck ?_
    | ((first | refine Fin.q ?_ ?_ | refine Fin.qn ?_ ?_) <;> ((try simp (maxSteps := 1000000) only [go_sem, Int.reduceLT, Int.reduceLE, Int.reduceToNat, Int.reduceEq, Nat.reduceMul, ↓reduceIte, Nat.reduceLT, Nat.reduceLeDiff, Nat.reduceEqDiff, Nat.reduceAdd, Nat.reduceSub, Nat.reduceBEq, reduceCtorEq, *]) <;> (first | done | rw [decide_eq_false (by rintro ⟨_, _, _, _⟩; first | contradiction | omega)])))
  have hs : s.ok := Classical.not_not.1 ‹_›
  have h5 : s.pcs ≤ 8 := hs.1.2.2.2.2.1
  have hlm : w.s.length = w.b.length := by omega
  have hm : s.pcs = (w.b.length : Int) := by omega
  rename_i g1 g2 g3
  clear g1 g2 g3
  refine AW.loopx (σ := Nat) mix (fun i => ⟨59, [(29, .int .i64 i), (28, .int .i64 w.b.length), (27, V w.b), (3, .ptr 1 1 0 0), (2, .ptr 0 1 0 0)], [some [s.row], some [w.row]]⟩) (fun i => i ≤ w.b.length ∧ ∀ q, q < i → bitOK w q) (fun i => w.b.length - i) 0 ⟨by omega, fun q h => by omega⟩ (Conv.mk ?_ ?_ ?_ ?_ ?_) ?_
  iterate 5 (· (simp (maxSteps := 1000000) only [go_sem, Int.reduceLT, Int.reduceLE, Int.reduceToNat, Int.reduceEq, Nat.reduceMul, ↓reduceIte, Nat.reduceLT, Nat.reduceLeDiff, Nat.reduceEqDiff, Nat.reduceAdd, Nat.reduceSub, Nat.reduceBEq, reduceCtorEq]) <;> (first | rfl | (simp [ints]; done) | (simp [*]; done) | ((repeat' (first | rfl | apply And.intro)); done)))
  intro i ⟨hi, hq⟩
  have hw := wrap1 (i := i) (by omega)
  by_cases h : i < w.b.length
  · have hx := ints_get h
    have hy := ints_get (l := w.s) (i := i) (by omega)
    have hsh : ¬ w.b.getD i 0 < 0 → ¬ 4 < w.b.getD i 0 → IntKind.i64.wrap (1 * 2 ^ (min (w.b.getD i 0).toNat 64)) = 2 ^ (w.b.getD i 0).toNat := fun h1 h2 => shl1 (by omega) (by omega)
    repeat' first
      | simp (maxSteps := 1000000) only [go_sem, Int.reduceLT, Int.reduceLE, Int.reduceToNat, Int.reduceEq, Nat.reduceMul, ↓reduceIte, Nat.reduceLT, Nat.reduceLeDiff, Nat.reduceEqDiff, Nat.reduceAdd, Nat.reduceSub, Nat.reduceBEq, reduceCtorEq, *]
      | contradiction
      | refine wT ?_ ?_ <;> intro _
      | refine wF ?_ ?_ <;> intro _
      | refine cD ?_ ?_ <;> intro _
      | refine dO (by kernel_rfl) ?_
      | (refine ⟨i + 1, ?_, ?_, Conv.mk ?_ ?_ ?_ ?_ ?_⟩; (· (first | omega | (simp only; omega) | (simp only [List.length_nil, List.length_cons]; omega))); (· (exact ⟨by omega, upto hq (by unfold bitOK; omega)⟩)))
      | ((first | refine Fin.q ?_ ?_ | refine Fin.qn ?_ ?_) <;> ((try simp (maxSteps := 1000000) only [go_sem, Int.reduceLT, Int.reduceLE, Int.reduceToNat, Int.reduceEq, Nat.reduceMul, ↓reduceIte, Nat.reduceLT, Nat.reduceLeDiff, Nat.reduceEqDiff, Nat.reduceAdd, Nat.reduceSub, Nat.reduceBEq, reduceCtorEq, *]) <;> (first | done | rw [decide_eq_false (by rintro ⟨_, _, _, hc⟩; have := hc i h; unfold bitOK at this; omega)])))
  · repeat' first
      | simp (maxSteps := 1000000) only [go_sem, Int.reduceLT, Int.reduceLE, Int.reduceToNat, Int.reduceEq, Nat.reduceMul, ↓reduceIte, Nat.reduceLT, Nat.reduceLeDiff, Nat.reduceEqDiff, Nat.reduceAdd, Nat.reduceSub, Nat.reduceBEq, reduceCtorEq, *]
      | contradiction
      | refine wT ?_ ?_ <;> intro _
      | refine wF ?_ ?_ <;> intro _
      | refine cD ?_ ?_ <;> intro _
      | refine dO (by kernel_rfl) ?_
      | ((first | refine Fin.q ?_ ?_ | refine Fin.qn ?_ ?_) <;> ((try simp (maxSteps := 1000000) only [go_sem, Int.reduceLT, Int.reduceLE, Int.reduceToNat, Int.reduceEq, Nat.reduceMul, ↓reduceIte, Nat.reduceLT, Nat.reduceLeDiff, Nat.reduceEqDiff, Nat.reduceAdd, Nat.reduceSub, Nat.reduceBEq, reduceCtorEq, *]) <;> (first | done | rw [decide_eq_true ⟨hs, by omega, by omega, fun q h => hq q (by omega)⟩])))
set_option maxRecDepth 20000 in
theorem kcwValid {s : Sc} {w : Wd} {H : Heap} {slot : Nat} {K : D → List (Nat × Blk) → List (Nat × Blk) → Prop} (hK : K (.bool (decide (w.ok s))) [] []) : @callB ⟨callX Tryz.prog⟩ 141 [.agg s.row, .agg w.row] H slot ⟨K⟩ := by
  have he0 : rdOf H (D.idsL [.agg s.row, .agg w.row]) = [] := by simp (maxSteps := 1000000) only [go_sem, Int.reduceLT, Int.reduceLE, Int.reduceToNat, Int.reduceEq, Nat.reduceMul, ↓reduceIte, Nat.reduceLT, Nat.reduceLeDiff, Nat.reduceEqDiff, Nat.reduceAdd, Nat.reduceSub, Nat.reduceBEq, reduceCtorEq]
  refine call0 false (cwValid s w ) ?_ ?_ (fun h => nomatch h) (by rw [he0]; exact hK)
  iterate 2 (· simp (maxSteps := 1000000) only [go_sem, Int.reduceLT, Int.reduceLE, Int.reduceToNat, Int.reduceEq, Nat.reduceMul, ↓reduceIte, Nat.reduceLT, Nat.reduceLeDiff, Nat.reduceEqDiff, Nat.reduceAdd, Nat.reduceSub, Nat.reduceBEq, reduceCtorEq])
set_option maxHeartbeats 2000000 in
set_option maxRecDepth 20000 in
theorem cwValidR (s : Sc) (w : Wd)  : FC Tryz.prog 132 [.agg s.row, .agg w.row] [] (.bool (decide (w.ok s))) [] := by
  refine FC.of_run mix Tryz.func132 rfl rfl (by simp [Tryz.ntmps132]) ?_
  repeat' first
    | simp (maxSteps := 1000000) only [go_sem, Int.reduceLT, Int.reduceLE, Int.reduceToNat, Int.reduceEq, Nat.reduceMul, ↓reduceIte, Nat.reduceLT, Nat.reduceLeDiff, Nat.reduceEqDiff, Nat.reduceAdd, Nat.reduceSub, Nat.reduceBEq, reduceCtorEq, *]
    | contradiction
    | refine wT ?_ ?_ <;> intro _
    | refine wF ?_ ?_ <;> intro _
    | refine cD ?_ ?_ <;> intro _
    | refine dO (by kernel_rfl) ?_
    | refine kcwCheckR ?_
    | ((first | refine Fin.q ?_ ?_ | refine Fin.qn ?_ ?_) <;> ((try simp (maxSteps := 1000000) only [go_sem, Int.reduceLT, Int.reduceLE, Int.reduceToNat, Int.reduceEq, Nat.reduceMul, ↓reduceIte, Nat.reduceLT, Nat.reduceLeDiff, Nat.reduceEqDiff, Nat.reduceAdd, Nat.reduceSub, Nat.reduceBEq, reduceCtorEq, *]) <;> (first | done | rw [decide_eq_false (by rintro ⟨_, _, _, _⟩; first | contradiction | omega)])))
  have hs : s.ok := Classical.not_not.1 ‹_›
  have h5 : s.pcs ≤ 8 := hs.1.2.2.2.2.1
  have hlm : w.s.length = w.b.length := by omega
  have hm : s.pcs = (w.b.length : Int) := by omega
  rename_i g1 g2 g3
  clear g1 g2 g3
  refine AW.loopx (σ := Nat) mix (fun i => ⟨68, [(28, .int .i64 i), (27, .int .i64 w.b.length), (3, .ptr 1 1 0 0), (2, .ptr 0 1 0 0)], [some [s.row], some [w.row]]⟩) (fun i => i ≤ w.b.length ∧ ∀ q, q < i → bitOK w q) (fun i => w.b.length - i) 0 ⟨by omega, fun q h => by omega⟩ (Conv.mk ?_ ?_ ?_ ?_ ?_) ?_
  iterate 5 (· (simp (maxSteps := 1000000) only [go_sem, Int.reduceLT, Int.reduceLE, Int.reduceToNat, Int.reduceEq, Nat.reduceMul, ↓reduceIte, Nat.reduceLT, Nat.reduceLeDiff, Nat.reduceEqDiff, Nat.reduceAdd, Nat.reduceSub, Nat.reduceBEq, reduceCtorEq]) <;> (first | rfl | (simp [ints]; done) | (simp [*]; done) | ((repeat' (first | rfl | apply And.intro)); done)))
  intro i ⟨hi, hq⟩
  have hw := wrap1 (i := i) (by omega)
  by_cases h : i < w.b.length
  · have hx := ints_get h
    have hy := ints_get (l := w.s) (i := i) (by omega)
    have hsh : ¬ w.b.getD i 0 < 0 → ¬ 4 < w.b.getD i 0 → IntKind.i64.wrap (1 * 2 ^ (min (w.b.getD i 0).toNat 64)) = 2 ^ (w.b.getD i 0).toNat := fun h1 h2 => shl1 (by omega) (by omega)
    repeat' first
      | simp (maxSteps := 1000000) only [go_sem, Int.reduceLT, Int.reduceLE, Int.reduceToNat, Int.reduceEq, Nat.reduceMul, ↓reduceIte, Nat.reduceLT, Nat.reduceLeDiff, Nat.reduceEqDiff, Nat.reduceAdd, Nat.reduceSub, Nat.reduceBEq, reduceCtorEq, *]
      | contradiction
      | refine wT ?_ ?_ <;> intro _
      | refine wF ?_ ?_ <;> intro _
      | refine cD ?_ ?_ <;> intro _
      | refine dO (by kernel_rfl) ?_
      | (refine ⟨i + 1, ?_, ?_, Conv.mk ?_ ?_ ?_ ?_ ?_⟩; (· (first | omega | (simp only; omega) | (simp only [List.length_nil, List.length_cons]; omega))); (· (exact ⟨by omega, upto hq (by unfold bitOK; omega)⟩)))
      | ((first | refine Fin.q ?_ ?_ | refine Fin.qn ?_ ?_) <;> ((try simp (maxSteps := 1000000) only [go_sem, Int.reduceLT, Int.reduceLE, Int.reduceToNat, Int.reduceEq, Nat.reduceMul, ↓reduceIte, Nat.reduceLT, Nat.reduceLeDiff, Nat.reduceEqDiff, Nat.reduceAdd, Nat.reduceSub, Nat.reduceBEq, reduceCtorEq, *]) <;> (first | done | rw [decide_eq_false (by rintro ⟨_, _, _, hc⟩; have := hc i h; unfold bitOK at this; omega)])))
  · repeat' first
      | simp (maxSteps := 1000000) only [go_sem, Int.reduceLT, Int.reduceLE, Int.reduceToNat, Int.reduceEq, Nat.reduceMul, ↓reduceIte, Nat.reduceLT, Nat.reduceLeDiff, Nat.reduceEqDiff, Nat.reduceAdd, Nat.reduceSub, Nat.reduceBEq, reduceCtorEq, *]
      | contradiction
      | refine wT ?_ ?_ <;> intro _
      | refine wF ?_ ?_ <;> intro _
      | refine cD ?_ ?_ <;> intro _
      | refine dO (by kernel_rfl) ?_
      | ((first | refine Fin.q ?_ ?_ | refine Fin.qn ?_ ?_) <;> ((try simp (maxSteps := 1000000) only [go_sem, Int.reduceLT, Int.reduceLE, Int.reduceToNat, Int.reduceEq, Nat.reduceMul, ↓reduceIte, Nat.reduceLT, Nat.reduceLeDiff, Nat.reduceEqDiff, Nat.reduceAdd, Nat.reduceSub, Nat.reduceBEq, reduceCtorEq, *]) <;> (first | done | rw [decide_eq_true ⟨hs, by omega, by omega, fun q h => hq q (by omega)⟩])))
set_option maxRecDepth 20000 in
theorem kcwValidR {s : Sc} {w : Wd} {H : Heap} {slot : Nat} {K : D → List (Nat × Blk) → List (Nat × Blk) → Prop} (hK : K (.bool (decide (w.ok s))) [] []) : @callB ⟨callX Tryz.prog⟩ 132 [.agg s.row, .agg w.row] H slot ⟨K⟩ := by
  have he0 : rdOf H (D.idsL [.agg s.row, .agg w.row]) = [] := by simp (maxSteps := 1000000) only [go_sem, Int.reduceLT, Int.reduceLE, Int.reduceToNat, Int.reduceEq, Nat.reduceMul, ↓reduceIte, Nat.reduceLT, Nat.reduceLeDiff, Nat.reduceEqDiff, Nat.reduceAdd, Nat.reduceSub, Nat.reduceBEq, reduceCtorEq]
  refine call0 false (cwValidR s w ) ?_ ?_ (fun h => nomatch h) (by rw [he0]; exact hK)
  iterate 2 (· simp (maxSteps := 1000000) only [go_sem, Int.reduceLT, Int.reduceLE, Int.reduceToNat, Int.reduceEq, Nat.reduceMul, ↓reduceIte, Nat.reduceLT, Nat.reduceLeDiff, Nat.reduceEqDiff, Nat.reduceAdd, Nat.reduceSub, Nat.reduceBEq, reduceCtorEq])
end TR

/- slices.IndexFunc and slices.ContainsFunc. -/
open Go Go.Proofs Go.AH
set_option linter.unusedSimpArgs false
set_option linter.unusedVariables false
namespace TR
/-- The first place of what obeys `p`, -1 if there is none. -/
def idxI {α : Type} (p : α → Prop) [DecidablePred p] (l : List α) : Int := if l.findIdx (fun x => decide (p x)) < l.length then (l.findIdx (fun x => decide (p x)) : Int) else -1
theorem idx_here {α : Type} [Inhabited α] {p : α → Prop} [DecidablePred p] {l : List α} {i : Nat} (h : i < l.length) (hp : p (l.getD i default)) (hq : ∀ q, q < i → ¬ p (l.getD q default)) : idxI p l = i := by
  have e : l.findIdx (fun x => decide (p x)) = i := by
    rw [List.findIdx_eq h]
    refine ⟨by simpa [List.getD, h] using hp, fun j hj => ?_⟩
    have := hq j hj
    simpa [List.getD, show j < l.length by omega] using this
  unfold idxI
  rw [e, if_pos h]
theorem idx_none {α : Type} [Inhabited α] {p : α → Prop} [DecidablePred p] {l : List α} (hq : ∀ q, q < l.length → ¬ p (l.getD q default)) : idxI p l = -1 := by
  unfold idxI
  rw [if_neg]
  intro h
  have := List.findIdx_getElem (w := h)
  have h2 := hq _ h
  simp [List.getD, h] at h2
  simp_all
theorem idx_nonneg {α : Type} {p : α → Prop} [DecidablePred p] {l : List α} : (0 ≤ idxI p l) = (∃ x, x ∈ l ∧ p x) := by
  unfold idxI
  apply propext
  split
  · rename_i h
    refine ⟨fun _ => ?_, fun _ => by omega⟩
    have := List.findIdx_getElem (w := h)
    exact ⟨_, List.getElem_mem h, by simpa using this⟩
  · rename_i h
    refine ⟨fun h => by omega, fun ⟨x, hx, hp⟩ => ?_⟩
    exact absurd (List.findIdx_lt_length_of_exists ⟨x, hx, by simpa using hp⟩) h
structure Caps (caps : List D) : Prop where
  tr : ∀ (ss : Bool) (get : Nat → Option Blk), trL (pos []) ss true true get caps = some caps
  ids : D.idsL caps = []
  refs : ∀ ok, D.refsL ok caps = true
theorem caps0 : Caps [] := ⟨fun _ _ => rfl, rfl, fun _ => rfl⟩
theorem caps1 (cells : List D) : Caps [.ip cells] := ⟨fun _ _ => rfl, rfl, fun _ => rfl⟩
theorem kg_int {g : Nat} {caps : List D} {p : Int → Prop} [DecidablePred p] (hc : Caps caps) (hg : ∀ x, FC Tryz.prog g (.int .i64 x :: caps) [] (.bool (decide (p x))) []) (x : Int) {H : Heap} {slot : Nat} {K : D → List (Nat × Blk) → List (Nat × Blk) → Prop} (hK : K (.bool (decide (p x))) [] []) : @callB ⟨callX Tryz.prog⟩ g (.int .i64 x :: caps) H slot ⟨K⟩ := by
  have e : D.idsL (.int .i64 x :: caps) = [] := by simp [D.idsL, D.ids, hc.ids, En.row]
  refine call0 true (hg x) ?_ rfl (fun _ => rfl) (by rw [e]; exact hK)
  simp [trL, tr, hc.tr, En.row]
set_option maxRecDepth 20000 in
theorem cIdx_int (l : List Int) (g : Nat) (caps : List D) (p : Int → Prop) [DecidablePred p] (hl : l.length < 1000000000000000) (hc : Caps caps) (hg : ∀ x, FC Tryz.prog g (.int .i64 x :: caps) [] (.bool (decide (p x))) []) : FC Tryz.prog 195 [.vs (ints l), .fn g caps] [] (.int .i64 (idxI p l)) [] := by
  refine FC.of_run mix Tryz.func195 rfl rfl (by simp [Tryz.ntmps195]) ?_
  repeat' first
    | simp (maxSteps := 1000000) only [go_sem, Int.reduceLT, Int.reduceLE, Int.reduceToNat, Int.reduceEq, Nat.reduceMul, ↓reduceIte, Nat.reduceLT, Nat.reduceLeDiff, Nat.reduceEqDiff, Nat.reduceAdd, Nat.reduceSub, Nat.reduceBEq, reduceCtorEq, *]
    | contradiction
    | refine wT ?_ ?_ <;> intro _
    | refine wF ?_ ?_ <;> intro _
    | refine cD ?_ ?_ <;> intro _
    | refine dO (by kernel_rfl) ?_
    | refine Fin.q ?_ ?_
    | refine Fin.qn ?_ ?_
  refine AW.loopx (σ := Nat) mix (fun i => ⟨19, [(8, .int .i64 i), (7, .int .i64 l.length), (1, .fn g caps), (0, .vs (ints l))], []⟩) (fun i => i ≤ l.length ∧ ∀ q, q < i → ¬ p (l.getD q 0)) (fun i => l.length - i) 0 ⟨by omega, fun q h => by omega⟩ (Conv.mk ?_ ?_ ?_ ?_ ?_) ?_
  iterate 5 (· (simp (maxSteps := 1000000) only [go_sem, Int.reduceLT, Int.reduceLE, Int.reduceToNat, Int.reduceEq, Nat.reduceMul, ↓reduceIte, Nat.reduceLT, Nat.reduceLeDiff, Nat.reduceEqDiff, Nat.reduceAdd, Nat.reduceSub, Nat.reduceBEq, reduceCtorEq, hc.refs]) <;> (first | rfl | (simp [ints]; done) | (simp [*]; done) | ((repeat' (first | rfl | apply And.intro)); done)))
  intro i ⟨hi, hq⟩
  have hw := wrap1 (i := i) (by omega)
  by_cases h : i < l.length
  · have hx := ints_get h
    repeat' first
      | simp (maxSteps := 1000000) only [go_sem, Int.reduceLT, Int.reduceLE, Int.reduceToNat, Int.reduceEq, Nat.reduceMul, ↓reduceIte, Nat.reduceLT, Nat.reduceLeDiff, Nat.reduceEqDiff, Nat.reduceAdd, Nat.reduceSub, Nat.reduceBEq, reduceCtorEq, *, hc.refs]
      | contradiction
      | refine wT ?_ ?_ <;> intro _
      | refine wF ?_ ?_ <;> intro _
      | refine cD ?_ ?_ <;> intro _
      | refine dO (by kernel_rfl) ?_
      | refine (kg_int hc hg _) ?_
      | (refine ⟨i + 1, ?_, ?_, Conv.mk ?_ ?_ ?_ ?_ ?_⟩; (· (first | omega | (simp only; omega) | (simp only [List.length_nil, List.length_cons]; omega))); (· (exact ⟨by omega, upto hq ‹_›⟩)))
      | ((first | refine Fin.q ?_ ?_ | refine Fin.qn ?_ ?_) <;> ((try simp (maxSteps := 1000000) only [go_sem, Int.reduceLT, Int.reduceLE, Int.reduceToNat, Int.reduceEq, Nat.reduceMul, ↓reduceIte, Nat.reduceLT, Nat.reduceLeDiff, Nat.reduceEqDiff, Nat.reduceAdd, Nat.reduceSub, Nat.reduceBEq, reduceCtorEq, *, hc.refs]) <;> (first | done | rw [idx_here h ‹_› hq])))
  · repeat' first
      | simp (maxSteps := 1000000) only [go_sem, Int.reduceLT, Int.reduceLE, Int.reduceToNat, Int.reduceEq, Nat.reduceMul, ↓reduceIte, Nat.reduceLT, Nat.reduceLeDiff, Nat.reduceEqDiff, Nat.reduceAdd, Nat.reduceSub, Nat.reduceBEq, reduceCtorEq, *]
      | contradiction
      | refine wT ?_ ?_ <;> intro _
      | refine wF ?_ ?_ <;> intro _
      | refine cD ?_ ?_ <;> intro _
      | refine dO (by kernel_rfl) ?_
      | ((first | refine Fin.q ?_ ?_ | refine Fin.qn ?_ ?_) <;> ((try simp (maxSteps := 1000000) only [go_sem, Int.reduceLT, Int.reduceLE, Int.reduceToNat, Int.reduceEq, Nat.reduceMul, ↓reduceIte, Nat.reduceLT, Nat.reduceLeDiff, Nat.reduceEqDiff, Nat.reduceAdd, Nat.reduceSub, Nat.reduceBEq, reduceCtorEq, *]) <;> (first | done | rw [idx_none (fun q h => hq q (by omega))])))
set_option maxRecDepth 20000 in
theorem cCont_int (l : List Int) (g : Nat) (caps : List D) (p : Int → Prop) [DecidablePred p] (hl : l.length < 1000000000000000) (hc : Caps caps) (hg : ∀ x, FC Tryz.prog g (.int .i64 x :: caps) [] (.bool (decide (p x))) []) : FC Tryz.prog 167 [.vs (ints l), .fn g caps] [] (.bool (decide (∃ x, x ∈ l ∧ p x))) [] := by
  have k : ∀ {H : Heap} {slot : Nat} {K : D → List (Nat × Blk) → List (Nat × Blk) → Prop} (hK : K (.int .i64 (idxI p l)) [] []), @callB ⟨callX Tryz.prog⟩ 195 [.vs (ints l), .fn g caps] H slot ⟨K⟩ := by
    intro H slot K hK
    have e : D.idsL [.vs (ints l), .fn g caps] = [] := by simp [D.idsL, D.ids, hc.ids]
    refine call0 true (cIdx_int l g caps p hl hc hg) ?_ rfl (fun _ => rfl) (by rw [e]; exact hK)
    simp [trL, tr, hc.tr]
  refine FC.of_run mix Tryz.func167 rfl rfl (by simp [Tryz.ntmps167]) ?_
  repeat' first
    | simp (maxSteps := 1000000) only [go_sem, Int.reduceLT, Int.reduceLE, Int.reduceToNat, Int.reduceEq, Nat.reduceMul, ↓reduceIte, Nat.reduceLT, Nat.reduceLeDiff, Nat.reduceEqDiff, Nat.reduceAdd, Nat.reduceSub, Nat.reduceBEq, reduceCtorEq, *, idx_nonneg]
    | contradiction
    | refine wT ?_ ?_ <;> intro _
    | refine wF ?_ ?_ <;> intro _
    | refine cD ?_ ?_ <;> intro _
    | refine dO (by kernel_rfl) ?_
    | refine k ?_
    | refine Fin.q ?_ ?_
    | refine Fin.qn ?_ ?_
theorem kg_en {g : Nat} {caps : List D} {p : En → Prop} [DecidablePred p] (hc : Caps caps) (hg : ∀ x, FC Tryz.prog g (.agg x.row :: caps) [] (.bool (decide (p x))) []) (x : En) {H : Heap} {slot : Nat} {K : D → List (Nat × Blk) → List (Nat × Blk) → Prop} (hK : K (.bool (decide (p x))) [] []) : @callB ⟨callX Tryz.prog⟩ g (.agg x.row :: caps) H slot ⟨K⟩ := by
  have e : D.idsL (.agg x.row :: caps) = [] := by simp [D.idsL, D.ids, hc.ids, En.row]
  refine call0 true (hg x) ?_ rfl (fun _ => rfl) (by rw [e]; exact hK)
  simp [trL, tr, hc.tr, En.row]
set_option maxRecDepth 20000 in
theorem cIdx_en (l : List En) (g : Nat) (caps : List D) (p : En → Prop) [DecidablePred p] (hl : l.length < 1000000000000000) (hc : Caps caps) (hg : ∀ x, FC Tryz.prog g (.agg x.row :: caps) [] (.bool (decide (p x))) []) : FC Tryz.prog 111 [.vs (ents l), .fn g caps] [] (.int .i64 (idxI p l)) [] := by
  refine FC.of_run mix Tryz.func111 rfl rfl (by simp [Tryz.ntmps111]) ?_
  repeat' first
    | simp (maxSteps := 1000000) only [go_sem, Int.reduceLT, Int.reduceLE, Int.reduceToNat, Int.reduceEq, Nat.reduceMul, ↓reduceIte, Nat.reduceLT, Nat.reduceLeDiff, Nat.reduceEqDiff, Nat.reduceAdd, Nat.reduceSub, Nat.reduceBEq, reduceCtorEq, *]
    | contradiction
    | refine wT ?_ ?_ <;> intro _
    | refine wF ?_ ?_ <;> intro _
    | refine cD ?_ ?_ <;> intro _
    | refine dO (by kernel_rfl) ?_
    | refine Fin.q ?_ ?_
    | refine Fin.qn ?_ ?_
  refine AW.loopx (σ := Nat) mix (fun i => ⟨19, [(8, .int .i64 i), (7, .int .i64 l.length), (1, .fn g caps), (0, .vs (ents l))], []⟩) (fun i => i ≤ l.length ∧ ∀ q, q < i → ¬ p (l.getD q default)) (fun i => l.length - i) 0 ⟨by omega, fun q h => by omega⟩ (Conv.mk ?_ ?_ ?_ ?_ ?_) ?_
  iterate 5 (· (simp (maxSteps := 1000000) only [go_sem, Int.reduceLT, Int.reduceLE, Int.reduceToNat, Int.reduceEq, Nat.reduceMul, ↓reduceIte, Nat.reduceLT, Nat.reduceLeDiff, Nat.reduceEqDiff, Nat.reduceAdd, Nat.reduceSub, Nat.reduceBEq, reduceCtorEq, hc.refs]) <;> (first | rfl | (simp [ints]; done) | (simp [*]; done) | ((repeat' (first | rfl | apply And.intro)); done)))
  intro i ⟨hi, hq⟩
  have hw := wrap1 (i := i) (by omega)
  by_cases h : i < l.length
  · have hx := ents_get h
    repeat' first
      | simp (maxSteps := 1000000) only [go_sem, Int.reduceLT, Int.reduceLE, Int.reduceToNat, Int.reduceEq, Nat.reduceMul, ↓reduceIte, Nat.reduceLT, Nat.reduceLeDiff, Nat.reduceEqDiff, Nat.reduceAdd, Nat.reduceSub, Nat.reduceBEq, reduceCtorEq, *, hc.refs, En.row]
      | contradiction
      | refine wT ?_ ?_ <;> intro _
      | refine wF ?_ ?_ <;> intro _
      | refine cD ?_ ?_ <;> intro _
      | refine dO (by kernel_rfl) ?_
      | refine (kg_en hc hg _) ?_
      | (refine ⟨i + 1, ?_, ?_, Conv.mk ?_ ?_ ?_ ?_ ?_⟩; (· (first | omega | (simp only; omega) | (simp only [List.length_nil, List.length_cons]; omega))); (· (exact ⟨by omega, upto hq ‹_›⟩)))
      | ((first | refine Fin.q ?_ ?_ | refine Fin.qn ?_ ?_) <;> ((try simp (maxSteps := 1000000) only [go_sem, Int.reduceLT, Int.reduceLE, Int.reduceToNat, Int.reduceEq, Nat.reduceMul, ↓reduceIte, Nat.reduceLT, Nat.reduceLeDiff, Nat.reduceEqDiff, Nat.reduceAdd, Nat.reduceSub, Nat.reduceBEq, reduceCtorEq, *, hc.refs, En.row]) <;> (first | done | rw [idx_here h ‹_› hq])))
  · repeat' first
      | simp (maxSteps := 1000000) only [go_sem, Int.reduceLT, Int.reduceLE, Int.reduceToNat, Int.reduceEq, Nat.reduceMul, ↓reduceIte, Nat.reduceLT, Nat.reduceLeDiff, Nat.reduceEqDiff, Nat.reduceAdd, Nat.reduceSub, Nat.reduceBEq, reduceCtorEq, *]
      | contradiction
      | refine wT ?_ ?_ <;> intro _
      | refine wF ?_ ?_ <;> intro _
      | refine cD ?_ ?_ <;> intro _
      | refine dO (by kernel_rfl) ?_
      | ((first | refine Fin.q ?_ ?_ | refine Fin.qn ?_ ?_) <;> ((try simp (maxSteps := 1000000) only [go_sem, Int.reduceLT, Int.reduceLE, Int.reduceToNat, Int.reduceEq, Nat.reduceMul, ↓reduceIte, Nat.reduceLT, Nat.reduceLeDiff, Nat.reduceEqDiff, Nat.reduceAdd, Nat.reduceSub, Nat.reduceBEq, reduceCtorEq, *]) <;> (first | done | rw [idx_none (fun q h => hq q (by omega))])))
set_option maxRecDepth 20000 in
theorem cCont_en (l : List En) (g : Nat) (caps : List D) (p : En → Prop) [DecidablePred p] (hl : l.length < 1000000000000000) (hc : Caps caps) (hg : ∀ x, FC Tryz.prog g (.agg x.row :: caps) [] (.bool (decide (p x))) []) : FC Tryz.prog 65 [.vs (ents l), .fn g caps] [] (.bool (decide (∃ x, x ∈ l ∧ p x))) [] := by
  have k : ∀ {H : Heap} {slot : Nat} {K : D → List (Nat × Blk) → List (Nat × Blk) → Prop} (hK : K (.int .i64 (idxI p l)) [] []), @callB ⟨callX Tryz.prog⟩ 111 [.vs (ents l), .fn g caps] H slot ⟨K⟩ := by
    intro H slot K hK
    have e : D.idsL [.vs (ents l), .fn g caps] = [] := by simp [D.idsL, D.ids, hc.ids]
    refine call0 true (cIdx_en l g caps p hl hc hg) ?_ rfl (fun _ => rfl) (by rw [e]; exact hK)
    simp [trL, tr, hc.tr]
  refine FC.of_run mix Tryz.func65 rfl rfl (by simp [Tryz.ntmps65]) ?_
  repeat' first
    | simp (maxSteps := 1000000) only [go_sem, Int.reduceLT, Int.reduceLE, Int.reduceToNat, Int.reduceEq, Nat.reduceMul, ↓reduceIte, Nat.reduceLT, Nat.reduceLeDiff, Nat.reduceEqDiff, Nat.reduceAdd, Nat.reduceSub, Nat.reduceBEq, reduceCtorEq, *, idx_nonneg]
    | contradiction
    | refine wT ?_ ?_ <;> intro _
    | refine wF ?_ ?_ <;> intro _
    | refine cD ?_ ?_ <;> intro _
    | refine dO (by kernel_rfl) ?_
    | refine k ?_
    | refine Fin.q ?_ ?_
    | refine Fin.qn ?_ ?_
end TR

/- Full words, valid entries, words that belong to words. -/
open Go Go.Proofs Go.AH
set_option linter.unusedSimpArgs false
set_option linter.unusedVariables false
namespace TR
theorem full_iff (w : Wd) : (¬ ∃ x, x ∈ w.b ∧ ¬ x = 4) = w.full := by
  apply propext
  unfold Wd.full
  refine ⟨fun h p hp => ?_, fun h ⟨x, hx, hn⟩ => ?_⟩
  · exact Classical.byContradiction fun hn => h ⟨w.b.getD p 0, by simp [List.getD, hp], hn⟩
  · obtain ⟨i, hi⟩ := List.getElem?_of_mem hx
    have hlt : i < w.b.length := (List.getElem?_eq_some_iff.1 hi).1
    have := h i hlt
    simp [List.getD, hi] at this
    exact hn this
set_option maxHeartbeats 2000000 in
set_option maxRecDepth 20000 in
theorem cfull1 (x : Int)  : FC Tryz.prog 179 [.int .i64 x] [] (.bool (decide (¬ x = 4))) [] := by
  refine FC.of_run mix Tryz.func179 rfl rfl (by simp [Tryz.ntmps179]) ?_
  repeat' first
    | simp (maxSteps := 1000000) only [go_sem, Int.reduceLT, Int.reduceLE, Int.reduceToNat, Int.reduceEq, Nat.reduceMul, ↓reduceIte, Nat.reduceLT, Nat.reduceLeDiff, Nat.reduceEqDiff, Nat.reduceAdd, Nat.reduceSub, Nat.reduceBEq, reduceCtorEq, *]
    | contradiction
    | refine wT ?_ ?_ <;> intro _
    | refine wF ?_ ?_ <;> intro _
    | refine cD ?_ ?_ <;> intro _
    | refine dO (by kernel_rfl) ?_
    | refine Fin.q ?_ ?_
    | refine Fin.qn ?_ ?_
set_option maxHeartbeats 2000000 in
set_option maxRecDepth 20000 in
theorem cFull1 (x : Int)  : FC Tryz.prog 168 [.int .i64 x] [] (.bool (decide (¬ x = 4))) [] := by
  refine FC.of_run mix Tryz.func168 rfl rfl (by simp [Tryz.ntmps168]) ?_
  repeat' first
    | simp (maxSteps := 1000000) only [go_sem, Int.reduceLT, Int.reduceLE, Int.reduceToNat, Int.reduceEq, Nat.reduceMul, ↓reduceIte, Nat.reduceLT, Nat.reduceLeDiff, Nat.reduceEqDiff, Nat.reduceAdd, Nat.reduceSub, Nat.reduceBEq, reduceCtorEq, *]
    | contradiction
    | refine wT ?_ ?_ <;> intro _
    | refine wF ?_ ?_ <;> intro _
    | refine cD ?_ ?_ <;> intro _
    | refine dO (by kernel_rfl) ?_
    | refine Fin.q ?_ ?_
    | refine Fin.qn ?_ ?_
theorem kCfull {l : List Int} {H : Heap} {slot : Nat} {K : D → List (Nat × Blk) → List (Nat × Blk) → Prop} (hK : K (.bool (decide (∃ x, x ∈ l ∧ ¬ x = 4))) [] []) (hl : l.length < 1000000000000000 := by omega) : @callB ⟨callX Tryz.prog⟩ 167 [V l, .fn 179 []] H slot ⟨K⟩ :=
  call0 true (cCont_int l _ [] (fun x => ¬ x = 4) hl caps0 cfull1) rfl rfl (fun _ => rfl) hK
theorem kCFull {l : List Int} {H : Heap} {slot : Nat} {K : D → List (Nat × Blk) → List (Nat × Blk) → Prop} (hK : K (.bool (decide (∃ x, x ∈ l ∧ ¬ x = 4))) [] []) (hl : l.length < 1000000000000000 := by omega) : @callB ⟨callX Tryz.prog⟩ 167 [V l, .fn 168 []] H slot ⟨K⟩ :=
  call0 true (cCont_int l _ [] (fun x => ¬ x = 4) hl caps0 cFull1) rfl rfl (fun _ => rfl) hK
theorem len8 {s : Sc} {w : Wd} (h : w.ok s) : w.b.length ≤ 8 ∧ w.s.length = w.b.length ∧ s.pcs = w.b.length := by
  obtain ⟨⟨⟨_, _, _, _, h5, _⟩, _⟩, h1, h2, _⟩ := h
  omega
set_option maxHeartbeats 2000000 in
set_option maxRecDepth 20000 in
theorem cfull (w : Wd) (hl : w.b.length < 1000000000000000) : FC Tryz.prog 142 [.agg w.row] [] (.bool (decide w.full)) [] := by
  refine FC.of_run mix Tryz.func142 rfl rfl (by simp [Tryz.ntmps142]) ?_
  repeat' first
    | simp (maxSteps := 1000000) only [go_sem, Int.reduceLT, Int.reduceLE, Int.reduceToNat, Int.reduceEq, Nat.reduceMul, ↓reduceIte, Nat.reduceLT, Nat.reduceLeDiff, Nat.reduceEqDiff, Nat.reduceAdd, Nat.reduceSub, Nat.reduceBEq, reduceCtorEq, *, full_iff]
    | contradiction
    | refine wT ?_ ?_ <;> intro _
    | refine wF ?_ ?_ <;> intro _
    | refine cD ?_ ?_ <;> intro _
    | refine dO (by kernel_rfl) ?_
    | refine kCfull ?_
    | refine Fin.q ?_ ?_
    | refine Fin.qn ?_ ?_
set_option maxRecDepth 20000 in
theorem kcfull {w : Wd} {H : Heap} {slot : Nat} {K : D → List (Nat × Blk) → List (Nat × Blk) → Prop} (hK : K (.bool (decide w.full)) [] []) (hl : w.b.length < 1000000000000000 := by first | assumption | omega) : @callB ⟨callX Tryz.prog⟩ 142 [.agg w.row] H slot ⟨K⟩ := by
  have he0 : rdOf H (D.idsL [.agg w.row]) = [] := by simp (maxSteps := 1000000) only [go_sem, Int.reduceLT, Int.reduceLE, Int.reduceToNat, Int.reduceEq, Nat.reduceMul, ↓reduceIte, Nat.reduceLT, Nat.reduceLeDiff, Nat.reduceEqDiff, Nat.reduceAdd, Nat.reduceSub, Nat.reduceBEq, reduceCtorEq]
  refine call0 false (cfull w hl) ?_ ?_ (fun h => nomatch h) (by rw [he0]; exact hK)
  iterate 2 (· simp (maxSteps := 1000000) only [go_sem, Int.reduceLT, Int.reduceLE, Int.reduceToNat, Int.reduceEq, Nat.reduceMul, ↓reduceIte, Nat.reduceLT, Nat.reduceLeDiff, Nat.reduceEqDiff, Nat.reduceAdd, Nat.reduceSub, Nat.reduceBEq, reduceCtorEq])
set_option maxHeartbeats 2000000 in
set_option maxRecDepth 20000 in
theorem cRFull (s : Sc) (w : Wd)  : FC Tryz.prog 113 [.agg s.row, .agg w.row] [] (.bool (decide (w.ok s ∧ w.full))) [] := by
  refine FC.of_run mix Tryz.func113 rfl rfl (by simp [Tryz.ntmps113]) ?_
  repeat' first
    | simp (maxSteps := 1000000) only [go_sem, Int.reduceLT, Int.reduceLE, Int.reduceToNat, Int.reduceEq, Nat.reduceMul, ↓reduceIte, Nat.reduceLT, Nat.reduceLeDiff, Nat.reduceEqDiff, Nat.reduceAdd, Nat.reduceSub, Nat.reduceBEq, reduceCtorEq, *, full_iff]
    | contradiction
    | refine wT ?_ ?_ <;> intro _
    | refine wF ?_ ?_ <;> intro _
    | refine cD ?_ ?_ <;> intro _
    | refine dO (by kernel_rfl) ?_
    | refine kcwValid ?_
    | ((first | refine Fin.q ?_ ?_ | refine Fin.qn ?_ ?_) <;> ((try simp (maxSteps := 1000000) only [go_sem, Int.reduceLT, Int.reduceLE, Int.reduceToNat, Int.reduceEq, Nat.reduceMul, ↓reduceIte, Nat.reduceLT, Nat.reduceLeDiff, Nat.reduceEqDiff, Nat.reduceAdd, Nat.reduceSub, Nat.reduceBEq, reduceCtorEq, *, full_iff]) <;> (first | done | (simp [*]; done) | trace_state)))
  have h8 := len8 ‹_›
  repeat' first
    | simp (maxSteps := 1000000) only [go_sem, Int.reduceLT, Int.reduceLE, Int.reduceToNat, Int.reduceEq, Nat.reduceMul, ↓reduceIte, Nat.reduceLT, Nat.reduceLeDiff, Nat.reduceEqDiff, Nat.reduceAdd, Nat.reduceSub, Nat.reduceBEq, reduceCtorEq, *, full_iff, true_and]
    | contradiction
    | refine wT ?_ ?_ <;> intro _
    | refine wF ?_ ?_ <;> intro _
    | refine cD ?_ ?_ <;> intro _
    | refine dO (by kernel_rfl) ?_
    | refine kCFull ?_
    | refine Fin.q ?_ ?_
    | refine Fin.qn ?_ ?_
set_option maxRecDepth 20000 in
theorem kcRFull {s : Sc} {w : Wd} {H : Heap} {slot : Nat} {K : D → List (Nat × Blk) → List (Nat × Blk) → Prop} (hK : K (.bool (decide (w.ok s ∧ w.full))) [] []) : @callB ⟨callX Tryz.prog⟩ 113 [.agg s.row, .agg w.row] H slot ⟨K⟩ := by
  have he0 : rdOf H (D.idsL [.agg s.row, .agg w.row]) = [] := by simp (maxSteps := 1000000) only [go_sem, Int.reduceLT, Int.reduceLE, Int.reduceToNat, Int.reduceEq, Nat.reduceMul, ↓reduceIte, Nat.reduceLT, Nat.reduceLeDiff, Nat.reduceEqDiff, Nat.reduceAdd, Nat.reduceSub, Nat.reduceBEq, reduceCtorEq]
  refine call0 false (cRFull s w ) ?_ ?_ (fun h => nomatch h) (by rw [he0]; exact hK)
  iterate 2 (· simp (maxSteps := 1000000) only [go_sem, Int.reduceLT, Int.reduceLE, Int.reduceToNat, Int.reduceEq, Nat.reduceMul, ↓reduceIte, Nat.reduceLT, Nat.reduceLeDiff, Nat.reduceEqDiff, Nat.reduceAdd, Nat.reduceSub, Nat.reduceBEq, reduceCtorEq])
set_option maxHeartbeats 2000000 in
set_option maxRecDepth 20000 in
theorem cRFullR (s : Sc) (w : Wd)  : FC Tryz.prog 79 [.agg s.row, .agg w.row] [] (.bool (decide (w.ok s ∧ w.full))) [] := by
  refine FC.of_run mix Tryz.func79 rfl rfl (by simp [Tryz.ntmps79]) ?_
  repeat' first
    | simp (maxSteps := 1000000) only [go_sem, Int.reduceLT, Int.reduceLE, Int.reduceToNat, Int.reduceEq, Nat.reduceMul, ↓reduceIte, Nat.reduceLT, Nat.reduceLeDiff, Nat.reduceEqDiff, Nat.reduceAdd, Nat.reduceSub, Nat.reduceBEq, reduceCtorEq, *]
    | contradiction
    | refine wT ?_ ?_ <;> intro _
    | refine wF ?_ ?_ <;> intro _
    | refine cD ?_ ?_ <;> intro _
    | refine dO (by kernel_rfl) ?_
    | refine kcwValidR ?_
    | ((first | refine Fin.q ?_ ?_ | refine Fin.qn ?_ ?_) <;> ((try simp (maxSteps := 1000000) only [go_sem, Int.reduceLT, Int.reduceLE, Int.reduceToNat, Int.reduceEq, Nat.reduceMul, ↓reduceIte, Nat.reduceLT, Nat.reduceLeDiff, Nat.reduceEqDiff, Nat.reduceAdd, Nat.reduceSub, Nat.reduceBEq, reduceCtorEq, *]) <;> (first | done | (simp [*]; done))))
  have hv : w.ok s := Classical.not_not.1 ‹_›
  have h8 := len8 hv
  refine AW.loopx (σ := Nat) mix (fun i => ⟨23, [(5, .int .i64 i), (3, .ptr 1 1 0 0), (2, .ptr 0 1 0 0)], [some [s.row], some [w.row]]⟩) (fun i => i ≤ w.b.length ∧ ∀ q, q < i → w.b.getD q 0 = 4) (fun i => w.b.length - i) 0 ⟨by omega, fun q h => by omega⟩ (Conv.mk ?_ ?_ ?_ ?_ ?_) ?_
  iterate 5 (· (simp (maxSteps := 1000000) only [go_sem, Int.reduceLT, Int.reduceLE, Int.reduceToNat, Int.reduceEq, Nat.reduceMul, ↓reduceIte, Nat.reduceLT, Nat.reduceLeDiff, Nat.reduceEqDiff, Nat.reduceAdd, Nat.reduceSub, Nat.reduceBEq, reduceCtorEq]) <;> (first | rfl | (simp [ints]; done) | (simp [*]; done) | ((repeat' (first | rfl | apply And.intro)); done)))
  intro i ⟨hi, hq⟩
  have hw := wrap1 (i := i) (by omega)
  by_cases h : i < w.b.length
  · have hx := ints_get h
    repeat' first
      | simp (maxSteps := 1000000) only [go_sem, Int.reduceLT, Int.reduceLE, Int.reduceToNat, Int.reduceEq, Nat.reduceMul, ↓reduceIte, Nat.reduceLT, Nat.reduceLeDiff, Nat.reduceEqDiff, Nat.reduceAdd, Nat.reduceSub, Nat.reduceBEq, reduceCtorEq, *]
      | contradiction
      | refine wT ?_ ?_ <;> intro _
      | refine wF ?_ ?_ <;> intro _
      | refine cD ?_ ?_ <;> intro _
      | refine dO (by kernel_rfl) ?_
      | (refine ⟨i + 1, ?_, ?_, Conv.mk ?_ ?_ ?_ ?_ ?_⟩; (· (first | omega | (simp only; omega) | (simp only [List.length_nil, List.length_cons]; omega))); (· (exact ⟨by omega, upto hq (Classical.not_not.1 ‹_›)⟩)))
      | ((first | refine Fin.q ?_ ?_ | refine Fin.qn ?_ ?_) <;> ((try simp (maxSteps := 1000000) only [go_sem, Int.reduceLT, Int.reduceLE, Int.reduceToNat, Int.reduceEq, Nat.reduceMul, ↓reduceIte, Nat.reduceLT, Nat.reduceLeDiff, Nat.reduceEqDiff, Nat.reduceAdd, Nat.reduceSub, Nat.reduceBEq, reduceCtorEq, *]) <;> (first | done | rw [decide_eq_false (fun hh => absurd (hh i h) ‹_›)])))
  · repeat' first
      | simp (maxSteps := 1000000) only [go_sem, Int.reduceLT, Int.reduceLE, Int.reduceToNat, Int.reduceEq, Nat.reduceMul, ↓reduceIte, Nat.reduceLT, Nat.reduceLeDiff, Nat.reduceEqDiff, Nat.reduceAdd, Nat.reduceSub, Nat.reduceBEq, reduceCtorEq, *]
      | contradiction
      | refine wT ?_ ?_ <;> intro _
      | refine wF ?_ ?_ <;> intro _
      | refine cD ?_ ?_ <;> intro _
      | refine dO (by kernel_rfl) ?_
      | ((first | refine Fin.q ?_ ?_ | refine Fin.qn ?_ ?_) <;> ((try simp (maxSteps := 1000000) only [go_sem, Int.reduceLT, Int.reduceLE, Int.reduceToNat, Int.reduceEq, Nat.reduceMul, ↓reduceIte, Nat.reduceLT, Nat.reduceLeDiff, Nat.reduceEqDiff, Nat.reduceAdd, Nat.reduceSub, Nat.reduceBEq, reduceCtorEq, *]) <;> (first | done | rw [decide_eq_true (show w.full from fun q h => hq q (by omega))])))
set_option maxRecDepth 20000 in
theorem kcRFullR {s : Sc} {w : Wd} {H : Heap} {slot : Nat} {K : D → List (Nat × Blk) → List (Nat × Blk) → Prop} (hK : K (.bool (decide (w.ok s ∧ w.full))) [] []) : @callB ⟨callX Tryz.prog⟩ 79 [.agg s.row, .agg w.row] H slot ⟨K⟩ := by
  have he0 : rdOf H (D.idsL [.agg s.row, .agg w.row]) = [] := by simp (maxSteps := 1000000) only [go_sem, Int.reduceLT, Int.reduceLE, Int.reduceToNat, Int.reduceEq, Nat.reduceMul, ↓reduceIte, Nat.reduceLT, Nat.reduceLeDiff, Nat.reduceEqDiff, Nat.reduceAdd, Nat.reduceSub, Nat.reduceBEq, reduceCtorEq]
  refine call0 false (cRFullR s w ) ?_ ?_ (fun h => nomatch h) (by rw [he0]; exact hK)
  iterate 2 (· simp (maxSteps := 1000000) only [go_sem, Int.reduceLT, Int.reduceLE, Int.reduceToNat, Int.reduceEq, Nat.reduceMul, ↓reduceIte, Nat.reduceLT, Nat.reduceLeDiff, Nat.reduceEqDiff, Nat.reduceAdd, Nat.reduceSub, Nat.reduceBEq, reduceCtorEq])
set_option maxHeartbeats 2000000 in
set_option maxRecDepth 20000 in
theorem c19FullR (s : Sc) (w : Wd)  : FC Tryz.prog 178 [.agg s.row, .agg w.row] [] (.bool (decide (w.ok s ∧ w.full))) [] := by
  refine FC.of_run mix Tryz.func178 rfl rfl (by simp [Tryz.ntmps178]) ?_
  repeat' first
    | simp (maxSteps := 1000000) only [go_sem, Int.reduceLT, Int.reduceLE, Int.reduceToNat, Int.reduceEq, Nat.reduceMul, ↓reduceIte, Nat.reduceLT, Nat.reduceLeDiff, Nat.reduceEqDiff, Nat.reduceAdd, Nat.reduceSub, Nat.reduceBEq, reduceCtorEq, *]
    | contradiction
    | refine wT ?_ ?_ <;> intro _
    | refine wF ?_ ?_ <;> intro _
    | refine cD ?_ ?_ <;> intro _
    | refine dO (by kernel_rfl) ?_
    | refine kcwValidR ?_
    | ((first | refine Fin.q ?_ ?_ | refine Fin.qn ?_ ?_) <;> ((try simp (maxSteps := 1000000) only [go_sem, Int.reduceLT, Int.reduceLE, Int.reduceToNat, Int.reduceEq, Nat.reduceMul, ↓reduceIte, Nat.reduceLT, Nat.reduceLeDiff, Nat.reduceEqDiff, Nat.reduceAdd, Nat.reduceSub, Nat.reduceBEq, reduceCtorEq, *]) <;> (first | done | (simp [*]; done))))
  have hv : w.ok s := Classical.not_not.1 ‹_›
  have h8 := len8 hv
  refine AW.loopx (σ := Nat) mix (fun i => ⟨23, [(13, .int .i64 i), (12, .int .i64 w.b.length), (3, .ptr 1 1 0 0), (2, .ptr 0 1 0 0)], [some [s.row], some [w.row]]⟩) (fun i => i ≤ w.b.length ∧ ∀ q, q < i → w.b.getD q 0 = 4) (fun i => w.b.length - i) 0 ⟨by omega, fun q h => by omega⟩ (Conv.mk ?_ ?_ ?_ ?_ ?_) ?_
  iterate 5 (· (simp (maxSteps := 1000000) only [go_sem, Int.reduceLT, Int.reduceLE, Int.reduceToNat, Int.reduceEq, Nat.reduceMul, ↓reduceIte, Nat.reduceLT, Nat.reduceLeDiff, Nat.reduceEqDiff, Nat.reduceAdd, Nat.reduceSub, Nat.reduceBEq, reduceCtorEq]) <;> (first | rfl | (simp [ints]; done) | (simp [*]; done) | ((repeat' (first | rfl | apply And.intro)); done)))
  intro i ⟨hi, hq⟩
  have hw := wrap1 (i := i) (by omega)
  by_cases h : i < w.b.length
  · have hx := ints_get h
    repeat' first
      | simp (maxSteps := 1000000) only [go_sem, Int.reduceLT, Int.reduceLE, Int.reduceToNat, Int.reduceEq, Nat.reduceMul, ↓reduceIte, Nat.reduceLT, Nat.reduceLeDiff, Nat.reduceEqDiff, Nat.reduceAdd, Nat.reduceSub, Nat.reduceBEq, reduceCtorEq, *]
      | contradiction
      | refine wT ?_ ?_ <;> intro _
      | refine wF ?_ ?_ <;> intro _
      | refine cD ?_ ?_ <;> intro _
      | refine dO (by kernel_rfl) ?_
      | (refine ⟨i + 1, ?_, ?_, Conv.mk ?_ ?_ ?_ ?_ ?_⟩; (· (first | omega | (simp only; omega) | (simp only [List.length_nil, List.length_cons]; omega))); (· (exact ⟨by omega, upto hq (Classical.not_not.1 ‹_›)⟩)))
      | ((first | refine Fin.q ?_ ?_ | refine Fin.qn ?_ ?_) <;> ((try simp (maxSteps := 1000000) only [go_sem, Int.reduceLT, Int.reduceLE, Int.reduceToNat, Int.reduceEq, Nat.reduceMul, ↓reduceIte, Nat.reduceLT, Nat.reduceLeDiff, Nat.reduceEqDiff, Nat.reduceAdd, Nat.reduceSub, Nat.reduceBEq, reduceCtorEq, *]) <;> (first | done | rw [decide_eq_false (fun hh => absurd (hh i h) ‹_›)])))
  · repeat' first
      | simp (maxSteps := 1000000) only [go_sem, Int.reduceLT, Int.reduceLE, Int.reduceToNat, Int.reduceEq, Nat.reduceMul, ↓reduceIte, Nat.reduceLT, Nat.reduceLeDiff, Nat.reduceEqDiff, Nat.reduceAdd, Nat.reduceSub, Nat.reduceBEq, reduceCtorEq, *]
      | contradiction
      | refine wT ?_ ?_ <;> intro _
      | refine wF ?_ ?_ <;> intro _
      | refine cD ?_ ?_ <;> intro _
      | refine dO (by kernel_rfl) ?_
      | ((first | refine Fin.q ?_ ?_ | refine Fin.qn ?_ ?_) <;> ((try simp (maxSteps := 1000000) only [go_sem, Int.reduceLT, Int.reduceLE, Int.reduceToNat, Int.reduceEq, Nat.reduceMul, ↓reduceIte, Nat.reduceLT, Nat.reduceLeDiff, Nat.reduceEqDiff, Nat.reduceAdd, Nat.reduceSub, Nat.reduceBEq, reduceCtorEq, *]) <;> (first | done | rw [decide_eq_true (show w.full from fun q h => hq q (by omega))])))
set_option maxRecDepth 20000 in
theorem kc19FullR {s : Sc} {w : Wd} {H : Heap} {slot : Nat} {K : D → List (Nat × Blk) → List (Nat × Blk) → Prop} (hK : K (.bool (decide (w.ok s ∧ w.full))) [] []) : @callB ⟨callX Tryz.prog⟩ 178 [.agg s.row, .agg w.row] H slot ⟨K⟩ := by
  have he0 : rdOf H (D.idsL [.agg s.row, .agg w.row]) = [] := by simp (maxSteps := 1000000) only [go_sem, Int.reduceLT, Int.reduceLE, Int.reduceToNat, Int.reduceEq, Nat.reduceMul, ↓reduceIte, Nat.reduceLT, Nat.reduceLeDiff, Nat.reduceEqDiff, Nat.reduceAdd, Nat.reduceSub, Nat.reduceBEq, reduceCtorEq]
  refine call0 false (c19FullR s w ) ?_ ?_ (fun h => nomatch h) (by rw [he0]; exact hK)
  iterate 2 (· simp (maxSteps := 1000000) only [go_sem, Int.reduceLT, Int.reduceLE, Int.reduceToNat, Int.reduceEq, Nat.reduceMul, ↓reduceIte, Nat.reduceLT, Nat.reduceLeDiff, Nat.reduceEqDiff, Nat.reduceAdd, Nat.reduceSub, Nat.reduceBEq, reduceCtorEq])
set_option maxHeartbeats 2000000 in
set_option maxRecDepth 20000 in
theorem crValid1 (x : Int)  : FC Tryz.prog 112 [.int .i64 x] [] (.bool (decide (0 ≤ x ∧ x ≤ 2000))) [] := by
  refine FC.of_run mix Tryz.func112 rfl rfl (by simp [Tryz.ntmps112]) ?_
  repeat' first
    | simp (maxSteps := 1000000) only [go_sem, Int.reduceLT, Int.reduceLE, Int.reduceToNat, Int.reduceEq, Nat.reduceMul, ↓reduceIte, Nat.reduceLT, Nat.reduceLeDiff, Nat.reduceEqDiff, Nat.reduceAdd, Nat.reduceSub, Nat.reduceBEq, reduceCtorEq, *]
    | contradiction
    | refine wT ?_ ?_ <;> intro _
    | refine wF ?_ ?_ <;> intro _
    | refine cD ?_ ?_ <;> intro _
    | refine dO (by kernel_rfl) ?_
    | ((first | refine Fin.q ?_ ?_ | refine Fin.qn ?_ ?_) <;> ((try simp (maxSteps := 1000000) only [go_sem, Int.reduceLT, Int.reduceLE, Int.reduceToNat, Int.reduceEq, Nat.reduceMul, ↓reduceIte, Nat.reduceLT, Nat.reduceLeDiff, Nat.reduceEqDiff, Nat.reduceAdd, Nat.reduceSub, Nat.reduceBEq, reduceCtorEq, *]) <;> (first | done | (simp [*]; done))))
set_option maxRecDepth 20000 in
theorem kcrValid1 {x : Int} {H : Heap} {slot : Nat} {K : D → List (Nat × Blk) → List (Nat × Blk) → Prop} (hK : K (.bool (decide (0 ≤ x ∧ x ≤ 2000))) [] []) : @callB ⟨callX Tryz.prog⟩ 112 [.int .i64 x] H slot ⟨K⟩ := by
  have he0 : rdOf H (D.idsL [.int .i64 x]) = [] := by simp (maxSteps := 1000000) only [go_sem, Int.reduceLT, Int.reduceLE, Int.reduceToNat, Int.reduceEq, Nat.reduceMul, ↓reduceIte, Nat.reduceLT, Nat.reduceLeDiff, Nat.reduceEqDiff, Nat.reduceAdd, Nat.reduceSub, Nat.reduceBEq, reduceCtorEq]
  refine call0 false (crValid1 x ) ?_ ?_ (fun h => nomatch h) (by rw [he0]; exact hK)
  iterate 2 (· simp (maxSteps := 1000000) only [go_sem, Int.reduceLT, Int.reduceLE, Int.reduceToNat, Int.reduceEq, Nat.reduceMul, ↓reduceIte, Nat.reduceLT, Nat.reduceLeDiff, Nat.reduceEqDiff, Nat.reduceAdd, Nat.reduceSub, Nat.reduceBEq, reduceCtorEq])
set_option maxHeartbeats 2000000 in
set_option maxRecDepth 20000 in
theorem crValid (s : Sc) (e : En)  : FC Tryz.prog 67 [.agg s.row, .agg e.row] [] (.bool (decide (e.ok s))) [] := by
  refine FC.of_run mix Tryz.func67 rfl rfl (by simp [Tryz.ntmps67]) ?_
  repeat' first
    | simp (maxSteps := 1000000) only [go_sem, Int.reduceLT, Int.reduceLE, Int.reduceToNat, Int.reduceEq, Nat.reduceMul, ↓reduceIte, Nat.reduceLT, Nat.reduceLeDiff, Nat.reduceEqDiff, Nat.reduceAdd, Nat.reduceSub, Nat.reduceBEq, reduceCtorEq, *]
    | contradiction
    | refine wT ?_ ?_ <;> intro _
    | refine wF ?_ ?_ <;> intro _
    | refine cD ?_ ?_ <;> intro _
    | refine dO (by kernel_rfl) ?_
    | refine kcRFull ?_
    | refine kcrValid1 ?_
    | ((first | refine Fin.q ?_ ?_ | refine Fin.qn ?_ ?_) <;> ((try simp (maxSteps := 1000000) only [go_sem, Int.reduceLT, Int.reduceLE, Int.reduceToNat, Int.reduceEq, Nat.reduceMul, ↓reduceIte, Nat.reduceLT, Nat.reduceLeDiff, Nat.reduceEqDiff, Nat.reduceAdd, Nat.reduceSub, Nat.reduceBEq, reduceCtorEq, *]) <;> (first | done | (simp only [Option.some.injEq, D.bool.injEq]; first | exact decide_eq_decide.2 (by unfold En.ok; grind) | exact (decide_eq_true (by unfold En.ok; grind)).symm | exact (decide_eq_false (by unfold En.ok; grind)).symm))))
set_option maxRecDepth 20000 in
theorem kcrValid {s : Sc} {e : En} {H : Heap} {slot : Nat} {K : D → List (Nat × Blk) → List (Nat × Blk) → Prop} (hK : K (.bool (decide (e.ok s))) [] []) : @callB ⟨callX Tryz.prog⟩ 67 [.agg s.row, .agg e.row] H slot ⟨K⟩ := by
  have he0 : rdOf H (D.idsL [.agg s.row, .agg e.row]) = [] := by simp (maxSteps := 1000000) only [go_sem, Int.reduceLT, Int.reduceLE, Int.reduceToNat, Int.reduceEq, Nat.reduceMul, ↓reduceIte, Nat.reduceLT, Nat.reduceLeDiff, Nat.reduceEqDiff, Nat.reduceAdd, Nat.reduceSub, Nat.reduceBEq, reduceCtorEq]
  refine call0 false (crValid s e ) ?_ ?_ (fun h => nomatch h) (by rw [he0]; exact hK)
  iterate 2 (· simp (maxSteps := 1000000) only [go_sem, Int.reduceLT, Int.reduceLE, Int.reduceToNat, Int.reduceEq, Nat.reduceMul, ↓reduceIte, Nat.reduceLT, Nat.reduceLeDiff, Nat.reduceEqDiff, Nat.reduceAdd, Nat.reduceSub, Nat.reduceBEq, reduceCtorEq])
set_option maxHeartbeats 2000000 in
set_option maxRecDepth 20000 in
theorem crValidR (s : Sc) (e : En)  : FC Tryz.prog 40 [.agg s.row, .agg e.row] [] (.bool (decide (e.ok s))) [] := by
  refine FC.of_run mix Tryz.func40 rfl rfl (by simp [Tryz.ntmps40]) ?_
  repeat' first
    | simp (maxSteps := 1000000) only [go_sem, Int.reduceLT, Int.reduceLE, Int.reduceToNat, Int.reduceEq, Nat.reduceMul, ↓reduceIte, Nat.reduceLT, Nat.reduceLeDiff, Nat.reduceEqDiff, Nat.reduceAdd, Nat.reduceSub, Nat.reduceBEq, reduceCtorEq, *]
    | contradiction
    | refine wT ?_ ?_ <;> intro _
    | refine wF ?_ ?_ <;> intro _
    | refine cD ?_ ?_ <;> intro _
    | refine dO (by kernel_rfl) ?_
    | refine kcRFullR ?_
    | ((first | refine Fin.q ?_ ?_ | refine Fin.qn ?_ ?_) <;> ((try simp (maxSteps := 1000000) only [go_sem, Int.reduceLT, Int.reduceLE, Int.reduceToNat, Int.reduceEq, Nat.reduceMul, ↓reduceIte, Nat.reduceLT, Nat.reduceLeDiff, Nat.reduceEqDiff, Nat.reduceAdd, Nat.reduceSub, Nat.reduceBEq, reduceCtorEq, *]) <;> (first | done | (simp only [Option.some.injEq, D.bool.injEq]; first | exact decide_eq_decide.2 (by unfold En.ok; grind) | exact (decide_eq_true (by unfold En.ok; grind)).symm | exact (decide_eq_false (by unfold En.ok; grind)).symm))))
set_option maxRecDepth 20000 in
theorem kcrValidR {s : Sc} {e : En} {H : Heap} {slot : Nat} {K : D → List (Nat × Blk) → List (Nat × Blk) → Prop} (hK : K (.bool (decide (e.ok s))) [] []) : @callB ⟨callX Tryz.prog⟩ 40 [.agg s.row, .agg e.row] H slot ⟨K⟩ := by
  have he0 : rdOf H (D.idsL [.agg s.row, .agg e.row]) = [] := by simp (maxSteps := 1000000) only [go_sem, Int.reduceLT, Int.reduceLE, Int.reduceToNat, Int.reduceEq, Nat.reduceMul, ↓reduceIte, Nat.reduceLT, Nat.reduceLeDiff, Nat.reduceEqDiff, Nat.reduceAdd, Nat.reduceSub, Nat.reduceBEq, reduceCtorEq]
  refine call0 false (crValidR s e ) ?_ ?_ (fun h => nomatch h) (by rw [he0]; exact hK)
  iterate 2 (· simp (maxSteps := 1000000) only [go_sem, Int.reduceLT, Int.reduceLE, Int.reduceToNat, Int.reduceEq, Nat.reduceMul, ↓reduceIte, Nat.reduceLT, Nat.reduceLeDiff, Nat.reduceEqDiff, Nat.reduceAdd, Nat.reduceSub, Nat.reduceBEq, reduceCtorEq])
end TR

/- Words that belong to words. -/
open Go Go.Proofs Go.AH
set_option linter.unusedSimpArgs false
set_option linter.unusedVariables false
namespace TR
set_option maxHeartbeats 2000000 in
set_option maxRecDepth 20000 in
theorem cHas (s : Sc) (w f : Wd)  : FC Tryz.prog 121 [.agg s.row, .agg w.row, .agg f.row] [] (.bool (decide (w.has s f))) [] := by
  refine FC.of_run mix Tryz.func121 rfl rfl (by simp [Tryz.ntmps121]) ?_
  by_cases hv : w.ok s
  · by_cases hf : f.ok s
    · obtain ⟨h8, h8b, h8c⟩ := len8 hv
      obtain ⟨h9, h9b, h9c⟩ := len8 hf
      have h9d : f.s.length = w.b.length := by omega
      clear h8c h9c h9b
      by_cases hu : f.full
      · repeat' first
          | simp (maxSteps := 1000000) only [go_sem, Int.reduceLT, Int.reduceLE, Int.reduceToNat, Int.reduceEq, Nat.reduceMul, ↓reduceIte, Nat.reduceLT, Nat.reduceLeDiff, Nat.reduceEqDiff, Nat.reduceAdd, Nat.reduceSub, Nat.reduceBEq, reduceCtorEq, *]
          | contradiction
          | refine wT ?_ ?_ <;> intro _
          | refine wF ?_ ?_ <;> intro _
          | refine cD ?_ ?_ <;> intro _
          | refine dO (by kernel_rfl) ?_
          | refine kcwValid ?_
          | refine kcfull ?_
          | refine Fin.q ?_ ?_
          | refine Fin.qn ?_ ?_
        refine AW.loopx (σ := Nat) mix (fun i => ⟨47, [(27, .int .i64 i), (26, .int .i64 w.b.length), (25, V w.b), (5, .ptr 2 1 0 0), (4, .ptr 1 1 0 0), (3, .ptr 0 1 0 0)], [some [s.row], some [w.row], some [f.row]]⟩) (fun i => i ≤ w.b.length ∧ ∀ q, q < i → fits w f q) (fun i => w.b.length - i) 0 ⟨by omega, fun q h => by omega⟩ (Conv.mk ?_ ?_ ?_ ?_ ?_) ?_
        iterate 5 (· (simp (maxSteps := 1000000) only [go_sem, Int.reduceLT, Int.reduceLE, Int.reduceToNat, Int.reduceEq, Nat.reduceMul, ↓reduceIte, Nat.reduceLT, Nat.reduceLeDiff, Nat.reduceEqDiff, Nat.reduceAdd, Nat.reduceSub, Nat.reduceBEq, reduceCtorEq]) <;> (first | rfl | (simp [ints]; done) | (simp [*]; done) | ((repeat' (first | rfl | apply And.intro)); done)))
        intro i ⟨hi, hq⟩
        have hw := wrap1 (i := i) (by omega)
        by_cases h : i < w.b.length
        · have hx := ints_get h
          have hy := ints_get (l := w.s) (i := i) (by omega)
          have hz := ints_get (l := f.s) (i := i) (by omega)
          have hb := hv.2.2.2 i h
          unfold bitOK at hb
          have h4 : IntKind.i64.wrap (4 - w.b.getD i 0) = 4 - w.b.getD i 0 := by rw [wrapS] <;> omega
          have hn : (4 - w.b.getD i 0 < 0) = False := by simp only [eq_iff_iff, iff_false]; omega
          have hs := shr4 (x := f.s.getD i 0) (b := w.b.getD i 0) (by omega) (by omega)
          clear hv hf hu hb
          repeat' first
            | simp (maxSteps := 1000000) only [go_sem, Int.reduceLT, Int.reduceLE, Int.reduceToNat, Int.reduceEq, Nat.reduceMul, ↓reduceIte, Nat.reduceLT, Nat.reduceLeDiff, Nat.reduceEqDiff, Nat.reduceAdd, Nat.reduceSub, Nat.reduceBEq, reduceCtorEq, *]
            | contradiction
            | refine wT ?_ ?_ <;> intro _
            | refine wF ?_ ?_ <;> intro _
            | refine cD ?_ ?_ <;> intro _
            | refine dO (by kernel_rfl) ?_
            | (refine ⟨i + 1, ?_, ?_, Conv.mk ?_ ?_ ?_ ?_ ?_⟩; (· (first | omega | (simp only; omega) | (simp only [List.length_nil, List.length_cons]; omega))); (· (exact ⟨by omega, upto hq (Classical.not_not.1 ‹_›)⟩)))
            | ((first | refine Fin.q ?_ ?_ | refine Fin.qn ?_ ?_) <;> ((try simp (maxSteps := 1000000) only [go_sem, Int.reduceLT, Int.reduceLE, Int.reduceToNat, Int.reduceEq, Nat.reduceMul, ↓reduceIte, Nat.reduceLT, Nat.reduceLeDiff, Nat.reduceEqDiff, Nat.reduceAdd, Nat.reduceSub, Nat.reduceBEq, reduceCtorEq, *]) <;> (first | done | (simp only [Option.some.injEq, D.bool.injEq]; first | exact decide_eq_decide.2 (by exact fun hh => absurd (hh.2.2.2 i h) ‹_›) | exact (decide_eq_true (by exact fun hh => absurd (hh.2.2.2 i h) ‹_›)).symm | exact (decide_eq_false (by exact fun hh => absurd (hh.2.2.2 i h) ‹_›)).symm))))
        · have hd : w.has s f := ⟨hv, hf, hu, fun q h => hq q (by omega)⟩
          clear hv hf hu
          repeat' first
            | simp (maxSteps := 1000000) only [go_sem, Int.reduceLT, Int.reduceLE, Int.reduceToNat, Int.reduceEq, Nat.reduceMul, ↓reduceIte, Nat.reduceLT, Nat.reduceLeDiff, Nat.reduceEqDiff, Nat.reduceAdd, Nat.reduceSub, Nat.reduceBEq, reduceCtorEq, *]
            | contradiction
            | refine wT ?_ ?_ <;> intro _
            | refine wF ?_ ?_ <;> intro _
            | refine cD ?_ ?_ <;> intro _
            | refine dO (by kernel_rfl) ?_
            | ((first | refine Fin.q ?_ ?_ | refine Fin.qn ?_ ?_) <;> ((try simp (maxSteps := 1000000) only [go_sem, Int.reduceLT, Int.reduceLE, Int.reduceToNat, Int.reduceEq, Nat.reduceMul, ↓reduceIte, Nat.reduceLT, Nat.reduceLeDiff, Nat.reduceEqDiff, Nat.reduceAdd, Nat.reduceSub, Nat.reduceBEq, reduceCtorEq, *]) <;> (first | done | (simp only [Option.some.injEq, D.bool.injEq]; first | exact decide_eq_decide.2 (by exact hd) | exact (decide_eq_true (by exact hd)).symm | exact (decide_eq_false (by exact hd)).symm))))
      · repeat' first
          | simp (maxSteps := 1000000) only [go_sem, Int.reduceLT, Int.reduceLE, Int.reduceToNat, Int.reduceEq, Nat.reduceMul, ↓reduceIte, Nat.reduceLT, Nat.reduceLeDiff, Nat.reduceEqDiff, Nat.reduceAdd, Nat.reduceSub, Nat.reduceBEq, reduceCtorEq, *]
          | contradiction
          | refine wT ?_ ?_ <;> intro _
          | refine wF ?_ ?_ <;> intro _
          | refine cD ?_ ?_ <;> intro _
          | refine dO (by kernel_rfl) ?_
          | refine kcwValid ?_
          | refine kcfull ?_
          | ((first | refine Fin.q ?_ ?_ | refine Fin.qn ?_ ?_) <;> ((try simp (maxSteps := 1000000) only [go_sem, Int.reduceLT, Int.reduceLE, Int.reduceToNat, Int.reduceEq, Nat.reduceMul, ↓reduceIte, Nat.reduceLT, Nat.reduceLeDiff, Nat.reduceEqDiff, Nat.reduceAdd, Nat.reduceSub, Nat.reduceBEq, reduceCtorEq, *]) <;> (first | done | (simp only [Option.some.injEq, D.bool.injEq]; first | exact decide_eq_decide.2 (by exact fun hh => hu hh.2.2.1) | exact (decide_eq_true (by exact fun hh => hu hh.2.2.1)).symm | exact (decide_eq_false (by exact fun hh => hu hh.2.2.1)).symm))))
    · repeat' first
        | simp (maxSteps := 1000000) only [go_sem, Int.reduceLT, Int.reduceLE, Int.reduceToNat, Int.reduceEq, Nat.reduceMul, ↓reduceIte, Nat.reduceLT, Nat.reduceLeDiff, Nat.reduceEqDiff, Nat.reduceAdd, Nat.reduceSub, Nat.reduceBEq, reduceCtorEq, *]
        | contradiction
        | refine wT ?_ ?_ <;> intro _
        | refine wF ?_ ?_ <;> intro _
        | refine cD ?_ ?_ <;> intro _
        | refine dO (by kernel_rfl) ?_
        | refine kcwValid ?_
        | ((first | refine Fin.q ?_ ?_ | refine Fin.qn ?_ ?_) <;> ((try simp (maxSteps := 1000000) only [go_sem, Int.reduceLT, Int.reduceLE, Int.reduceToNat, Int.reduceEq, Nat.reduceMul, ↓reduceIte, Nat.reduceLT, Nat.reduceLeDiff, Nat.reduceEqDiff, Nat.reduceAdd, Nat.reduceSub, Nat.reduceBEq, reduceCtorEq, *]) <;> (first | done | (simp only [Option.some.injEq, D.bool.injEq]; first | exact decide_eq_decide.2 (by exact fun hh => hf hh.2.1) | exact (decide_eq_true (by exact fun hh => hf hh.2.1)).symm | exact (decide_eq_false (by exact fun hh => hf hh.2.1)).symm))))
  · repeat' first
      | simp (maxSteps := 1000000) only [go_sem, Int.reduceLT, Int.reduceLE, Int.reduceToNat, Int.reduceEq, Nat.reduceMul, ↓reduceIte, Nat.reduceLT, Nat.reduceLeDiff, Nat.reduceEqDiff, Nat.reduceAdd, Nat.reduceSub, Nat.reduceBEq, reduceCtorEq, *]
      | contradiction
      | refine wT ?_ ?_ <;> intro _
      | refine wF ?_ ?_ <;> intro _
      | refine cD ?_ ?_ <;> intro _
      | refine dO (by kernel_rfl) ?_
      | refine kcwValid ?_
      | ((first | refine Fin.q ?_ ?_ | refine Fin.qn ?_ ?_) <;> ((try simp (maxSteps := 1000000) only [go_sem, Int.reduceLT, Int.reduceLE, Int.reduceToNat, Int.reduceEq, Nat.reduceMul, ↓reduceIte, Nat.reduceLT, Nat.reduceLeDiff, Nat.reduceEqDiff, Nat.reduceAdd, Nat.reduceSub, Nat.reduceBEq, reduceCtorEq, *]) <;> (first | done | (simp only [Option.some.injEq, D.bool.injEq]; first | exact decide_eq_decide.2 (by exact fun hh => hv hh.1) | exact (decide_eq_true (by exact fun hh => hv hh.1)).symm | exact (decide_eq_false (by exact fun hh => hv hh.1)).symm))))
set_option maxRecDepth 20000 in
theorem kcHas {s : Sc} {w f : Wd} {H : Heap} {slot : Nat} {K : D → List (Nat × Blk) → List (Nat × Blk) → Prop} (hK : K (.bool (decide (w.has s f))) [] []) : @callB ⟨callX Tryz.prog⟩ 121 [.agg s.row, .agg w.row, .agg f.row] H slot ⟨K⟩ := by
  have he0 : rdOf H (D.idsL [.agg s.row, .agg w.row, .agg f.row]) = [] := by simp (maxSteps := 1000000) only [go_sem, Int.reduceLT, Int.reduceLE, Int.reduceToNat, Int.reduceEq, Nat.reduceMul, ↓reduceIte, Nat.reduceLT, Nat.reduceLeDiff, Nat.reduceEqDiff, Nat.reduceAdd, Nat.reduceSub, Nat.reduceBEq, reduceCtorEq]
  refine call0 false (cHas s w f ) ?_ ?_ (fun h => nomatch h) (by rw [he0]; exact hK)
  iterate 2 (· simp (maxSteps := 1000000) only [go_sem, Int.reduceLT, Int.reduceLE, Int.reduceToNat, Int.reduceEq, Nat.reduceMul, ↓reduceIte, Nat.reduceLT, Nat.reduceLeDiff, Nat.reduceEqDiff, Nat.reduceAdd, Nat.reduceSub, Nat.reduceBEq, reduceCtorEq])
set_option maxHeartbeats 2000000 in
set_option maxRecDepth 20000 in
theorem cHasR (s : Sc) (w f : Wd)  : FC Tryz.prog 135 [.agg s.row, .agg w.row, .agg f.row] [] (.bool (decide (w.has s f))) [] := by
  refine FC.of_run mix Tryz.func135 rfl rfl (by simp [Tryz.ntmps135]) ?_
  by_cases hv : w.ok s
  · by_cases hf : f.ok s ∧ f.full
    · obtain ⟨h8, h8b, h8c⟩ := len8 hv
      obtain ⟨h9, h9b, h9c⟩ := len8 hf.1
      have h9d : f.s.length = w.b.length := by omega
      clear h8c h9c h9b
      repeat' first
        | simp (maxSteps := 1000000) only [go_sem, Int.reduceLT, Int.reduceLE, Int.reduceToNat, Int.reduceEq, Nat.reduceMul, ↓reduceIte, Nat.reduceLT, Nat.reduceLeDiff, Nat.reduceEqDiff, Nat.reduceAdd, Nat.reduceSub, Nat.reduceBEq, reduceCtorEq, *]
        | contradiction
        | refine wT ?_ ?_ <;> intro _
        | refine wF ?_ ?_ <;> intro _
        | refine cD ?_ ?_ <;> intro _
        | refine dO (by kernel_rfl) ?_
        | refine kcwValidR ?_
        | refine kc19FullR ?_
        | refine Fin.q ?_ ?_
        | refine Fin.qn ?_ ?_
      refine AW.loopx (σ := Nat) mix (fun i => ⟨43, [(21, .int .i64 i), (20, .int .i64 w.b.length), (5, .ptr 2 1 0 0), (4, .ptr 1 1 0 0), (3, .ptr 0 1 0 0)], [some [s.row], some [w.row], some [f.row]]⟩) (fun i => i ≤ w.b.length ∧ ∀ q, q < i → fits w f q) (fun i => w.b.length - i) 0 ⟨by omega, fun q h => by omega⟩ (Conv.mk ?_ ?_ ?_ ?_ ?_) ?_
      iterate 5 (· (simp (maxSteps := 1000000) only [go_sem, Int.reduceLT, Int.reduceLE, Int.reduceToNat, Int.reduceEq, Nat.reduceMul, ↓reduceIte, Nat.reduceLT, Nat.reduceLeDiff, Nat.reduceEqDiff, Nat.reduceAdd, Nat.reduceSub, Nat.reduceBEq, reduceCtorEq]) <;> (first | rfl | (simp [ints]; done) | (simp [*]; done) | ((repeat' (first | rfl | apply And.intro)); done)))
      intro i ⟨hi, hq⟩
      have hw := wrap1 (i := i) (by omega)
      by_cases h : i < w.b.length
      · have hx := ints_get h
        have hy := ints_get (l := w.s) (i := i) (by omega)
        have hz := ints_get (l := f.s) (i := i) (by omega)
        have hb := hv.2.2.2 i h
        unfold bitOK at hb
        have h4 : IntKind.i64.wrap (4 - w.b.getD i 0) = 4 - w.b.getD i 0 := by rw [wrapS] <;> omega
        have hn : (4 - w.b.getD i 0 < 0) = False := by simp only [eq_iff_iff, iff_false]; omega
        have hs := shr4 (x := f.s.getD i 0) (b := w.b.getD i 0) (by omega) (by omega)
        clear hv hf hb
        repeat' first
          | simp (maxSteps := 1000000) only [go_sem, Int.reduceLT, Int.reduceLE, Int.reduceToNat, Int.reduceEq, Nat.reduceMul, ↓reduceIte, Nat.reduceLT, Nat.reduceLeDiff, Nat.reduceEqDiff, Nat.reduceAdd, Nat.reduceSub, Nat.reduceBEq, reduceCtorEq, *]
          | contradiction
          | refine wT ?_ ?_ <;> intro _
          | refine wF ?_ ?_ <;> intro _
          | refine cD ?_ ?_ <;> intro _
          | refine dO (by kernel_rfl) ?_
          | (refine ⟨i + 1, ?_, ?_, Conv.mk ?_ ?_ ?_ ?_ ?_⟩; (· (first | omega | (simp only; omega) | (simp only [List.length_nil, List.length_cons]; omega))); (· (exact ⟨by omega, upto hq (Classical.not_not.1 ‹_›)⟩)))
          | ((first | refine Fin.q ?_ ?_ | refine Fin.qn ?_ ?_) <;> ((try simp (maxSteps := 1000000) only [go_sem, Int.reduceLT, Int.reduceLE, Int.reduceToNat, Int.reduceEq, Nat.reduceMul, ↓reduceIte, Nat.reduceLT, Nat.reduceLeDiff, Nat.reduceEqDiff, Nat.reduceAdd, Nat.reduceSub, Nat.reduceBEq, reduceCtorEq, *]) <;> (first | done | (simp only [Option.some.injEq, D.bool.injEq]; first | exact decide_eq_decide.2 (by exact fun hh => absurd (hh.2.2.2 i h) ‹_›) | exact (decide_eq_true (by exact fun hh => absurd (hh.2.2.2 i h) ‹_›)).symm | exact (decide_eq_false (by exact fun hh => absurd (hh.2.2.2 i h) ‹_›)).symm))))
      · have hd : w.has s f := ⟨hv, hf.1, hf.2, fun q h => hq q (by omega)⟩
        clear hv hf
        repeat' first
          | simp (maxSteps := 1000000) only [go_sem, Int.reduceLT, Int.reduceLE, Int.reduceToNat, Int.reduceEq, Nat.reduceMul, ↓reduceIte, Nat.reduceLT, Nat.reduceLeDiff, Nat.reduceEqDiff, Nat.reduceAdd, Nat.reduceSub, Nat.reduceBEq, reduceCtorEq, *]
          | contradiction
          | refine wT ?_ ?_ <;> intro _
          | refine wF ?_ ?_ <;> intro _
          | refine cD ?_ ?_ <;> intro _
          | refine dO (by kernel_rfl) ?_
          | ((first | refine Fin.q ?_ ?_ | refine Fin.qn ?_ ?_) <;> ((try simp (maxSteps := 1000000) only [go_sem, Int.reduceLT, Int.reduceLE, Int.reduceToNat, Int.reduceEq, Nat.reduceMul, ↓reduceIte, Nat.reduceLT, Nat.reduceLeDiff, Nat.reduceEqDiff, Nat.reduceAdd, Nat.reduceSub, Nat.reduceBEq, reduceCtorEq, *]) <;> (first | done | (simp only [Option.some.injEq, D.bool.injEq]; first | exact decide_eq_decide.2 (by exact hd) | exact (decide_eq_true (by exact hd)).symm | exact (decide_eq_false (by exact hd)).symm))))
    · repeat' first
        | simp (maxSteps := 1000000) only [go_sem, Int.reduceLT, Int.reduceLE, Int.reduceToNat, Int.reduceEq, Nat.reduceMul, ↓reduceIte, Nat.reduceLT, Nat.reduceLeDiff, Nat.reduceEqDiff, Nat.reduceAdd, Nat.reduceSub, Nat.reduceBEq, reduceCtorEq, *]
        | contradiction
        | refine wT ?_ ?_ <;> intro _
        | refine wF ?_ ?_ <;> intro _
        | refine cD ?_ ?_ <;> intro _
        | refine dO (by kernel_rfl) ?_
        | refine kcwValidR ?_
        | refine kc19FullR ?_
        | ((first | refine Fin.q ?_ ?_ | refine Fin.qn ?_ ?_) <;> ((try simp (maxSteps := 1000000) only [go_sem, Int.reduceLT, Int.reduceLE, Int.reduceToNat, Int.reduceEq, Nat.reduceMul, ↓reduceIte, Nat.reduceLT, Nat.reduceLeDiff, Nat.reduceEqDiff, Nat.reduceAdd, Nat.reduceSub, Nat.reduceBEq, reduceCtorEq, *]) <;> (first | done | (simp only [Option.some.injEq, D.bool.injEq]; first | exact decide_eq_decide.2 (by exact fun hh => hf ⟨hh.2.1, hh.2.2.1⟩) | exact (decide_eq_true (by exact fun hh => hf ⟨hh.2.1, hh.2.2.1⟩)).symm | exact (decide_eq_false (by exact fun hh => hf ⟨hh.2.1, hh.2.2.1⟩)).symm))))
  · repeat' first
      | simp (maxSteps := 1000000) only [go_sem, Int.reduceLT, Int.reduceLE, Int.reduceToNat, Int.reduceEq, Nat.reduceMul, ↓reduceIte, Nat.reduceLT, Nat.reduceLeDiff, Nat.reduceEqDiff, Nat.reduceAdd, Nat.reduceSub, Nat.reduceBEq, reduceCtorEq, *]
      | contradiction
      | refine wT ?_ ?_ <;> intro _
      | refine wF ?_ ?_ <;> intro _
      | refine cD ?_ ?_ <;> intro _
      | refine dO (by kernel_rfl) ?_
      | refine kcwValidR ?_
      | ((first | refine Fin.q ?_ ?_ | refine Fin.qn ?_ ?_) <;> ((try simp (maxSteps := 1000000) only [go_sem, Int.reduceLT, Int.reduceLE, Int.reduceToNat, Int.reduceEq, Nat.reduceMul, ↓reduceIte, Nat.reduceLT, Nat.reduceLeDiff, Nat.reduceEqDiff, Nat.reduceAdd, Nat.reduceSub, Nat.reduceBEq, reduceCtorEq, *]) <;> (first | done | (simp only [Option.some.injEq, D.bool.injEq]; first | exact decide_eq_decide.2 (by exact fun hh => hv hh.1) | exact (decide_eq_true (by exact fun hh => hv hh.1)).symm | exact (decide_eq_false (by exact fun hh => hv hh.1)).symm))))
set_option maxRecDepth 20000 in
theorem kcHasR {s : Sc} {w f : Wd} {H : Heap} {slot : Nat} {K : D → List (Nat × Blk) → List (Nat × Blk) → Prop} (hK : K (.bool (decide (w.has s f))) [] []) : @callB ⟨callX Tryz.prog⟩ 135 [.agg s.row, .agg w.row, .agg f.row] H slot ⟨K⟩ := by
  have he0 : rdOf H (D.idsL [.agg s.row, .agg w.row, .agg f.row]) = [] := by simp (maxSteps := 1000000) only [go_sem, Int.reduceLT, Int.reduceLE, Int.reduceToNat, Int.reduceEq, Nat.reduceMul, ↓reduceIte, Nat.reduceLT, Nat.reduceLeDiff, Nat.reduceEqDiff, Nat.reduceAdd, Nat.reduceSub, Nat.reduceBEq, reduceCtorEq]
  refine call0 false (cHasR s w f ) ?_ ?_ (fun h => nomatch h) (by rw [he0]; exact hK)
  iterate 2 (· simp (maxSteps := 1000000) only [go_sem, Int.reduceLT, Int.reduceLE, Int.reduceToNat, Int.reduceEq, Nat.reduceMul, ↓reduceIte, Nat.reduceLT, Nat.reduceLeDiff, Nat.reduceEqDiff, Nat.reduceAdd, Nat.reduceSub, Nat.reduceBEq, reduceCtorEq])
end TR

/- slices.Clone. -/
open Go Go.Proofs Go.AH
set_option linter.unusedSimpArgs false
set_option linter.unusedVariables false
namespace TR
set_option maxRecDepth 20000 in
theorem cClone_int (l : List Int) (hl : l.length ≤ 4294967296) : FC Tryz.prog 94 [.vs (ints l)] [] (.vs (ints l)) [] := by
  refine FC.of_run mix Tryz.func94 rfl rfl (by simp [Tryz.ntmps94]) ?_
  rcases l with _ | ⟨a, l⟩
  · simp (maxSteps := 1000000) only [go_sem, Int.reduceLT, Int.reduceLE, Int.reduceToNat, Int.reduceEq, Nat.reduceMul, ↓reduceIte, Nat.reduceLT, Nat.reduceLeDiff, Nat.reduceEqDiff, Nat.reduceAdd, Nat.reduceSub, Nat.reduceBEq, reduceCtorEq]
    refine condU ?_ ?_
    · repeat' first
        | simp (maxSteps := 1000000) only [go_sem, Int.reduceLT, Int.reduceLE, Int.reduceToNat, Int.reduceEq, Nat.reduceMul, ↓reduceIte, Nat.reduceLT, Nat.reduceLeDiff, Nat.reduceEqDiff, Nat.reduceAdd, Nat.reduceSub, Nat.reduceBEq, reduceCtorEq, *]
        | contradiction
        | refine wT ?_ ?_ <;> intro _
        | refine wF ?_ ?_ <;> intro _
        | refine cD ?_ ?_ <;> intro _
        | refine dO (by kernel_rfl) ?_
        | refine Fin.q ?_ ?_
        | refine Fin.qn ?_ ?_
    · repeat' first
        | simp (maxSteps := 1000000) only [go_sem, Int.reduceLT, Int.reduceLE, Int.reduceToNat, Int.reduceEq, Nat.reduceMul, ↓reduceIte, Nat.reduceLT, Nat.reduceLeDiff, Nat.reduceEqDiff, Nat.reduceAdd, Nat.reduceSub, Nat.reduceBEq, reduceCtorEq, *]
        | contradiction
        | refine wT ?_ ?_ <;> intro _
        | refine wF ?_ ?_ <;> intro _
        | refine cD ?_ ?_ <;> intro _
        | refine dO (by kernel_rfl) ?_
        | refine Fin.q ?_ ?_
        | refine Fin.qn ?_ ?_
  · simp only [List.length_cons] at hl
    have hc : l.length + 1 ≤ capMax := hl
    simp (maxSteps := 1000000) only [go_sem, Int.reduceLT, Int.reduceLE, Int.reduceToNat, Int.reduceEq, Nat.reduceMul, ↓reduceIte, Nat.reduceLT, Nat.reduceLeDiff, Nat.reduceEqDiff, Nat.reduceAdd, Nat.reduceSub, Nat.reduceBEq, reduceCtorEq, ints_cons]
    repeat' first
      | simp (maxSteps := 1000000) only [go_sem, Int.reduceLT, Int.reduceLE, Int.reduceToNat, Int.reduceEq, Nat.reduceMul, ↓reduceIte, Nat.reduceLT, Nat.reduceLeDiff, Nat.reduceEqDiff, Nat.reduceAdd, Nat.reduceSub, Nat.reduceBEq, reduceCtorEq, *, List.isEmpty_cons, ints_cons, hc, List.take_length, List.drop_zero]
      | contradiction
      | refine wT ?_ ?_ <;> intro _
      | refine wF ?_ ?_ <;> intro _
      | refine cD ?_ ?_ <;> intro _
      | refine dO (by kernel_rfl) ?_
      | refine Fin.q ?_ ?_
      | refine Fin.qn ?_ ?_
set_option maxRecDepth 20000 in
theorem cCloneO_int (l : List Int) (hn : l ≠ []) (hl : l.length ≤ 4294967296) : FC Tryz.prog 94 [.vs (ints l)] [] (.rs 1 0 0 l.length l.length) [ints l] := by
  refine FC.of_run mix Tryz.func94 rfl rfl (by simp [Tryz.ntmps94]) ?_
  rcases l with _ | ⟨a, l⟩
  · exact absurd rfl hn
  · simp only [List.length_cons] at hl
    have hc : l.length + 1 ≤ capMax := hl
    simp (maxSteps := 1000000) only [go_sem, Int.reduceLT, Int.reduceLE, Int.reduceToNat, Int.reduceEq, Nat.reduceMul, ↓reduceIte, Nat.reduceLT, Nat.reduceLeDiff, Nat.reduceEqDiff, Nat.reduceAdd, Nat.reduceSub, Nat.reduceBEq, reduceCtorEq, ints_cons]
    repeat' first
      | simp (maxSteps := 1000000) only [go_sem, Int.reduceLT, Int.reduceLE, Int.reduceToNat, Int.reduceEq, Nat.reduceMul, ↓reduceIte, Nat.reduceLT, Nat.reduceLeDiff, Nat.reduceEqDiff, Nat.reduceAdd, Nat.reduceSub, Nat.reduceBEq, reduceCtorEq, *, List.isEmpty_cons, ints_cons, hc, List.take_length, List.drop_zero]
      | contradiction
      | refine wT ?_ ?_ <;> intro _
      | refine wF ?_ ?_ <;> intro _
      | refine cD ?_ ?_ <;> intro _
      | refine dO (by kernel_rfl) ?_
      | refine Fin.qy [1] (by simp) (by simp) ?_ ?_
set_option maxRecDepth 20000 in
theorem cClone_en (l : List En) (hl : l.length ≤ 4294967296) : FC Tryz.prog 88 [.vs (ents l)] [] (.vs (ents l)) [] := by
  refine FC.of_run mix Tryz.func88 rfl rfl (by simp [Tryz.ntmps88]) ?_
  rcases l with _ | ⟨a, l⟩
  · simp (maxSteps := 1000000) only [go_sem, Int.reduceLT, Int.reduceLE, Int.reduceToNat, Int.reduceEq, Nat.reduceMul, ↓reduceIte, Nat.reduceLT, Nat.reduceLeDiff, Nat.reduceEqDiff, Nat.reduceAdd, Nat.reduceSub, Nat.reduceBEq, reduceCtorEq]
    refine condU ?_ ?_
    · repeat' first
        | simp (maxSteps := 1000000) only [go_sem, Int.reduceLT, Int.reduceLE, Int.reduceToNat, Int.reduceEq, Nat.reduceMul, ↓reduceIte, Nat.reduceLT, Nat.reduceLeDiff, Nat.reduceEqDiff, Nat.reduceAdd, Nat.reduceSub, Nat.reduceBEq, reduceCtorEq, *]
        | contradiction
        | refine wT ?_ ?_ <;> intro _
        | refine wF ?_ ?_ <;> intro _
        | refine cD ?_ ?_ <;> intro _
        | refine dO (by kernel_rfl) ?_
        | refine Fin.q ?_ ?_
        | refine Fin.qn ?_ ?_
    · repeat' first
        | simp (maxSteps := 1000000) only [go_sem, Int.reduceLT, Int.reduceLE, Int.reduceToNat, Int.reduceEq, Nat.reduceMul, ↓reduceIte, Nat.reduceLT, Nat.reduceLeDiff, Nat.reduceEqDiff, Nat.reduceAdd, Nat.reduceSub, Nat.reduceBEq, reduceCtorEq, *]
        | contradiction
        | refine wT ?_ ?_ <;> intro _
        | refine wF ?_ ?_ <;> intro _
        | refine cD ?_ ?_ <;> intro _
        | refine dO (by kernel_rfl) ?_
        | refine Fin.q ?_ ?_
        | refine Fin.qn ?_ ?_
  · simp only [List.length_cons] at hl
    have hc : l.length + 1 ≤ capMax := hl
    simp (maxSteps := 1000000) only [go_sem, Int.reduceLT, Int.reduceLE, Int.reduceToNat, Int.reduceEq, Nat.reduceMul, ↓reduceIte, Nat.reduceLT, Nat.reduceLeDiff, Nat.reduceEqDiff, Nat.reduceAdd, Nat.reduceSub, Nat.reduceBEq, reduceCtorEq, ents_cons, En.row]
    repeat' first
      | simp (maxSteps := 1000000) only [go_sem, Int.reduceLT, Int.reduceLE, Int.reduceToNat, Int.reduceEq, Nat.reduceMul, ↓reduceIte, Nat.reduceLT, Nat.reduceLeDiff, Nat.reduceEqDiff, Nat.reduceAdd, Nat.reduceSub, Nat.reduceBEq, reduceCtorEq, *, List.isEmpty_cons, ents_cons, En.row, hc, List.take_length, List.drop_zero]
      | contradiction
      | refine wT ?_ ?_ <;> intro _
      | refine wF ?_ ?_ <;> intro _
      | refine cD ?_ ?_ <;> intro _
      | refine dO (by kernel_rfl) ?_
      | refine Fin.q ?_ ?_
      | refine Fin.qn ?_ ?_
set_option maxRecDepth 20000 in
theorem cCloneO_en (l : List En) (hn : l ≠ []) (hl : l.length ≤ 4294967296) : FC Tryz.prog 88 [.vs (ents l)] [] (.rs 4 0 0 l.length l.length) [ents l] := by
  refine FC.of_run mix Tryz.func88 rfl rfl (by simp [Tryz.ntmps88]) ?_
  rcases l with _ | ⟨a, l⟩
  · exact absurd rfl hn
  · simp only [List.length_cons] at hl
    have hc : l.length + 1 ≤ capMax := hl
    simp (maxSteps := 1000000) only [go_sem, Int.reduceLT, Int.reduceLE, Int.reduceToNat, Int.reduceEq, Nat.reduceMul, ↓reduceIte, Nat.reduceLT, Nat.reduceLeDiff, Nat.reduceEqDiff, Nat.reduceAdd, Nat.reduceSub, Nat.reduceBEq, reduceCtorEq, ents_cons, En.row]
    repeat' first
      | simp (maxSteps := 1000000) only [go_sem, Int.reduceLT, Int.reduceLE, Int.reduceToNat, Int.reduceEq, Nat.reduceMul, ↓reduceIte, Nat.reduceLT, Nat.reduceLeDiff, Nat.reduceEqDiff, Nat.reduceAdd, Nat.reduceSub, Nat.reduceBEq, reduceCtorEq, *, List.isEmpty_cons, ents_cons, En.row, hc, List.take_length, List.drop_zero]
      | contradiction
      | refine wT ?_ ?_ <;> intro _
      | refine wF ?_ ?_ <;> intro _
      | refine cD ?_ ?_ <;> intro _
      | refine dO (by kernel_rfl) ?_
      | refine Fin.qy [1] (by simp) (by simp) ?_ ?_
end TR

/- Orders. -/
open Go Go.Proofs Go.AH
set_option linter.unusedSimpArgs false
set_option linter.unusedVariables false
namespace TR
def cmp3 (x y : Int) : Int := if x < y then -1 else if y < x then 1 else 0
def or2 (x y : Int) : Int := if x = 0 then y else x
set_option maxHeartbeats 2000000 in
set_option maxRecDepth 20000 in
theorem cNaN (x : Int)  : FC Tryz.prog 180 [.int .i64 x] [] (.bool false) [] := by
  refine FC.of_run mix Tryz.func180 rfl rfl (by simp [Tryz.ntmps180]) ?_
  repeat' first
    | simp (maxSteps := 1000000) only [go_sem, Int.reduceLT, Int.reduceLE, Int.reduceToNat, Int.reduceEq, Nat.reduceMul, ↓reduceIte, Nat.reduceLT, Nat.reduceLeDiff, Nat.reduceEqDiff, Nat.reduceAdd, Nat.reduceSub, Nat.reduceBEq, reduceCtorEq, *]
    | contradiction
    | refine wT ?_ ?_ <;> intro _
    | refine wF ?_ ?_ <;> intro _
    | refine cD ?_ ?_ <;> intro _
    | refine dO (by kernel_rfl) ?_
    | refine Fin.q ?_ ?_
    | refine Fin.qn ?_ ?_
set_option maxRecDepth 20000 in
theorem kcNaN {x : Int} {H : Heap} {slot : Nat} {K : D → List (Nat × Blk) → List (Nat × Blk) → Prop} (hK : K (.bool false) [] []) : @callB ⟨callX Tryz.prog⟩ 180 [.int .i64 x] H slot ⟨K⟩ := by
  have he0 : rdOf H (D.idsL [.int .i64 x]) = [] := by simp (maxSteps := 1000000) only [go_sem, Int.reduceLT, Int.reduceLE, Int.reduceToNat, Int.reduceEq, Nat.reduceMul, ↓reduceIte, Nat.reduceLT, Nat.reduceLeDiff, Nat.reduceEqDiff, Nat.reduceAdd, Nat.reduceSub, Nat.reduceBEq, reduceCtorEq]
  refine call0 false (cNaN x ) ?_ ?_ (fun h => nomatch h) (by rw [he0]; exact hK)
  iterate 2 (· simp (maxSteps := 1000000) only [go_sem, Int.reduceLT, Int.reduceLE, Int.reduceToNat, Int.reduceEq, Nat.reduceMul, ↓reduceIte, Nat.reduceLT, Nat.reduceLeDiff, Nat.reduceEqDiff, Nat.reduceAdd, Nat.reduceSub, Nat.reduceBEq, reduceCtorEq])
set_option maxHeartbeats 2000000 in
set_option maxRecDepth 20000 in
theorem cCmp3 (x y : Int)  : FC Tryz.prog 143 [.int .i64 x, .int .i64 y] [] (.int .i64 (cmp3 x y)) [] := by
  refine FC.of_run mix Tryz.func143 rfl rfl (by simp [Tryz.ntmps143]) ?_
  repeat' first
    | simp (maxSteps := 1000000) only [go_sem, Int.reduceLT, Int.reduceLE, Int.reduceToNat, Int.reduceEq, Nat.reduceMul, ↓reduceIte, Nat.reduceLT, Nat.reduceLeDiff, Nat.reduceEqDiff, Nat.reduceAdd, Nat.reduceSub, Nat.reduceBEq, reduceCtorEq, *]
    | contradiction
    | refine wT ?_ ?_ <;> intro _
    | refine wF ?_ ?_ <;> intro _
    | refine cD ?_ ?_ <;> intro _
    | refine dO (by kernel_rfl) ?_
    | refine kcNaN ?_
    | ((first | refine Fin.q ?_ ?_ | refine Fin.qn ?_ ?_) <;> ((try simp (maxSteps := 1000000) only [go_sem, Int.reduceLT, Int.reduceLE, Int.reduceToNat, Int.reduceEq, Nat.reduceMul, ↓reduceIte, Nat.reduceLT, Nat.reduceLeDiff, Nat.reduceEqDiff, Nat.reduceAdd, Nat.reduceSub, Nat.reduceBEq, reduceCtorEq, *]) <;> (first | done | (simp only [Option.some.injEq, D.int.injEq, true_and]; unfold cmp3; (repeat' split) <;> omega))))
set_option maxRecDepth 20000 in
theorem kcCmp3 {x y : Int} {H : Heap} {slot : Nat} {K : D → List (Nat × Blk) → List (Nat × Blk) → Prop} (hK : K (.int .i64 (cmp3 x y)) [] []) : @callB ⟨callX Tryz.prog⟩ 143 [.int .i64 x, .int .i64 y] H slot ⟨K⟩ := by
  have he0 : rdOf H (D.idsL [.int .i64 x, .int .i64 y]) = [] := by simp (maxSteps := 1000000) only [go_sem, Int.reduceLT, Int.reduceLE, Int.reduceToNat, Int.reduceEq, Nat.reduceMul, ↓reduceIte, Nat.reduceLT, Nat.reduceLeDiff, Nat.reduceEqDiff, Nat.reduceAdd, Nat.reduceSub, Nat.reduceBEq, reduceCtorEq]
  refine call0 false (cCmp3 x y ) ?_ ?_ (fun h => nomatch h) (by rw [he0]; exact hK)
  iterate 2 (· simp (maxSteps := 1000000) only [go_sem, Int.reduceLT, Int.reduceLE, Int.reduceToNat, Int.reduceEq, Nat.reduceMul, ↓reduceIte, Nat.reduceLT, Nat.reduceLeDiff, Nat.reduceEqDiff, Nat.reduceAdd, Nat.reduceSub, Nat.reduceBEq, reduceCtorEq])
set_option maxHeartbeats 2000000 in
set_option maxRecDepth 20000 in
theorem cOr (x y : Int)  : FC Tryz.prog 98 [.vs [[.int .i64 x], [.int .i64 y]]] [] (.int .i64 (or2 x y)) [] := by
  refine FC.of_run mix Tryz.func98 rfl rfl (by simp [Tryz.ntmps98]) ?_
  repeat' first
    | simp (maxSteps := 1000000) only [go_sem, Int.reduceLT, Int.reduceLE, Int.reduceToNat, Int.reduceEq, Nat.reduceMul, ↓reduceIte, Nat.reduceLT, Nat.reduceLeDiff, Nat.reduceEqDiff, Nat.reduceAdd, Nat.reduceSub, Nat.reduceBEq, reduceCtorEq, *]
    | contradiction
    | refine wT ?_ ?_ <;> intro _
    | refine wF ?_ ?_ <;> intro _
    | refine cD ?_ ?_ <;> intro _
    | refine dO (by kernel_rfl) ?_
    | refine Fin.q ?_ ?_
    | refine Fin.qn ?_ ?_
  refine AW.loopx (σ := Nat) mix (fun i => ⟨18, [(8, .int .i64 i), (7, .int .i64 2), (6, .vs [[.int .i64 x], [.int .i64 y]]), (3, .int .i64 0)], []⟩) (fun i => i ≤ 2 ∧ (0 < i → x = 0) ∧ (1 < i → y = 0)) (fun i => 2 - i) 0 ⟨by omega, by omega, by omega⟩ (Conv.mk ?_ ?_ ?_ ?_ ?_) ?_
  iterate 5 (· (simp (maxSteps := 1000000) only [go_sem, Int.reduceLT, Int.reduceLE, Int.reduceToNat, Int.reduceEq, Nat.reduceMul, ↓reduceIte, Nat.reduceLT, Nat.reduceLeDiff, Nat.reduceEqDiff, Nat.reduceAdd, Nat.reduceSub, Nat.reduceBEq, reduceCtorEq]) <;> (first | rfl | (simp [ints]; done) | (simp [*]; done) | ((repeat' (first | rfl | apply And.intro)); done)))
  intro i ⟨hi, h0, h1⟩
  have hw := wrap1 (i := i) (by omega)
  have e0 : ((0 : Nat) : Int) = 0 := rfl
  have e1 : ((1 : Nat) : Int) = 1 := rfl
  have e2 : ((2 : Nat) : Int) = 2 := rfl
  have hw0 : IntKind.i64.wrap ((0 : Int) + 1) = 1 := by decide
  have hw1 : IntKind.i64.wrap ((1 : Int) + 1) = 2 := by decide
  rcases (by omega : i = 0 ∨ i = 1 ∨ i = 2) with rfl | rfl | rfl
  · repeat' first
      | simp (maxSteps := 1000000) only [go_sem, Int.reduceLT, Int.reduceLE, Int.reduceToNat, Int.reduceEq, Nat.reduceMul, ↓reduceIte, Nat.reduceLT, Nat.reduceLeDiff, Nat.reduceEqDiff, Nat.reduceAdd, Nat.reduceSub, Nat.reduceBEq, reduceCtorEq, *]
      | contradiction
      | refine wT ?_ ?_ <;> intro _
      | refine wF ?_ ?_ <;> intro _
      | refine cD ?_ ?_ <;> intro _
      | refine dO (by kernel_rfl) ?_
      | (refine ⟨1, ?_, ?_, Conv.mk ?_ ?_ ?_ ?_ ?_⟩; (· (first | omega | (simp only; omega) | (simp only [List.length_nil, List.length_cons]; omega))); (· ((first | exact ⟨by omega, by omega, by omega⟩ | exact ⟨by omega, by omega⟩))))
      | ((first | refine Fin.q ?_ ?_ | refine Fin.qn ?_ ?_) <;> ((try simp (maxSteps := 1000000) only [go_sem, Int.reduceLT, Int.reduceLE, Int.reduceToNat, Int.reduceEq, Nat.reduceMul, ↓reduceIte, Nat.reduceLT, Nat.reduceLeDiff, Nat.reduceEqDiff, Nat.reduceAdd, Nat.reduceSub, Nat.reduceBEq, reduceCtorEq, *]) <;> (first | done | (simp [or2, *]; done))))
  · repeat' first
      | simp (maxSteps := 1000000) only [go_sem, Int.reduceLT, Int.reduceLE, Int.reduceToNat, Int.reduceEq, Nat.reduceMul, ↓reduceIte, Nat.reduceLT, Nat.reduceLeDiff, Nat.reduceEqDiff, Nat.reduceAdd, Nat.reduceSub, Nat.reduceBEq, reduceCtorEq, *]
      | contradiction
      | refine wT ?_ ?_ <;> intro _
      | refine wF ?_ ?_ <;> intro _
      | refine cD ?_ ?_ <;> intro _
      | refine dO (by kernel_rfl) ?_
      | (refine ⟨2, ?_, ?_, Conv.mk ?_ ?_ ?_ ?_ ?_⟩; (· (first | omega | (simp only; omega) | (simp only [List.length_nil, List.length_cons]; omega))); (· ((first | exact ⟨by omega, by omega, by omega⟩ | exact ⟨by omega, by omega⟩))))
      | ((first | refine Fin.q ?_ ?_ | refine Fin.qn ?_ ?_) <;> ((try simp (maxSteps := 1000000) only [go_sem, Int.reduceLT, Int.reduceLE, Int.reduceToNat, Int.reduceEq, Nat.reduceMul, ↓reduceIte, Nat.reduceLT, Nat.reduceLeDiff, Nat.reduceEqDiff, Nat.reduceAdd, Nat.reduceSub, Nat.reduceBEq, reduceCtorEq, *]) <;> (first | done | (simp [or2, *]; done))))
  · repeat' first
      | simp (maxSteps := 1000000) only [go_sem, Int.reduceLT, Int.reduceLE, Int.reduceToNat, Int.reduceEq, Nat.reduceMul, ↓reduceIte, Nat.reduceLT, Nat.reduceLeDiff, Nat.reduceEqDiff, Nat.reduceAdd, Nat.reduceSub, Nat.reduceBEq, reduceCtorEq, *]
      | contradiction
      | refine wT ?_ ?_ <;> intro _
      | refine wF ?_ ?_ <;> intro _
      | refine cD ?_ ?_ <;> intro _
      | refine dO (by kernel_rfl) ?_
      | ((first | refine Fin.q ?_ ?_ | refine Fin.qn ?_ ?_) <;> ((try simp (maxSteps := 1000000) only [go_sem, Int.reduceLT, Int.reduceLE, Int.reduceToNat, Int.reduceEq, Nat.reduceMul, ↓reduceIte, Nat.reduceLT, Nat.reduceLeDiff, Nat.reduceEqDiff, Nat.reduceAdd, Nat.reduceSub, Nat.reduceBEq, reduceCtorEq, *]) <;> (first | done | (simp [or2, *]; done))))
theorem kOr {x y : Int} {s : Nat} {H : Heap} {slot : Nat} {K : D → List (Nat × Blk) → List (Nat × Blk) → Prop} (hH : hget H s = some [[.int .i64 x], [.int .i64 y]]) (hK : K (.int .i64 (or2 x y)) [] [(s, [[.int .i64 x], [.int .i64 y]])]) : @callB ⟨callX Tryz.prog⟩ 98 [.rs 1 s 0 2 2] H slot ⟨K⟩ := by
  have e : rdOf H (D.idsL [.rs 1 s 0 2 2]) = [(s, [[.int .i64 x], [.int .i64 y]])] := by simp [D.idsL, D.ids, rdOf, hH]
  refine call0 true (cOr x y) ?_ rfl (fun _ => rfl) (by rw [e]; exact hK)
  rw [e]
  simp [trL, tr, pos, AH.look, pureB, D.isPur]
set_option maxHeartbeats 2000000 in
set_option maxRecDepth 20000 in
theorem csCmp (a b c d : Int)  : FC Tryz.prog 100 [.agg [.int .i64 a, .int .i64 b], .agg [.int .i64 c, .int .i64 d]] [] (.int .i64 (or2 (cmp3 a c) (cmp3 b d))) [] := by
  refine FC.of_run mix Tryz.func100 rfl rfl (by simp [Tryz.ntmps100]) ?_
  repeat' first
    | simp (maxSteps := 1000000) only [go_sem, Int.reduceLT, Int.reduceLE, Int.reduceToNat, Int.reduceEq, Nat.reduceMul, ↓reduceIte, Nat.reduceLT, Nat.reduceLeDiff, Nat.reduceEqDiff, Nat.reduceAdd, Nat.reduceSub, Nat.reduceBEq, reduceCtorEq, *]
    | contradiction
    | refine wT ?_ ?_ <;> intro _
    | refine wF ?_ ?_ <;> intro _
    | refine cD ?_ ?_ <;> intro _
    | refine dO (by kernel_rfl) ?_
    | refine kcCmp3 ?_
    | refine (kOr rfl) ?_
    | refine Fin.q ?_ ?_
    | refine Fin.qn ?_ ?_
set_option maxRecDepth 20000 in
theorem kcsCmp {a b c d : Int} {H : Heap} {slot : Nat} {K : D → List (Nat × Blk) → List (Nat × Blk) → Prop} (hK : K (.int .i64 (or2 (cmp3 a c) (cmp3 b d))) [] []) : @callB ⟨callX Tryz.prog⟩ 100 [.agg [.int .i64 a, .int .i64 b], .agg [.int .i64 c, .int .i64 d]] H slot ⟨K⟩ := by
  have he0 : rdOf H (D.idsL [.agg [.int .i64 a, .int .i64 b], .agg [.int .i64 c, .int .i64 d]]) = [] := by simp (maxSteps := 1000000) only [go_sem, Int.reduceLT, Int.reduceLE, Int.reduceToNat, Int.reduceEq, Nat.reduceMul, ↓reduceIte, Nat.reduceLT, Nat.reduceLeDiff, Nat.reduceEqDiff, Nat.reduceAdd, Nat.reduceSub, Nat.reduceBEq, reduceCtorEq]
  refine call0 false (csCmp a b c d ) ?_ ?_ (fun h => nomatch h) (by rw [he0]; exact hK)
  iterate 2 (· simp (maxSteps := 1000000) only [go_sem, Int.reduceLT, Int.reduceLE, Int.reduceToNat, Int.reduceEq, Nat.reduceMul, ↓reduceIte, Nat.reduceLT, Nat.reduceLeDiff, Nat.reduceEqDiff, Nat.reduceAdd, Nat.reduceSub, Nat.reduceBEq, reduceCtorEq])
end TR

/- The order of full words, as a number and bit by bit. -/
open Go Go.Proofs Go.AH
set_option linter.unusedSimpArgs false
set_option linter.unusedVariables false
namespace TR
def bitAt (x : Int) (b : Nat) : Int := x / 2 ^ b % 2
theorem bitAt_01 (x : Int) (b : Nat) : 0 ≤ bitAt x b ∧ bitAt x b ≤ 1 := by unfold bitAt; omega
theorem aint_and1 {a : Int} (h0 : 0 ≤ a) (h1 : a < 4611686018427387904) : aint .and .i64 a 1 = some (.int .i64 (a % 2)) := by
  have e : (BitVec.ofInt 64 a &&& BitVec.ofInt 64 1).toNat = (a % 2).toNat := by
    have h2 : (BitVec.ofInt 64 a).toNat = a.toNat := by
      rw [BitVec.toNat_ofInt]
      congr 1
      exact Int.emod_eq_of_lt h0 (by omega)
    rw [BitVec.toNat_and, h2, show (BitVec.ofInt 64 1).toNat = 1 by decide, Nat.and_one_is_mod]
    omega
  have : aint .and .i64 a 1 = some (.int .i64 (IntKind.i64.wrap ((BitVec.ofInt 64 a &&& BitVec.ofInt 64 1).toNat : Int))) := rfl
  rw [this, e, wrapS] <;> first | omega | (congr 2; omega)
attribute [go_sem ↓ high] aint_and1
theorem shr3 (x : Int) {k : Nat} (hk : k < 4) : Int.fdiv x (2 ^ (min (3 - (k : Int)).toNat 64)) = x / 2 ^ (3 - k) := by
  rw [Int.fdiv_eq_ediv_of_nonneg _ (Int.le_of_lt (Int.pow_pos (by decide)))]
  rcases (by omega : k = 0 ∨ k = 1 ∨ k = 2 ∨ k = 3) with rfl | rfl | rfl | rfl <;> rfl
theorem shr_bnd {x : Int} {k : Nat} (h0 : 0 ≤ x) (h1 : x < 16) : 0 ≤ x / 2 ^ k ∧ x / 2 ^ k < 4611686018427387904 := by
  have := Int.ediv_le_self (2 ^ k) h0
  exact ⟨Int.ediv_nonneg h0 (Int.le_of_lt (Int.pow_pos (by decide))), by omega⟩
theorem bit_fold (x : Int) (k : Nat) : x / 2 ^ k % 2 = bitAt x k := rfl
def inn (b : Nat) (s : List Int) : Nat → Int → Int
  | 0, n => n
  | i + 1, n => 2 * inn b s i n + bitAt (s.getD i 0) b
def out (s : List Int) : Nat → Int
  | 0 => 0
  | k + 1 => inn (3 - k) s s.length (out s k)
def shuf (s : List Int) : Int := out s 4
theorem inn_bound (b : Nat) (s : List Int) (n : Int) (h : 0 ≤ n) : ∀ i, 0 ≤ inn b s i n ∧ inn b s i n < 2 ^ i * (n + 1)
  | 0 => by simp [inn]; omega
  | i + 1 => by
    have := inn_bound b s n h i
    have h2 := bitAt_01 (s.getD i 0) b
    have e : (2 : Int) ^ (i + 1) * (n + 1) = 2 * (2 ^ i * (n + 1)) := by rw [Int.pow_succ, Int.mul_comm (2 ^ i) 2, Int.mul_assoc]
    simp only [inn]
    omega
theorem out_bound (s : List Int) (hs : s.length ≤ 8) : ∀ k, 0 ≤ out s k ∧ out s k < 256 ^ k
  | 0 => by simp [out]
  | k + 1 => by
    have h := out_bound s hs k
    have h2 := inn_bound (3 - k) s (out s k) h.1 s.length
    have h3 : (2 : Int) ^ s.length ≤ 256 := by
      rcases (by omega : s.length = 0 ∨ s.length = 1 ∨ s.length = 2 ∨ s.length = 3 ∨ s.length = 4 ∨ s.length = 5 ∨ s.length = 6 ∨ s.length = 7 ∨ s.length = 8) with e | e | e | e | e | e | e | e | e <;> rw [e] <;> decide
    have h4 : (2 : Int) ^ s.length * (out s k + 1) ≤ 256 * (256 ^ k) := Int.mul_le_mul h3 (by omega) (by omega) (by omega)
    refine ⟨h2.1, ?_⟩
    have e : (256 : Int) ^ (k + 1) = 256 * 256 ^ k := by rw [Int.pow_succ, Int.mul_comm]
    rw [e]
    exact Int.lt_of_lt_of_le h2.2 h4
theorem inn_lt {b : Nat} {s t : List Int} {n m : Int} {i : Nat} : ∀ d, inn b s i n < inn b t i m → inn b s (i + d) n < inn b t (i + d) m
  | 0, h => h
  | d + 1, h => by
    have := inn_lt d h
    have h1 := bitAt_01 (s.getD (i + d) 0) b
    have h2 := bitAt_01 (t.getD (i + d) 0) b
    show inn b s (i + d + 1) n < inn b t (i + d + 1) m
    simp only [inn]
    omega
theorem out_lt {s t : List Int} (hl : s.length = t.length) {k : Nat} : ∀ d, out s k < out t k → out s (k + d) < out t (k + d)
  | 0, h => h
  | d + 1, h => by
    have := out_lt hl d h
    show out s (k + d + 1) < out t (k + d + 1)
    simp only [out]
    rw [hl]
    have := inn_lt (b := 3 - (k + d)) (s := s) (t := t) (n := out s (k + d)) (m := out t (k + d)) (i := 0) t.length this
    simpa using this
/-- At the first bit that is another one the order is decided. -/
theorem shuf_lt {s t : List Int} (hl : s.length = t.length) {k i : Nat} (hk : k < 4) (hi : i < s.length) (ho : out s k = out t k) (hn : inn (3 - k) s i (out s k) = inn (3 - k) t i (out t k)) (hb : bitAt (s.getD i 0) (3 - k) < bitAt (t.getD i 0) (3 - k)) : shuf s < shuf t := by
  have h1 : inn (3 - k) s (i + 1) (out s k) < inn (3 - k) t (i + 1) (out t k) := by simp only [inn]; omega
  have h2 := inn_lt (s.length - (i + 1)) h1
  rw [show i + 1 + (s.length - (i + 1)) = s.length by omega] at h2
  have h3 : out s (k + 1) < out t (k + 1) := by simp only [out]; rw [hl] at h2 ⊢; exact h2
  have h4 := out_lt hl (3 - k) h3
  rwa [show k + 1 + (3 - k) = 4 by omega] at h4
def symsOK (s : List Int) : Prop := s.length ≤ 8 ∧ ∀ i, i < s.length → 0 ≤ s.getD i 0 ∧ s.getD i 0 < 16
set_option maxHeartbeats 2000000 in
set_option maxRecDepth 20000 in
theorem cshuf (w : Wd) (hs : symsOK w.s) : FC Tryz.prog 144 [.agg w.row] [] (.int .i64 (shuf w.s)) [] := by
  refine FC.of_run mix Tryz.func144 rfl rfl (by simp [Tryz.ntmps144]) ?_
  obtain ⟨h8, hs⟩ := hs
  repeat' first
    | simp (maxSteps := 1000000) only [go_sem, Int.reduceLT, Int.reduceLE, Int.reduceToNat, Int.reduceEq, Nat.reduceMul, ↓reduceIte, Nat.reduceLT, Nat.reduceLeDiff, Nat.reduceEqDiff, Nat.reduceAdd, Nat.reduceSub, Nat.reduceBEq, reduceCtorEq, *]
    | contradiction
    | refine wT ?_ ?_ <;> intro _
    | refine wF ?_ ?_ <;> intro _
    | refine cD ?_ ?_ <;> intro _
    | refine dO (by kernel_rfl) ?_
    | refine Fin.q ?_ ?_
    | refine Fin.qn ?_ ?_
  refine AW.loopx (σ := Nat) mix (fun k => ⟨27, [(4, .int .i64 (3 - (k : Int))), (3, .int .i64 (out w.s k)), (1, .ptr 0 1 0 0)], [some [w.row]]⟩) (fun k => k ≤ 4) (fun k => 4 - k) 0 (by omega) (Conv.mk ?_ ?_ ?_ ?_ ?_) ?_
  iterate 5 (· (simp (maxSteps := 1000000) only [go_sem, Int.reduceLT, Int.reduceLE, Int.reduceToNat, Int.reduceEq, Nat.reduceMul, ↓reduceIte, Nat.reduceLT, Nat.reduceLeDiff, Nat.reduceEqDiff, Nat.reduceAdd, Nat.reduceSub, Nat.reduceBEq, reduceCtorEq]) <;> (first | rfl | (simp [ints]; done) | (simp [*]; done) | ((repeat' (first | rfl | apply And.intro)); done)))
  intro k hk
  have ho := out_bound w.s h8 k
  have ho4 : (256 : Int) ^ k ≤ 256 ^ 4 := by
    rcases (by omega : k = 0 ∨ k = 1 ∨ k = 2 ∨ k = 3 ∨ k = 4) with rfl | rfl | rfl | rfl | rfl <;> decide
  by_cases h : k < 4
  · have hc : (0 ≤ 3 - (k : Int)) = True := by simp only [eq_iff_iff, iff_true]; omega
    repeat' first
      | simp (maxSteps := 1000000) only [go_sem, Int.reduceLT, Int.reduceLE, Int.reduceToNat, Int.reduceEq, Nat.reduceMul, ↓reduceIte, Nat.reduceLT, Nat.reduceLeDiff, Nat.reduceEqDiff, Nat.reduceAdd, Nat.reduceSub, Nat.reduceBEq, reduceCtorEq, *]
      | contradiction
      | refine wT ?_ ?_ <;> intro _
      | refine wF ?_ ?_ <;> intro _
      | refine cD ?_ ?_ <;> intro _
      | refine dO (by kernel_rfl) ?_
      | refine Fin.q ?_ ?_
      | refine Fin.qn ?_ ?_
    refine AW.loopx (σ := Nat) mix (fun i => ⟨27, [(14, .int .i64 i), (13, .int .i64 w.s.length), (12, V w.s), (4, .int .i64 (3 - (k : Int))), (3, .int .i64 (inn (3 - k) w.s i (out w.s k))), (1, .ptr 0 1 0 0)], [some [w.row]]⟩) (fun i => i ≤ w.s.length) (fun i => w.s.length - i) 0 (by omega) (Conv.mk ?_ ?_ ?_ ?_ ?_) ?_
    iterate 5 (· (simp (maxSteps := 1000000) only [go_sem, Int.reduceLT, Int.reduceLE, Int.reduceToNat, Int.reduceEq, Nat.reduceMul, ↓reduceIte, Nat.reduceLT, Nat.reduceLeDiff, Nat.reduceEqDiff, Nat.reduceAdd, Nat.reduceSub, Nat.reduceBEq, reduceCtorEq, inn]) <;> (first | rfl | (simp [ints]; done) | (simp [*]; done) | ((repeat' (first | rfl | apply And.intro)); done)))
    intro i hi
    have hw := wrap1 (i := i) (by omega)
    by_cases g : i < w.s.length
    · have hx := ints_get g
      have hb := inn_bound (3 - k) w.s (out w.s k) ho.1 i
      have h01 := bitAt_01 (w.s.getD i 0) (3 - k)
      have hbr := shr3 (w.s.getD i 0) h
      obtain ⟨hd0, hd1⟩ := shr_bnd (k := 3 - k) (hs i g).1 (hs i g).2
      have hn : (3 - (k : Int) < 0) = False := by simp only [eq_iff_iff, iff_false]; omega
      have h2 : (2 : Int) ^ i ≤ 256 := by
        rcases (by omega : i = 0 ∨ i = 1 ∨ i = 2 ∨ i = 3 ∨ i = 4 ∨ i = 5 ∨ i = 6 ∨ i = 7) with e | e | e | e | e | e | e | e <;> rw [e] <;> decide
      have h4 : (2 : Int) ^ i * (out w.s k + 1) ≤ 256 * (256 ^ 4) := Int.mul_le_mul h2 (by omega) (by omega) (by omega)
      have h5 : inn (3 - k) w.s i (out w.s k) < 256 * 256 ^ 4 := Int.lt_of_lt_of_le hb.2 h4
      have h6 : (256 : Int) * 256 ^ 4 = 1099511627776 := by decide
      rw [h6] at h5
      have hb1 := hb.1
      have hw1 : IntKind.i64.wrap (2 * inn (3 - k) w.s i (out w.s k)) = 2 * inn (3 - k) w.s i (out w.s k) := by rw [wrapS] <;> omega
      have hw2 : IntKind.i64.wrap (2 * inn (3 - k) w.s i (out w.s k) + bitAt (w.s.getD i 0) (3 - k)) = inn (3 - k) w.s (i + 1) (out w.s k) := by rw [wrapS] <;> (try simp only [inn]) <;> omega
      clear hb h01 h2 h4 h5 h6 hb1 ho ho4 hs h8
      repeat' first
        | simp (maxSteps := 1000000) only [go_sem, Int.reduceLT, Int.reduceLE, Int.reduceToNat, Int.reduceEq, Nat.reduceMul, ↓reduceIte, Nat.reduceLT, Nat.reduceLeDiff, Nat.reduceEqDiff, Nat.reduceAdd, Nat.reduceSub, Nat.reduceBEq, reduceCtorEq, *, bit_fold]
        | contradiction
        | refine wT ?_ ?_ <;> intro _
        | refine wF ?_ ?_ <;> intro _
        | refine cD ?_ ?_ <;> intro _
        | refine dO (by kernel_rfl) ?_
        | (refine ⟨i + 1, ?_, ?_, Conv.mk ?_ ?_ ?_ ?_ ?_⟩; (· (first | omega | (simp only; omega) | (simp only [List.length_nil, List.length_cons]; omega))); (· (omega)))
        | refine Fin.q ?_ ?_
        | refine Fin.qn ?_ ?_
    · obtain rfl : i = w.s.length := by omega
      have hw3 : IntKind.i64.wrap (3 - (k : Int) - 1) = 3 - ((k + 1 : Nat) : Int) := by rw [wrapS] <;> omega
      clear ho ho4 hs h8 hc
      repeat' first
        | simp (maxSteps := 1000000) only [go_sem, Int.reduceLT, Int.reduceLE, Int.reduceToNat, Int.reduceEq, Nat.reduceMul, ↓reduceIte, Nat.reduceLT, Nat.reduceLeDiff, Nat.reduceEqDiff, Nat.reduceAdd, Nat.reduceSub, Nat.reduceBEq, reduceCtorEq, *, out]
        | contradiction
        | refine wT ?_ ?_ <;> intro _
        | refine wF ?_ ?_ <;> intro _
        | refine cD ?_ ?_ <;> intro _
        | refine dO (by kernel_rfl) ?_
        | (refine ⟨k + 1, ?_, ?_, Conv.mk ?_ ?_ ?_ ?_ ?_⟩; (· (first | omega | (simp only; omega) | (simp only [List.length_nil, List.length_cons]; omega))); (· (omega)))
        | refine Fin.q ?_ ?_
        | refine Fin.qn ?_ ?_
  · obtain rfl : k = 4 := by omega
    have hc : (0 ≤ 3 - ((4 : Nat) : Int)) = False := by simp only [eq_iff_iff, iff_false]; omega
    clear ho ho4 hs h8
    repeat' first
      | simp (maxSteps := 1000000) only [go_sem, Int.reduceLT, Int.reduceLE, Int.reduceToNat, Int.reduceEq, Nat.reduceMul, ↓reduceIte, Nat.reduceLT, Nat.reduceLeDiff, Nat.reduceEqDiff, Nat.reduceAdd, Nat.reduceSub, Nat.reduceBEq, reduceCtorEq, *]
      | contradiction
      | refine wT ?_ ?_ <;> intro _
      | refine wF ?_ ?_ <;> intro _
      | refine cD ?_ ?_ <;> intro _
      | refine dO (by kernel_rfl) ?_
      | ((first | refine Fin.q ?_ ?_ | refine Fin.qn ?_ ?_) <;> ((try simp (maxSteps := 1000000) only [go_sem, Int.reduceLT, Int.reduceLE, Int.reduceToNat, Int.reduceEq, Nat.reduceMul, ↓reduceIte, Nat.reduceLT, Nat.reduceLeDiff, Nat.reduceEqDiff, Nat.reduceAdd, Nat.reduceSub, Nat.reduceBEq, reduceCtorEq, *]) <;> (first | done | rfl)))
set_option maxRecDepth 20000 in
theorem kcshuf {w : Wd} {H : Heap} {slot : Nat} {K : D → List (Nat × Blk) → List (Nat × Blk) → Prop} (hK : K (.int .i64 (shuf w.s)) [] []) (hs : symsOK w.s := by first | assumption | omega) : @callB ⟨callX Tryz.prog⟩ 144 [.agg w.row] H slot ⟨K⟩ := by
  have he0 : rdOf H (D.idsL [.agg w.row]) = [] := by simp (maxSteps := 1000000) only [go_sem, Int.reduceLT, Int.reduceLE, Int.reduceToNat, Int.reduceEq, Nat.reduceMul, ↓reduceIte, Nat.reduceLT, Nat.reduceLeDiff, Nat.reduceEqDiff, Nat.reduceAdd, Nat.reduceSub, Nat.reduceBEq, reduceCtorEq]
  refine call0 false (cshuf w hs) ?_ ?_ (fun h => nomatch h) (by rw [he0]; exact hK)
  iterate 2 (· simp (maxSteps := 1000000) only [go_sem, Int.reduceLT, Int.reduceLE, Int.reduceToNat, Int.reduceEq, Nat.reduceMul, ↓reduceIte, Nat.reduceLT, Nat.reduceLeDiff, Nat.reduceEqDiff, Nat.reduceAdd, Nat.reduceSub, Nat.reduceBEq, reduceCtorEq])
end TR


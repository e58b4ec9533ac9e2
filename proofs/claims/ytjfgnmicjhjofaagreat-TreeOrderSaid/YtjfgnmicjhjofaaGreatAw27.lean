/- The calls of a closed function, run one by one, and what each comes to. -/
import Derived.Test.YtjfgnmicjhjofaaGreatProg
import Derived.Test.YtjfgnmicjhjofaaGreatAhZ
import Derived.Test.YtjfgnmicjhjofaaGreatTe
set_option linter.unusedSimpArgs false
open Go Go.Proofs Go.AH
set_option linter.unusedVariables false
namespace Go.AH.Aw
def refsL : List (Nat × List Nat) := [(52, [0]), (53, [0]), (103, [2])]
def keepL : List Nat := [10, 40, 43, 51, 52, 53, 67, 81, 93, 103]
def W : FuncId → Way := fun f => ⟨((refsL.find? fun p => p.1 == f).map (·.2)).getD [], keepL.contains f, fun _ => f == 9⟩
def i (n : Int) : D := .int .i64 n
theorem mix : Tryz.prog.follows .mixedOrders = true := by kernel_rfl
def n1 : En := ⟨22, [.agg [.int .i64 1, .int .i64 0, .int .i64 0, .int .i64 2, .int .i64 1, .vs [[.int .i64 (-3)], [.int .i64 (-2)], [.int .i64 (-1)], [.int .i64 0], [.int .i64 1], [.int .i64 2], [.int .i64 3], [.int .i64 4]]], .int .i64 2], [], .tup [.agg [.int .i64 1, .int .i64 0, .int .i64 0, .int .i64 2, .int .i64 1, .vs [[.int .i64 (-3)], [.int .i64 (-2)], [.int .i64 (-1)], [.int .i64 0], [.int .i64 1], [.int .i64 2], [.int .i64 3], [.int .i64 4]], .int .i64 2, .vs [[.vs [[.int .i64 0]], .vs [[.int .i64 0]], .int .i64 0, .int .i64 (-1), .int .i64 (-1), .vs []]]], .int .i64 0], []⟩
def n2 : En := ⟨33, [.agg [.int .i64 1, .int .i64 0, .int .i64 0, .int .i64 2, .int .i64 1, .vs [[.int .i64 (-3)], [.int .i64 (-2)], [.int .i64 (-1)], [.int .i64 0], [.int .i64 1], [.int .i64 2], [.int .i64 3], [.int .i64 4]], .int .i64 2, .vs [[.vs [[.int .i64 0]], .vs [[.int .i64 0]], .int .i64 0, .int .i64 (-1), .int .i64 (-1), .vs []]]]], [], .int .i64 0, []⟩
def T0 : List En := [n1, n2]
theorem s0 : TabOK Tryz.prog T0 := fun e he => by
  rcases List.mem_cons.1 he with rfl | he
  · exact TR.base1
  · rcases List.mem_cons.1 he with rfl | he
    · exact TR.base2
    · cases he
/- 1314 operations -/
def e1 : En := ⟨66, [.agg [i 1, i 0, i 0, i 2, i 1, .vs [[i (-3)], [i (-2)], [i (-1)], [i 0], [i 1], [i 2], [i 3], [i 4]]], .bs [[i (-4)], [i (-4)]]], [], .tup [.vs [[i (-4)]], i 0], []⟩
def T1 : List En := e1 :: T0
set_option maxRecDepth 100000 in
theorem c1 : funX Tryz.prog (tabP T0) W 100000 60 e1.f e1.args e1.hin = some (e1.r, e1.outs) := by kernel_rfl
theorem s1 : TabOK Tryz.prog T1 := TabOK.run mix s0 c1
/- 1329 operations -/
def e2 : En := ⟨15, [.agg [i 1, i 0, i 0, i 2, i 1, .vs [[i (-3)], [i (-2)], [i (-1)], [i 0], [i 1], [i 2], [i 3], [i 4]]], i 2, .bs [[.vs [[i 0]], .vs [[i 4]], i 0, i 0]]], [], .tup [.agg [i 1, i 0, i 0, i 2, i 1, .vs [[i (-3)], [i (-2)], [i (-1)], [i 0], [i 1], [i 2], [i 3], [i 4]], i 2, .vs [[.vs [[i 0]], .vs [[i 0]], i 0, i (-1), i (-1), .vs [[.vs [[i 0]], .vs [[i 4]], i 0, i 0]]]]], i 0], []⟩
def T2 : List En := e2 :: T1
set_option maxRecDepth 100000 in
theorem c2 : funX Tryz.prog (tabP T1) W 100000 60 e2.f e2.args e2.hin = some (e2.r, e2.outs) := by kernel_rfl
theorem s2 : TabOK Tryz.prog T2 := TabOK.run mix s1 c2
/- 1314 operations -/
def e3 : En := ⟨66, [.agg [i 1, i 0, i 0, i 2, i 1, .vs [[i (-3)], [i (-2)], [i (-1)], [i 0], [i 1], [i 2], [i 3], [i 4]]], .bs [[i 0], [i 0]]], [], .tup [.vs [[i 0]], i 0], []⟩
def T3 : List En := e3 :: T2
set_option maxRecDepth 100000 in
theorem c3 : funX Tryz.prog (tabP T2) W 100000 60 e3.f e3.args e3.hin = some (e3.r, e3.outs) := by kernel_rfl
theorem s3 : TabOK Tryz.prog T3 := TabOK.run mix s2 c3
/- 1195 operations -/
def e4 : En := ⟨33, [.agg [i 1, i 0, i 0, i 2, i 1, .vs [[i (-3)], [i (-2)], [i (-1)], [i 0], [i 1], [i 2], [i 3], [i 4]], i 2, .vs [[.vs [[i 0]], .vs [[i 0]], i 0, i (-1), i (-1), .vs [[.vs [[i 0]], .vs [[i 4]], i 0, i 0]]]]]], [], i 0, []⟩
def T4 : List En := e4 :: T3
set_option maxRecDepth 100000 in
theorem c4 : funX Tryz.prog (tabP T3) W 100000 60 e4.f e4.args e4.hin = some (e4.r, e4.outs) := by kernel_rfl
theorem s4 : TabOK Tryz.prog T4 := TabOK.run mix s3 c4
/- 1062 operations -/
def e5 : En := ⟨119, [.agg [i 1, i 0, i 0, i 2, i 1, .vs [[i (-3)], [i (-2)], [i (-1)], [i 0], [i 1], [i 2], [i 3], [i 4]]], .agg [.vs [[i 0]], .vs [[i 4]]], .agg [.vs [[i 4]], .vs [[i 4]]]], [], i (-1), []⟩
def T5 : List En := e5 :: T4
set_option maxRecDepth 100000 in
theorem c5 : funX Tryz.prog (tabP T4) W 100000 60 e5.f e5.args e5.hin = some (e5.r, e5.outs) := by kernel_rfl
theorem s5 : TabOK Tryz.prog T5 := TabOK.run mix s4 c5
/- 1075 operations -/
def e6 : En := ⟨38, [.agg [i 1, i 0, i 0, i 2, i 1, .vs [[i (-3)], [i (-2)], [i (-1)], [i 0], [i 1], [i 2], [i 3], [i 4]]], .bs [[.vs [[i 0]], .vs [[i 4]], i 0, i 0], [.vs [[i 4]], .vs [[i 4]], i 0, i 1]]], [], .bool true, []⟩
def T6 : List En := e6 :: T5
set_option maxRecDepth 100000 in
theorem c6 : funX Tryz.prog (tabP T5) W 100000 60 e6.f e6.args e6.hin = some (e6.r, e6.outs) := by kernel_rfl
theorem s6 : TabOK Tryz.prog T6 := TabOK.run mix s5 c6
/- 1666 operations -/
def e7 : En := ⟨23, [.agg [i 1, i 0, i 0, i 2, i 1, .vs [[i (-3)], [i (-2)], [i (-1)], [i 0], [i 1], [i 2], [i 3], [i 4]], i 2, .vs [[.vs [[i 0]], .vs [[i 0]], i 0, i (-1), i (-1), .vs [[.vs [[i 0]], .vs [[i 4]], i 0, i 0]]]]], .agg [.vs [[i 4]], .vs [[i 4]], i 0, i 1]], [], .tup [.agg [i 1, i 0, i 0, i 2, i 1, .vs [[i (-3)], [i (-2)], [i (-1)], [i 0], [i 1], [i 2], [i 3], [i 4]], i 2, .vs [[.vs [[i 0]], .vs [[i 0]], i 0, i (-1), i (-1), .vs [[.vs [[i 0]], .vs [[i 4]], i 0, i 0], [.vs [[i 4]], .vs [[i 4]], i 0, i 1]]]]], i 0], []⟩
def T7 : List En := e7 :: T6
set_option maxRecDepth 100000 in
theorem c7 : funX Tryz.prog (tabP T6) W 100000 60 e7.f e7.args e7.hin = some (e7.r, e7.outs) := by kernel_rfl
theorem s7 : TabOK Tryz.prog T7 := TabOK.run mix s6 c7
/- 1314 operations -/
def e8 : En := ⟨66, [.agg [i 1, i 0, i 0, i 2, i 1, .vs [[i (-3)], [i (-2)], [i (-1)], [i 0], [i 1], [i 2], [i 3], [i 4]]], .bs [[i 4], [i 4]]], [], .tup [.vs [[i 4]], i 0], []⟩
def T8 : List En := e8 :: T7
set_option maxRecDepth 100000 in
theorem c8 : funX Tryz.prog (tabP T7) W 100000 60 e8.f e8.args e8.hin = some (e8.r, e8.outs) := by kernel_rfl
theorem s8 : TabOK Tryz.prog T8 := TabOK.run mix s7 c8
/- 935 operations -/
def e9 : En := ⟨115, [.bs [[.vs [[i 0]], .vs [[i 4]], i 0, i 0], [.vs [[i 4]], .vs [[i 4]], i 0, i 1]], .fn 69 [.ptr 0 1 0 0]], [[[i 1, i 0, i 0, i 2, i 1, .vs [[i (-3)], [i (-2)], [i (-1)], [i 0], [i 1], [i 2], [i 3], [i 4]], i 2, .vs [[.vs [[i 0]], .vs [[i 0]], i 0, i (-1), i (-1), .vs [[.vs [[i 0]], .vs [[i 4]], i 0, i 0], [.vs [[i 4]], .vs [[i 4]], i 0, i 1]]]]]]], i (-1), [[[i 1, i 0, i 0, i 2, i 1, .vs [[i (-3)], [i (-2)], [i (-1)], [i 0], [i 1], [i 2], [i 3], [i 4]], i 2, .vs [[.vs [[i 0]], .vs [[i 0]], i 0, i (-1), i (-1), .vs [[.vs [[i 0]], .vs [[i 4]], i 0, i 0], [.vs [[i 4]], .vs [[i 4]], i 0, i 1]]]]]]]⟩
def T9 : List En := e9 :: T8
set_option maxRecDepth 100000 in
theorem c9 : funX Tryz.prog (tabP T8) W 100000 60 e9.f e9.args e9.hin = some (e9.r, e9.outs) := by kernel_rfl
theorem s9 : TabOK Tryz.prog T9 := TabOK.run mix s8 c9
/- 1065 operations -/
def e10 : En := ⟨119, [.agg [i 1, i 0, i 0, i 2, i 1, .vs [[i (-3)], [i (-2)], [i (-1)], [i 0], [i 1], [i 2], [i 3], [i 4]]], .agg [.vs [[i 4]], .vs [[i 4]]], .agg [.vs [[i 0]], .vs [[i 4]]]], [], i 1, []⟩
def T10 : List En := e10 :: T9
set_option maxRecDepth 100000 in
theorem c10 : funX Tryz.prog (tabP T9) W 100000 60 e10.f e10.args e10.hin = some (e10.r, e10.outs) := by kernel_rfl
theorem s10 : TabOK Tryz.prog T10 := TabOK.run mix s9 c10
/- 1879 operations -/
def e11 : En := ⟨33, [.agg [i 1, i 0, i 0, i 2, i 1, .vs [[i (-3)], [i (-2)], [i (-1)], [i 0], [i 1], [i 2], [i 3], [i 4]], i 2, .vs [[.vs [[i 0]], .vs [[i 0]], i 0, i (-1), i (-1), .vs [[.vs [[i 0]], .vs [[i 4]], i 0, i 0], [.vs [[i 4]], .vs [[i 4]], i 0, i 1]]]]]], [], i 0, []⟩
def T11 : List En := e11 :: T10
set_option maxRecDepth 100000 in
theorem c11 : funX Tryz.prog (tabP T10) W 100000 60 e11.f e11.args e11.hin = some (e11.r, e11.outs) := by kernel_rfl
theorem s11 : TabOK Tryz.prog T11 := TabOK.run mix s10 c11
/- 1062 operations -/
def e12 : En := ⟨119, [.agg [i 1, i 0, i 0, i 2, i 1, .vs [[i (-3)], [i (-2)], [i (-1)], [i 0], [i 1], [i 2], [i 3], [i 4]]], .agg [.vs [[i 4]], .vs [[i 4]]], .agg [.vs [[i 8]], .vs [[i 4]]]], [], i (-1), []⟩
def T12 : List En := e12 :: T11
set_option maxRecDepth 100000 in
theorem c12 : funX Tryz.prog (tabP T11) W 100000 60 e12.f e12.args e12.hin = some (e12.r, e12.outs) := by kernel_rfl
theorem s12 : TabOK Tryz.prog T12 := TabOK.run mix s11 c12
/- 1678 operations -/
def e13 : En := ⟨38, [.agg [i 1, i 0, i 0, i 2, i 1, .vs [[i (-3)], [i (-2)], [i (-1)], [i 0], [i 1], [i 2], [i 3], [i 4]]], .bs [[.vs [[i 0]], .vs [[i 4]], i 0, i 0], [.vs [[i 4]], .vs [[i 4]], i 0, i 1], [.vs [[i 8]], .vs [[i 4]], i 0, i 2]]], [], .bool true, []⟩
def T13 : List En := e13 :: T12
set_option maxRecDepth 100000 in
theorem c13 : funX Tryz.prog (tabP T12) W 100000 60 e13.f e13.args e13.hin = some (e13.r, e13.outs) := by kernel_rfl
theorem s13 : TabOK Tryz.prog T13 := TabOK.run mix s12 c13
/- 4351 operations -/
def e14 : En := ⟨40, [.ptr 0 1 0 0, .agg [.vs [[i 0]], .vs [[i 0]]], .bs [[.vs [[i 0]], .vs [[i 4]], i 0, i 0], [.vs [[i 4]], .vs [[i 4]], i 0, i 1], [.vs [[i 8]], .vs [[i 4]], i 0, i 2]]], [[[i 1, i 0, i 0, i 2, i 1, .vs [[i (-3)], [i (-2)], [i (-1)], [i 0], [i 1], [i 2], [i 3], [i 4]], i 2, .zs]]], i 0, [[[i 1, i 0, i 0, i 2, i 1, .vs [[i (-3)], [i (-2)], [i (-1)], [i 0], [i 1], [i 2], [i 3], [i 4]], i 2, .rs 6 1 0 3 3]], [[.vs [[i 0]], .vs [[i 0]], i 0, i 1, i 2, .zs], [.vs [[i 0]], .vs [[i 1]], i 0, i (-1), i (-1), .vs [[.vs [[i 0]], .vs [[i 4]], i 0, i 0], [.vs [[i 4]], .vs [[i 4]], i 0, i 1]]], [.vs [[i 1]], .vs [[i 1]], i 0, i (-1), i (-1), .vs [[.vs [[i 8]], .vs [[i 4]], i 0, i 2]]]]]⟩
def T14 : List En := e14 :: T13
set_option maxRecDepth 100000 in
theorem c14 : funX Tryz.prog (tabP T13) W 100000 60 e14.f e14.args e14.hin = some (e14.r, e14.outs) := by kernel_rfl
theorem s14 : TabOK Tryz.prog T14 := TabOK.run mix s13 c14
/- 1634 operations -/
def e15 : En := ⟨23, [.agg [i 1, i 0, i 0, i 2, i 1, .vs [[i (-3)], [i (-2)], [i (-1)], [i 0], [i 1], [i 2], [i 3], [i 4]], i 2, .vs [[.vs [[i 0]], .vs [[i 0]], i 0, i (-1), i (-1), .vs [[.vs [[i 0]], .vs [[i 4]], i 0, i 0], [.vs [[i 4]], .vs [[i 4]], i 0, i 1]]]]], .agg [.vs [[i 8]], .vs [[i 4]], i 0, i 2]], [], .tup [.agg [i 1, i 0, i 0, i 2, i 1, .vs [[i (-3)], [i (-2)], [i (-1)], [i 0], [i 1], [i 2], [i 3], [i 4]], i 2, .vs [[.vs [[i 0]], .vs [[i 0]], i 0, i 1, i 2, .zs], [.vs [[i 0]], .vs [[i 1]], i 0, i (-1), i (-1), .vs [[.vs [[i 0]], .vs [[i 4]], i 0, i 0], [.vs [[i 4]], .vs [[i 4]], i 0, i 1]]], [.vs [[i 1]], .vs [[i 1]], i 0, i (-1), i (-1), .vs [[.vs [[i 8]], .vs [[i 4]], i 0, i 2]]]]], i 0], []⟩
def T15 : List En := e15 :: T14
set_option maxRecDepth 100000 in
theorem c15 : funX Tryz.prog (tabP T14) W 100000 60 e15.f e15.args e15.hin = some (e15.r, e15.outs) := by kernel_rfl
theorem s15 : TabOK Tryz.prog T15 := TabOK.run mix s14 c15
/- 1399 operations -/
def e16 : En := ⟨115, [.bs [[.vs [[i 0]], .vs [[i 4]], i 0, i 0], [.vs [[i 4]], .vs [[i 4]], i 0, i 1], [.vs [[i 8]], .vs [[i 4]], i 0, i 2]], .fn 69 [.ptr 0 1 0 0]], [[[i 1, i 0, i 0, i 2, i 1, .vs [[i (-3)], [i (-2)], [i (-1)], [i 0], [i 1], [i 2], [i 3], [i 4]], i 2, .vs [[.vs [[i 0]], .vs [[i 0]], i 0, i 1, i 2, .zs], [.vs [[i 0]], .vs [[i 1]], i 0, i (-1), i (-1), .vs [[.vs [[i 0]], .vs [[i 4]], i 0, i 0], [.vs [[i 4]], .vs [[i 4]], i 0, i 1]]], [.vs [[i 1]], .vs [[i 1]], i 0, i (-1), i (-1), .vs [[.vs [[i 8]], .vs [[i 4]], i 0, i 2]]]]]]], i (-1), [[[i 1, i 0, i 0, i 2, i 1, .vs [[i (-3)], [i (-2)], [i (-1)], [i 0], [i 1], [i 2], [i 3], [i 4]], i 2, .vs [[.vs [[i 0]], .vs [[i 0]], i 0, i 1, i 2, .zs], [.vs [[i 0]], .vs [[i 1]], i 0, i (-1), i (-1), .vs [[.vs [[i 0]], .vs [[i 4]], i 0, i 0], [.vs [[i 4]], .vs [[i 4]], i 0, i 1]]], [.vs [[i 1]], .vs [[i 1]], i 0, i (-1), i (-1), .vs [[.vs [[i 8]], .vs [[i 4]], i 0, i 2]]]]]]]⟩
def T16 : List En := e16 :: T15
set_option maxRecDepth 100000 in
theorem c16 : funX Tryz.prog (tabP T15) W 100000 60 e16.f e16.args e16.hin = some (e16.r, e16.outs) := by kernel_rfl
theorem s16 : TabOK Tryz.prog T16 := TabOK.run mix s15 c16
/- 1065 operations -/
def e17 : En := ⟨119, [.agg [i 1, i 0, i 0, i 2, i 1, .vs [[i (-3)], [i (-2)], [i (-1)], [i 0], [i 1], [i 2], [i 3], [i 4]]], .agg [.vs [[i 8]], .vs [[i 4]]], .agg [.vs [[i 4]], .vs [[i 4]]]], [], i 1, []⟩
def T17 : List En := e17 :: T16
set_option maxRecDepth 100000 in
theorem c17 : funX Tryz.prog (tabP T16) W 100000 60 e17.f e17.args e17.hin = some (e17.r, e17.outs) := by kernel_rfl
theorem s17 : TabOK Tryz.prog T17 := TabOK.run mix s16 c17
/- 2251 operations -/
def e18 : En := ⟨33, [.agg [i 1, i 0, i 0, i 2, i 1, .vs [[i (-3)], [i (-2)], [i (-1)], [i 0], [i 1], [i 2], [i 3], [i 4]], i 2, .vs [[.vs [[i 0]], .vs [[i 0]], i 0, i 1, i 2, .zs], [.vs [[i 0]], .vs [[i 1]], i 0, i (-1), i (-1), .vs [[.vs [[i 0]], .vs [[i 4]], i 0, i 0], [.vs [[i 4]], .vs [[i 4]], i 0, i 1]]], [.vs [[i 1]], .vs [[i 1]], i 0, i (-1), i (-1), .vs [[.vs [[i 8]], .vs [[i 4]], i 0, i 2]]]]]], [], i 0, []⟩
def T18 : List En := e18 :: T17
set_option maxRecDepth 100000 in
theorem c18 : funX Tryz.prog (tabP T17) W 100000 60 e18.f e18.args e18.hin = some (e18.r, e18.outs) := by kernel_rfl
theorem s18 : TabOK Tryz.prog T18 := TabOK.run mix s17 c18
/- 1541 operations -/
def e19 : En := ⟨9, [], [], .bool true, []⟩
def T19 : List En := e19 :: T18
set_option maxRecDepth 100000 in
theorem c19 : funX Tryz.prog (tabP T18) W 100000 60 e19.f e19.args e19.hin = some (e19.r, e19.outs) := by kernel_rfl
theorem s19 : TabOK Tryz.prog T19 := TabOK.run mix s18 c19
end Go.AH.Aw

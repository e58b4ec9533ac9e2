/- The calls of a closed function, run one by one, and what each comes to. -/
import Derived.Test.YtcahllecebcfdaaGreatProg
import Derived.Test.YtcahllecebcfdaaGreatAhZ
set_option linter.unusedSimpArgs false
open Go Go.Proofs Go.AH
set_option linter.unusedVariables false
namespace Go.AH.Aw
def refsL : List (Nat × List Nat) := [(21, [3]), (88, [0]), (114, [2]), (122, [0]), (124, [0]), (126, [0, 1]), (133, [0]), (159, [0]), (160, [0]), (161, [0]), (164, [0]), (165, [0]), (166, [0]), (167, [0]), (168, [0]), (169, [0]), (170, [0]), (171, [0]), (213, [0]), (214, [0]), (217, [0]), (218, [0]), (221, [0]), (222, [0]), (254, [0]), (255, [0]), (256, [0]), (277, [0]), (278, [0]), (279, [0]), (280, [0]), (281, [0]), (282, [0]), (283, [0]), (284, [0]), (285, [0]), (294, [0]), (295, [0]), (296, [0]), (297, [0])]
def keepL : List Nat := [16, 35, 42, 63, 64, 78, 83, 114, 122, 123, 126, 129, 138, 146, 160, 215, 224, 225, 252]
def W : FuncId → Way := fun f => ⟨((refsL.find? fun p => p.1 == f).map (·.2)).getD [], keepL.contains f, fun _ => f == 8⟩
def i (n : Int) : D := .int .i64 n
theorem mix : Tryz.prog.follows .mixedOrders = true := by kernel_rfl
def T0 : List En := []
theorem s0 : TabOK Tryz.prog T0 := TabOK.nil _
/- 1055 operations -/
def e1 : En := ⟨149, [.agg [i 1, i 0, i 0, i 2, i 1, .vs [[i 0]]], .vs [[i 0], [i 3]]], [], .tup [.vs [[i 1]], i 0], []⟩
def T1 : List En := e1 :: T0
set_option maxRecDepth 100000 in
theorem c1 : funX Tryz.prog (tabP T0) W 100000 60 e1.f e1.args e1.hin = some (e1.r, e1.outs) := by kernel_rfl
theorem s1 : TabOK Tryz.prog T1 := TabOK.run mix s0 c1
/- 1055 operations -/
def e2 : En := ⟨149, [.agg [i 1, i 0, i 0, i 2, i 1, .vs [[i 0]]], .vs [[i 3], [i 1]]], [], .tup [.vs [[i 2]], i 0], []⟩
def T2 : List En := e2 :: T1
set_option maxRecDepth 100000 in
theorem c2 : funX Tryz.prog (tabP T1) W 100000 60 e2.f e2.args e2.hin = some (e2.r, e2.outs) := by kernel_rfl
theorem s2 : TabOK Tryz.prog T2 := TabOK.run mix s1 c2
/- 1280 operations -/
def e3 : En := ⟨65, [.agg [i 1, i 0, i 0, i 2, i 1, .vs [[i 0]]], .agg [.vs [[.vs [[i 0], [i 3], [i 1]]]]]], [], .tup [.vs [[.vs [[i 1]], .vs [[i 4]], i 0, i 0], [.vs [[i 1]], .vs [[i 4]], i 0, i 1]], i 0], []⟩
def T3 : List En := e3 :: T2
set_option maxRecDepth 100000 in
theorem c3 : funX Tryz.prog (tabP T2) W 100000 60 e3.f e3.args e3.hin = some (e3.r, e3.outs) := by kernel_rfl
theorem s3 : TabOK Tryz.prog T3 := TabOK.run mix s2 c3
/- 1221 operations -/
def e4 : En := ⟨67, [.agg [i 1, i 0, i 0, i 2, i 1, .vs [[i 0]]], .vs [[.vs [[i 1]], .vs [[i 4]], i 0, i 0], [.vs [[i 1]], .vs [[i 4]], i 0, i 1]]], [], .bool true, []⟩
def T4 : List En := e4 :: T3
set_option maxRecDepth 100000 in
theorem c4 : funX Tryz.prog (tabP T3) W 100000 60 e4.f e4.args e4.hin = some (e4.r, e4.outs) := by kernel_rfl
theorem s4 : TabOK Tryz.prog T4 := TabOK.run mix s3 c4
/- 1630 operations -/
def e5 : En := ⟨39, [.agg [i 1, i 0, i 0, i 2, i 1, .vs [[i 0]]], .vs [[.vs [[i 1]], .vs [[i 4]], i 0, i 0], [.vs [[i 1]], .vs [[i 4]], i 0, i 1]], i 16, i 4], [], .tup [.vs [[.vs [[i 1]], .vs [[i 4]], i 0, i 0], [.vs [[i 1]], .vs [[i 4]], i 0, i 1]], .agg [i 1, i 0, i 2], i 0], []⟩
def T5 : List En := e5 :: T4
set_option maxRecDepth 100000 in
theorem c5 : funX Tryz.prog (tabP T4) W 100000 60 e5.f e5.args e5.hin = some (e5.r, e5.outs) := by kernel_rfl
theorem s5 : TabOK Tryz.prog T5 := TabOK.run mix s4 c5
/- 1536 operations -/
def e6 : En := ⟨114, [.agg [i 1, i 0, i 0, i 2, i 1, .bs [[i 0]]], i 1, .rs 6 0 0 3 3, .agg [.vs [[i 0]], .vs [[i 3]]], .bs [[.vs [[i 1]], .vs [[i 4]], i 0, i 0], [.vs [[i 1]], .vs [[i 4]], i 0, i 1]]], [[[.vs [[i 0]], .vs [[i 0]], i 0, i 1, i 0, .zs], [.vs [[i 0]], .vs [[i 1]], i 0, i 2, i 0, .zs], [.vs [[i 0]], .vs [[i 2]], i 0, i 3, i 0, .zs]]], .rs 6 0 0 6 6, [[[.vs [[i 0]], .vs [[i 0]], i 0, i 1, i 0, .zs], [.vs [[i 0]], .vs [[i 1]], i 0, i 2, i 0, .zs], [.vs [[i 0]], .vs [[i 2]], i 0, i 3, i 0, .zs], [.vs [[i 0]], .vs [[i 3]], i 0, i 4, i 5, .zs], [.vs [[i 0]], .vs [[i 4]], i 0, i (-1), i (-1), .zs], [.vs [[i 1]], .vs [[i 4]], i 0, i (-1), i (-1), .vs [[.vs [[i 1]], .vs [[i 4]], i 0, i 0], [.vs [[i 1]], .vs [[i 4]], i 0, i 1]]]]]⟩
def T6 : List En := e6 :: T5
set_option maxRecDepth 100000 in
theorem c6 : funX Tryz.prog (tabP T5) W 100000 60 e6.f e6.args e6.hin = some (e6.r, e6.outs) := by kernel_rfl
theorem s6 : TabOK Tryz.prog T6 := TabOK.run mix s5 c6
/- 1420 operations -/
def e7 : En := ⟨114, [.agg [i 1, i 0, i 0, i 2, i 1, .bs [[i 0]]], i 1, .rs 6 0 0 2 2, .agg [.vs [[i 0]], .vs [[i 2]]], .bs [[.vs [[i 1]], .vs [[i 4]], i 0, i 0], [.vs [[i 1]], .vs [[i 4]], i 0, i 1]]], [[[.vs [[i 0]], .vs [[i 0]], i 0, i 1, i 0, .zs], [.vs [[i 0]], .vs [[i 1]], i 0, i 2, i 0, .zs]]], .rs 6 0 0 7 7, [[[.vs [[i 0]], .vs [[i 0]], i 0, i 1, i 0, .zs], [.vs [[i 0]], .vs [[i 1]], i 0, i 2, i 0, .zs], [.vs [[i 0]], .vs [[i 2]], i 0, i 3, i 6, .zs], [.vs [[i 0]], .vs [[i 3]], i 0, i 4, i 5, .zs], [.vs [[i 0]], .vs [[i 4]], i 0, i (-1), i (-1), .zs], [.vs [[i 1]], .vs [[i 4]], i 0, i (-1), i (-1), .vs [[.vs [[i 1]], .vs [[i 4]], i 0, i 0], [.vs [[i 1]], .vs [[i 4]], i 0, i 1]]], [.vs [[i 1]], .vs [[i 3]], i 0, i (-1), i (-1), .zs]]]⟩
def T7 : List En := e7 :: T6
set_option maxRecDepth 100000 in
theorem c7 : funX Tryz.prog (tabP T6) W 100000 60 e7.f e7.args e7.hin = some (e7.r, e7.outs) := by kernel_rfl
theorem s7 : TabOK Tryz.prog T7 := TabOK.run mix s6 c7
/- 1420 operations -/
def e8 : En := ⟨114, [.agg [i 1, i 0, i 0, i 2, i 1, .bs [[i 0]]], i 1, .rs 6 0 0 1 1, .agg [.vs [[i 0]], .vs [[i 1]]], .bs [[.vs [[i 1]], .vs [[i 4]], i 0, i 0], [.vs [[i 1]], .vs [[i 4]], i 0, i 1]]], [[[.vs [[i 0]], .vs [[i 0]], i 0, i 1, i 0, .zs]]], .rs 6 0 0 8 8, [[[.vs [[i 0]], .vs [[i 0]], i 0, i 1, i 0, .zs], [.vs [[i 0]], .vs [[i 1]], i 0, i 2, i 7, .zs], [.vs [[i 0]], .vs [[i 2]], i 0, i 3, i 6, .zs], [.vs [[i 0]], .vs [[i 3]], i 0, i 4, i 5, .zs], [.vs [[i 0]], .vs [[i 4]], i 0, i (-1), i (-1), .zs], [.vs [[i 1]], .vs [[i 4]], i 0, i (-1), i (-1), .vs [[.vs [[i 1]], .vs [[i 4]], i 0, i 0], [.vs [[i 1]], .vs [[i 4]], i 0, i 1]]], [.vs [[i 1]], .vs [[i 3]], i 0, i (-1), i (-1), .zs], [.vs [[i 1]], .vs [[i 2]], i 0, i (-1), i (-1), .zs]]]⟩
def T8 : List En := e8 :: T7
set_option maxRecDepth 100000 in
theorem c8 : funX Tryz.prog (tabP T7) W 100000 60 e8.f e8.args e8.hin = some (e8.r, e8.outs) := by kernel_rfl
theorem s8 : TabOK Tryz.prog T8 := TabOK.run mix s7 c8
/- 1420 operations -/
def e9 : En := ⟨114, [.agg [i 1, i 0, i 0, i 2, i 1, .bs [[i 0]]], i 1, .zs, .agg [.vs [[i 0]], .vs [[i 0]]], .vs [[.vs [[i 1]], .vs [[i 4]], i 0, i 0], [.vs [[i 1]], .vs [[i 4]], i 0, i 1]]], [], .rs 6 0 0 9 9, [[[.vs [[i 0]], .vs [[i 0]], i 0, i 1, i 8, .zs], [.vs [[i 0]], .vs [[i 1]], i 0, i 2, i 7, .zs], [.vs [[i 0]], .vs [[i 2]], i 0, i 3, i 6, .zs], [.vs [[i 0]], .vs [[i 3]], i 0, i 4, i 5, .zs], [.vs [[i 0]], .vs [[i 4]], i 0, i (-1), i (-1), .zs], [.vs [[i 1]], .vs [[i 4]], i 0, i (-1), i (-1), .vs [[.vs [[i 1]], .vs [[i 4]], i 0, i 0], [.vs [[i 1]], .vs [[i 4]], i 0, i 1]]], [.vs [[i 1]], .vs [[i 3]], i 0, i (-1), i (-1), .zs], [.vs [[i 1]], .vs [[i 2]], i 0, i (-1), i (-1), .zs], [.vs [[i 1]], .vs [[i 1]], i 0, i (-1), i (-1), .zs]]]⟩
def T9 : List En := e9 :: T8
set_option maxRecDepth 100000 in
theorem c9 : funX Tryz.prog (tabP T8) W 100000 60 e9.f e9.args e9.hin = some (e9.r, e9.outs) := by kernel_rfl
theorem s9 : TabOK Tryz.prog T9 := TabOK.run mix s8 c9
/- 1630 operations -/
def e10 : En := ⟨39, [.agg [i 1, i 0, i 0, i 2, i 1, .vs [[i 0]]], .vs [[.vs [[i 1]], .vs [[i 4]], i 0, i 0], [.vs [[i 1]], .vs [[i 4]], i 0, i 1]], i 8, i 2], [], .tup [.vs [[.vs [[i 1]], .vs [[i 4]], i 0, i 0], [.vs [[i 1]], .vs [[i 4]], i 0, i 1]], .agg [i 1, i 0, i 2], i 0], []⟩
def T10 : List En := e10 :: T9
set_option maxRecDepth 100000 in
theorem c10 : funX Tryz.prog (tabP T9) W 100000 60 e10.f e10.args e10.hin = some (e10.r, e10.outs) := by kernel_rfl
theorem s10 : TabOK Tryz.prog T10 := TabOK.run mix s9 c10
/- 1364 operations -/
def e11 : En := ⟨136, [.agg [i 1, i 0, i 0, i 2, i 1, .vs [[i 0]]], .bs [[.vs [[i 1]], .vs [[i 4]], i 0, i 0], [.vs [[i 1]], .vs [[i 4]], i 0, i 1]]], [], .bool true, []⟩
def T11 : List En := e11 :: T10
set_option maxRecDepth 100000 in
theorem c11 : funX Tryz.prog (tabP T10) W 100000 60 e11.f e11.args e11.hin = some (e11.r, e11.outs) := by kernel_rfl
theorem s11 : TabOK Tryz.prog T11 := TabOK.run mix s10 c11
/- 2514 operations -/
def e12 : En := ⟨58, [.agg [i 1, i 0, i 0, i 2, i 1, .vs [[i 0]], i 4, .vs [[.vs [[i 0]], .vs [[i 0]], i 0, i (-1), i (-1), .vs [[.vs [[i 1]], .vs [[i 4]], i 0, i 0], [.vs [[i 1]], .vs [[i 4]], i 0, i 1]]]]]], [], i 0, []⟩
def T12 : List En := e12 :: T11
set_option maxRecDepth 100000 in
theorem c12 : funX Tryz.prog (tabP T11) W 100000 60 e12.f e12.args e12.hin = some (e12.r, e12.outs) := by kernel_rfl
theorem s12 : TabOK Tryz.prog T12 := TabOK.run mix s11 c12
/- 2432 operations -/
def e13 : En := ⟨98, [.agg [i 1, i 0, i 0, i 2, i 1, .vs [[i 0]]], .agg [.vs [[.vs [[i 0], [i 3], [i 1]]]]]], [], .tup [.vs [[.vs [[i 1]], .vs [[i 4]], i 0, i 0], [.vs [[i 1]], .vs [[i 4]], i 0, i 1]], i 0], []⟩
def T13 : List En := e13 :: T12
set_option maxRecDepth 100000 in
theorem c13 : funX Tryz.prog (tabP T12) W 100000 60 e13.f e13.args e13.hin = some (e13.r, e13.outs) := by kernel_rfl
theorem s13 : TabOK Tryz.prog T13 := TabOK.run mix s12 c13
/- 1708 operations -/
def e14 : En := ⟨101, [.vs [[.vs [[i 1]], .vs [[i 4]], i 0, i 0], [.vs [[i 1]], .vs [[i 4]], i 0, i 1]], .vs [[.vs [[i 1]], .vs [[i 4]], i 0, i 0], [.vs [[i 1]], .vs [[i 4]], i 0, i 1]], .fn 102 [.ptr 0 1 0 0]], [[[.fn 100 [.ptr 1 1 0 0]]], [[i 1, i 0, i 0, i 2, i 1, .vs [[i 0]], i 4, .vs [[.vs [[i 0]], .vs [[i 0]], i 0, i (-1), i (-1), .vs [[.vs [[i 1]], .vs [[i 4]], i 0, i 0], [.vs [[i 1]], .vs [[i 4]], i 0, i 1]]]]]]], .bool true, [[[.fn 100 [.ptr 1 1 0 0]]], [[i 1, i 0, i 0, i 2, i 1, .vs [[i 0]], i 4, .vs [[.vs [[i 0]], .vs [[i 0]], i 0, i (-1), i (-1), .vs [[.vs [[i 1]], .vs [[i 4]], i 0, i 0], [.vs [[i 1]], .vs [[i 4]], i 0, i 1]]]]]]]⟩
def T14 : List En := e14 :: T13
set_option maxRecDepth 100000 in
theorem c14 : funX Tryz.prog (tabP T13) W 100000 60 e14.f e14.args e14.hin = some (e14.r, e14.outs) := by kernel_rfl
theorem s14 : TabOK Tryz.prog T14 := TabOK.run mix s13 c14
/- 1925 operations -/
def e15 : En := ⟨61, [.agg [i 1, i 0, i 0, i 2, i 1, .vs [[i 0]], i 4, .vs [[.vs [[i 0]], .vs [[i 0]], i 0, i (-1), i (-1), .vs [[.vs [[i 1]], .vs [[i 4]], i 0, i 0], [.vs [[i 1]], .vs [[i 4]], i 0, i 1]]]]], .agg [.vs [[.vs [[i 0], [i 3], [i 1]]]]]], [], .bool true, []⟩
def T15 : List En := e15 :: T14
set_option maxRecDepth 100000 in
theorem c15 : funX Tryz.prog (tabP T14) W 100000 60 e15.f e15.args e15.hin = some (e15.r, e15.outs) := by kernel_rfl
theorem s15 : TabOK Tryz.prog T15 := TabOK.run mix s14 c15
/- 2213 operations -/
def e16 : En := ⟨156, [.agg [i 1, i 0, i 0, i 2, i 1, .vs [[i 0]]], .bs [[i 3], [i 1]], .agg [.vs [[i 0]], .vs [[i 0]]]], [], .tup [.agg [i 0, i 1], i 0], []⟩
def T16 : List En := e16 :: T15
set_option maxRecDepth 100000 in
theorem c16 : funX Tryz.prog (tabP T15) W 100000 60 e16.f e16.args e16.hin = some (e16.r, e16.outs) := by kernel_rfl
theorem s16 : TabOK Tryz.prog T16 := TabOK.run mix s15 c16
/- 1871 operations -/
def e17 : En := ⟨78, [.ptr 0 1 0 0, .bool true], [[[i 1, i 0, i 0, i 2, i 1, .vs [[i 0]], i 4, .vs [[.vs [[i 0]], .vs [[i 0]], i 0, i (-1), i (-1), .vs [[.vs [[i 1]], .vs [[i 4]], i 0, i 0], [.vs [[i 1]], .vs [[i 4]], i 0, i 1]]]], i 1, i 0, i 0, .vs [[i 3], [i 1]], .fn 105 [.ptr 1 1 0 0, .ptr 2 1 0 0, .ptr 3 1 0 0], i 1, .nils, .vs [[i 0, i 0, i 1]], .zs, i 0, .zs]], [[.vs [[.vs [[i 0], [i 3], [i 1]]]]]], [[.vs [[i 3], [i 1]]]], [[i 1, i 0, i 0]]], .bool true, [[[i 1, i 0, i 0, i 2, i 1, .vs [[i 0]], i 4, .vs [[.vs [[i 0]], .vs [[i 0]], i 0, i (-1), i (-1), .vs [[.vs [[i 1]], .vs [[i 4]], i 0, i 0], [.vs [[i 1]], .vs [[i 4]], i 0, i 1]]]], i 1, i 0, i 0, .vs [[i 3], [i 1]], .fn 105 [.ptr 1 1 0 0, .ptr 2 1 0 0, .ptr 3 1 0 0], i 1, .rs 4 4 0 1 2, .rs 3 5 0 0 1, .rs 1 6 0 1 1, i 2, .vs [[i 2]]]], [[.vs [[.vs [[i 0], [i 3], [i 1]]]]]], [[.vs [[i 3], [i 1]]]], [[i 1, i 0, i 0]], [[i 0, i 1, i 0, i 1], [i 13, i 1, i 0, i 0]], [[i 0, i 0, i 0]], [[i 0]]]⟩
def T17 : List En := e17 :: T16
set_option maxRecDepth 100000 in
theorem c17 : funX Tryz.prog (tabP T16) W 100000 60 e17.f e17.args e17.hin = some (e17.r, e17.outs) := by kernel_rfl
theorem s17 : TabOK Tryz.prog T17 := TabOK.run mix s16 c17
/- 3001 operations -/
def e18 : En := ⟨8, [], [], .bool true, []⟩
def T18 : List En := e18 :: T17
set_option maxRecDepth 100000 in
theorem c18 : funX Tryz.prog (tabP T17) W 100000 60 e18.f e18.args e18.hin = some (e18.r, e18.outs) := by kernel_rfl
theorem s18 : TabOK Tryz.prog T18 := TabOK.run mix s17 c18
end Go.AH.Aw

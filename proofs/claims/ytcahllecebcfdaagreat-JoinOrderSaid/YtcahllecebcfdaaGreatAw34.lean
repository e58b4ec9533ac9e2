/- The calls of a closed function, run one by one, and what each comes to. -/
import Derived.Test.YtcahllecebcfdaaGreatProg
import Derived.Test.YtcahllecebcfdaaGreatAhZ
set_option linter.unusedSimpArgs false
open Go Go.Proofs Go.AH
set_option linter.unusedVariables false
namespace Go.AH.Aw
def refsL : List (Nat × List Nat) := [(21, [3]), (88, [0]), (114, [2]), (122, [0]), (124, [0]), (126, [0, 1]), (133, [0]), (159, [0]), (160, [0]), (161, [0]), (164, [0]), (165, [0]), (166, [0]), (167, [0]), (168, [0]), (169, [0]), (170, [0]), (171, [0]), (213, [0]), (214, [0]), (217, [0]), (218, [0]), (221, [0]), (222, [0]), (254, [0]), (255, [0]), (256, [0]), (277, [0]), (278, [0]), (279, [0]), (280, [0]), (281, [0]), (282, [0]), (283, [0]), (284, [0]), (285, [0]), (294, [0]), (295, [0]), (296, [0]), (297, [0])]
def keepL : List Nat := [16, 35, 42, 63, 64, 78, 83, 114, 122, 123, 126, 129, 138, 146, 160, 215, 224, 225, 252]
def W : FuncId → Way := fun f => ⟨((refsL.find? fun p => p.1 == f).map (·.2)).getD [], keepL.contains f, fun _ => f == 7⟩
def i (n : Int) : D := .int .i64 n
theorem mix : Tryz.prog.follows .mixedOrders = true := by kernel_rfl
def T0 : List En := []
theorem s0 : TabOK Tryz.prog T0 := TabOK.nil _
/- 1055 operations -/
def e1 : En := ⟨149, [.agg [i 1, i 0, i 0, i 2, i 1, .vs [[i 0]]], .vs [[i 0], [i 3]]], [], .tup [.vs [[i 1]], i 0], []⟩
def T1 : List En := e1 :: T0
set_option maxRecDepth 100000 in
theorem c1 : funX Tryz.prog (tabP T0) W 100000 60 e1.f e1.args e1.hin = some (e1.r, e1.outs) := by kernel_rfl
theorem s1 : TabOK Tryz.prog T1 := TabOK.run mix s0 c1
/- 1055 operations -/
def e2 : En := ⟨149, [.agg [i 1, i 0, i 0, i 2, i 1, .vs [[i 0]]], .vs [[i 3], [i 1]]], [], .tup [.vs [[i 2]], i 0], []⟩
def T2 : List En := e2 :: T1
set_option maxRecDepth 100000 in
theorem c2 : funX Tryz.prog (tabP T1) W 100000 60 e2.f e2.args e2.hin = some (e2.r, e2.outs) := by kernel_rfl
theorem s2 : TabOK Tryz.prog T2 := TabOK.run mix s1 c2
/- 1280 operations -/
def e3 : En := ⟨65, [.agg [i 1, i 0, i 0, i 2, i 1, .vs [[i 0]]], .agg [.vs [[.vs [[i 0], [i 3], [i 1]]]]]], [], .tup [.vs [[.vs [[i 1]], .vs [[i 4]], i 0, i 0], [.vs [[i 1]], .vs [[i 4]], i 0, i 1]], i 0], []⟩
def T3 : List En := e3 :: T2
set_option maxRecDepth 100000 in
theorem c3 : funX Tryz.prog (tabP T2) W 100000 60 e3.f e3.args e3.hin = some (e3.r, e3.outs) := by kernel_rfl
theorem s3 : TabOK Tryz.prog T3 := TabOK.run mix s2 c3
/- 1221 operations -/
def e4 : En := ⟨67, [.agg [i 1, i 0, i 0, i 2, i 1, .vs [[i 0]]], .vs [[.vs [[i 1]], .vs [[i 4]], i 0, i 0], [.vs [[i 1]], .vs [[i 4]], i 0, i 1]]], [], .bool true, []⟩
def T4 : List En := e4 :: T3
set_option maxRecDepth 100000 in
theorem c4 : funX Tryz.prog (tabP T3) W 100000 60 e4.f e4.args e4.hin = some (e4.r, e4.outs) := by kernel_rfl
theorem s4 : TabOK Tryz.prog T4 := TabOK.run mix s3 c4
/- 1630 operations -/
def e5 : En := ⟨39, [.agg [i 1, i 0, i 0, i 2, i 1, .vs [[i 0]]], .vs [[.vs [[i 1]], .vs [[i 4]], i 0, i 0], [.vs [[i 1]], .vs [[i 4]], i 0, i 1]], i 16, i 4], [], .tup [.vs [[.vs [[i 1]], .vs [[i 4]], i 0, i 0], [.vs [[i 1]], .vs [[i 4]], i 0, i 1]], .agg [i 1, i 0, i 2], i 0], []⟩
def T5 : List En := e5 :: T4
set_option maxRecDepth 100000 in
theorem c5 : funX Tryz.prog (tabP T4) W 100000 60 e5.f e5.args e5.hin = some (e5.r, e5.outs) := by kernel_rfl
theorem s5 : TabOK Tryz.prog T5 := TabOK.run mix s4 c5
/- 1536 operations -/
def e6 : En := ⟨114, [.agg [i 1, i 0, i 0, i 2, i 1, .bs [[i 0]]], i 1, .rs 6 0 0 3 3, .agg [.vs [[i 0]], .vs [[i 3]]], .bs [[.vs [[i 1]], .vs [[i 4]], i 0, i 0], [.vs [[i 1]], .vs [[i 4]], i 0, i 1]]], [[[.vs [[i 0]], .vs [[i 0]], i 0, i 1, i 0, .nils], [.vs [[i 0]], .vs [[i 1]], i 0, i 2, i 0, .nils], [.vs [[i 0]], .vs [[i 2]], i 0, i 3, i 0, .nils]]], .rs 6 0 0 6 6, [[[.vs [[i 0]], .vs [[i 0]], i 0, i 1, i 0, .nils], [.vs [[i 0]], .vs [[i 1]], i 0, i 2, i 0, .nils], [.vs [[i 0]], .vs [[i 2]], i 0, i 3, i 0, .nils], [.vs [[i 0]], .vs [[i 3]], i 0, i 4, i 5, .nils], [.vs [[i 0]], .vs [[i 4]], i 0, i (-1), i (-1), .nils], [.vs [[i 1]], .vs [[i 4]], i 0, i (-1), i (-1), .vs [[.vs [[i 1]], .vs [[i 4]], i 0, i 0], [.vs [[i 1]], .vs [[i 4]], i 0, i 1]]]]]⟩
def T6 : List En := e6 :: T5
set_option maxRecDepth 100000 in
theorem c6 : funX Tryz.prog (tabP T5) W 100000 60 e6.f e6.args e6.hin = some (e6.r, e6.outs) := by kernel_rfl
theorem s6 : TabOK Tryz.prog T6 := TabOK.run mix s5 c6
/- 1420 operations -/
def e7 : En := ⟨114, [.agg [i 1, i 0, i 0, i 2, i 1, .bs [[i 0]]], i 1, .rs 6 0 0 2 2, .agg [.vs [[i 0]], .vs [[i 2]]], .bs [[.vs [[i 1]], .vs [[i 4]], i 0, i 0], [.vs [[i 1]], .vs [[i 4]], i 0, i 1]]], [[[.vs [[i 0]], .vs [[i 0]], i 0, i 1, i 0, .nils], [.vs [[i 0]], .vs [[i 1]], i 0, i 2, i 0, .nils]]], .rs 6 0 0 7 7, [[[.vs [[i 0]], .vs [[i 0]], i 0, i 1, i 0, .nils], [.vs [[i 0]], .vs [[i 1]], i 0, i 2, i 0, .nils], [.vs [[i 0]], .vs [[i 2]], i 0, i 3, i 6, .nils], [.vs [[i 0]], .vs [[i 3]], i 0, i 4, i 5, .nils], [.vs [[i 0]], .vs [[i 4]], i 0, i (-1), i (-1), .nils], [.vs [[i 1]], .vs [[i 4]], i 0, i (-1), i (-1), .vs [[.vs [[i 1]], .vs [[i 4]], i 0, i 0], [.vs [[i 1]], .vs [[i 4]], i 0, i 1]]], [.vs [[i 1]], .vs [[i 3]], i 0, i (-1), i (-1), .nils]]]⟩
def T7 : List En := e7 :: T6
set_option maxRecDepth 100000 in
theorem c7 : funX Tryz.prog (tabP T6) W 100000 60 e7.f e7.args e7.hin = some (e7.r, e7.outs) := by kernel_rfl
theorem s7 : TabOK Tryz.prog T7 := TabOK.run mix s6 c7
/- 1420 operations -/
def e8 : En := ⟨114, [.agg [i 1, i 0, i 0, i 2, i 1, .bs [[i 0]]], i 1, .rs 6 0 0 1 1, .agg [.vs [[i 0]], .vs [[i 1]]], .bs [[.vs [[i 1]], .vs [[i 4]], i 0, i 0], [.vs [[i 1]], .vs [[i 4]], i 0, i 1]]], [[[.vs [[i 0]], .vs [[i 0]], i 0, i 1, i 0, .nils]]], .rs 6 0 0 8 8, [[[.vs [[i 0]], .vs [[i 0]], i 0, i 1, i 0, .nils], [.vs [[i 0]], .vs [[i 1]], i 0, i 2, i 7, .nils], [.vs [[i 0]], .vs [[i 2]], i 0, i 3, i 6, .nils], [.vs [[i 0]], .vs [[i 3]], i 0, i 4, i 5, .nils], [.vs [[i 0]], .vs [[i 4]], i 0, i (-1), i (-1), .nils], [.vs [[i 1]], .vs [[i 4]], i 0, i (-1), i (-1), .vs [[.vs [[i 1]], .vs [[i 4]], i 0, i 0], [.vs [[i 1]], .vs [[i 4]], i 0, i 1]]], [.vs [[i 1]], .vs [[i 3]], i 0, i (-1), i (-1), .nils], [.vs [[i 1]], .vs [[i 2]], i 0, i (-1), i (-1), .nils]]]⟩
def T8 : List En := e8 :: T7
set_option maxRecDepth 100000 in
theorem c8 : funX Tryz.prog (tabP T7) W 100000 60 e8.f e8.args e8.hin = some (e8.r, e8.outs) := by kernel_rfl
theorem s8 : TabOK Tryz.prog T8 := TabOK.run mix s7 c8
/- 1420 operations -/
def e9 : En := ⟨114, [.agg [i 1, i 0, i 0, i 2, i 1, .bs [[i 0]]], i 1, .nils, .agg [.vs [[i 0]], .vs [[i 0]]], .vs [[.vs [[i 1]], .vs [[i 4]], i 0, i 0], [.vs [[i 1]], .vs [[i 4]], i 0, i 1]]], [], .rs 6 0 0 9 9, [[[.vs [[i 0]], .vs [[i 0]], i 0, i 1, i 8, .nils], [.vs [[i 0]], .vs [[i 1]], i 0, i 2, i 7, .nils], [.vs [[i 0]], .vs [[i 2]], i 0, i 3, i 6, .nils], [.vs [[i 0]], .vs [[i 3]], i 0, i 4, i 5, .nils], [.vs [[i 0]], .vs [[i 4]], i 0, i (-1), i (-1), .nils], [.vs [[i 1]], .vs [[i 4]], i 0, i (-1), i (-1), .vs [[.vs [[i 1]], .vs [[i 4]], i 0, i 0], [.vs [[i 1]], .vs [[i 4]], i 0, i 1]]], [.vs [[i 1]], .vs [[i 3]], i 0, i (-1), i (-1), .nils], [.vs [[i 1]], .vs [[i 2]], i 0, i (-1), i (-1), .nils], [.vs [[i 1]], .vs [[i 1]], i 0, i (-1), i (-1), .nils]]]⟩
def T9 : List En := e9 :: T8
set_option maxRecDepth 100000 in
theorem c9 : funX Tryz.prog (tabP T8) W 100000 60 e9.f e9.args e9.hin = some (e9.r, e9.outs) := by kernel_rfl
theorem s9 : TabOK Tryz.prog T9 := TabOK.run mix s8 c9
/- 1364 operations -/
def e10 : En := ⟨136, [.agg [i 1, i 0, i 0, i 2, i 1, .vs [[i 0]]], .bs [[.vs [[i 1]], .vs [[i 4]], i 0, i 0], [.vs [[i 1]], .vs [[i 4]], i 0, i 1]]], [], .bool true, []⟩
def T10 : List En := e10 :: T9
set_option maxRecDepth 100000 in
theorem c10 : funX Tryz.prog (tabP T9) W 100000 60 e10.f e10.args e10.hin = some (e10.r, e10.outs) := by kernel_rfl
theorem s10 : TabOK Tryz.prog T10 := TabOK.run mix s9 c10
/- 2099 operations -/
def e11 : En := ⟨138, [.ptr 0 1 0 0, .agg [.vs [[i 0]], .vs [[i 3]]], .bs [[.vs [[i 1]], .vs [[i 4]], i 0, i 0], [.vs [[i 1]], .vs [[i 4]], i 0, i 1]]], [[[i 1, i 0, i 0, i 2, i 1, .vs [[i 0]], i 1, .rs 6 1 0 3 3]], [[.vs [[i 0]], .vs [[i 0]], i 0, i (-1), i (-1), .nils], [.vs [[i 0]], .vs [[i 1]], i 0, i (-1), i (-1), .nils], [.vs [[i 0]], .vs [[i 2]], i 0, i (-1), i (-1), .nils]]], i 3, [[[i 1, i 0, i 0, i 2, i 1, .vs [[i 0]], i 1, .rs 6 1 0 6 6]], [[.vs [[i 0]], .vs [[i 0]], i 0, i (-1), i (-1), .nils], [.vs [[i 0]], .vs [[i 1]], i 0, i (-1), i (-1), .nils], [.vs [[i 0]], .vs [[i 2]], i 0, i (-1), i (-1), .nils], [.vs [[i 0]], .vs [[i 3]], i 0, i 4, i 5, .nils], [.vs [[i 0]], .vs [[i 4]], i 0, i (-1), i (-1), .nils], [.vs [[i 1]], .vs [[i 4]], i 0, i (-1), i (-1), .vs [[.vs [[i 1]], .vs [[i 4]], i 0, i 0], [.vs [[i 1]], .vs [[i 4]], i 0, i 1]]]]]⟩
def T11 : List En := e11 :: T10
set_option maxRecDepth 100000 in
theorem c11 : funX Tryz.prog (tabP T10) W 100000 60 e11.f e11.args e11.hin = some (e11.r, e11.outs) := by kernel_rfl
theorem s11 : TabOK Tryz.prog T11 := TabOK.run mix s10 c11
/- 1493 operations -/
def e12 : En := ⟨138, [.ptr 0 1 0 0, .agg [.vs [[i 0]], .vs [[i 2]]], .bs [[.vs [[i 1]], .vs [[i 4]], i 0, i 0], [.vs [[i 1]], .vs [[i 4]], i 0, i 1]]], [[[i 1, i 0, i 0, i 2, i 1, .vs [[i 0]], i 1, .rs 6 1 0 2 2]], [[.vs [[i 0]], .vs [[i 0]], i 0, i (-1), i (-1), .nils], [.vs [[i 0]], .vs [[i 1]], i 0, i (-1), i (-1), .nils]]], i 2, [[[i 1, i 0, i 0, i 2, i 1, .vs [[i 0]], i 1, .rs 6 1 0 7 7]], [[.vs [[i 0]], .vs [[i 0]], i 0, i (-1), i (-1), .nils], [.vs [[i 0]], .vs [[i 1]], i 0, i (-1), i (-1), .nils], [.vs [[i 0]], .vs [[i 2]], i 0, i 3, i 6, .nils], [.vs [[i 0]], .vs [[i 3]], i 0, i 4, i 5, .nils], [.vs [[i 0]], .vs [[i 4]], i 0, i (-1), i (-1), .nils], [.vs [[i 1]], .vs [[i 4]], i 0, i (-1), i (-1), .vs [[.vs [[i 1]], .vs [[i 4]], i 0, i 0], [.vs [[i 1]], .vs [[i 4]], i 0, i 1]]], [.vs [[i 1]], .vs [[i 3]], i 0, i (-1), i (-1), .nils]]]⟩
def T12 : List En := e12 :: T11
set_option maxRecDepth 100000 in
theorem c12 : funX Tryz.prog (tabP T11) W 100000 60 e12.f e12.args e12.hin = some (e12.r, e12.outs) := by kernel_rfl
theorem s12 : TabOK Tryz.prog T12 := TabOK.run mix s11 c12
/- 1493 operations -/
def e13 : En := ⟨138, [.ptr 0 1 0 0, .agg [.vs [[i 0]], .vs [[i 1]]], .bs [[.vs [[i 1]], .vs [[i 4]], i 0, i 0], [.vs [[i 1]], .vs [[i 4]], i 0, i 1]]], [[[i 1, i 0, i 0, i 2, i 1, .vs [[i 0]], i 1, .rs 6 1 0 1 1]], [[.vs [[i 0]], .vs [[i 0]], i 0, i (-1), i (-1), .nils]]], i 1, [[[i 1, i 0, i 0, i 2, i 1, .vs [[i 0]], i 1, .rs 6 1 0 8 8]], [[.vs [[i 0]], .vs [[i 0]], i 0, i (-1), i (-1), .nils], [.vs [[i 0]], .vs [[i 1]], i 0, i 2, i 7, .nils], [.vs [[i 0]], .vs [[i 2]], i 0, i 3, i 6, .nils], [.vs [[i 0]], .vs [[i 3]], i 0, i 4, i 5, .nils], [.vs [[i 0]], .vs [[i 4]], i 0, i (-1), i (-1), .nils], [.vs [[i 1]], .vs [[i 4]], i 0, i (-1), i (-1), .vs [[.vs [[i 1]], .vs [[i 4]], i 0, i 0], [.vs [[i 1]], .vs [[i 4]], i 0, i 1]]], [.vs [[i 1]], .vs [[i 3]], i 0, i (-1), i (-1), .nils], [.vs [[i 1]], .vs [[i 2]], i 0, i (-1), i (-1), .nils]]]⟩
def T13 : List En := e13 :: T12
set_option maxRecDepth 100000 in
theorem c13 : funX Tryz.prog (tabP T12) W 100000 60 e13.f e13.args e13.hin = some (e13.r, e13.outs) := by kernel_rfl
theorem s13 : TabOK Tryz.prog T13 := TabOK.run mix s12 c13
/- 1493 operations -/
def e14 : En := ⟨138, [.ptr 0 1 0 0, .agg [.vs [[i 0]], .vs [[i 0]]], .bs [[.vs [[i 1]], .vs [[i 4]], i 0, i 0], [.vs [[i 1]], .vs [[i 4]], i 0, i 1]]], [[[i 1, i 0, i 0, i 2, i 1, .vs [[i 0]], i 1, .nils]]], i 0, [[[i 1, i 0, i 0, i 2, i 1, .vs [[i 0]], i 1, .rs 6 1 0 9 9]], [[.vs [[i 0]], .vs [[i 0]], i 0, i 1, i 8, .nils], [.vs [[i 0]], .vs [[i 1]], i 0, i 2, i 7, .nils], [.vs [[i 0]], .vs [[i 2]], i 0, i 3, i 6, .nils], [.vs [[i 0]], .vs [[i 3]], i 0, i 4, i 5, .nils], [.vs [[i 0]], .vs [[i 4]], i 0, i (-1), i (-1), .nils], [.vs [[i 1]], .vs [[i 4]], i 0, i (-1), i (-1), .vs [[.vs [[i 1]], .vs [[i 4]], i 0, i 0], [.vs [[i 1]], .vs [[i 4]], i 0, i 1]]], [.vs [[i 1]], .vs [[i 3]], i 0, i (-1), i (-1), .nils], [.vs [[i 1]], .vs [[i 2]], i 0, i (-1), i (-1), .nils], [.vs [[i 1]], .vs [[i 1]], i 0, i (-1), i (-1), .nils]]]⟩
def T14 : List En := e14 :: T13
set_option maxRecDepth 100000 in
theorem c14 : funX Tryz.prog (tabP T13) W 100000 60 e14.f e14.args e14.hin = some (e14.r, e14.outs) := by kernel_rfl
theorem s14 : TabOK Tryz.prog T14 := TabOK.run mix s13 c14
/- 1460 operations -/
def e15 : En := ⟨92, [.vs [[.vs [[i 0]], .vs [[i 0]], i 0, i 1, i 8, .nils], [.vs [[i 0]], .vs [[i 1]], i 0, i 2, i 7, .nils], [.vs [[i 0]], .vs [[i 2]], i 0, i 3, i 6, .nils], [.vs [[i 0]], .vs [[i 3]], i 0, i 4, i 5, .nils], [.vs [[i 0]], .vs [[i 4]], i 0, i (-1), i (-1), .nils], [.vs [[i 1]], .vs [[i 4]], i 0, i (-1), i (-1), .vs [[.vs [[i 1]], .vs [[i 4]], i 0, i 0], [.vs [[i 1]], .vs [[i 4]], i 0, i 1]]], [.vs [[i 1]], .vs [[i 3]], i 0, i (-1), i (-1), .nils], [.vs [[i 1]], .vs [[i 2]], i 0, i (-1), i (-1), .nils], [.vs [[i 1]], .vs [[i 1]], i 0, i (-1), i (-1), .nils]], .vs [[.vs [[i 0]], .vs [[i 0]], i 0, i 1, i 8, .nils], [.vs [[i 0]], .vs [[i 1]], i 0, i 2, i 7, .nils], [.vs [[i 0]], .vs [[i 2]], i 0, i 3, i 6, .nils], [.vs [[i 0]], .vs [[i 3]], i 0, i 4, i 5, .nils], [.vs [[i 0]], .vs [[i 4]], i 0, i (-1), i (-1), .nils], [.vs [[i 1]], .vs [[i 4]], i 0, i (-1), i (-1), .vs [[.vs [[i 1]], .vs [[i 4]], i 0, i 0], [.vs [[i 1]], .vs [[i 4]], i 0, i 1]]], [.vs [[i 1]], .vs [[i 3]], i 0, i (-1), i (-1), .nils], [.vs [[i 1]], .vs [[i 2]], i 0, i (-1), i (-1), .nils], [.vs [[i 1]], .vs [[i 1]], i 0, i (-1), i (-1), .nils]], .fn 93 []], [], .bool true, []⟩
def T15 : List En := e15 :: T14
set_option maxRecDepth 100000 in
theorem c15 : funX Tryz.prog (tabP T14) W 100000 60 e15.f e15.args e15.hin = some (e15.r, e15.outs) := by kernel_rfl
theorem s15 : TabOK Tryz.prog T15 := TabOK.run mix s14 c15
/- 2068 operations -/
def e16 : En := ⟨58, [.agg [i 1, i 0, i 0, i 2, i 1, .vs [[i 0]], i 1, .vs [[.vs [[i 0]], .vs [[i 0]], i 0, i 1, i 8, .nils], [.vs [[i 0]], .vs [[i 1]], i 0, i 2, i 7, .nils], [.vs [[i 0]], .vs [[i 2]], i 0, i 3, i 6, .nils], [.vs [[i 0]], .vs [[i 3]], i 0, i 4, i 5, .nils], [.vs [[i 0]], .vs [[i 4]], i 0, i (-1), i (-1), .nils], [.vs [[i 1]], .vs [[i 4]], i 0, i (-1), i (-1), .vs [[.vs [[i 1]], .vs [[i 4]], i 0, i 0], [.vs [[i 1]], .vs [[i 4]], i 0, i 1]]], [.vs [[i 1]], .vs [[i 3]], i 0, i (-1), i (-1), .nils], [.vs [[i 1]], .vs [[i 2]], i 0, i (-1), i (-1), .nils], [.vs [[i 1]], .vs [[i 1]], i 0, i (-1), i (-1), .nils]]]], [], i 0, []⟩
def T16 : List En := e16 :: T15
set_option maxRecDepth 100000 in
theorem c16 : funX Tryz.prog (tabP T15) W 100000 60 e16.f e16.args e16.hin = some (e16.r, e16.outs) := by kernel_rfl
theorem s16 : TabOK Tryz.prog T16 := TabOK.run mix s15 c16
/- 2432 operations -/
def e17 : En := ⟨98, [.agg [i 1, i 0, i 0, i 2, i 1, .vs [[i 0]]], .agg [.vs [[.vs [[i 0], [i 3], [i 1]]]]]], [], .tup [.vs [[.vs [[i 1]], .vs [[i 4]], i 0, i 0], [.vs [[i 1]], .vs [[i 4]], i 0, i 1]], i 0], []⟩
def T17 : List En := e17 :: T16
set_option maxRecDepth 100000 in
theorem c17 : funX Tryz.prog (tabP T16) W 100000 60 e17.f e17.args e17.hin = some (e17.r, e17.outs) := by kernel_rfl
theorem s17 : TabOK Tryz.prog T17 := TabOK.run mix s16 c17
/- 1708 operations -/
def e18 : En := ⟨101, [.vs [[.vs [[i 1]], .vs [[i 4]], i 0, i 0], [.vs [[i 1]], .vs [[i 4]], i 0, i 1]], .vs [[.vs [[i 1]], .vs [[i 4]], i 0, i 0], [.vs [[i 1]], .vs [[i 4]], i 0, i 1]], .fn 102 [.ptr 0 1 0 0]], [[[.fn 100 [.ptr 1 1 0 0]]], [[i 1, i 0, i 0, i 2, i 1, .vs [[i 0]], i 1, .vs [[.vs [[i 0]], .vs [[i 0]], i 0, i 1, i 8, .nils], [.vs [[i 0]], .vs [[i 1]], i 0, i 2, i 7, .nils], [.vs [[i 0]], .vs [[i 2]], i 0, i 3, i 6, .nils], [.vs [[i 0]], .vs [[i 3]], i 0, i 4, i 5, .nils], [.vs [[i 0]], .vs [[i 4]], i 0, i (-1), i (-1), .nils], [.vs [[i 1]], .vs [[i 4]], i 0, i (-1), i (-1), .vs [[.vs [[i 1]], .vs [[i 4]], i 0, i 0], [.vs [[i 1]], .vs [[i 4]], i 0, i 1]]], [.vs [[i 1]], .vs [[i 3]], i 0, i (-1), i (-1), .nils], [.vs [[i 1]], .vs [[i 2]], i 0, i (-1), i (-1), .nils], [.vs [[i 1]], .vs [[i 1]], i 0, i (-1), i (-1), .nils]]]]], .bool true, [[[.fn 100 [.ptr 1 1 0 0]]], [[i 1, i 0, i 0, i 2, i 1, .vs [[i 0]], i 1, .vs [[.vs [[i 0]], .vs [[i 0]], i 0, i 1, i 8, .nils], [.vs [[i 0]], .vs [[i 1]], i 0, i 2, i 7, .nils], [.vs [[i 0]], .vs [[i 2]], i 0, i 3, i 6, .nils], [.vs [[i 0]], .vs [[i 3]], i 0, i 4, i 5, .nils], [.vs [[i 0]], .vs [[i 4]], i 0, i (-1), i (-1), .nils], [.vs [[i 1]], .vs [[i 4]], i 0, i (-1), i (-1), .vs [[.vs [[i 1]], .vs [[i 4]], i 0, i 0], [.vs [[i 1]], .vs [[i 4]], i 0, i 1]]], [.vs [[i 1]], .vs [[i 3]], i 0, i (-1), i (-1), .nils], [.vs [[i 1]], .vs [[i 2]], i 0, i (-1), i (-1), .nils], [.vs [[i 1]], .vs [[i 1]], i 0, i (-1), i (-1), .nils]]]]]⟩
def T18 : List En := e18 :: T17
set_option maxRecDepth 100000 in
theorem c18 : funX Tryz.prog (tabP T17) W 100000 60 e18.f e18.args e18.hin = some (e18.r, e18.outs) := by kernel_rfl
theorem s18 : TabOK Tryz.prog T18 := TabOK.run mix s17 c18
/- 2023 operations -/
def e19 : En := ⟨61, [.agg [i 1, i 0, i 0, i 2, i 1, .vs [[i 0]], i 1, .vs [[.vs [[i 0]], .vs [[i 0]], i 0, i 1, i 8, .nils], [.vs [[i 0]], .vs [[i 1]], i 0, i 2, i 7, .nils], [.vs [[i 0]], .vs [[i 2]], i 0, i 3, i 6, .nils], [.vs [[i 0]], .vs [[i 3]], i 0, i 4, i 5, .nils], [.vs [[i 0]], .vs [[i 4]], i 0, i (-1), i (-1), .nils], [.vs [[i 1]], .vs [[i 4]], i 0, i (-1), i (-1), .vs [[.vs [[i 1]], .vs [[i 4]], i 0, i 0], [.vs [[i 1]], .vs [[i 4]], i 0, i 1]]], [.vs [[i 1]], .vs [[i 3]], i 0, i (-1), i (-1), .nils], [.vs [[i 1]], .vs [[i 2]], i 0, i (-1), i (-1), .nils], [.vs [[i 1]], .vs [[i 1]], i 0, i (-1), i (-1), .nils]]], .agg [.vs [[.vs [[i 0], [i 3], [i 1]]]]]], [], .bool true, []⟩
def T19 : List En := e19 :: T18
set_option maxRecDepth 100000 in
theorem c19 : funX Tryz.prog (tabP T18) W 100000 60 e19.f e19.args e19.hin = some (e19.r, e19.outs) := by kernel_rfl
theorem s19 : TabOK Tryz.prog T19 := TabOK.run mix s18 c19
/- 2213 operations -/
def e20 : En := ⟨156, [.agg [i 1, i 0, i 0, i 2, i 1, .vs [[i 0]]], .vs [[i 0], [i 3]], .agg [.vs [[i 0]], .vs [[i 0]]]], [], .tup [.agg [i 0, i 1], i 0], []⟩
def T20 : List En := e20 :: T19
set_option maxRecDepth 100000 in
theorem c20 : funX Tryz.prog (tabP T19) W 100000 60 e20.f e20.args e20.hin = some (e20.r, e20.outs) := by kernel_rfl
theorem s20 : TabOK Tryz.prog T20 := TabOK.run mix s19 c20
/- 2213 operations -/
def e21 : En := ⟨156, [.agg [i 1, i 0, i 0, i 2, i 1, .vs [[i 0]]], .vs [[i 0], [i 3]], .agg [.vs [[i 0]], .vs [[i 1]]]], [], .tup [.agg [i 0, i 1], i 0], []⟩
def T21 : List En := e21 :: T20
set_option maxRecDepth 100000 in
theorem c21 : funX Tryz.prog (tabP T20) W 100000 60 e21.f e21.args e21.hin = some (e21.r, e21.outs) := by kernel_rfl
theorem s21 : TabOK Tryz.prog T21 := TabOK.run mix s20 c21
/- 2213 operations -/
def e22 : En := ⟨156, [.agg [i 1, i 0, i 0, i 2, i 1, .vs [[i 0]]], .vs [[i 0], [i 3]], .agg [.vs [[i 0]], .vs [[i 2]]]], [], .tup [.agg [i 0, i 1], i 0], []⟩
def T22 : List En := e22 :: T21
set_option maxRecDepth 100000 in
theorem c22 : funX Tryz.prog (tabP T21) W 100000 60 e22.f e22.args e22.hin = some (e22.r, e22.outs) := by kernel_rfl
theorem s22 : TabOK Tryz.prog T22 := TabOK.run mix s21 c22
/- 2213 operations -/
def e23 : En := ⟨156, [.agg [i 1, i 0, i 0, i 2, i 1, .vs [[i 0]]], .vs [[i 0], [i 3]], .agg [.vs [[i 0]], .vs [[i 3]]]], [], .tup [.agg [i 0, i 1], i 0], []⟩
def T23 : List En := e23 :: T22
set_option maxRecDepth 100000 in
theorem c23 : funX Tryz.prog (tabP T22) W 100000 60 e23.f e23.args e23.hin = some (e23.r, e23.outs) := by kernel_rfl
theorem s23 : TabOK Tryz.prog T23 := TabOK.run mix s22 c23
/- 2220 operations -/
def e24 : En := ⟨156, [.agg [i 1, i 0, i 0, i 2, i 1, .vs [[i 0]]], .vs [[i 0], [i 3]], .agg [.vs [[i 1]], .vs [[i 4]]]], [], .tup [.agg [i 0, i 1], i 0], []⟩
def T24 : List En := e24 :: T23
set_option maxRecDepth 100000 in
theorem c24 : funX Tryz.prog (tabP T23) W 100000 60 e24.f e24.args e24.hin = some (e24.r, e24.outs) := by kernel_rfl
theorem s24 : TabOK Tryz.prog T24 := TabOK.run mix s23 c24
/- 2331 operations -/
def e25 : En := ⟨78, [.ptr 0 1 0 0, .bool false], [[[i 1, i 0, i 0, i 2, i 1, .vs [[i 0]], i 1, .vs [[.vs [[i 0]], .vs [[i 0]], i 0, i 1, i 8, .nils], [.vs [[i 0]], .vs [[i 1]], i 0, i 2, i 7, .nils], [.vs [[i 0]], .vs [[i 2]], i 0, i 3, i 6, .nils], [.vs [[i 0]], .vs [[i 3]], i 0, i 4, i 5, .nils], [.vs [[i 0]], .vs [[i 4]], i 0, i (-1), i (-1), .nils], [.vs [[i 1]], .vs [[i 4]], i 0, i (-1), i (-1), .vs [[.vs [[i 1]], .vs [[i 4]], i 0, i 0], [.vs [[i 1]], .vs [[i 4]], i 0, i 1]]], [.vs [[i 1]], .vs [[i 3]], i 0, i (-1), i (-1), .nils], [.vs [[i 1]], .vs [[i 2]], i 0, i (-1), i (-1), .nils], [.vs [[i 1]], .vs [[i 1]], i 0, i (-1), i (-1), .nils]], i 1, i 0, i 0, .vs [[i 0], [i 3]], .fn 105 [.ptr 1 1 0 0, .ptr 2 1 0 0, .ptr 3 1 0 0], i 1, .nils, .rs 3 4 0 1 1, .rs 1 5 0 4 4, i 0, .vs [[i 2], [i 2], [i 2], [i 2], [i 0], [i 2], [i 0], [i 0], [i 0]]]], [[.vs [[.vs [[i 0], [i 3], [i 1]]]]]], [[.vs [[i 0], [i 3]]]], [[i 1, i 0, i 0]], [[i 5, i 0, i 1]], [[i 0], [i 1], [i 2], [i 3]]], .bool true, [[[i 1, i 0, i 0, i 2, i 1, .vs [[i 0]], i 1, .vs [[.vs [[i 0]], .vs [[i 0]], i 0, i 1, i 8, .nils], [.vs [[i 0]], .vs [[i 1]], i 0, i 2, i 7, .nils], [.vs [[i 0]], .vs [[i 2]], i 0, i 3, i 6, .nils], [.vs [[i 0]], .vs [[i 3]], i 0, i 4, i 5, .nils], [.vs [[i 0]], .vs [[i 4]], i 0, i (-1), i (-1), .nils], [.vs [[i 1]], .vs [[i 4]], i 0, i (-1), i (-1), .vs [[.vs [[i 1]], .vs [[i 4]], i 0, i 0], [.vs [[i 1]], .vs [[i 4]], i 0, i 1]]], [.vs [[i 1]], .vs [[i 3]], i 0, i (-1), i (-1), .nils], [.vs [[i 1]], .vs [[i 2]], i 0, i (-1), i (-1), .nils], [.vs [[i 1]], .vs [[i 1]], i 0, i (-1), i (-1), .nils]], i 1, i 0, i 0, .vs [[i 0], [i 3]], .fn 105 [.ptr 1 1 0 0, .ptr 2 1 0 0, .ptr 3 1 0 0], i 1, .rs 4 6 0 1 2, .rs 3 7 0 0 1, .rs 1 5 0 5 5, i 2, .vs [[i 2], [i 2], [i 2], [i 2], [i 0], [i 2], [i 0], [i 0], [i 0]]]], [[.vs [[.vs [[i 0], [i 3], [i 1]]]]]], [[.vs [[i 0], [i 3]]]], [[i 1, i 0, i 0]], [[i 5, i 0, i 1]], [[i 0], [i 1], [i 2], [i 3], [i 5]], [[i 0, i 1, i 0, i 0], [i 13, i 1, i 0, i 1]], [[i 0, i 0, i 0]]]⟩
def T25 : List En := e25 :: T24
set_option maxRecDepth 100000 in
theorem c25 : funX Tryz.prog (tabP T24) W 100000 60 e25.f e25.args e25.hin = some (e25.r, e25.outs) := by kernel_rfl
theorem s25 : TabOK Tryz.prog T25 := TabOK.run mix s24 c25
/- 2680 operations -/
def e26 : En := ⟨64, [.ptr 0 1 0 0], [[[i 1, i 0, i 0, i 2, i 1, .vs [[i 0]], i 1, .vs [[.vs [[i 0]], .vs [[i 0]], i 0, i 1, i 8, .nils], [.vs [[i 0]], .vs [[i 1]], i 0, i 2, i 7, .nils], [.vs [[i 0]], .vs [[i 2]], i 0, i 3, i 6, .nils], [.vs [[i 0]], .vs [[i 3]], i 0, i 4, i 5, .nils], [.vs [[i 0]], .vs [[i 4]], i 0, i (-1), i (-1), .nils], [.vs [[i 1]], .vs [[i 4]], i 0, i (-1), i (-1), .vs [[.vs [[i 1]], .vs [[i 4]], i 0, i 0], [.vs [[i 1]], .vs [[i 4]], i 0, i 1]]], [.vs [[i 1]], .vs [[i 3]], i 0, i (-1), i (-1), .nils], [.vs [[i 1]], .vs [[i 2]], i 0, i (-1), i (-1), .nils], [.vs [[i 1]], .vs [[i 1]], i 0, i (-1), i (-1), .nils]], i 1, i 0, i 0, .vs [[i 0], [i 3]], .fn 105 [.ptr 1 1 0 0, .ptr 2 1 0 0, .ptr 3 1 0 0], i 1, .nils, .nils, .nils, i 0, .nils]], [[.vs [[.vs [[i 0], [i 3], [i 1]]]]]], [[.vs [[i 0], [i 3]]]], [[i 1, i 0, i 0]]], .tup [], [[[i 1, i 0, i 0, i 2, i 1, .vs [[i 0]], i 1, .vs [[.vs [[i 0]], .vs [[i 0]], i 0, i 1, i 8, .nils], [.vs [[i 0]], .vs [[i 1]], i 0, i 2, i 7, .nils], [.vs [[i 0]], .vs [[i 2]], i 0, i 3, i 6, .nils], [.vs [[i 0]], .vs [[i 3]], i 0, i 4, i 5, .nils], [.vs [[i 0]], .vs [[i 4]], i 0, i (-1), i (-1), .nils], [.vs [[i 1]], .vs [[i 4]], i 0, i (-1), i (-1), .vs [[.vs [[i 1]], .vs [[i 4]], i 0, i 0], [.vs [[i 1]], .vs [[i 4]], i 0, i 1]]], [.vs [[i 1]], .vs [[i 3]], i 0, i (-1), i (-1), .nils], [.vs [[i 1]], .vs [[i 2]], i 0, i (-1), i (-1), .nils], [.vs [[i 1]], .vs [[i 1]], i 0, i (-1), i (-1), .nils]], i 1, i 0, i 0, .vs [[i 0], [i 3]], .fn 105 [.ptr 1 1 0 0, .ptr 2 1 0 0, .ptr 3 1 0 0], i 1, .rs 4 4 0 1 2, .rs 3 5 0 0 1, .rs 1 6 0 5 5, i 2, .vs [[i 2], [i 2], [i 2], [i 2], [i 0], [i 2], [i 0], [i 0], [i 0]]]], [[.vs [[.vs [[i 0], [i 3], [i 1]]]]]], [[.vs [[i 0], [i 3]]]], [[i 1, i 0, i 0]], [[i 0, i 1, i 0, i 0], [i 13, i 1, i 0, i 1]], [[i 0, i 0, i 0]], [[i 0], [i 1], [i 2], [i 3], [i 5]]]⟩
def T26 : List En := e26 :: T25
set_option maxRecDepth 100000 in
theorem c26 : funX Tryz.prog (tabP T25) W 100000 60 e26.f e26.args e26.hin = some (e26.r, e26.outs) := by kernel_rfl
theorem s26 : TabOK Tryz.prog T26 := TabOK.run mix s25 c26
/- 2213 operations -/
def e27 : En := ⟨156, [.agg [i 1, i 0, i 0, i 2, i 1, .vs [[i 0]]], .vs [[i 3], [i 1]], .agg [.vs [[i 0]], .vs [[i 0]]]], [], .tup [.agg [i 0, i 1], i 0], []⟩
def T27 : List En := e27 :: T26
set_option maxRecDepth 100000 in
theorem c27 : funX Tryz.prog (tabP T26) W 100000 60 e27.f e27.args e27.hin = some (e27.r, e27.outs) := by kernel_rfl
theorem s27 : TabOK Tryz.prog T27 := TabOK.run mix s26 c27
/- 2213 operations -/
def e28 : En := ⟨156, [.agg [i 1, i 0, i 0, i 2, i 1, .vs [[i 0]]], .vs [[i 3], [i 1]], .agg [.vs [[i 0]], .vs [[i 1]]]], [], .tup [.agg [i 0, i 1], i 0], []⟩
def T28 : List En := e28 :: T27
set_option maxRecDepth 100000 in
theorem c28 : funX Tryz.prog (tabP T27) W 100000 60 e28.f e28.args e28.hin = some (e28.r, e28.outs) := by kernel_rfl
theorem s28 : TabOK Tryz.prog T28 := TabOK.run mix s27 c28
/- 2213 operations -/
def e29 : En := ⟨156, [.agg [i 1, i 0, i 0, i 2, i 1, .vs [[i 0]]], .vs [[i 3], [i 1]], .agg [.vs [[i 0]], .vs [[i 2]]]], [], .tup [.agg [i 0, i 1], i 0], []⟩
def T29 : List En := e29 :: T28
set_option maxRecDepth 100000 in
theorem c29 : funX Tryz.prog (tabP T28) W 100000 60 e29.f e29.args e29.hin = some (e29.r, e29.outs) := by kernel_rfl
theorem s29 : TabOK Tryz.prog T29 := TabOK.run mix s28 c29
/- 2213 operations -/
def e30 : En := ⟨156, [.agg [i 1, i 0, i 0, i 2, i 1, .vs [[i 0]]], .vs [[i 3], [i 1]], .agg [.vs [[i 0]], .vs [[i 3]]]], [], .tup [.agg [i 0, i 1], i 0], []⟩
def T30 : List En := e30 :: T29
set_option maxRecDepth 100000 in
theorem c30 : funX Tryz.prog (tabP T29) W 100000 60 e30.f e30.args e30.hin = some (e30.r, e30.outs) := by kernel_rfl
theorem s30 : TabOK Tryz.prog T30 := TabOK.run mix s29 c30
/- 2220 operations -/
def e31 : En := ⟨156, [.agg [i 1, i 0, i 0, i 2, i 1, .vs [[i 0]]], .vs [[i 3], [i 1]], .agg [.vs [[i 1]], .vs [[i 4]]]], [], .tup [.agg [i 0, i 1], i 0], []⟩
def T31 : List En := e31 :: T30
set_option maxRecDepth 100000 in
theorem c31 : funX Tryz.prog (tabP T30) W 100000 60 e31.f e31.args e31.hin = some (e31.r, e31.outs) := by kernel_rfl
theorem s31 : TabOK Tryz.prog T31 := TabOK.run mix s30 c31
/- 1824 operations -/
def e32 : En := ⟨78, [.ptr 0 1 0 0, .bool false], [[[i 1, i 0, i 0, i 2, i 1, .vs [[i 0]], i 1, .vs [[.vs [[i 0]], .vs [[i 0]], i 0, i 1, i 8, .nils], [.vs [[i 0]], .vs [[i 1]], i 0, i 2, i 7, .nils], [.vs [[i 0]], .vs [[i 2]], i 0, i 3, i 6, .nils], [.vs [[i 0]], .vs [[i 3]], i 0, i 4, i 5, .nils], [.vs [[i 0]], .vs [[i 4]], i 0, i (-1), i (-1), .nils], [.vs [[i 1]], .vs [[i 4]], i 0, i (-1), i (-1), .vs [[.vs [[i 1]], .vs [[i 4]], i 0, i 0], [.vs [[i 1]], .vs [[i 4]], i 0, i 1]]], [.vs [[i 1]], .vs [[i 3]], i 0, i (-1), i (-1), .nils], [.vs [[i 1]], .vs [[i 2]], i 0, i (-1), i (-1), .nils], [.vs [[i 1]], .vs [[i 1]], i 0, i (-1), i (-1), .nils]], i 1, i 0, i 0, .vs [[i 3], [i 1]], .fn 105 [.ptr 1 1 0 0, .ptr 2 1 0 0, .ptr 3 1 0 0], i 1, .nils, .rs 3 4 0 1 1, .rs 1 5 0 4 4, i 0, .vs [[i 2], [i 2], [i 2], [i 2], [i 0], [i 2], [i 0], [i 0], [i 0]]]], [[.vs [[.vs [[i 0], [i 3], [i 1]]]]]], [[.vs [[i 3], [i 1]]]], [[i 1, i 0, i 0]], [[i 5, i 0, i 1]], [[i 0], [i 1], [i 2], [i 3]]], .bool true, [[[i 1, i 0, i 0, i 2, i 1, .vs [[i 0]], i 1, .vs [[.vs [[i 0]], .vs [[i 0]], i 0, i 1, i 8, .nils], [.vs [[i 0]], .vs [[i 1]], i 0, i 2, i 7, .nils], [.vs [[i 0]], .vs [[i 2]], i 0, i 3, i 6, .nils], [.vs [[i 0]], .vs [[i 3]], i 0, i 4, i 5, .nils], [.vs [[i 0]], .vs [[i 4]], i 0, i (-1), i (-1), .nils], [.vs [[i 1]], .vs [[i 4]], i 0, i (-1), i (-1), .vs [[.vs [[i 1]], .vs [[i 4]], i 0, i 0], [.vs [[i 1]], .vs [[i 4]], i 0, i 1]]], [.vs [[i 1]], .vs [[i 3]], i 0, i (-1), i (-1), .nils], [.vs [[i 1]], .vs [[i 2]], i 0, i (-1), i (-1), .nils], [.vs [[i 1]], .vs [[i 1]], i 0, i (-1), i (-1), .nils]], i 1, i 0, i 0, .vs [[i 3], [i 1]], .fn 105 [.ptr 1 1 0 0, .ptr 2 1 0 0, .ptr 3 1 0 0], i 1, .rs 4 6 0 1 2, .rs 3 7 0 0 1, .rs 1 5 0 5 5, i 2, .vs [[i 2], [i 2], [i 2], [i 2], [i 0], [i 2], [i 0], [i 0], [i 0]]]], [[.vs [[.vs [[i 0], [i 3], [i 1]]]]]], [[.vs [[i 3], [i 1]]]], [[i 1, i 0, i 0]], [[i 5, i 0, i 1]], [[i 0], [i 1], [i 2], [i 3], [i 5]], [[i 0, i 1, i 0, i 1], [i 13, i 1, i 0, i 0]], [[i 0, i 0, i 0]]]⟩
def T32 : List En := e32 :: T31
set_option maxRecDepth 100000 in
theorem c32 : funX Tryz.prog (tabP T31) W 100000 60 e32.f e32.args e32.hin = some (e32.r, e32.outs) := by kernel_rfl
theorem s32 : TabOK Tryz.prog T32 := TabOK.run mix s31 c32
/- 2680 operations -/
def e33 : En := ⟨64, [.ptr 0 1 0 0], [[[i 1, i 0, i 0, i 2, i 1, .vs [[i 0]], i 1, .vs [[.vs [[i 0]], .vs [[i 0]], i 0, i 1, i 8, .nils], [.vs [[i 0]], .vs [[i 1]], i 0, i 2, i 7, .nils], [.vs [[i 0]], .vs [[i 2]], i 0, i 3, i 6, .nils], [.vs [[i 0]], .vs [[i 3]], i 0, i 4, i 5, .nils], [.vs [[i 0]], .vs [[i 4]], i 0, i (-1), i (-1), .nils], [.vs [[i 1]], .vs [[i 4]], i 0, i (-1), i (-1), .vs [[.vs [[i 1]], .vs [[i 4]], i 0, i 0], [.vs [[i 1]], .vs [[i 4]], i 0, i 1]]], [.vs [[i 1]], .vs [[i 3]], i 0, i (-1), i (-1), .nils], [.vs [[i 1]], .vs [[i 2]], i 0, i (-1), i (-1), .nils], [.vs [[i 1]], .vs [[i 1]], i 0, i (-1), i (-1), .nils]], i 1, i 0, i 0, .vs [[i 3], [i 1]], .fn 105 [.ptr 1 1 0 0, .ptr 2 1 0 0, .ptr 3 1 0 0], i 1, .nils, .nils, .nils, i 0, .nils]], [[.vs [[.vs [[i 0], [i 3], [i 1]]]]]], [[.vs [[i 3], [i 1]]]], [[i 1, i 0, i 0]]], .tup [], [[[i 1, i 0, i 0, i 2, i 1, .vs [[i 0]], i 1, .vs [[.vs [[i 0]], .vs [[i 0]], i 0, i 1, i 8, .nils], [.vs [[i 0]], .vs [[i 1]], i 0, i 2, i 7, .nils], [.vs [[i 0]], .vs [[i 2]], i 0, i 3, i 6, .nils], [.vs [[i 0]], .vs [[i 3]], i 0, i 4, i 5, .nils], [.vs [[i 0]], .vs [[i 4]], i 0, i (-1), i (-1), .nils], [.vs [[i 1]], .vs [[i 4]], i 0, i (-1), i (-1), .vs [[.vs [[i 1]], .vs [[i 4]], i 0, i 0], [.vs [[i 1]], .vs [[i 4]], i 0, i 1]]], [.vs [[i 1]], .vs [[i 3]], i 0, i (-1), i (-1), .nils], [.vs [[i 1]], .vs [[i 2]], i 0, i (-1), i (-1), .nils], [.vs [[i 1]], .vs [[i 1]], i 0, i (-1), i (-1), .nils]], i 1, i 0, i 0, .vs [[i 3], [i 1]], .fn 105 [.ptr 1 1 0 0, .ptr 2 1 0 0, .ptr 3 1 0 0], i 1, .rs 4 4 0 1 2, .rs 3 5 0 0 1, .rs 1 6 0 5 5, i 2, .vs [[i 2], [i 2], [i 2], [i 2], [i 0], [i 2], [i 0], [i 0], [i 0]]]], [[.vs [[.vs [[i 0], [i 3], [i 1]]]]]], [[.vs [[i 3], [i 1]]]], [[i 1, i 0, i 0]], [[i 0, i 1, i 0, i 1], [i 13, i 1, i 0, i 0]], [[i 0, i 0, i 0]], [[i 0], [i 1], [i 2], [i 3], [i 5]]]⟩
def T33 : List En := e33 :: T32
set_option maxRecDepth 100000 in
theorem c33 : funX Tryz.prog (tabP T32) W 100000 60 e33.f e33.args e33.hin = some (e33.r, e33.outs) := by kernel_rfl
theorem s33 : TabOK Tryz.prog T33 := TabOK.run mix s32 c33
/- 1358 operations -/
def e34 : En := ⟨7, [], [], .bool true, []⟩
def T34 : List En := e34 :: T33
set_option maxRecDepth 100000 in
theorem c34 : funX Tryz.prog (tabP T33) W 100000 60 e34.f e34.args e34.hin = some (e34.r, e34.outs) := by kernel_rfl
theorem s34 : TabOK Tryz.prog T34 := TabOK.run mix s33 c34
end Go.AH.Aw

/- The calls of a closed function, run one by one, and what each comes to. -/
import Derived.Test.YtmhkanhgmfolhaaGreatProg
import Derived.Test.YtmhkanhgmfolhaaGreatAhZ
import Derived.Test.YtmhkanhgmfolhaaGreatTe
set_option linter.unusedSimpArgs false
open Go Go.Proofs Go.AH
set_option linter.unusedVariables false
namespace Go.AH.Aw
def refsL : List (Nat × List Nat) := [(14, [2]), (31, [1]), (33, [1]), (55, [0]), (63, [0]), (72, [1]), (82, [2]), (107, [0]), (116, [0, 1]), (158, [0])]
def keepL : List Nat := [9, 55, 68, 71, 76, 82, 88, 89, 94, 95, 101, 114, 115, 160, 161, 189]
def W : FuncId → Way := fun f => ⟨((refsL.find? fun p => p.1 == f).map (·.2)).getD [], keepL.contains f, fun r => f == 8 || (f == 33 && [15, 16, 22, 23].contains r)⟩
def i (n : Int) : D := .int .i64 n
theorem mix : Tryz.prog.follows .mixedOrders = true := by kernel_rfl
def n1 : En := ⟨32, [.agg [.int .i64 1, .int .i64 0, .int .i64 0, .int .i64 2, .int .i64 1, .vs [[.int .i64 0]]], .int .i64 4], [], .tup [.agg [.int .i64 1, .int .i64 0, .int .i64 0, .int .i64 2, .int .i64 1, .vs [[.int .i64 0]], .int .i64 4, .vs [[.vs [[.int .i64 0]], .vs [[.int .i64 0]], .int .i64 0, .int .i64 (-1), .int .i64 (-1), .vs []]]], .int .i64 0], []⟩
def T0 : List En := [n1]
theorem s0 : TabOK Tryz.prog T0 := fun e he => by
  rcases List.mem_cons.1 he with rfl | he
  · exact TR.base3
  · cases he
/- 966 operations -/
def e1 : En := ⟨64, [.agg [i 1, i 0, i 0, i 2, i 1, .vs [[i 0]]], .bs [[i 1], [i 2]]], [], .tup [.agg [.vs [[i 1]], .vs [[i 4]]], i 0], []⟩
def T1 : List En := e1 :: T0
set_option maxRecDepth 100000 in
theorem c1 : funX Tryz.prog (tabP T0) W 100000 60 e1.f e1.args e1.hin = some (e1.r, e1.outs) := by kernel_rfl
theorem s1 : TabOK Tryz.prog T1 := TabOK.run mix s0 c1
/- 966 operations -/
def e2 : En := ⟨64, [.agg [i 1, i 0, i 0, i 2, i 1, .vs [[i 0]]], .bs [[i 2], [i 3]]], [], .tup [.agg [.vs [[i 1]], .vs [[i 4]]], i 0], []⟩
def T2 : List En := e2 :: T1
set_option maxRecDepth 100000 in
theorem c2 : funX Tryz.prog (tabP T1) W 100000 60 e2.f e2.args e2.hin = some (e2.r, e2.outs) := by kernel_rfl
theorem s2 : TabOK Tryz.prog T2 := TabOK.run mix s1 c2
/- 966 operations -/
def e3 : En := ⟨64, [.agg [i 1, i 0, i 0, i 2, i 1, .vs [[i 0]]], .bs [[i 3], [i 4]]], [], .tup [.agg [.vs [[i 1]], .vs [[i 4]]], i 0], []⟩
def T3 : List En := e3 :: T2
set_option maxRecDepth 100000 in
theorem c3 : funX Tryz.prog (tabP T2) W 100000 60 e3.f e3.args e3.hin = some (e3.r, e3.outs) := by kernel_rfl
theorem s3 : TabOK Tryz.prog T3 := TabOK.run mix s2 c3
/- 1692 operations -/
def e4 : En := ⟨116, [.vs [[.vs [[i 1]], .vs [[i 4]], i 0, i 0], [.vs [[i 1]], .vs [[i 4]], i 0, i 1]], .vs [[.vs [[i 1]], .vs [[i 4]], i 0, i 2]], .fn 117 [.ptr 0 1 0 0]], [[[i 1, i 0, i 0, i 2, i 1, .vs [[i 0]]]]], .vs [[.vs [[i 1]], .vs [[i 4]], i 0, i 0], [.vs [[i 1]], .vs [[i 4]], i 0, i 1], [.vs [[i 1]], .vs [[i 4]], i 0, i 2]], [[[i 1, i 0, i 0, i 2, i 1, .vs [[i 0]]]]]⟩
def T4 : List En := e4 :: T3
set_option maxRecDepth 100000 in
theorem c4 : funX Tryz.prog (tabP T3) W 100000 60 e4.f e4.args e4.hin = some (e4.r, e4.outs) := by kernel_rfl
theorem s4 : TabOK Tryz.prog T4 := TabOK.run mix s3 c4
/- 1649 operations -/
def e5 : En := ⟨73, [.agg [i 1, i 0, i 0, i 2, i 1, .vs [[i 0]]], .bs [[.vs [[i 1]], .vs [[i 4]], i 0, i 0], [.vs [[i 1]], .vs [[i 4]], i 0, i 1], [.vs [[i 1]], .vs [[i 4]], i 0, i 2]]], [], .bool false, []⟩
def T5 : List En := e5 :: T4
set_option maxRecDepth 100000 in
theorem c5 : funX Tryz.prog (tabP T4) W 100000 60 e5.f e5.args e5.hin = some (e5.r, e5.outs) := by kernel_rfl
theorem s5 : TabOK Tryz.prog T5 := TabOK.run mix s4 c5
/- 2299 operations -/
def e6 : En := ⟨33, [.agg [i 1, i 0, i 0, i 2, i 1, .vs [[i 0]]], .vs [[.vs [[i 1]], .vs [[i 4]], i 0, i 0], [.vs [[i 1]], .vs [[i 4]], i 0, i 1], [.vs [[i 1]], .vs [[i 4]], i 0, i 2]], i 2, i 2], [], .tup [.vs [[.vs [[i 1]], .vs [[i 4]], i 0, i 0], [.vs [[i 1]], .vs [[i 4]], i 0, i 1], [.vs [[i 1]], .vs [[i 4]], i 0, i 2]], .agg [i 2, i 1, i 6], i 0], []⟩
def T6 : List En := e6 :: T5
set_option maxRecDepth 100000 in
theorem c6 : funX Tryz.prog (tabP T5) W 100000 60 e6.f e6.args e6.hin = some (e6.r, e6.outs) := by kernel_rfl
theorem s6 : TabOK Tryz.prog T6 := TabOK.run mix s5 c6
/- 2452 operations -/
def e7 : En := ⟨52, [.agg [i 1, i 0, i 0, i 2, i 1, .vs [[i 0]]], .vs [[.vs [[i 1]], .vs [[i 4]], i 0, i 0], [.vs [[i 1]], .vs [[i 4]], i 0, i 1], [.vs [[i 1]], .vs [[i 4]], i 0, i 2]]], [], .bool true, []⟩
def T7 : List En := e7 :: T6
set_option maxRecDepth 100000 in
theorem c7 : funX Tryz.prog (tabP T6) W 100000 60 e7.f e7.args e7.hin = some (e7.r, e7.outs) := by kernel_rfl
theorem s7 : TabOK Tryz.prog T7 := TabOK.run mix s6 c7
/- 1200 operations -/
def e8 : En := ⟨14, [.agg [i 1, i 0, i 0, i 2, i 1, .vs [[i 0]]], i 4, .agg [.rs 1 0 0 1 1], i 2, i 2], [[[.rs 1 1 0 4 4]], [[i 1], [i 2], [i 3], [i 4]]], .tup [.agg [i 1, i 0, i 0, i 2, i 1, .vs [[i 0]], i 4, .vs [[.vs [[i 0]], .vs [[i 0]], i 0, i (-1), i (-1), .vs [[.vs [[i 1]], .vs [[i 4]], i 0, i 0], [.vs [[i 1]], .vs [[i 4]], i 0, i 1], [.vs [[i 1]], .vs [[i 4]], i 0, i 2]]]]], .agg [i 2, i 1, i 6], i 0], [[[.rs 1 1 0 4 4]], [[i 1], [i 2], [i 3], [i 4]]]⟩
def T8 : List En := e8 :: T7
set_option maxRecDepth 100000 in
theorem c8 : funX Tryz.prog (tabP T7) W 100000 60 e8.f e8.args e8.hin = some (e8.r, e8.outs) := by kernel_rfl
theorem s8 : TabOK Tryz.prog T8 := TabOK.run mix s7 c8
/- 1683 operations -/
def e9 : En := ⟨145, [.bs [[.vs [[i 1]], .vs [[i 4]], i 0, i 0], [.vs [[i 1]], .vs [[i 4]], i 0, i 1], [.vs [[i 1]], .vs [[i 4]], i 0, i 2]], i 0, i 3, .fn 91 [.ptr 0 1 0 0]], [[[i 1, i 0, i 0, i 2, i 1, .vs [[i 0]], i 4, .vs [[.vs [[i 0]], .vs [[i 0]], i 0, i (-1), i (-1), .vs [[.vs [[i 1]], .vs [[i 4]], i 0, i 0], [.vs [[i 1]], .vs [[i 4]], i 0, i 1], [.vs [[i 1]], .vs [[i 4]], i 0, i 2]]]]]]], .tup [], [[[i 1, i 0, i 0, i 2, i 1, .vs [[i 0]], i 4, .vs [[.vs [[i 0]], .vs [[i 0]], i 0, i (-1), i (-1), .vs [[.vs [[i 1]], .vs [[i 4]], i 0, i 0], [.vs [[i 1]], .vs [[i 4]], i 0, i 1], [.vs [[i 1]], .vs [[i 4]], i 0, i 2]]]]]]]⟩
def T9 : List En := e9 :: T8
set_option maxRecDepth 100000 in
theorem c9 : funX Tryz.prog (tabP T8) W 100000 60 e9.f e9.args e9.hin = some (e9.r, e9.outs) := by kernel_rfl
theorem s9 : TabOK Tryz.prog T9 := TabOK.run mix s8 c9
/- 2452 operations -/
def e10 : En := ⟨52, [.agg [i 1, i 0, i 0, i 2, i 1, .vs [[i 0]]], .bs [[.vs [[i 1]], .vs [[i 4]], i 0, i 0], [.vs [[i 1]], .vs [[i 4]], i 0, i 1], [.vs [[i 1]], .vs [[i 4]], i 0, i 2]]], [], .bool true, []⟩
def T10 : List En := e10 :: T9
set_option maxRecDepth 100000 in
theorem c10 : funX Tryz.prog (tabP T9) W 100000 60 e10.f e10.args e10.hin = some (e10.r, e10.outs) := by kernel_rfl
theorem s10 : TabOK Tryz.prog T10 := TabOK.run mix s9 c10
/- 2078 operations -/
def e11 : En := ⟨50, [.agg [i 1, i 0, i 0, i 2, i 1, .vs [[i 0]], i 4, .vs [[.vs [[i 0]], .vs [[i 0]], i 0, i (-1), i (-1), .vs [[.vs [[i 1]], .vs [[i 4]], i 0, i 0], [.vs [[i 1]], .vs [[i 4]], i 0, i 1], [.vs [[i 1]], .vs [[i 4]], i 0, i 2]]]]]], [], i 0, []⟩
def T11 : List En := e11 :: T10
set_option maxRecDepth 100000 in
theorem c11 : funX Tryz.prog (tabP T10) W 100000 60 e11.f e11.args e11.hin = some (e11.r, e11.outs) := by kernel_rfl
theorem s11 : TabOK Tryz.prog T11 := TabOK.run mix s10 c11
/- 92 operations -/
def e12 : En := ⟨8, [], [], .bool true, []⟩
def T12 : List En := e12 :: T11
set_option maxRecDepth 100000 in
theorem c12 : funX Tryz.prog (tabP T11) W 100000 60 e12.f e12.args e12.hin = some (e12.r, e12.outs) := by kernel_rfl
theorem s12 : TabOK Tryz.prog T12 := TabOK.run mix s11 c12
end Go.AH.Aw

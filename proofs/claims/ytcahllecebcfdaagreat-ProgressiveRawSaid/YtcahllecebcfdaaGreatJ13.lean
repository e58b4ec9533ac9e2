/- A part of the proof: the walk of functions that the law reaches. -/
import Derived.Test.YtcahllecebcfdaaGreatJ12
open Go Go.Proofs Go.AH
set_option linter.unusedSimpArgs false
set_option linter.unusedVariables false
namespace J
theorem sz41 : sizeT Tryz.prog 41 = some 10 := by kernel_rfl
theorem ag41 : aggT Tryz.prog 41 = some true := by kernel_rfl
theorem fld41_1 : fieldT Tryz.prog 41 1 = some (3, 1, false) := by kernel_rfl
theorem fld41_2 : fieldT Tryz.prog 41 2 = some (4, 1, false) := by kernel_rfl
theorem fld41_3 : fieldT Tryz.prog 41 3 = some (5, 1, false) := by kernel_rfl
theorem fld41_4 : fieldT Tryz.prog 41 4 = some (6, 1, false) := by kernel_rfl
theorem sz36 : sizeT Tryz.prog 36 = some 1 := by kernel_rfl
theorem ag36 : aggT Tryz.prog 36 = some false := by kernel_rfl
theorem sz37 : sizeT Tryz.prog 37 = some 1 := by kernel_rfl
theorem ag37 : aggT Tryz.prog 37 = some false := by kernel_rfl
theorem zr25 : zeroT Tryz.prog 25 = some [.int .i64 0, .int .i64 0] := by kernel_rfl
theorem un3' : Tryz.prog.underlying 3 = some (.int .i64) := Tryz.underlying3
attribute [local go_sem] sz27 ag27 fld27_0 fld27_1 sz35 ag35 un35 in3 in112 sz112 ag112 sz25 ag25 sz23 ag23 fld25_0 fld25_1 fld23_0 fld23_1 sz3 ag3 sz4 ag4 anil_int anil_tmp bne_dec beq_dec
attribute [local go_sem] sz45 ag45 fld45_0 fld45_1 un37 st141 me141 sz141 ag141 bt4 emp un36 sz41 ag41 fld41_1 fld41_2 fld41_3 fld41_4 sz36 ag36 sz37 ag37 zr25
abbrev PR (a b c : Int) (q : List (List D)) (k : Nat) (B : List F4) (l : List F3) (e f g : Int) : D := .agg [.int .i64 a, .int .i64 b, .int .i64 c, .vs q, .int .i64 ((k + 1 : Nat) : Int), .vs (B.map hrow), .vs (l.map frow), .int .i64 e, .int .i64 f, .int .i64 g]
theorem maxN (k : Nat) : (if ((k + 1 : Nat) : Int) > 1 then ((k + 1 : Nat) : Int) else 1) = ((k + 1 : Nat) : Int) := by split <;> omega
def remN (l : List F3) : Int := if l.length = 0 then 0 else (l.getD (pickF l l.length) default).2.1
def remD (l : List F3) : Int := if l.length = 0 then 1 else (l.getD (pickF l l.length) default).2.2
set_option maxRecDepth 20000 in
theorem c25 (a b c : Int) (q : List (List D)) (k : Nat) (B : List F4) (l : List F3) (e f g : Int) (hB : B.length < 1000000) (hl : l.length < 1000000) : FC Tryz.prog 25 [PR a b c q k B l e f g] [] (.bool (decide (ends B l k))) [] := by
  refine FC.of_run mix Tryz.func25 rfl rfl (by simp [Tryz.ntmps25]) ?_
  simp (maxSteps := 1000000) only [go_sem, ↓reduceIte, Nat.reduceLT, Nat.reduceLeDiff, Nat.reduceEqDiff, Nat.reduceAdd, Nat.reduceSub, Nat.reduceBEq, reduceCtorEq, List.getElem?_toArray, Option.bind_some, decide_true, decide_false, Bool.true_beq, Bool.false_beq, Bool.not_true, Bool.not_false, not_true_eq_false, not_false_eq_true, Tryz.ntmps25, afold, maxN]
  refine callF (c50 B l k hB hl) ?_ ?_ ?_ ?_
  · simp (maxSteps := 1000000) only [go_sem, ↓reduceIte, Nat.reduceLT, Nat.reduceLeDiff, Nat.reduceEqDiff, Nat.reduceAdd, Nat.reduceSub, Nat.reduceBEq, reduceCtorEq, List.getElem?_toArray, Option.bind_some, decide_true, decide_false, Bool.true_beq, Bool.false_beq, Bool.not_true, Bool.not_false, not_true_eq_false, not_false_eq_true, maxN]
  · simp (maxSteps := 1000000) only [go_sem, ↓reduceIte, Nat.reduceLT, Nat.reduceLeDiff, Nat.reduceEqDiff, Nat.reduceAdd, Nat.reduceSub, Nat.reduceBEq, reduceCtorEq, List.getElem?_toArray, Option.bind_some, decide_true, decide_false, Bool.true_beq, Bool.false_beq, Bool.not_true, Bool.not_false, not_true_eq_false, not_false_eq_true]
  · simp (maxSteps := 1000000) only [go_sem, ↓reduceIte, Nat.reduceLT, Nat.reduceLeDiff, Nat.reduceEqDiff, Nat.reduceAdd, Nat.reduceSub, Nat.reduceBEq, reduceCtorEq, List.getElem?_toArray, Option.bind_some, decide_true, decide_false, Bool.true_beq, Bool.false_beq, Bool.not_true, Bool.not_false, not_true_eq_false, not_false_eq_true]
  simp (maxSteps := 1000000) only [go_sem, ↓reduceIte, Nat.reduceLT, Nat.reduceLeDiff, Nat.reduceEqDiff, Nat.reduceAdd, Nat.reduceSub, Nat.reduceBEq, reduceCtorEq, List.getElem?_toArray, Option.bind_some, decide_true, decide_false, Bool.true_beq, Bool.false_beq, Bool.not_true, Bool.not_false, not_true_eq_false, not_false_eq_true]
  refine Fin.ret [.bool (decide (ends B l k))] [] true ?_ (by simp) (by simp) ?_ ?_ <;> simp (maxSteps := 1000000) only [go_sem, ↓reduceIte, Nat.reduceLT, Nat.reduceLeDiff, Nat.reduceEqDiff, Nat.reduceAdd, Nat.reduceSub, Nat.reduceBEq, reduceCtorEq, List.getElem?_toArray, Option.bind_some, decide_true, decide_false, Bool.true_beq, Bool.false_beq, Bool.not_true, Bool.not_false, not_true_eq_false, not_false_eq_true, Tryz.results25, List.range_zero]
set_option maxRecDepth 20000 in
theorem c28 (a b c : Int) (q : List (List D)) (k : Nat) (B : List F4) (l : List F3) (e f g : Int) (hB : B.length < 1000000) (hl : l.length < 1000000) : FC Tryz.prog 28 [PR a b c q k B l e f g] [] (.bool (decide (ends B l k))) [] := by
  refine FC.of_run mix Tryz.func28 rfl rfl (by simp [Tryz.ntmps28]) ?_
  simp (maxSteps := 1000000) only [go_sem, ↓reduceIte, Nat.reduceLT, Nat.reduceLeDiff, Nat.reduceEqDiff, Nat.reduceAdd, Nat.reduceSub, Nat.reduceBEq, reduceCtorEq, List.getElem?_toArray, Option.bind_some, decide_true, decide_false, Bool.true_beq, Bool.false_beq, Bool.not_true, Bool.not_false, not_true_eq_false, not_false_eq_true, Tryz.ntmps28, afold, maxN]
  refine callF (c52 B l k hB hl) ?_ ?_ ?_ ?_
  · simp (maxSteps := 1000000) only [go_sem, ↓reduceIte, Nat.reduceLT, Nat.reduceLeDiff, Nat.reduceEqDiff, Nat.reduceAdd, Nat.reduceSub, Nat.reduceBEq, reduceCtorEq, List.getElem?_toArray, Option.bind_some, decide_true, decide_false, Bool.true_beq, Bool.false_beq, Bool.not_true, Bool.not_false, not_true_eq_false, not_false_eq_true, maxN]
  · simp (maxSteps := 1000000) only [go_sem, ↓reduceIte, Nat.reduceLT, Nat.reduceLeDiff, Nat.reduceEqDiff, Nat.reduceAdd, Nat.reduceSub, Nat.reduceBEq, reduceCtorEq, List.getElem?_toArray, Option.bind_some, decide_true, decide_false, Bool.true_beq, Bool.false_beq, Bool.not_true, Bool.not_false, not_true_eq_false, not_false_eq_true]
  · simp (maxSteps := 1000000) only [go_sem, ↓reduceIte, Nat.reduceLT, Nat.reduceLeDiff, Nat.reduceEqDiff, Nat.reduceAdd, Nat.reduceSub, Nat.reduceBEq, reduceCtorEq, List.getElem?_toArray, Option.bind_some, decide_true, decide_false, Bool.true_beq, Bool.false_beq, Bool.not_true, Bool.not_false, not_true_eq_false, not_false_eq_true]
  simp (maxSteps := 1000000) only [go_sem, ↓reduceIte, Nat.reduceLT, Nat.reduceLeDiff, Nat.reduceEqDiff, Nat.reduceAdd, Nat.reduceSub, Nat.reduceBEq, reduceCtorEq, List.getElem?_toArray, Option.bind_some, decide_true, decide_false, Bool.true_beq, Bool.false_beq, Bool.not_true, Bool.not_false, not_true_eq_false, not_false_eq_true]
  refine Fin.ret [.bool (decide (ends B l k))] [] true ?_ (by simp) (by simp) ?_ ?_ <;> simp (maxSteps := 1000000) only [go_sem, ↓reduceIte, Nat.reduceLT, Nat.reduceLeDiff, Nat.reduceEqDiff, Nat.reduceAdd, Nat.reduceSub, Nat.reduceBEq, reduceCtorEq, List.getElem?_toArray, Option.bind_some, decide_true, decide_false, Bool.true_beq, Bool.false_beq, Bool.not_true, Bool.not_false, not_true_eq_false, not_false_eq_true, Tryz.results28, List.range_zero]
set_option maxRecDepth 20000 in
theorem c22 (a b c : Int) (q : List (List D)) (k : Nat) (B : List F4) (l : List F3) (e f g : Int) (hl : l.length < 1000000) : FC Tryz.prog 22 [PR a b c q k B l e f g] [] (.tup [.agg [.int .i64 (remN l), .int .i64 (remD l)], .bool (decide (l.length ≠ 0))]) [] := by
  refine FC.of_run mix Tryz.func22 rfl rfl (by simp [Tryz.ntmps22]) ?_
  by_cases h0 : l.length = 0
  · rw [show remN l = 0 by simp [remN, h0], show remD l = 1 by simp [remD, h0], show decide (l.length ≠ 0) = false by simp [h0]]
    simp (maxSteps := 1000000) only [go_sem, ↓reduceIte, Nat.reduceLT, Nat.reduceLeDiff, Nat.reduceEqDiff, Nat.reduceAdd, Nat.reduceSub, Nat.reduceBEq, reduceCtorEq, List.getElem?_toArray, Option.bind_some, decide_true, decide_false, Bool.true_beq, Bool.false_beq, Bool.not_true, Bool.not_false, not_true_eq_false, not_false_eq_true, Tryz.ntmps22, List.length_map, eqN0, h0]
    refine Fin.ret [.agg [.int .i64 0, .int .i64 1], .bool false] [] true ?_ (by simp) (by simp) ?_ ?_ <;> simp (maxSteps := 1000000) only [go_sem, ↓reduceIte, Nat.reduceLT, Nat.reduceLeDiff, Nat.reduceEqDiff, Nat.reduceAdd, Nat.reduceSub, Nat.reduceBEq, reduceCtorEq, List.getElem?_toArray, Option.bind_some, decide_true, decide_false, Bool.true_beq, Bool.false_beq, Bool.not_true, Bool.not_false, not_true_eq_false, not_false_eq_true, Tryz.results22, List.range_zero]
  · have hp := pickF_lt l l.length
    have hy := frows_get (l := l) (i := pickF l l.length) (by omega)
    rw [show remN l = (l.getD (pickF l l.length) default).2.1 by simp [remN, h0], show remD l = (l.getD (pickF l l.length) default).2.2 by simp [remD, h0], show decide (l.length ≠ 0) = true by simp [h0]]
    generalize hY : l.getD (pickF l l.length) default = y at hy
    obtain ⟨b', p, q'⟩ := y
    simp (maxSteps := 1000000) only [go_sem, ↓reduceIte, Nat.reduceLT, Nat.reduceLeDiff, Nat.reduceEqDiff, Nat.reduceAdd, Nat.reduceSub, Nat.reduceBEq, reduceCtorEq, List.getElem?_toArray, Option.bind_some, decide_true, decide_false, Bool.true_beq, Bool.false_beq, Bool.not_true, Bool.not_false, not_true_eq_false, not_false_eq_true, Tryz.ntmps22, List.length_map, eqN0, h0]
    refine callF (c44 l hl) ?_ ?_ ?_ ?_
    · simp (maxSteps := 1000000) only [go_sem, ↓reduceIte, Nat.reduceLT, Nat.reduceLeDiff, Nat.reduceEqDiff, Nat.reduceAdd, Nat.reduceSub, Nat.reduceBEq, reduceCtorEq, List.getElem?_toArray, Option.bind_some, decide_true, decide_false, Bool.true_beq, Bool.false_beq, Bool.not_true, Bool.not_false, not_true_eq_false, not_false_eq_true]
    · simp (maxSteps := 1000000) only [go_sem, ↓reduceIte, Nat.reduceLT, Nat.reduceLeDiff, Nat.reduceEqDiff, Nat.reduceAdd, Nat.reduceSub, Nat.reduceBEq, reduceCtorEq, List.getElem?_toArray, Option.bind_some, decide_true, decide_false, Bool.true_beq, Bool.false_beq, Bool.not_true, Bool.not_false, not_true_eq_false, not_false_eq_true]
    · simp (maxSteps := 1000000) only [go_sem, ↓reduceIte, Nat.reduceLT, Nat.reduceLeDiff, Nat.reduceEqDiff, Nat.reduceAdd, Nat.reduceSub, Nat.reduceBEq, reduceCtorEq, List.getElem?_toArray, Option.bind_some, decide_true, decide_false, Bool.true_beq, Bool.false_beq, Bool.not_true, Bool.not_false, not_true_eq_false, not_false_eq_true]
    simp (maxSteps := 1000000) only [go_sem, ↓reduceIte, Nat.reduceLT, Nat.reduceLeDiff, Nat.reduceEqDiff, Nat.reduceAdd, Nat.reduceSub, Nat.reduceBEq, reduceCtorEq, List.getElem?_toArray, Option.bind_some, decide_true, decide_false, Bool.true_beq, Bool.false_beq, Bool.not_true, Bool.not_false, not_true_eq_false, not_false_eq_true, ltN0, Int.toNat_natCast, hy, frow]
    refine drawnB_ok (by kernel_rfl) ?_
    simp (maxSteps := 1000000) only [go_sem, ↓reduceIte, Nat.reduceLT, Nat.reduceLeDiff, Nat.reduceEqDiff, Nat.reduceAdd, Nat.reduceSub, Nat.reduceBEq, reduceCtorEq, List.getElem?_toArray, Option.bind_some, decide_true, decide_false, Bool.true_beq, Bool.false_beq, Bool.not_true, Bool.not_false, not_true_eq_false, not_false_eq_true]
    refine Fin.ret [.agg [.int .i64 p, .int .i64 q'], .bool true] [] true ?_ (by simp) (by simp) ?_ ?_ <;> simp (maxSteps := 1000000) only [go_sem, ↓reduceIte, Nat.reduceLT, Nat.reduceLeDiff, Nat.reduceEqDiff, Nat.reduceAdd, Nat.reduceSub, Nat.reduceBEq, reduceCtorEq, List.getElem?_toArray, Option.bind_some, decide_true, decide_false, Bool.true_beq, Bool.false_beq, Bool.not_true, Bool.not_false, not_true_eq_false, not_false_eq_true, Tryz.results22, List.range_zero]
set_option maxRecDepth 20000 in
theorem c27 (a b c : Int) (q : List (List D)) (k : Nat) (B : List F4) (l : List F3) (e f g : Int) (hl : l.length < 1000000) : FC Tryz.prog 27 [PR a b c q k B l e f g] [] (.tup [.agg [.int .i64 (remN l), .int .i64 (remD l)], .bool (decide (l.length ≠ 0))]) [] := by
  refine FC.of_run mix Tryz.func27 rfl rfl (by simp [Tryz.ntmps27]) ?_
  by_cases h0 : l.length = 0
  · rw [show remN l = 0 by simp [remN, h0], show remD l = 1 by simp [remD, h0], show decide (l.length ≠ 0) = false by simp [h0]]
    simp (maxSteps := 1000000) only [go_sem, ↓reduceIte, Nat.reduceLT, Nat.reduceLeDiff, Nat.reduceEqDiff, Nat.reduceAdd, Nat.reduceSub, Nat.reduceBEq, reduceCtorEq, List.getElem?_toArray, Option.bind_some, decide_true, decide_false, Bool.true_beq, Bool.false_beq, Bool.not_true, Bool.not_false, not_true_eq_false, not_false_eq_true, Tryz.ntmps27, List.length_map, eqN0, h0]
    refine Fin.ret [.agg [.int .i64 0, .int .i64 1], .bool false] [] true ?_ (by simp) (by simp) ?_ ?_ <;> simp (maxSteps := 1000000) only [go_sem, ↓reduceIte, Nat.reduceLT, Nat.reduceLeDiff, Nat.reduceEqDiff, Nat.reduceAdd, Nat.reduceSub, Nat.reduceBEq, reduceCtorEq, List.getElem?_toArray, Option.bind_some, decide_true, decide_false, Bool.true_beq, Bool.false_beq, Bool.not_true, Bool.not_false, not_true_eq_false, not_false_eq_true, Tryz.results27, List.range_zero]
  · have hp := pickF_lt l l.length
    have hy := frows_get (l := l) (i := pickF l l.length) (by omega)
    rw [show remN l = (l.getD (pickF l l.length) default).2.1 by simp [remN, h0], show remD l = (l.getD (pickF l l.length) default).2.2 by simp [remD, h0], show decide (l.length ≠ 0) = true by simp [h0]]
    generalize hY : l.getD (pickF l l.length) default = y at hy
    obtain ⟨b', p, q'⟩ := y
    simp (maxSteps := 1000000) only [go_sem, ↓reduceIte, Nat.reduceLT, Nat.reduceLeDiff, Nat.reduceEqDiff, Nat.reduceAdd, Nat.reduceSub, Nat.reduceBEq, reduceCtorEq, List.getElem?_toArray, Option.bind_some, decide_true, decide_false, Bool.true_beq, Bool.false_beq, Bool.not_true, Bool.not_false, not_true_eq_false, not_false_eq_true, Tryz.ntmps27, List.length_map, eqN0, h0]
    refine callF (c51 l (by omega) hl) ?_ ?_ ?_ ?_
    · simp (maxSteps := 1000000) only [go_sem, ↓reduceIte, Nat.reduceLT, Nat.reduceLeDiff, Nat.reduceEqDiff, Nat.reduceAdd, Nat.reduceSub, Nat.reduceBEq, reduceCtorEq, List.getElem?_toArray, Option.bind_some, decide_true, decide_false, Bool.true_beq, Bool.false_beq, Bool.not_true, Bool.not_false, not_true_eq_false, not_false_eq_true]
    · simp (maxSteps := 1000000) only [go_sem, ↓reduceIte, Nat.reduceLT, Nat.reduceLeDiff, Nat.reduceEqDiff, Nat.reduceAdd, Nat.reduceSub, Nat.reduceBEq, reduceCtorEq, List.getElem?_toArray, Option.bind_some, decide_true, decide_false, Bool.true_beq, Bool.false_beq, Bool.not_true, Bool.not_false, not_true_eq_false, not_false_eq_true]
    · simp (maxSteps := 1000000) only [go_sem, ↓reduceIte, Nat.reduceLT, Nat.reduceLeDiff, Nat.reduceEqDiff, Nat.reduceAdd, Nat.reduceSub, Nat.reduceBEq, reduceCtorEq, List.getElem?_toArray, Option.bind_some, decide_true, decide_false, Bool.true_beq, Bool.false_beq, Bool.not_true, Bool.not_false, not_true_eq_false, not_false_eq_true]
    simp (maxSteps := 1000000) only [go_sem, ↓reduceIte, Nat.reduceLT, Nat.reduceLeDiff, Nat.reduceEqDiff, Nat.reduceAdd, Nat.reduceSub, Nat.reduceBEq, reduceCtorEq, List.getElem?_toArray, Option.bind_some, decide_true, decide_false, Bool.true_beq, Bool.false_beq, Bool.not_true, Bool.not_false, not_true_eq_false, not_false_eq_true, ltN0, Int.toNat_natCast, hy, frow]
    refine drawnB_ok (by kernel_rfl) ?_
    simp (maxSteps := 1000000) only [go_sem, ↓reduceIte, Nat.reduceLT, Nat.reduceLeDiff, Nat.reduceEqDiff, Nat.reduceAdd, Nat.reduceSub, Nat.reduceBEq, reduceCtorEq, List.getElem?_toArray, Option.bind_some, decide_true, decide_false, Bool.true_beq, Bool.false_beq, Bool.not_true, Bool.not_false, not_true_eq_false, not_false_eq_true]
    refine Fin.ret [.agg [.int .i64 p, .int .i64 q'], .bool true] [] true ?_ (by simp) (by simp) ?_ ?_ <;> simp (maxSteps := 1000000) only [go_sem, ↓reduceIte, Nat.reduceLT, Nat.reduceLeDiff, Nat.reduceEqDiff, Nat.reduceAdd, Nat.reduceSub, Nat.reduceBEq, reduceCtorEq, List.getElem?_toArray, Option.bind_some, decide_true, decide_false, Bool.true_beq, Bool.false_beq, Bool.not_true, Bool.not_false, not_true_eq_false, not_false_eq_true, Tryz.results27, List.range_zero]
end J

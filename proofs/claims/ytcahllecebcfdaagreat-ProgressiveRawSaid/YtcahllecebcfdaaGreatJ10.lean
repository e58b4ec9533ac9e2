/- A part of the proof: the walk of functions that the law reaches. -/
import Derived.Test.YtcahllecebcfdaaGreatJ8
set_option linter.unusedVariables false
open Go Go.Proofs Go.AH
set_option linter.unusedSimpArgs false
namespace J
theorem sz45 : sizeT Tryz.prog 45 = some 3 := by kernel_rfl
theorem ag45 : aggT Tryz.prog 45 = some true := by kernel_rfl
theorem fld45_0 : fieldT Tryz.prog 45 0 = some (0, 1, false) := by kernel_rfl
theorem fld45_1 : fieldT Tryz.prog 45 1 = some (1, 2, true) := by kernel_rfl
theorem sz141 : sizeT Tryz.prog 141 = some 0 := by kernel_rfl
theorem ag141 : aggT Tryz.prog 141 = some true := by kernel_rfl
theorem un37 : Tryz.prog.underlying 37 = some (.slice 45) := Tryz.underlying37
theorem st141 : structT Tryz.prog 141 = true := by kernel_rfl
theorem me141 : methT Tryz.prog 141 "shapesearch/nearest.first" = some 314 := by kernel_rfl
theorem callVB_ifc {P : Program} {T : FuncId → List D → List D → Prop} {t : TypeId} {name : String} {f : FuncId} (h : methT P t name = some f) : @callVB P (some name) (.ifc t) ⟨T⟩ = T f [.agg []] [] := by
  simp [callVB, callV, h]
attribute [local go_sem] sz29 ag29 sz47 ag47 sz27 ag27 fld29_0 fld29_1 fld47_0 fld47_1 fld27_0 fld27_1 sz35 ag35 un35 in3 in112 sz112 ag112 sz25 ag25 sz23 ag23 fld25_0 fld25_1 fld23_0 fld23_1 sz3 ag3 sz4 ag4 anil_int anil_tmp bne_dec beq_dec
attribute [local go_sem] sz45 ag45 fld45_0 fld45_1 un37 st141 me141 sz141 ag141 bt4
theorem emp : (#[] : Array Operand).isEmpty = true := _root_.id rfl
attribute [local go_sem] emp
theorem ltN0 (i : Nat) : ((i : Int) < 0) = False := by simp only [eq_iff_iff, iff_false]; omega
set_option maxRecDepth 20000 in
theorem c10 (n : Int) : FC Tryz.prog 10 [.int .i64 n, .int .i64 20] [] (.int .i64 ((IntKind.i64.wrap (n.tmod 20 + 20)).tmod 20)) [] := by
  refine FC.of_run mix Tryz.func10 rfl rfl (by simp [Tryz.ntmps10]) ?_
  simp (maxSteps := 1000000) only [go_sem, ↓reduceIte, Nat.reduceLT, Nat.reduceLeDiff, Nat.reduceEqDiff, Nat.reduceAdd, Nat.reduceSub, Nat.reduceBEq, reduceCtorEq, List.getElem?_toArray, Option.bind_some, decide_true, decide_false, Bool.true_beq, Bool.false_beq, Bool.not_true, Bool.not_false, not_true_eq_false, not_false_eq_true, Tryz.ntmps10, show ¬ (20 : Int) = 0 by decide]
  refine Fin.ret [.int .i64 ((IntKind.i64.wrap (n.tmod 20 + 20)).tmod 20)] [] true ?_ (by simp) (by simp) ?_ ?_ <;> simp (maxSteps := 1000000) only [go_sem, ↓reduceIte, Nat.reduceLT, Nat.reduceLeDiff, Nat.reduceEqDiff, Nat.reduceAdd, Nat.reduceSub, Nat.reduceBEq, reduceCtorEq, List.getElem?_toArray, Option.bind_some, decide_true, decide_false, Bool.true_beq, Bool.false_beq, Bool.not_true, Bool.not_false, not_true_eq_false, not_false_eq_true, Tryz.results10, List.range_zero]
set_option maxRecDepth 20000 in
theorem c49 (n d p q : Int) : FC Tryz.prog 49 [.agg [.int .i64 n, .int .i64 d], .agg [.int .i64 p, .int .i64 q]] [] (.bool (decide (cmpv n d p q < 0))) [] := by
  refine FC.of_run mix Tryz.func49 rfl rfl (by simp [Tryz.ntmps49]) ?_
  simp (maxSteps := 1000000) only [go_sem, ↓reduceIte, Nat.reduceLT, Nat.reduceLeDiff, Nat.reduceEqDiff, Nat.reduceAdd, Nat.reduceSub, Nat.reduceBEq, reduceCtorEq, List.getElem?_toArray, Option.bind_some, decide_true, decide_false, Bool.true_beq, Bool.false_beq, Bool.not_true, Bool.not_false, not_true_eq_false, not_false_eq_true, Tryz.ntmps49]
  refine callF (c30 n d p q) ?_ ?_ ?_ ?_
  · simp (maxSteps := 1000000) only [go_sem, ↓reduceIte, Nat.reduceLT, Nat.reduceLeDiff, Nat.reduceEqDiff, Nat.reduceAdd, Nat.reduceSub, Nat.reduceBEq, reduceCtorEq, List.getElem?_toArray, Option.bind_some, decide_true, decide_false, Bool.true_beq, Bool.false_beq, Bool.not_true, Bool.not_false, not_true_eq_false, not_false_eq_true]
  · simp (maxSteps := 1000000) only [go_sem, ↓reduceIte, Nat.reduceLT, Nat.reduceLeDiff, Nat.reduceEqDiff, Nat.reduceAdd, Nat.reduceSub, Nat.reduceBEq, reduceCtorEq, List.getElem?_toArray, Option.bind_some, decide_true, decide_false, Bool.true_beq, Bool.false_beq, Bool.not_true, Bool.not_false, not_true_eq_false, not_false_eq_true]
  · simp (maxSteps := 1000000) only [go_sem, ↓reduceIte, Nat.reduceLT, Nat.reduceLeDiff, Nat.reduceEqDiff, Nat.reduceAdd, Nat.reduceSub, Nat.reduceBEq, reduceCtorEq, List.getElem?_toArray, Option.bind_some, decide_true, decide_false, Bool.true_beq, Bool.false_beq, Bool.not_true, Bool.not_false, not_true_eq_false, not_false_eq_true]
  simp (maxSteps := 1000000) only [go_sem, ↓reduceIte, Nat.reduceLT, Nat.reduceLeDiff, Nat.reduceEqDiff, Nat.reduceAdd, Nat.reduceSub, Nat.reduceBEq, reduceCtorEq, List.getElem?_toArray, Option.bind_some, decide_true, decide_false, Bool.true_beq, Bool.false_beq, Bool.not_true, Bool.not_false, not_true_eq_false, not_false_eq_true]
  refine Fin.ret [.bool (decide (cmpv n d p q < 0))] [] true ?_ (by simp) (by simp) ?_ ?_ <;> simp (maxSteps := 1000000) only [go_sem, ↓reduceIte, Nat.reduceLT, Nat.reduceLeDiff, Nat.reduceEqDiff, Nat.reduceAdd, Nat.reduceSub, Nat.reduceBEq, reduceCtorEq, List.getElem?_toArray, Option.bind_some, decide_true, decide_false, Bool.true_beq, Bool.false_beq, Bool.not_true, Bool.not_false, not_true_eq_false, not_false_eq_true, Tryz.results49, List.range_zero]
abbrev F3 := Int × Int × Int
def frow (x : F3) : List D := [.int .i64 x.1, .int .i64 x.2.1, .int .i64 x.2.2]
def first (x y : F3) : Prop := cmpv x.2.1 x.2.2 y.2.1 y.2.2 < 0 ∨ cmpv x.2.1 x.2.2 y.2.1 y.2.2 = 0 ∧ x.1 < y.1
instance (x y : F3) : Decidable (first x y) := by unfold first; infer_instance
set_option maxRecDepth 20000 in
theorem c314 (x y : F3) : FC Tryz.prog 314 [.agg [], .agg (frow x), .agg (frow y)] [] (.bool (decide (first x y))) [] := by
  obtain ⟨a, n, d⟩ := x
  obtain ⟨b, p, q⟩ := y
  refine FC.of_run mix Tryz.func314 rfl rfl (by simp [Tryz.ntmps314]) ?_
  simp (maxSteps := 1000000) only [go_sem, ↓reduceIte, Nat.reduceLT, Nat.reduceLeDiff, Nat.reduceEqDiff, Nat.reduceAdd, Nat.reduceSub, Nat.reduceBEq, reduceCtorEq, List.getElem?_toArray, Option.bind_some, decide_true, decide_false, Bool.true_beq, Bool.false_beq, Bool.not_true, Bool.not_false, not_true_eq_false, not_false_eq_true, Tryz.ntmps314, frow]
  refine callF (c30 n d p q) ?_ ?_ ?_ ?_
  · simp (maxSteps := 1000000) only [go_sem, ↓reduceIte, Nat.reduceLT, Nat.reduceLeDiff, Nat.reduceEqDiff, Nat.reduceAdd, Nat.reduceSub, Nat.reduceBEq, reduceCtorEq, List.getElem?_toArray, Option.bind_some, decide_true, decide_false, Bool.true_beq, Bool.false_beq, Bool.not_true, Bool.not_false, not_true_eq_false, not_false_eq_true]
  · simp (maxSteps := 1000000) only [go_sem, ↓reduceIte, Nat.reduceLT, Nat.reduceLeDiff, Nat.reduceEqDiff, Nat.reduceAdd, Nat.reduceSub, Nat.reduceBEq, reduceCtorEq, List.getElem?_toArray, Option.bind_some, decide_true, decide_false, Bool.true_beq, Bool.false_beq, Bool.not_true, Bool.not_false, not_true_eq_false, not_false_eq_true]
  · simp (maxSteps := 1000000) only [go_sem, ↓reduceIte, Nat.reduceLT, Nat.reduceLeDiff, Nat.reduceEqDiff, Nat.reduceAdd, Nat.reduceSub, Nat.reduceBEq, reduceCtorEq, List.getElem?_toArray, Option.bind_some, decide_true, decide_false, Bool.true_beq, Bool.false_beq, Bool.not_true, Bool.not_false, not_true_eq_false, not_false_eq_true]
  by_cases h1 : cmpv n d p q < 0
  · simp (maxSteps := 1000000) only [go_sem, ↓reduceIte, Nat.reduceLT, Nat.reduceLeDiff, Nat.reduceEqDiff, Nat.reduceAdd, Nat.reduceSub, Nat.reduceBEq, reduceCtorEq, List.getElem?_toArray, Option.bind_some, decide_true, decide_false, Bool.true_beq, Bool.false_beq, Bool.not_true, Bool.not_false, not_true_eq_false, not_false_eq_true, h1]
    rw [show decide (first (a, n, d) (b, p, q)) = true by simp [first, h1]]
    refine Fin.ret [.bool true] [] true ?_ (by simp) (by simp) ?_ ?_ <;> simp (maxSteps := 1000000) only [go_sem, ↓reduceIte, Nat.reduceLT, Nat.reduceLeDiff, Nat.reduceEqDiff, Nat.reduceAdd, Nat.reduceSub, Nat.reduceBEq, reduceCtorEq, List.getElem?_toArray, Option.bind_some, decide_true, decide_false, Bool.true_beq, Bool.false_beq, Bool.not_true, Bool.not_false, not_true_eq_false, not_false_eq_true, Tryz.results314, List.range_zero]
  · by_cases h2 : cmpv n d p q = 0
    · simp (maxSteps := 1000000) only [go_sem, ↓reduceIte, Nat.reduceLT, Nat.reduceLeDiff, Nat.reduceEqDiff, Nat.reduceAdd, Nat.reduceSub, Nat.reduceBEq, reduceCtorEq, List.getElem?_toArray, Option.bind_some, decide_true, decide_false, Bool.true_beq, Bool.false_beq, Bool.not_true, Bool.not_false, not_true_eq_false, not_false_eq_true, h1, h2, Int.lt_irrefl]
      rw [show decide (first (a, n, d) (b, p, q)) = decide (a < b) by simp [first, h2]]
      refine Fin.ret [.bool (decide (a < b))] [] true ?_ (by simp) (by simp) ?_ ?_ <;> simp (maxSteps := 1000000) only [go_sem, ↓reduceIte, Nat.reduceLT, Nat.reduceLeDiff, Nat.reduceEqDiff, Nat.reduceAdd, Nat.reduceSub, Nat.reduceBEq, reduceCtorEq, List.getElem?_toArray, Option.bind_some, decide_true, decide_false, Bool.true_beq, Bool.false_beq, Bool.not_true, Bool.not_false, not_true_eq_false, not_false_eq_true, Tryz.results314, List.range_zero]
    · simp (maxSteps := 1000000) only [go_sem, ↓reduceIte, Nat.reduceLT, Nat.reduceLeDiff, Nat.reduceEqDiff, Nat.reduceAdd, Nat.reduceSub, Nat.reduceBEq, reduceCtorEq, List.getElem?_toArray, Option.bind_some, decide_true, decide_false, Bool.true_beq, Bool.false_beq, Bool.not_true, Bool.not_false, not_true_eq_false, not_false_eq_true, h1, h2]
      rw [show decide (first (a, n, d) (b, p, q)) = false by simp [first, h1, h2]]
      refine Fin.ret [.bool false] [] true ?_ (by simp) (by simp) ?_ ?_ <;> simp (maxSteps := 1000000) only [go_sem, ↓reduceIte, Nat.reduceLT, Nat.reduceLeDiff, Nat.reduceEqDiff, Nat.reduceAdd, Nat.reduceSub, Nat.reduceBEq, reduceCtorEq, List.getElem?_toArray, Option.bind_some, decide_true, decide_false, Bool.true_beq, Bool.false_beq, Bool.not_true, Bool.not_false, not_true_eq_false, not_false_eq_true, Tryz.results314, List.range_zero]
def pickF (l : List F3) : Nat → Nat
  | 0 => 0
  | i + 1 => if first (l.getD i default) (l.getD (pickF l i) default) then i else pickF l i
theorem pickF_lt (l : List F3) : ∀ i, pickF l i < i ∨ (i ≤ 1 ∧ pickF l i = 0)
  | 0 => .inr ⟨by omega, rfl⟩
  | i + 1 => by
    have := pickF_lt l i
    simp only [pickF]
    split <;> omega
theorem frows_get {l : List F3} {i : Nat} (h : i < l.length) : (l.map frow)[i]? = some (frow (l.getD i default)) := by simp [List.getD, h]
theorem frow_len (x : F3) : (frow x).length = 3 := rfl
set_option maxRecDepth 20000 in
theorem c76 (l : List F3) (hl : l.length < 1000000) : FC Tryz.prog 76 [.ifc 141, .vs (l.map frow)] [] (.int .i64 (pickF l l.length)) [] := by
  refine FC.of_run mix Tryz.func76 rfl rfl (by simp [Tryz.ntmps76]) ?_
  simp (maxSteps := 1000000) only [go_sem, ↓reduceIte, Nat.reduceLT, Nat.reduceLeDiff, Nat.reduceEqDiff, Nat.reduceAdd, Nat.reduceSub, Nat.reduceBEq, reduceCtorEq, List.getElem?_toArray, Option.bind_some, decide_true, decide_false, Bool.true_beq, Bool.false_beq, Bool.not_true, Bool.not_false, not_true_eq_false, not_false_eq_true, Tryz.ntmps76, List.length_map]
  refine AW.loopx (σ := Nat) mix (fun i => ⟨28, [(9, .int .i64 i), (8, .int .i64 l.length), (5, .int .i64 (pickF l i)), (1, .vs (l.map frow)), (0, .ifc 141), (4, .int .i64 0)], []⟩) (fun i => i ≤ l.length) (fun i => l.length - i) 0 (by omega) (Conv.mk ?_ ?_ ?_ ?_ ?_) ?_
  · simp (maxSteps := 1000000) only [go_sem, ↓reduceIte, Nat.reduceLT, Nat.reduceLeDiff, Nat.reduceEqDiff, Nat.reduceAdd, Nat.reduceSub, Nat.reduceBEq, reduceCtorEq, List.getElem?_toArray, Option.bind_some, decide_true, decide_false, Bool.true_beq, Bool.false_beq, Bool.not_true, Bool.not_false, not_true_eq_false, not_false_eq_true]
    simp [pickF]
  · simp (maxSteps := 1000000) only [go_sem, ↓reduceIte, Nat.reduceLT, Nat.reduceLeDiff, Nat.reduceEqDiff, Nat.reduceAdd, Nat.reduceSub, Nat.reduceBEq, reduceCtorEq, List.getElem?_toArray, Option.bind_some, decide_true, decide_false, Bool.true_beq, Bool.false_beq, Bool.not_true, Bool.not_false, not_true_eq_false, not_false_eq_true]
  · simp (maxSteps := 1000000) only [go_sem, ↓reduceIte, Nat.reduceLT, Nat.reduceLeDiff, Nat.reduceEqDiff, Nat.reduceAdd, Nat.reduceSub, Nat.reduceBEq, reduceCtorEq, List.getElem?_toArray, Option.bind_some, decide_true, decide_false, Bool.true_beq, Bool.false_beq, Bool.not_true, Bool.not_false, not_true_eq_false, not_false_eq_true]
  · simp (maxSteps := 1000000) only [go_sem, ↓reduceIte, Nat.reduceLT, Nat.reduceLeDiff, Nat.reduceEqDiff, Nat.reduceAdd, Nat.reduceSub, Nat.reduceBEq, reduceCtorEq, List.getElem?_toArray, Option.bind_some, decide_true, decide_false, Bool.true_beq, Bool.false_beq, Bool.not_true, Bool.not_false, not_true_eq_false, not_false_eq_true]
  · simp (maxSteps := 1000000) only [go_sem, ↓reduceIte, Nat.reduceLT, Nat.reduceLeDiff, Nat.reduceEqDiff, Nat.reduceAdd, Nat.reduceSub, Nat.reduceBEq, reduceCtorEq, List.getElem?_toArray, Option.bind_some, decide_true, decide_false, Bool.true_beq, Bool.false_beq, Bool.not_true, Bool.not_false, not_true_eq_false, not_false_eq_true]
  · intro i hi
    simp (maxSteps := 1000000) only [go_sem, ↓reduceIte, Nat.reduceLT, Nat.reduceLeDiff, Nat.reduceEqDiff, Nat.reduceAdd, Nat.reduceSub, Nat.reduceBEq, reduceCtorEq, List.getElem?_toArray, Option.bind_some, decide_true, decide_false, Bool.true_beq, Bool.false_beq, Bool.not_true, Bool.not_false, not_true_eq_false, not_false_eq_true, ltN]
    refine cndB_dec (fun h => ?_) (fun h => ?_)
    · have hx := frows_get (l := l) (i := i) (by omega)
      have hp := pickF_lt l i
      have hy := frows_get (l := l) (i := pickF l i) (by omega)
      have hw : IntKind.i64.wrap ((i : Int) + 1) = ((i + 1 : Nat) : Int) := by rw [← wrapN (a := i + 1) (by omega)]; rfl
      simp (maxSteps := 1000000) only [go_sem, ↓reduceIte, Nat.reduceLT, Nat.reduceLeDiff, Nat.reduceEqDiff, Nat.reduceAdd, Nat.reduceSub, Nat.reduceBEq, reduceCtorEq, List.getElem?_toArray, Option.bind_some, decide_true, decide_false, Bool.true_beq, Bool.false_beq, Bool.not_true, Bool.not_false, not_true_eq_false, not_false_eq_true, ltN0, Int.toNat_natCast, hx, hy, frow_len]
      rw [callVB_ifc me141]
      simp (maxSteps := 1000000) only [go_sem, ↓reduceIte, Nat.reduceLT, Nat.reduceLeDiff, Nat.reduceEqDiff, Nat.reduceAdd, Nat.reduceSub, Nat.reduceBEq, reduceCtorEq, List.getElem?_toArray, Option.bind_some, decide_true, decide_false, Bool.true_beq, Bool.false_beq, Bool.not_true, Bool.not_false, not_true_eq_false, not_false_eq_true]
      refine callF (c314 (l.getD i default) (l.getD (pickF l i) default)) ?_ ?_ ?_ ?_
      · simp (maxSteps := 1000000) only [go_sem, ↓reduceIte, Nat.reduceLT, Nat.reduceLeDiff, Nat.reduceEqDiff, Nat.reduceAdd, Nat.reduceSub, Nat.reduceBEq, reduceCtorEq, List.getElem?_toArray, Option.bind_some, decide_true, decide_false, Bool.true_beq, Bool.false_beq, Bool.not_true, Bool.not_false, not_true_eq_false, not_false_eq_true, frow]
      · simp (maxSteps := 1000000) only [go_sem, ↓reduceIte, Nat.reduceLT, Nat.reduceLeDiff, Nat.reduceEqDiff, Nat.reduceAdd, Nat.reduceSub, Nat.reduceBEq, reduceCtorEq, List.getElem?_toArray, Option.bind_some, decide_true, decide_false, Bool.true_beq, Bool.false_beq, Bool.not_true, Bool.not_false, not_true_eq_false, not_false_eq_true, frow]
      · simp (maxSteps := 1000000) only [go_sem, ↓reduceIte, Nat.reduceLT, Nat.reduceLeDiff, Nat.reduceEqDiff, Nat.reduceAdd, Nat.reduceSub, Nat.reduceBEq, reduceCtorEq, List.getElem?_toArray, Option.bind_some, decide_true, decide_false, Bool.true_beq, Bool.false_beq, Bool.not_true, Bool.not_false, not_true_eq_false, not_false_eq_true, frow]
      simp (maxSteps := 1000000) only [go_sem, ↓reduceIte, Nat.reduceLT, Nat.reduceLeDiff, Nat.reduceEqDiff, Nat.reduceAdd, Nat.reduceSub, Nat.reduceBEq, reduceCtorEq, List.getElem?_toArray, Option.bind_some, decide_true, decide_false, Bool.true_beq, Bool.false_beq, Bool.not_true, Bool.not_false, not_true_eq_false, not_false_eq_true]
      refine drawnB_ok (by kernel_rfl) ?_
      simp (maxSteps := 1000000) only [go_sem, ↓reduceIte, Nat.reduceLT, Nat.reduceLeDiff, Nat.reduceEqDiff, Nat.reduceAdd, Nat.reduceSub, Nat.reduceBEq, reduceCtorEq, List.getElem?_toArray, Option.bind_some, decide_true, decide_false, Bool.true_beq, Bool.false_beq, Bool.not_true, Bool.not_false, not_true_eq_false, not_false_eq_true]
      refine cndB_dec (fun h3 => ?_) (fun h3 => ?_)
      · simp (maxSteps := 1000000) only [go_sem, ↓reduceIte, Nat.reduceLT, Nat.reduceLeDiff, Nat.reduceEqDiff, Nat.reduceAdd, Nat.reduceSub, Nat.reduceBEq, reduceCtorEq, List.getElem?_toArray, Option.bind_some, decide_true, decide_false, Bool.true_beq, Bool.false_beq, Bool.not_true, Bool.not_false, not_true_eq_false, not_false_eq_true, hw]
        refine ⟨i + 1, by omega, by omega, Conv.mk ?_ ?_ ?_ ?_ ?_⟩ <;> simp (maxSteps := 1000000) only [go_sem, ↓reduceIte, Nat.reduceLT, Nat.reduceLeDiff, Nat.reduceEqDiff, Nat.reduceAdd, Nat.reduceSub, Nat.reduceBEq, reduceCtorEq, List.getElem?_toArray, Option.bind_some, decide_true, decide_false, Bool.true_beq, Bool.false_beq, Bool.not_true, Bool.not_false, not_true_eq_false, not_false_eq_true]
        simp only [pickF, h3, if_true]
      · simp (maxSteps := 1000000) only [go_sem, ↓reduceIte, Nat.reduceLT, Nat.reduceLeDiff, Nat.reduceEqDiff, Nat.reduceAdd, Nat.reduceSub, Nat.reduceBEq, reduceCtorEq, List.getElem?_toArray, Option.bind_some, decide_true, decide_false, Bool.true_beq, Bool.false_beq, Bool.not_true, Bool.not_false, not_true_eq_false, not_false_eq_true, hw]
        refine ⟨i + 1, by omega, by omega, Conv.mk ?_ ?_ ?_ ?_ ?_⟩ <;> simp (maxSteps := 1000000) only [go_sem, ↓reduceIte, Nat.reduceLT, Nat.reduceLeDiff, Nat.reduceEqDiff, Nat.reduceAdd, Nat.reduceSub, Nat.reduceBEq, reduceCtorEq, List.getElem?_toArray, Option.bind_some, decide_true, decide_false, Bool.true_beq, Bool.false_beq, Bool.not_true, Bool.not_false, not_true_eq_false, not_false_eq_true]
        simp only [pickF, h3, if_false]
    · have : i = l.length := by omega
      subst this
      simp (maxSteps := 1000000) only [go_sem, ↓reduceIte, Nat.reduceLT, Nat.reduceLeDiff, Nat.reduceEqDiff, Nat.reduceAdd, Nat.reduceSub, Nat.reduceBEq, reduceCtorEq, List.getElem?_toArray, Option.bind_some, decide_true, decide_false, Bool.true_beq, Bool.false_beq, Bool.not_true, Bool.not_false, not_true_eq_false, not_false_eq_true]
      refine Fin.ret [.int .i64 (pickF l l.length)] [] true ?_ (by simp) (by simp) ?_ ?_ <;> simp (maxSteps := 1000000) only [go_sem, ↓reduceIte, Nat.reduceLT, Nat.reduceLeDiff, Nat.reduceEqDiff, Nat.reduceAdd, Nat.reduceSub, Nat.reduceBEq, reduceCtorEq, List.getElem?_toArray, Option.bind_some, decide_true, decide_false, Bool.true_beq, Bool.false_beq, Bool.not_true, Bool.not_false, not_true_eq_false, not_false_eq_true, Tryz.results76, List.range_zero]
set_option maxRecDepth 20000 in
theorem c44 (l : List F3) (hl : l.length < 1000000) : FC Tryz.prog 44 [.vs (l.map frow)] [] (.int .i64 (pickF l l.length)) [] := by
  refine FC.of_run mix Tryz.func44 rfl rfl (by simp [Tryz.ntmps44]) ?_
  simp (maxSteps := 1000000) only [go_sem, ↓reduceIte, Nat.reduceLT, Nat.reduceLeDiff, Nat.reduceEqDiff, Nat.reduceAdd, Nat.reduceSub, Nat.reduceBEq, reduceCtorEq, List.getElem?_toArray, Option.bind_some, decide_true, decide_false, Bool.true_beq, Bool.false_beq, Bool.not_true, Bool.not_false, not_true_eq_false, not_false_eq_true, Tryz.ntmps44]
  refine callF (c76 l hl) ?_ ?_ ?_ ?_
  · simp (maxSteps := 1000000) only [go_sem, ↓reduceIte, Nat.reduceLT, Nat.reduceLeDiff, Nat.reduceEqDiff, Nat.reduceAdd, Nat.reduceSub, Nat.reduceBEq, reduceCtorEq, List.getElem?_toArray, Option.bind_some, decide_true, decide_false, Bool.true_beq, Bool.false_beq, Bool.not_true, Bool.not_false, not_true_eq_false, not_false_eq_true]
  · simp (maxSteps := 1000000) only [go_sem, ↓reduceIte, Nat.reduceLT, Nat.reduceLeDiff, Nat.reduceEqDiff, Nat.reduceAdd, Nat.reduceSub, Nat.reduceBEq, reduceCtorEq, List.getElem?_toArray, Option.bind_some, decide_true, decide_false, Bool.true_beq, Bool.false_beq, Bool.not_true, Bool.not_false, not_true_eq_false, not_false_eq_true]
  · simp (maxSteps := 1000000) only [go_sem, ↓reduceIte, Nat.reduceLT, Nat.reduceLeDiff, Nat.reduceEqDiff, Nat.reduceAdd, Nat.reduceSub, Nat.reduceBEq, reduceCtorEq, List.getElem?_toArray, Option.bind_some, decide_true, decide_false, Bool.true_beq, Bool.false_beq, Bool.not_true, Bool.not_false, not_true_eq_false, not_false_eq_true]
  simp (maxSteps := 1000000) only [go_sem, ↓reduceIte, Nat.reduceLT, Nat.reduceLeDiff, Nat.reduceEqDiff, Nat.reduceAdd, Nat.reduceSub, Nat.reduceBEq, reduceCtorEq, List.getElem?_toArray, Option.bind_some, decide_true, decide_false, Bool.true_beq, Bool.false_beq, Bool.not_true, Bool.not_false, not_true_eq_false, not_false_eq_true]
  refine ⟨[.int .i64 (pickF l l.length)], [], true, ?_, by simp, by simp, ?_, ?_⟩ <;> simp (maxSteps := 1000000) only [go_sem, ↓reduceIte, Nat.reduceLT, Nat.reduceLeDiff, Nat.reduceEqDiff, Nat.reduceAdd, Nat.reduceSub, Nat.reduceBEq, reduceCtorEq, List.getElem?_toArray, Option.bind_some, decide_true, decide_false, Bool.true_beq, Bool.false_beq, Bool.not_true, Bool.not_false, not_true_eq_false, not_false_eq_true, Tryz.results44, List.range_zero]
end J

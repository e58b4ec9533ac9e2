/- A part of the proof: the walk of functions that the law reaches. -/
import Derived.Test.YtcahllecebcfdaaGreatJ11
open Go Go.Proofs Go.AH
set_option linter.unusedSimpArgs false
set_option linter.unusedVariables false
namespace J
theorem un36 : Tryz.prog.underlying 36 = some (.slice 27) := Tryz.underlying36
attribute [local go_sem] sz27 ag27 fld27_0 fld27_1 sz35 ag35 un35 in3 in112 sz112 ag112 sz25 ag25 sz23 ag23 fld25_0 fld25_1 fld23_0 fld23_1 sz3 ag3 sz4 ag4 anil_int anil_tmp bne_dec beq_dec
attribute [local go_sem] sz45 ag45 fld45_0 fld45_1 un37 st141 me141 sz141 ag141 bt4 emp

attribute [local go_sem] un36
abbrev F4 := Int × Int × Int × Int
def hrow (x : F4) : List D := [.int .i64 x.1, .int .i64 x.2.1, .int .i64 x.2.2.1, .int .i64 x.2.2.2]
theorem hrows_get {l : List F4} {i : Nat} (h : i < l.length) : (l.map hrow)[i]? = some (hrow (l.getD i default)) := by simp [List.getD, h]
def less (x : F4) (y : F3) : Prop := cmpv x.1 x.2.1 y.2.1 y.2.2 < 0
instance (x : F4) (y : F3) : Decidable (less x y) := by unfold less; infer_instance
def ends (B : List F4) (l : List F3) (k : Nat) : Prop := l.length = 0 ∨ k + 1 ≤ B.length ∧ less (B.getD k default) (l.getD (pickF l l.length) default)
instance (B : List F4) (l : List F3) (k : Nat) : Decidable (ends B l k) := by unfold ends; infer_instance
theorem leN (a b : Nat) : ((a : Int) ≤ b) = (a ≤ b) := by simp
theorem subN {k : Nat} (h : k < 1000000) : IntKind.i64.wrap (((k + 1 : Nat) : Int) - 1) = (k : Int) := by
  rw [show ((k + 1 : Nat) : Int) - 1 = (k : Int) by omega]; exact wrapN (by omega)
theorem neg_k (k : Nat) : ((k : Int) < 0) = False := ltN0 k
set_option maxRecDepth 20000 in
theorem c50 (B : List F4) (l : List F3) (k : Nat) (hB : B.length < 1000000) (hl : l.length < 1000000) : FC Tryz.prog 50 [.vs (B.map hrow), .vs (l.map frow), .int .i64 ((k + 1 : Nat) : Int)] [] (.bool (decide (ends B l k))) [] := by
  refine FC.of_run mix Tryz.func50 rfl rfl (by simp [Tryz.ntmps50]) ?_
  by_cases h0 : l.length = 0
  · rw [show decide (ends B l k) = true by simp [ends, h0]]
    simp (maxSteps := 1000000) only [go_sem, ↓reduceIte, Nat.reduceLT, Nat.reduceLeDiff, Nat.reduceEqDiff, Nat.reduceAdd, Nat.reduceSub, Nat.reduceBEq, reduceCtorEq, List.getElem?_toArray, Option.bind_some, decide_true, decide_false, Bool.true_beq, Bool.false_beq, Bool.not_true, Bool.not_false, not_true_eq_false, not_false_eq_true, Tryz.ntmps50, List.length_map, eqN0, h0]
    refine Fin.ret [.bool true] [] true ?_ (by simp) (by simp) ?_ ?_ <;> simp (maxSteps := 1000000) only [go_sem, ↓reduceIte, Nat.reduceLT, Nat.reduceLeDiff, Nat.reduceEqDiff, Nat.reduceAdd, Nat.reduceSub, Nat.reduceBEq, reduceCtorEq, List.getElem?_toArray, Option.bind_some, decide_true, decide_false, Bool.true_beq, Bool.false_beq, Bool.not_true, Bool.not_false, not_true_eq_false, not_false_eq_true, Tryz.results50, List.range_zero]
  · by_cases h1 : k + 1 ≤ B.length
    · have hx := hrows_get (l := B) (i := k) (by omega)
      have hp := pickF_lt l l.length
      have hy := frows_get (l := l) (i := pickF l l.length) (by omega)
      have he : decide (ends B l k) = decide (less (B.getD k default) (l.getD (pickF l l.length) default)) := by simp [ends, h0, h1]
      rw [he]
      have hw := subN (k := k) (by omega)
      generalize hX : B.getD k default = x at hx
      generalize hY : l.getD (pickF l l.length) default = y at hy
      obtain ⟨n, d, s, t⟩ := x
      obtain ⟨b, p, q⟩ := y
      simp (maxSteps := 1000000) only [go_sem, ↓reduceIte, Nat.reduceLT, Nat.reduceLeDiff, Nat.reduceEqDiff, Nat.reduceAdd, Nat.reduceSub, Nat.reduceBEq, reduceCtorEq, List.getElem?_toArray, Option.bind_some, decide_true, decide_false, Bool.true_beq, Bool.false_beq, Bool.not_true, Bool.not_false, not_true_eq_false, not_false_eq_true, Tryz.ntmps50, List.length_map, eqN0, h0, ge_iff_le, leN, h1, hw, neg_k, Int.toNat_natCast, hx, hrow]
      refine callF (c44 l hl) ?_ ?_ ?_ ?_
      · simp (maxSteps := 1000000) only [go_sem, ↓reduceIte, Nat.reduceLT, Nat.reduceLeDiff, Nat.reduceEqDiff, Nat.reduceAdd, Nat.reduceSub, Nat.reduceBEq, reduceCtorEq, List.getElem?_toArray, Option.bind_some, decide_true, decide_false, Bool.true_beq, Bool.false_beq, Bool.not_true, Bool.not_false, not_true_eq_false, not_false_eq_true]
      · simp (maxSteps := 1000000) only [go_sem, ↓reduceIte, Nat.reduceLT, Nat.reduceLeDiff, Nat.reduceEqDiff, Nat.reduceAdd, Nat.reduceSub, Nat.reduceBEq, reduceCtorEq, List.getElem?_toArray, Option.bind_some, decide_true, decide_false, Bool.true_beq, Bool.false_beq, Bool.not_true, Bool.not_false, not_true_eq_false, not_false_eq_true]
      · simp (maxSteps := 1000000) only [go_sem, ↓reduceIte, Nat.reduceLT, Nat.reduceLeDiff, Nat.reduceEqDiff, Nat.reduceAdd, Nat.reduceSub, Nat.reduceBEq, reduceCtorEq, List.getElem?_toArray, Option.bind_some, decide_true, decide_false, Bool.true_beq, Bool.false_beq, Bool.not_true, Bool.not_false, not_true_eq_false, not_false_eq_true]
      simp (maxSteps := 1000000) only [go_sem, ↓reduceIte, Nat.reduceLT, Nat.reduceLeDiff, Nat.reduceEqDiff, Nat.reduceAdd, Nat.reduceSub, Nat.reduceBEq, reduceCtorEq, List.getElem?_toArray, Option.bind_some, decide_true, decide_false, Bool.true_beq, Bool.false_beq, Bool.not_true, Bool.not_false, not_true_eq_false, not_false_eq_true, neg_k, ltN0, Int.toNat_natCast, hx, hy, hrow, frow]
      refine callF (c49 n d p q) ?_ ?_ ?_ ?_
      · simp (maxSteps := 1000000) only [go_sem, ↓reduceIte, Nat.reduceLT, Nat.reduceLeDiff, Nat.reduceEqDiff, Nat.reduceAdd, Nat.reduceSub, Nat.reduceBEq, reduceCtorEq, List.getElem?_toArray, Option.bind_some, decide_true, decide_false, Bool.true_beq, Bool.false_beq, Bool.not_true, Bool.not_false, not_true_eq_false, not_false_eq_true]
      · simp (maxSteps := 1000000) only [go_sem, ↓reduceIte, Nat.reduceLT, Nat.reduceLeDiff, Nat.reduceEqDiff, Nat.reduceAdd, Nat.reduceSub, Nat.reduceBEq, reduceCtorEq, List.getElem?_toArray, Option.bind_some, decide_true, decide_false, Bool.true_beq, Bool.false_beq, Bool.not_true, Bool.not_false, not_true_eq_false, not_false_eq_true]
      · simp (maxSteps := 1000000) only [go_sem, ↓reduceIte, Nat.reduceLT, Nat.reduceLeDiff, Nat.reduceEqDiff, Nat.reduceAdd, Nat.reduceSub, Nat.reduceBEq, reduceCtorEq, List.getElem?_toArray, Option.bind_some, decide_true, decide_false, Bool.true_beq, Bool.false_beq, Bool.not_true, Bool.not_false, not_true_eq_false, not_false_eq_true]
      simp (maxSteps := 1000000) only [go_sem, ↓reduceIte, Nat.reduceLT, Nat.reduceLeDiff, Nat.reduceEqDiff, Nat.reduceAdd, Nat.reduceSub, Nat.reduceBEq, reduceCtorEq, List.getElem?_toArray, Option.bind_some, decide_true, decide_false, Bool.true_beq, Bool.false_beq, Bool.not_true, Bool.not_false, not_true_eq_false, not_false_eq_true]
      refine drawnB_ok (by kernel_rfl) ?_
      simp (maxSteps := 1000000) only [go_sem, ↓reduceIte, Nat.reduceLT, Nat.reduceLeDiff, Nat.reduceEqDiff, Nat.reduceAdd, Nat.reduceSub, Nat.reduceBEq, reduceCtorEq, List.getElem?_toArray, Option.bind_some, decide_true, decide_false, Bool.true_beq, Bool.false_beq, Bool.not_true, Bool.not_false, not_true_eq_false, not_false_eq_true]
      refine Fin.ret [.bool (decide (cmpv n d p q < 0))] [] true ?_ (by simp) (by simp) ?_ ?_ <;> simp (maxSteps := 1000000) only [go_sem, ↓reduceIte, Nat.reduceLT, Nat.reduceLeDiff, Nat.reduceEqDiff, Nat.reduceAdd, Nat.reduceSub, Nat.reduceBEq, reduceCtorEq, List.getElem?_toArray, Option.bind_some, decide_true, decide_false, Bool.true_beq, Bool.false_beq, Bool.not_true, Bool.not_false, not_true_eq_false, not_false_eq_true, Tryz.results50, List.range_zero, less]
    · rw [show decide (ends B l k) = false by simp [ends, h0, h1]]
      simp (maxSteps := 1000000) only [go_sem, ↓reduceIte, Nat.reduceLT, Nat.reduceLeDiff, Nat.reduceEqDiff, Nat.reduceAdd, Nat.reduceSub, Nat.reduceBEq, reduceCtorEq, List.getElem?_toArray, Option.bind_some, decide_true, decide_false, Bool.true_beq, Bool.false_beq, Bool.not_true, Bool.not_false, not_true_eq_false, not_false_eq_true, Tryz.ntmps50, List.length_map, eqN0, h0, ge_iff_le, leN, h1]
      refine drawnB_ok (by kernel_rfl) ?_
      simp (maxSteps := 1000000) only [go_sem, ↓reduceIte, Nat.reduceLT, Nat.reduceLeDiff, Nat.reduceEqDiff, Nat.reduceAdd, Nat.reduceSub, Nat.reduceBEq, reduceCtorEq, List.getElem?_toArray, Option.bind_some, decide_true, decide_false, Bool.true_beq, Bool.false_beq, Bool.not_true, Bool.not_false, not_true_eq_false, not_false_eq_true]
      refine Fin.ret [.bool false] [] true ?_ (by simp) (by simp) ?_ ?_ <;> simp (maxSteps := 1000000) only [go_sem, ↓reduceIte, Nat.reduceLT, Nat.reduceLeDiff, Nat.reduceEqDiff, Nat.reduceAdd, Nat.reduceSub, Nat.reduceBEq, reduceCtorEq, List.getElem?_toArray, Option.bind_some, decide_true, decide_false, Bool.true_beq, Bool.false_beq, Bool.not_true, Bool.not_false, not_true_eq_false, not_false_eq_true, Tryz.results50, List.range_zero]
set_option maxRecDepth 20000 in
theorem c52 (B : List F4) (l : List F3) (k : Nat) (hB : B.length < 1000000) (hl : l.length < 1000000) : FC Tryz.prog 52 [.vs (B.map hrow), .vs (l.map frow), .int .i64 ((k + 1 : Nat) : Int)] [] (.bool (decide (ends B l k))) [] := by
  refine FC.of_run mix Tryz.func52 rfl rfl (by simp [Tryz.ntmps52]) ?_
  by_cases h0 : l.length = 0
  · rw [show decide (ends B l k) = true by simp [ends, h0]]
    simp (maxSteps := 1000000) only [go_sem, ↓reduceIte, Nat.reduceLT, Nat.reduceLeDiff, Nat.reduceEqDiff, Nat.reduceAdd, Nat.reduceSub, Nat.reduceBEq, reduceCtorEq, List.getElem?_toArray, Option.bind_some, decide_true, decide_false, Bool.true_beq, Bool.false_beq, Bool.not_true, Bool.not_false, not_true_eq_false, not_false_eq_true, Tryz.ntmps52, List.length_map, eqN0, h0]
    refine drawnB_ok (by kernel_rfl) ?_
    simp (maxSteps := 1000000) only [go_sem, ↓reduceIte, Nat.reduceLT, Nat.reduceLeDiff, Nat.reduceEqDiff, Nat.reduceAdd, Nat.reduceSub, Nat.reduceBEq, reduceCtorEq, List.getElem?_toArray, Option.bind_some, decide_true, decide_false, Bool.true_beq, Bool.false_beq, Bool.not_true, Bool.not_false, not_true_eq_false, not_false_eq_true]
    refine Fin.ret [.bool true] [] true ?_ (by simp) (by simp) ?_ ?_ <;> simp (maxSteps := 1000000) only [go_sem, ↓reduceIte, Nat.reduceLT, Nat.reduceLeDiff, Nat.reduceEqDiff, Nat.reduceAdd, Nat.reduceSub, Nat.reduceBEq, reduceCtorEq, List.getElem?_toArray, Option.bind_some, decide_true, decide_false, Bool.true_beq, Bool.false_beq, Bool.not_true, Bool.not_false, not_true_eq_false, not_false_eq_true, Tryz.results52, List.range_zero]
  · by_cases h1 : k + 1 ≤ B.length
    · have hx := hrows_get (l := B) (i := k) (by omega)
      have hp := pickF_lt l l.length
      have hy := frows_get (l := l) (i := pickF l l.length) (by omega)
      have he : decide (ends B l k) = decide (less (B.getD k default) (l.getD (pickF l l.length) default)) := by simp [ends, h0, h1]
      rw [he]
      have hw := subN (k := k) (by omega)
      generalize hX : B.getD k default = x at hx
      generalize hY : l.getD (pickF l l.length) default = y at hy
      obtain ⟨n, d, s, t⟩ := x
      obtain ⟨b, p, q⟩ := y
      simp (maxSteps := 1000000) only [go_sem, ↓reduceIte, Nat.reduceLT, Nat.reduceLeDiff, Nat.reduceEqDiff, Nat.reduceAdd, Nat.reduceSub, Nat.reduceBEq, reduceCtorEq, List.getElem?_toArray, Option.bind_some, decide_true, decide_false, Bool.true_beq, Bool.false_beq, Bool.not_true, Bool.not_false, not_true_eq_false, not_false_eq_true, Tryz.ntmps52, List.length_map, eqN0, h0, ge_iff_le, leN, h1, hw, neg_k, Int.toNat_natCast, hx, hrow]
      refine callF (c51 l (by omega) hl) ?_ ?_ ?_ ?_
      · simp (maxSteps := 1000000) only [go_sem, ↓reduceIte, Nat.reduceLT, Nat.reduceLeDiff, Nat.reduceEqDiff, Nat.reduceAdd, Nat.reduceSub, Nat.reduceBEq, reduceCtorEq, List.getElem?_toArray, Option.bind_some, decide_true, decide_false, Bool.true_beq, Bool.false_beq, Bool.not_true, Bool.not_false, not_true_eq_false, not_false_eq_true]
      · simp (maxSteps := 1000000) only [go_sem, ↓reduceIte, Nat.reduceLT, Nat.reduceLeDiff, Nat.reduceEqDiff, Nat.reduceAdd, Nat.reduceSub, Nat.reduceBEq, reduceCtorEq, List.getElem?_toArray, Option.bind_some, decide_true, decide_false, Bool.true_beq, Bool.false_beq, Bool.not_true, Bool.not_false, not_true_eq_false, not_false_eq_true]
      · simp (maxSteps := 1000000) only [go_sem, ↓reduceIte, Nat.reduceLT, Nat.reduceLeDiff, Nat.reduceEqDiff, Nat.reduceAdd, Nat.reduceSub, Nat.reduceBEq, reduceCtorEq, List.getElem?_toArray, Option.bind_some, decide_true, decide_false, Bool.true_beq, Bool.false_beq, Bool.not_true, Bool.not_false, not_true_eq_false, not_false_eq_true]
      simp (maxSteps := 1000000) only [go_sem, ↓reduceIte, Nat.reduceLT, Nat.reduceLeDiff, Nat.reduceEqDiff, Nat.reduceAdd, Nat.reduceSub, Nat.reduceBEq, reduceCtorEq, List.getElem?_toArray, Option.bind_some, decide_true, decide_false, Bool.true_beq, Bool.false_beq, Bool.not_true, Bool.not_false, not_true_eq_false, not_false_eq_true, neg_k, ltN0, Int.toNat_natCast, hx, hy, hrow, frow]
      refine callF (c13 n d p q) ?_ ?_ ?_ ?_
      · simp (maxSteps := 1000000) only [go_sem, ↓reduceIte, Nat.reduceLT, Nat.reduceLeDiff, Nat.reduceEqDiff, Nat.reduceAdd, Nat.reduceSub, Nat.reduceBEq, reduceCtorEq, List.getElem?_toArray, Option.bind_some, decide_true, decide_false, Bool.true_beq, Bool.false_beq, Bool.not_true, Bool.not_false, not_true_eq_false, not_false_eq_true]
      · simp (maxSteps := 1000000) only [go_sem, ↓reduceIte, Nat.reduceLT, Nat.reduceLeDiff, Nat.reduceEqDiff, Nat.reduceAdd, Nat.reduceSub, Nat.reduceBEq, reduceCtorEq, List.getElem?_toArray, Option.bind_some, decide_true, decide_false, Bool.true_beq, Bool.false_beq, Bool.not_true, Bool.not_false, not_true_eq_false, not_false_eq_true]
      · simp (maxSteps := 1000000) only [go_sem, ↓reduceIte, Nat.reduceLT, Nat.reduceLeDiff, Nat.reduceEqDiff, Nat.reduceAdd, Nat.reduceSub, Nat.reduceBEq, reduceCtorEq, List.getElem?_toArray, Option.bind_some, decide_true, decide_false, Bool.true_beq, Bool.false_beq, Bool.not_true, Bool.not_false, not_true_eq_false, not_false_eq_true]
      simp (maxSteps := 1000000) only [go_sem, ↓reduceIte, Nat.reduceLT, Nat.reduceLeDiff, Nat.reduceEqDiff, Nat.reduceAdd, Nat.reduceSub, Nat.reduceBEq, reduceCtorEq, List.getElem?_toArray, Option.bind_some, decide_true, decide_false, Bool.true_beq, Bool.false_beq, Bool.not_true, Bool.not_false, not_true_eq_false, not_false_eq_true]
      refine drawnB_ok (by kernel_rfl) ?_
      simp (maxSteps := 1000000) only [go_sem, ↓reduceIte, Nat.reduceLT, Nat.reduceLeDiff, Nat.reduceEqDiff, Nat.reduceAdd, Nat.reduceSub, Nat.reduceBEq, reduceCtorEq, List.getElem?_toArray, Option.bind_some, decide_true, decide_false, Bool.true_beq, Bool.false_beq, Bool.not_true, Bool.not_false, not_true_eq_false, not_false_eq_true]
      refine Fin.ret [.bool (decide (cmpv n d p q < 0))] [] true ?_ (by simp) (by simp) ?_ ?_ <;> simp (maxSteps := 1000000) only [go_sem, ↓reduceIte, Nat.reduceLT, Nat.reduceLeDiff, Nat.reduceEqDiff, Nat.reduceAdd, Nat.reduceSub, Nat.reduceBEq, reduceCtorEq, List.getElem?_toArray, Option.bind_some, decide_true, decide_false, Bool.true_beq, Bool.false_beq, Bool.not_true, Bool.not_false, not_true_eq_false, not_false_eq_true, Tryz.results52, List.range_zero, less]
    · rw [show decide (ends B l k) = false by simp [ends, h0, h1]]
      simp (maxSteps := 1000000) only [go_sem, ↓reduceIte, Nat.reduceLT, Nat.reduceLeDiff, Nat.reduceEqDiff, Nat.reduceAdd, Nat.reduceSub, Nat.reduceBEq, reduceCtorEq, List.getElem?_toArray, Option.bind_some, decide_true, decide_false, Bool.true_beq, Bool.false_beq, Bool.not_true, Bool.not_false, not_true_eq_false, not_false_eq_true, Tryz.ntmps52, List.length_map, eqN0, h0, ge_iff_le, leN, h1]
      refine drawnB_ok (by kernel_rfl) ?_
      simp (maxSteps := 1000000) only [go_sem, ↓reduceIte, Nat.reduceLT, Nat.reduceLeDiff, Nat.reduceEqDiff, Nat.reduceAdd, Nat.reduceSub, Nat.reduceBEq, reduceCtorEq, List.getElem?_toArray, Option.bind_some, decide_true, decide_false, Bool.true_beq, Bool.false_beq, Bool.not_true, Bool.not_false, not_true_eq_false, not_false_eq_true]
      refine Fin.ret [.bool false] [] true ?_ (by simp) (by simp) ?_ ?_ <;> simp (maxSteps := 1000000) only [go_sem, ↓reduceIte, Nat.reduceLT, Nat.reduceLeDiff, Nat.reduceEqDiff, Nat.reduceAdd, Nat.reduceSub, Nat.reduceBEq, reduceCtorEq, List.getElem?_toArray, Option.bind_some, decide_true, decide_false, Bool.true_beq, Bool.false_beq, Bool.not_true, Bool.not_false, not_true_eq_false, not_false_eq_true, Tryz.results52, List.range_zero]
end J

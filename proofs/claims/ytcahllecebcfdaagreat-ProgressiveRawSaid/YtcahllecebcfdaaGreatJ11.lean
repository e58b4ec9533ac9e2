/- A part of the proof: the walk of functions that the law reaches. -/
import Derived.Test.YtcahllecebcfdaaGreatJ10
set_option linter.unusedVariables false
open Go Go.Proofs Go.AH
set_option linter.unusedSimpArgs false
namespace J
attribute [local go_sem] sz27 ag27 sz35 ag35 un35 in3 in112 sz112 ag112 sz25 ag25 sz23 ag23 fld25_0 fld25_1 fld23_0 fld23_1 sz3 ag3 sz4 ag4 anil_int anil_tmp bne_dec beq_dec
attribute [local go_sem] sz45 ag45 fld45_0 fld45_1 un37 st141 me141 sz141 ag141 bt4 emp
set_option maxRecDepth 20000 in
theorem c51 (l : List F3) (h0 : 0 < l.length) (hl : l.length < 1000000) : FC Tryz.prog 51 [.vs (l.map frow)] [] (.int .i64 (pickF l l.length)) [] := by
  refine FC.of_run mix Tryz.func51 rfl rfl (by simp [Tryz.ntmps51]) ?_
  simp (maxSteps := 1000000) only [go_sem, ↓reduceIte, Nat.reduceLT, Nat.reduceLeDiff, Nat.reduceEqDiff, Nat.reduceAdd, Nat.reduceSub, Nat.reduceBEq, reduceCtorEq, List.getElem?_toArray, Option.bind_some, decide_true, decide_false, Bool.true_beq, Bool.false_beq, Bool.not_true, Bool.not_false, not_true_eq_false, not_false_eq_true, Tryz.ntmps51]
  refine AW.loopx (σ := Nat) mix (fun i => ⟨51, [(4, .int .i64 i), (3, .int .i64 (pickF l i)), (0, .vs (l.map frow)), (2, .int .i64 0)], []⟩) (fun i => 1 ≤ i ∧ i ≤ l.length) (fun i => l.length - i) 1 ⟨by omega, by omega⟩ (Conv.mk ?_ ?_ ?_ ?_ ?_) ?_
  · simp (maxSteps := 1000000) only [go_sem, ↓reduceIte, Nat.reduceLT, Nat.reduceLeDiff, Nat.reduceEqDiff, Nat.reduceAdd, Nat.reduceSub, Nat.reduceBEq, reduceCtorEq, List.getElem?_toArray, Option.bind_some, decide_true, decide_false, Bool.true_beq, Bool.false_beq, Bool.not_true, Bool.not_false, not_true_eq_false, not_false_eq_true]
    simp [pickF]
  · simp (maxSteps := 1000000) only [go_sem, ↓reduceIte, Nat.reduceLT, Nat.reduceLeDiff, Nat.reduceEqDiff, Nat.reduceAdd, Nat.reduceSub, Nat.reduceBEq, reduceCtorEq, List.getElem?_toArray, Option.bind_some, decide_true, decide_false, Bool.true_beq, Bool.false_beq, Bool.not_true, Bool.not_false, not_true_eq_false, not_false_eq_true]
  · simp (maxSteps := 1000000) only [go_sem, ↓reduceIte, Nat.reduceLT, Nat.reduceLeDiff, Nat.reduceEqDiff, Nat.reduceAdd, Nat.reduceSub, Nat.reduceBEq, reduceCtorEq, List.getElem?_toArray, Option.bind_some, decide_true, decide_false, Bool.true_beq, Bool.false_beq, Bool.not_true, Bool.not_false, not_true_eq_false, not_false_eq_true]
  · simp (maxSteps := 1000000) only [go_sem, ↓reduceIte, Nat.reduceLT, Nat.reduceLeDiff, Nat.reduceEqDiff, Nat.reduceAdd, Nat.reduceSub, Nat.reduceBEq, reduceCtorEq, List.getElem?_toArray, Option.bind_some, decide_true, decide_false, Bool.true_beq, Bool.false_beq, Bool.not_true, Bool.not_false, not_true_eq_false, not_false_eq_true]
  · simp (maxSteps := 1000000) only [go_sem, ↓reduceIte, Nat.reduceLT, Nat.reduceLeDiff, Nat.reduceEqDiff, Nat.reduceAdd, Nat.reduceSub, Nat.reduceBEq, reduceCtorEq, List.getElem?_toArray, Option.bind_some, decide_true, decide_false, Bool.true_beq, Bool.false_beq, Bool.not_true, Bool.not_false, not_true_eq_false, not_false_eq_true]
  · rintro i ⟨hi1, hi⟩
    simp (maxSteps := 1000000) only [go_sem, ↓reduceIte, Nat.reduceLT, Nat.reduceLeDiff, Nat.reduceEqDiff, Nat.reduceAdd, Nat.reduceSub, Nat.reduceBEq, reduceCtorEq, List.getElem?_toArray, Option.bind_some, decide_true, decide_false, Bool.true_beq, Bool.false_beq, Bool.not_true, Bool.not_false, not_true_eq_false, not_false_eq_true, ltN, List.length_map]
    refine cndB_dec (fun h => ?_) (fun h => ?_)
    · have hx := frows_get (l := l) (i := i) (by omega)
      have hp := pickF_lt l i
      have hy := frows_get (l := l) (i := pickF l i) (by omega)
      have hw : IntKind.i64.wrap ((i : Int) + 1) = ((i + 1 : Nat) : Int) := by rw [← wrapN (a := i + 1) (by omega)]; rfl
      have hs : pickF l (i + 1) = if first (l.getD i default) (l.getD (pickF l i) default) then i else pickF l i := rfl
      generalize hX : l.getD i default = x at hx hs
      generalize hY : l.getD (pickF l i) default = y at hy hs
      obtain ⟨a, n, d⟩ := x
      obtain ⟨b, p, q⟩ := y
      simp (maxSteps := 1000000) only [go_sem, ↓reduceIte, Nat.reduceLT, Nat.reduceLeDiff, Nat.reduceEqDiff, Nat.reduceAdd, Nat.reduceSub, Nat.reduceBEq, reduceCtorEq, List.getElem?_toArray, Option.bind_some, decide_true, decide_false, Bool.true_beq, Bool.false_beq, Bool.not_true, Bool.not_false, not_true_eq_false, not_false_eq_true, ltN0, Int.toNat_natCast, hx, hy, frow]
      refine callF (c13 n d p q) ?_ ?_ ?_ ?_
      · simp (maxSteps := 1000000) only [go_sem, ↓reduceIte, Nat.reduceLT, Nat.reduceLeDiff, Nat.reduceEqDiff, Nat.reduceAdd, Nat.reduceSub, Nat.reduceBEq, reduceCtorEq, List.getElem?_toArray, Option.bind_some, decide_true, decide_false, Bool.true_beq, Bool.false_beq, Bool.not_true, Bool.not_false, not_true_eq_false, not_false_eq_true]
      · simp (maxSteps := 1000000) only [go_sem, ↓reduceIte, Nat.reduceLT, Nat.reduceLeDiff, Nat.reduceEqDiff, Nat.reduceAdd, Nat.reduceSub, Nat.reduceBEq, reduceCtorEq, List.getElem?_toArray, Option.bind_some, decide_true, decide_false, Bool.true_beq, Bool.false_beq, Bool.not_true, Bool.not_false, not_true_eq_false, not_false_eq_true]
      · simp (maxSteps := 1000000) only [go_sem, ↓reduceIte, Nat.reduceLT, Nat.reduceLeDiff, Nat.reduceEqDiff, Nat.reduceAdd, Nat.reduceSub, Nat.reduceBEq, reduceCtorEq, List.getElem?_toArray, Option.bind_some, decide_true, decide_false, Bool.true_beq, Bool.false_beq, Bool.not_true, Bool.not_false, not_true_eq_false, not_false_eq_true]
      have hanti := cmpv_anti n d p q
      by_cases h1 : cmpv n d p q < 0
      · simp (maxSteps := 1000000) only [go_sem, ↓reduceIte, Nat.reduceLT, Nat.reduceLeDiff, Nat.reduceEqDiff, Nat.reduceAdd, Nat.reduceSub, Nat.reduceBEq, reduceCtorEq, List.getElem?_toArray, Option.bind_some, decide_true, decide_false, Bool.true_beq, Bool.false_beq, Bool.not_true, Bool.not_false, not_true_eq_false, not_false_eq_true, h1, ltN0, Int.toNat_natCast, hx, hy, frow]
        refine drawnB_ok (by kernel_rfl) ?_
        simp (maxSteps := 1000000) only [go_sem, ↓reduceIte, Nat.reduceLT, Nat.reduceLeDiff, Nat.reduceEqDiff, Nat.reduceAdd, Nat.reduceSub, Nat.reduceBEq, reduceCtorEq, List.getElem?_toArray, Option.bind_some, decide_true, decide_false, Bool.true_beq, Bool.false_beq, Bool.not_true, Bool.not_false, not_true_eq_false, not_false_eq_true, hw]
        refine ⟨i + 1, by omega, ⟨by omega, by omega⟩, Conv.mk ?_ ?_ ?_ ?_ ?_⟩ <;> simp (maxSteps := 1000000) only [go_sem, ↓reduceIte, Nat.reduceLT, Nat.reduceLeDiff, Nat.reduceEqDiff, Nat.reduceAdd, Nat.reduceSub, Nat.reduceBEq, reduceCtorEq, List.getElem?_toArray, Option.bind_some, decide_true, decide_false, Bool.true_beq, Bool.false_beq, Bool.not_true, Bool.not_false, not_true_eq_false, not_false_eq_true]
        rw [hs, if_pos (.inl h1)]
      · simp (maxSteps := 1000000) only [go_sem, ↓reduceIte, Nat.reduceLT, Nat.reduceLeDiff, Nat.reduceEqDiff, Nat.reduceAdd, Nat.reduceSub, Nat.reduceBEq, reduceCtorEq, List.getElem?_toArray, Option.bind_some, decide_true, decide_false, Bool.true_beq, Bool.false_beq, Bool.not_true, Bool.not_false, not_true_eq_false, not_false_eq_true, h1, ltN0, Int.toNat_natCast, hx, hy, frow]
        refine callF (c13 p q n d) ?_ ?_ ?_ ?_
        · simp (maxSteps := 1000000) only [go_sem, ↓reduceIte, Nat.reduceLT, Nat.reduceLeDiff, Nat.reduceEqDiff, Nat.reduceAdd, Nat.reduceSub, Nat.reduceBEq, reduceCtorEq, List.getElem?_toArray, Option.bind_some, decide_true, decide_false, Bool.true_beq, Bool.false_beq, Bool.not_true, Bool.not_false, not_true_eq_false, not_false_eq_true]
        · simp (maxSteps := 1000000) only [go_sem, ↓reduceIte, Nat.reduceLT, Nat.reduceLeDiff, Nat.reduceEqDiff, Nat.reduceAdd, Nat.reduceSub, Nat.reduceBEq, reduceCtorEq, List.getElem?_toArray, Option.bind_some, decide_true, decide_false, Bool.true_beq, Bool.false_beq, Bool.not_true, Bool.not_false, not_true_eq_false, not_false_eq_true]
        · simp (maxSteps := 1000000) only [go_sem, ↓reduceIte, Nat.reduceLT, Nat.reduceLeDiff, Nat.reduceEqDiff, Nat.reduceAdd, Nat.reduceSub, Nat.reduceBEq, reduceCtorEq, List.getElem?_toArray, Option.bind_some, decide_true, decide_false, Bool.true_beq, Bool.false_beq, Bool.not_true, Bool.not_false, not_true_eq_false, not_false_eq_true]
        by_cases h2 : cmpv p q n d < 0
        · simp (maxSteps := 1000000) only [go_sem, ↓reduceIte, Nat.reduceLT, Nat.reduceLeDiff, Nat.reduceEqDiff, Nat.reduceAdd, Nat.reduceSub, Nat.reduceBEq, reduceCtorEq, List.getElem?_toArray, Option.bind_some, decide_true, decide_false, Bool.true_beq, Bool.false_beq, Bool.not_true, Bool.not_false, not_true_eq_false, not_false_eq_true, h2, ltN0, Int.toNat_natCast, hx, hy, frow]
          refine drawnB_ok (by kernel_rfl) ?_
          simp (maxSteps := 1000000) only [go_sem, ↓reduceIte, Nat.reduceLT, Nat.reduceLeDiff, Nat.reduceEqDiff, Nat.reduceAdd, Nat.reduceSub, Nat.reduceBEq, reduceCtorEq, List.getElem?_toArray, Option.bind_some, decide_true, decide_false, Bool.true_beq, Bool.false_beq, Bool.not_true, Bool.not_false, not_true_eq_false, not_false_eq_true, hw]
          refine ⟨i + 1, by omega, ⟨by omega, by omega⟩, Conv.mk ?_ ?_ ?_ ?_ ?_⟩ <;> simp (maxSteps := 1000000) only [go_sem, ↓reduceIte, Nat.reduceLT, Nat.reduceLeDiff, Nat.reduceEqDiff, Nat.reduceAdd, Nat.reduceSub, Nat.reduceBEq, reduceCtorEq, List.getElem?_toArray, Option.bind_some, decide_true, decide_false, Bool.true_beq, Bool.false_beq, Bool.not_true, Bool.not_false, not_true_eq_false, not_false_eq_true]
          rw [hs, if_neg (by rintro (g | g); exact h1 g; simp only at g; omega)]
        · have h3 : cmpv n d p q = 0 := by omega
          by_cases h4 : a < b
          · simp (maxSteps := 1000000) only [go_sem, ↓reduceIte, Nat.reduceLT, Nat.reduceLeDiff, Nat.reduceEqDiff, Nat.reduceAdd, Nat.reduceSub, Nat.reduceBEq, reduceCtorEq, List.getElem?_toArray, Option.bind_some, decide_true, decide_false, Bool.true_beq, Bool.false_beq, Bool.not_true, Bool.not_false, not_true_eq_false, not_false_eq_true, h2, h4, ltN0, Int.toNat_natCast, hx, hy, frow]
            refine drawnB_ok (by kernel_rfl) ?_
            simp (maxSteps := 1000000) only [go_sem, ↓reduceIte, Nat.reduceLT, Nat.reduceLeDiff, Nat.reduceEqDiff, Nat.reduceAdd, Nat.reduceSub, Nat.reduceBEq, reduceCtorEq, List.getElem?_toArray, Option.bind_some, decide_true, decide_false, Bool.true_beq, Bool.false_beq, Bool.not_true, Bool.not_false, not_true_eq_false, not_false_eq_true, hw]
            refine ⟨i + 1, by omega, ⟨by omega, by omega⟩, Conv.mk ?_ ?_ ?_ ?_ ?_⟩ <;> simp (maxSteps := 1000000) only [go_sem, ↓reduceIte, Nat.reduceLT, Nat.reduceLeDiff, Nat.reduceEqDiff, Nat.reduceAdd, Nat.reduceSub, Nat.reduceBEq, reduceCtorEq, List.getElem?_toArray, Option.bind_some, decide_true, decide_false, Bool.true_beq, Bool.false_beq, Bool.not_true, Bool.not_false, not_true_eq_false, not_false_eq_true]
            rw [hs, if_pos (.inr ⟨h3, h4⟩)]
          · simp (maxSteps := 1000000) only [go_sem, ↓reduceIte, Nat.reduceLT, Nat.reduceLeDiff, Nat.reduceEqDiff, Nat.reduceAdd, Nat.reduceSub, Nat.reduceBEq, reduceCtorEq, List.getElem?_toArray, Option.bind_some, decide_true, decide_false, Bool.true_beq, Bool.false_beq, Bool.not_true, Bool.not_false, not_true_eq_false, not_false_eq_true, h2, h4, ltN0, Int.toNat_natCast, hx, hy, frow]
            refine drawnB_ok (by kernel_rfl) ?_
            simp (maxSteps := 1000000) only [go_sem, ↓reduceIte, Nat.reduceLT, Nat.reduceLeDiff, Nat.reduceEqDiff, Nat.reduceAdd, Nat.reduceSub, Nat.reduceBEq, reduceCtorEq, List.getElem?_toArray, Option.bind_some, decide_true, decide_false, Bool.true_beq, Bool.false_beq, Bool.not_true, Bool.not_false, not_true_eq_false, not_false_eq_true, hw]
            refine ⟨i + 1, by omega, ⟨by omega, by omega⟩, Conv.mk ?_ ?_ ?_ ?_ ?_⟩ <;> simp (maxSteps := 1000000) only [go_sem, ↓reduceIte, Nat.reduceLT, Nat.reduceLeDiff, Nat.reduceEqDiff, Nat.reduceAdd, Nat.reduceSub, Nat.reduceBEq, reduceCtorEq, List.getElem?_toArray, Option.bind_some, decide_true, decide_false, Bool.true_beq, Bool.false_beq, Bool.not_true, Bool.not_false, not_true_eq_false, not_false_eq_true]
            rw [hs, if_neg (by rintro (g | g); exact h1 g; exact h4 g.2)]
    · have : i = l.length := by omega
      subst this
      simp (maxSteps := 1000000) only [go_sem, ↓reduceIte, Nat.reduceLT, Nat.reduceLeDiff, Nat.reduceEqDiff, Nat.reduceAdd, Nat.reduceSub, Nat.reduceBEq, reduceCtorEq, List.getElem?_toArray, Option.bind_some, decide_true, decide_false, Bool.true_beq, Bool.false_beq, Bool.not_true, Bool.not_false, not_true_eq_false, not_false_eq_true]
      refine Fin.ret [.int .i64 (pickF l l.length)] [] true ?_ (by simp) (by simp) ?_ ?_ <;> simp (maxSteps := 1000000) only [go_sem, ↓reduceIte, Nat.reduceLT, Nat.reduceLeDiff, Nat.reduceEqDiff, Nat.reduceAdd, Nat.reduceSub, Nat.reduceBEq, reduceCtorEq, List.getElem?_toArray, Option.bind_some, decide_true, decide_false, Bool.true_beq, Bool.false_beq, Bool.not_true, Bool.not_false, not_true_eq_false, not_false_eq_true, Tryz.results51, List.range_zero]
end J

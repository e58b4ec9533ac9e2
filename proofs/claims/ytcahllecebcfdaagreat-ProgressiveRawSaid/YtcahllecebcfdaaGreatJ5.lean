/- A part of the proof: the walk of functions that the law reaches. -/
import Derived.Test.YtcahllecebcfdaaGreatJ4
set_option linter.unusedVariables false
open Go Go.Proofs Go.AH
set_option linter.unusedSimpArgs false
namespace J
theorem in3 : intT Tryz.prog 3 = some .i64 := by kernel_rfl
attribute [local go_sem] in3 in112 sz112 ag112 sz25 ag25 sz23 ag23 fld25_0 fld25_1 fld23_0 fld23_1 sz3 ag3 sz4 ag4 anil_int anil_tmp bne_dec beq_dec
def cmpv (n d p q : Int) : Int := if val n d ∧ val p q then sgN (n.toNat * q.toNat) (p.toNat * d.toNat) else 0
theorem sgN_hi {x y : Nat} (h : x / 18446744073709551616 < y / 18446744073709551616) : sgN x y = -1 := sgN_lt (by omega)
theorem sgN_lo {x y : Nat} (h : x / 18446744073709551616 = y / 18446744073709551616) (h2 : x % 18446744073709551616 < y % 18446744073709551616) : sgN x y = -1 := sgN_lt (by omega)
theorem sgN_ee {x y : Nat} (h : x / 18446744073709551616 = y / 18446744073709551616) (h2 : x % 18446744073709551616 = y % 18446744073709551616) : sgN x y = 0 := sgN_eq (by omega)
theorem sgN_g1 {x y : Nat} (h : x / 18446744073709551616 = y / 18446744073709551616) (h2 : ¬ x % 18446744073709551616 < y % 18446744073709551616) (h3 : ¬ x % 18446744073709551616 = y % 18446744073709551616) : sgN x y = 1 := sgN_gt (by omega)
theorem sgN_g2 {x y : Nat} (h : ¬ x / 18446744073709551616 = y / 18446744073709551616) (h2 : ¬ x / 18446744073709551616 < y / 18446744073709551616) : sgN x y = 1 := sgN_gt (by omega)
theorem uwrapN {a : Nat} (h : a < 18446744073709551616) : IntKind.u64.wrap (a : Int) = a := by rw [wrapu]; omega
theorem val_nat {n d : Int} (h : val n d) : ∃ a b : Nat, n = a ∧ d = b ∧ a < 9223372036854775808 ∧ b < 9223372036854775808 ∧ 0 < b := by
  obtain ⟨⟨h1, h2, h3, h4⟩, _⟩ := h
  exact ⟨n.toNat, d.toNat, by omega, by omega, by omega, by omega, by omega⟩
set_option maxRecDepth 20000 in
theorem c30 (n d p q : Int) : FC Tryz.prog 30 [.agg [.int .i64 n, .int .i64 d], .agg [.int .i64 p, .int .i64 q]] [] (.int .i64 (cmpv n d p q)) [] := by
  refine FC.of_run mix Tryz.func30 rfl rfl (by simp [Tryz.ntmps30]) ?_
  simp (maxSteps := 1000000) only [go_sem, ↓reduceIte, Nat.reduceLT, Nat.reduceLeDiff, Nat.reduceEqDiff, Nat.reduceAdd, Nat.reduceSub, Nat.reduceBEq, reduceCtorEq, List.getElem?_toArray, Option.bind_some, decide_true, decide_false, Bool.true_beq, Bool.false_beq, Bool.not_true, Bool.not_false, not_true_eq_false, not_false_eq_true, Tryz.ntmps30]
  refine callF (c53 n d) ?_ ?_ ?_ ?_
  · simp (maxSteps := 1000000) only [go_sem, ↓reduceIte, Nat.reduceLT, Nat.reduceLeDiff, Nat.reduceEqDiff, Nat.reduceAdd, Nat.reduceSub, Nat.reduceBEq, reduceCtorEq, List.getElem?_toArray, Option.bind_some, decide_true, decide_false, Bool.true_beq, Bool.false_beq, Bool.not_true, Bool.not_false, not_true_eq_false, not_false_eq_true]
  · simp (maxSteps := 1000000) only [go_sem, ↓reduceIte, Nat.reduceLT, Nat.reduceLeDiff, Nat.reduceEqDiff, Nat.reduceAdd, Nat.reduceSub, Nat.reduceBEq, reduceCtorEq, List.getElem?_toArray, Option.bind_some, decide_true, decide_false, Bool.true_beq, Bool.false_beq, Bool.not_true, Bool.not_false, not_true_eq_false, not_false_eq_true]
  · simp (maxSteps := 1000000) only [go_sem, ↓reduceIte, Nat.reduceLT, Nat.reduceLeDiff, Nat.reduceEqDiff, Nat.reduceAdd, Nat.reduceSub, Nat.reduceBEq, reduceCtorEq, List.getElem?_toArray, Option.bind_some, decide_true, decide_false, Bool.true_beq, Bool.false_beq, Bool.not_true, Bool.not_false, not_true_eq_false, not_false_eq_true]
  by_cases h1 : val n d
  · simp (maxSteps := 1000000) only [go_sem, ↓reduceIte, Nat.reduceLT, Nat.reduceLeDiff, Nat.reduceEqDiff, Nat.reduceAdd, Nat.reduceSub, Nat.reduceBEq, reduceCtorEq, List.getElem?_toArray, Option.bind_some, decide_true, decide_false, Bool.true_beq, Bool.false_beq, Bool.not_true, Bool.not_false, not_true_eq_false, not_false_eq_true, h1]
    refine callF (c53 p q) ?_ ?_ ?_ ?_
    · simp (maxSteps := 1000000) only [go_sem, ↓reduceIte, Nat.reduceLT, Nat.reduceLeDiff, Nat.reduceEqDiff, Nat.reduceAdd, Nat.reduceSub, Nat.reduceBEq, reduceCtorEq, List.getElem?_toArray, Option.bind_some, decide_true, decide_false, Bool.true_beq, Bool.false_beq, Bool.not_true, Bool.not_false, not_true_eq_false, not_false_eq_true]
    · simp (maxSteps := 1000000) only [go_sem, ↓reduceIte, Nat.reduceLT, Nat.reduceLeDiff, Nat.reduceEqDiff, Nat.reduceAdd, Nat.reduceSub, Nat.reduceBEq, reduceCtorEq, List.getElem?_toArray, Option.bind_some, decide_true, decide_false, Bool.true_beq, Bool.false_beq, Bool.not_true, Bool.not_false, not_true_eq_false, not_false_eq_true]
    · simp (maxSteps := 1000000) only [go_sem, ↓reduceIte, Nat.reduceLT, Nat.reduceLeDiff, Nat.reduceEqDiff, Nat.reduceAdd, Nat.reduceSub, Nat.reduceBEq, reduceCtorEq, List.getElem?_toArray, Option.bind_some, decide_true, decide_false, Bool.true_beq, Bool.false_beq, Bool.not_true, Bool.not_false, not_true_eq_false, not_false_eq_true]
    by_cases h2 : val p q
    · simp (maxSteps := 1000000) only [go_sem, ↓reduceIte, Nat.reduceLT, Nat.reduceLeDiff, Nat.reduceEqDiff, Nat.reduceAdd, Nat.reduceSub, Nat.reduceBEq, reduceCtorEq, List.getElem?_toArray, Option.bind_some, decide_true, decide_false, Bool.true_beq, Bool.false_beq, Bool.not_true, Bool.not_false, not_true_eq_false, not_false_eq_true, h2]
      obtain ⟨a, b, rfl, rfl, ha, hb, hb0⟩ := val_nat h1
      obtain ⟨x, y, rfl, rfl, hx, hy, hy0⟩ := val_nat h2
      have e : cmpv a b x y = sgN (a * y) (x * b) := if_pos ⟨h1, h2⟩
      have w1 := uwrapN (a := a) (by omega)
      have w2 := uwrapN (a := b) (by omega)
      have w3 := uwrapN (a := x) (by omega)
      have w4 := uwrapN (a := y) (by omega)
      simp (maxSteps := 1000000) only [go_sem, ↓reduceIte, Nat.reduceLT, Nat.reduceLeDiff, Nat.reduceEqDiff, Nat.reduceAdd, Nat.reduceSub, Nat.reduceBEq, reduceCtorEq, List.getElem?_toArray, Option.bind_some, decide_true, decide_false, Bool.true_beq, Bool.false_beq, Bool.not_true, Bool.not_false, not_true_eq_false, not_false_eq_true, Int.toNat_natCast, w1, w2, w3, w4]
      refine callF (c54 a y (by omega) (by omega)) ?_ ?_ ?_ ?_
      · simp (maxSteps := 1000000) only [go_sem, ↓reduceIte, Nat.reduceLT, Nat.reduceLeDiff, Nat.reduceEqDiff, Nat.reduceAdd, Nat.reduceSub, Nat.reduceBEq, reduceCtorEq, List.getElem?_toArray, Option.bind_some, decide_true, decide_false, Bool.true_beq, Bool.false_beq, Bool.not_true, Bool.not_false, not_true_eq_false, not_false_eq_true, w1, w2, w3, w4]
      · simp (maxSteps := 1000000) only [go_sem, ↓reduceIte, Nat.reduceLT, Nat.reduceLeDiff, Nat.reduceEqDiff, Nat.reduceAdd, Nat.reduceSub, Nat.reduceBEq, reduceCtorEq, List.getElem?_toArray, Option.bind_some, decide_true, decide_false, Bool.true_beq, Bool.false_beq, Bool.not_true, Bool.not_false, not_true_eq_false, not_false_eq_true]
      · simp (maxSteps := 1000000) only [go_sem, ↓reduceIte, Nat.reduceLT, Nat.reduceLeDiff, Nat.reduceEqDiff, Nat.reduceAdd, Nat.reduceSub, Nat.reduceBEq, reduceCtorEq, List.getElem?_toArray, Option.bind_some, decide_true, decide_false, Bool.true_beq, Bool.false_beq, Bool.not_true, Bool.not_false, not_true_eq_false, not_false_eq_true]
      simp (maxSteps := 1000000) only [go_sem, ↓reduceIte, Nat.reduceLT, Nat.reduceLeDiff, Nat.reduceEqDiff, Nat.reduceAdd, Nat.reduceSub, Nat.reduceBEq, reduceCtorEq, List.getElem?_toArray, Option.bind_some, decide_true, decide_false, Bool.true_beq, Bool.false_beq, Bool.not_true, Bool.not_false, not_true_eq_false, not_false_eq_true, w1, w2, w3, w4]
      refine callF (c54 x b (by omega) (by omega)) ?_ ?_ ?_ ?_
      · simp (maxSteps := 1000000) only [go_sem, ↓reduceIte, Nat.reduceLT, Nat.reduceLeDiff, Nat.reduceEqDiff, Nat.reduceAdd, Nat.reduceSub, Nat.reduceBEq, reduceCtorEq, List.getElem?_toArray, Option.bind_some, decide_true, decide_false, Bool.true_beq, Bool.false_beq, Bool.not_true, Bool.not_false, not_true_eq_false, not_false_eq_true, w1, w2, w3, w4]
      · simp (maxSteps := 1000000) only [go_sem, ↓reduceIte, Nat.reduceLT, Nat.reduceLeDiff, Nat.reduceEqDiff, Nat.reduceAdd, Nat.reduceSub, Nat.reduceBEq, reduceCtorEq, List.getElem?_toArray, Option.bind_some, decide_true, decide_false, Bool.true_beq, Bool.false_beq, Bool.not_true, Bool.not_false, not_true_eq_false, not_false_eq_true]
      · simp (maxSteps := 1000000) only [go_sem, ↓reduceIte, Nat.reduceLT, Nat.reduceLeDiff, Nat.reduceEqDiff, Nat.reduceAdd, Nat.reduceSub, Nat.reduceBEq, reduceCtorEq, List.getElem?_toArray, Option.bind_some, decide_true, decide_false, Bool.true_beq, Bool.false_beq, Bool.not_true, Bool.not_false, not_true_eq_false, not_false_eq_true]
      simp (maxSteps := 1000000) only [go_sem, ↓reduceIte, Nat.reduceLT, Nat.reduceLeDiff, Nat.reduceEqDiff, Nat.reduceAdd, Nat.reduceSub, Nat.reduceBEq, reduceCtorEq, List.getElem?_toArray, Option.bind_some, decide_true, decide_false, Bool.true_beq, Bool.false_beq, Bool.not_true, Bool.not_false, not_true_eq_false, not_false_eq_true, w1, w2, w3, w4, ltN, eqN, Int.toNat_natCast]
      generalize a * y = u at *
      generalize x * b = v at *
      by_cases k1 : u / 18446744073709551616 < v / 18446744073709551616
      · simp (maxSteps := 1000000) only [go_sem, ↓reduceIte, Nat.reduceLT, Nat.reduceLeDiff, Nat.reduceEqDiff, Nat.reduceAdd, Nat.reduceSub, Nat.reduceBEq, reduceCtorEq, List.getElem?_toArray, Option.bind_some, decide_true, decide_false, Bool.true_beq, Bool.false_beq, Bool.not_true, Bool.not_false, not_true_eq_false, not_false_eq_true, k1]
        rw [e, sgN_hi k1]
        refine Fin.ret [.int .i64 (-1)] [] true ?_ (by simp) (by simp) ?_ ?_ <;> simp (maxSteps := 1000000) only [go_sem, ↓reduceIte, Nat.reduceLT, Nat.reduceLeDiff, Nat.reduceEqDiff, Nat.reduceAdd, Nat.reduceSub, Nat.reduceBEq, reduceCtorEq, List.getElem?_toArray, Option.bind_some, decide_true, decide_false, Bool.true_beq, Bool.false_beq, Bool.not_true, Bool.not_false, not_true_eq_false, not_false_eq_true, Tryz.results30, List.range_zero]
      · by_cases k2 : u / 18446744073709551616 = v / 18446744073709551616
        · by_cases k3 : u % 18446744073709551616 < v % 18446744073709551616
          · simp (maxSteps := 1000000) only [go_sem, ↓reduceIte, Nat.reduceLT, Nat.reduceLeDiff, Nat.reduceEqDiff, Nat.reduceAdd, Nat.reduceSub, Nat.reduceBEq, reduceCtorEq, List.getElem?_toArray, Option.bind_some, decide_true, decide_false, Bool.true_beq, Bool.false_beq, Bool.not_true, Bool.not_false, not_true_eq_false, not_false_eq_true, k1, k2, k3, Nat.lt_irrefl, ltN, eqN]
            rw [e, sgN_lo k2 k3]
            refine Fin.ret [.int .i64 (-1)] [] true ?_ (by simp) (by simp) ?_ ?_ <;> simp (maxSteps := 1000000) only [go_sem, ↓reduceIte, Nat.reduceLT, Nat.reduceLeDiff, Nat.reduceEqDiff, Nat.reduceAdd, Nat.reduceSub, Nat.reduceBEq, reduceCtorEq, List.getElem?_toArray, Option.bind_some, decide_true, decide_false, Bool.true_beq, Bool.false_beq, Bool.not_true, Bool.not_false, not_true_eq_false, not_false_eq_true, Tryz.results30, List.range_zero]
          · by_cases k4 : u % 18446744073709551616 = v % 18446744073709551616
            · simp (maxSteps := 1000000) only [go_sem, ↓reduceIte, Nat.reduceLT, Nat.reduceLeDiff, Nat.reduceEqDiff, Nat.reduceAdd, Nat.reduceSub, Nat.reduceBEq, reduceCtorEq, List.getElem?_toArray, Option.bind_some, decide_true, decide_false, Bool.true_beq, Bool.false_beq, Bool.not_true, Bool.not_false, not_true_eq_false, not_false_eq_true, k1, k2, k3, k4, Nat.lt_irrefl, ltN, eqN]
              rw [e, sgN_ee k2 k4]
              refine Fin.ret [.int .i64 0] [] true ?_ (by simp) (by simp) ?_ ?_ <;> simp (maxSteps := 1000000) only [go_sem, ↓reduceIte, Nat.reduceLT, Nat.reduceLeDiff, Nat.reduceEqDiff, Nat.reduceAdd, Nat.reduceSub, Nat.reduceBEq, reduceCtorEq, List.getElem?_toArray, Option.bind_some, decide_true, decide_false, Bool.true_beq, Bool.false_beq, Bool.not_true, Bool.not_false, not_true_eq_false, not_false_eq_true, Tryz.results30, List.range_zero]
            · simp (maxSteps := 1000000) only [go_sem, ↓reduceIte, Nat.reduceLT, Nat.reduceLeDiff, Nat.reduceEqDiff, Nat.reduceAdd, Nat.reduceSub, Nat.reduceBEq, reduceCtorEq, List.getElem?_toArray, Option.bind_some, decide_true, decide_false, Bool.true_beq, Bool.false_beq, Bool.not_true, Bool.not_false, not_true_eq_false, not_false_eq_true, k1, k2, k3, k4, Nat.lt_irrefl, ltN, eqN]
              rw [e, sgN_g1 k2 k3 k4]
              refine Fin.ret [.int .i64 1] [] true ?_ (by simp) (by simp) ?_ ?_ <;> simp (maxSteps := 1000000) only [go_sem, ↓reduceIte, Nat.reduceLT, Nat.reduceLeDiff, Nat.reduceEqDiff, Nat.reduceAdd, Nat.reduceSub, Nat.reduceBEq, reduceCtorEq, List.getElem?_toArray, Option.bind_some, decide_true, decide_false, Bool.true_beq, Bool.false_beq, Bool.not_true, Bool.not_false, not_true_eq_false, not_false_eq_true, Tryz.results30, List.range_zero]
        · simp (maxSteps := 1000000) only [go_sem, ↓reduceIte, Nat.reduceLT, Nat.reduceLeDiff, Nat.reduceEqDiff, Nat.reduceAdd, Nat.reduceSub, Nat.reduceBEq, reduceCtorEq, List.getElem?_toArray, Option.bind_some, decide_true, decide_false, Bool.true_beq, Bool.false_beq, Bool.not_true, Bool.not_false, not_true_eq_false, not_false_eq_true, k1, k2, ltN, eqN]
          rw [e, sgN_g2 k2 k1]
          refine Fin.ret [.int .i64 1] [] true ?_ (by simp) (by simp) ?_ ?_ <;> simp (maxSteps := 1000000) only [go_sem, ↓reduceIte, Nat.reduceLT, Nat.reduceLeDiff, Nat.reduceEqDiff, Nat.reduceAdd, Nat.reduceSub, Nat.reduceBEq, reduceCtorEq, List.getElem?_toArray, Option.bind_some, decide_true, decide_false, Bool.true_beq, Bool.false_beq, Bool.not_true, Bool.not_false, not_true_eq_false, not_false_eq_true, Tryz.results30, List.range_zero]
    · simp (maxSteps := 1000000) only [go_sem, ↓reduceIte, Nat.reduceLT, Nat.reduceLeDiff, Nat.reduceEqDiff, Nat.reduceAdd, Nat.reduceSub, Nat.reduceBEq, reduceCtorEq, List.getElem?_toArray, Option.bind_some, decide_true, decide_false, Bool.true_beq, Bool.false_beq, Bool.not_true, Bool.not_false, not_true_eq_false, not_false_eq_true, h2]
      have e : cmpv n d p q = 0 := if_neg fun h => h2 h.2
      rw [e]
      refine Fin.ret [.int .i64 0] [] true ?_ (by simp) (by simp) ?_ ?_ <;> simp (maxSteps := 1000000) only [go_sem, ↓reduceIte, Nat.reduceLT, Nat.reduceLeDiff, Nat.reduceEqDiff, Nat.reduceAdd, Nat.reduceSub, Nat.reduceBEq, reduceCtorEq, List.getElem?_toArray, Option.bind_some, decide_true, decide_false, Bool.true_beq, Bool.false_beq, Bool.not_true, Bool.not_false, not_true_eq_false, not_false_eq_true, Tryz.results30, List.range_zero]
  · simp (maxSteps := 1000000) only [go_sem, ↓reduceIte, Nat.reduceLT, Nat.reduceLeDiff, Nat.reduceEqDiff, Nat.reduceAdd, Nat.reduceSub, Nat.reduceBEq, reduceCtorEq, List.getElem?_toArray, Option.bind_some, decide_true, decide_false, Bool.true_beq, Bool.false_beq, Bool.not_true, Bool.not_false, not_true_eq_false, not_false_eq_true, h1]
    have e : cmpv n d p q = 0 := if_neg fun h => h1 h.1
    rw [e]
    refine Fin.ret [.int .i64 0] [] true ?_ (by simp) (by simp) ?_ ?_ <;> simp (maxSteps := 1000000) only [go_sem, ↓reduceIte, Nat.reduceLT, Nat.reduceLeDiff, Nat.reduceEqDiff, Nat.reduceAdd, Nat.reduceSub, Nat.reduceBEq, reduceCtorEq, List.getElem?_toArray, Option.bind_some, decide_true, decide_false, Bool.true_beq, Bool.false_beq, Bool.not_true, Bool.not_false, not_true_eq_false, not_false_eq_true, Tryz.results30, List.range_zero]
set_option maxRecDepth 20000 in
theorem c32 (n d p q : Int) : FC Tryz.prog 32 [.agg [.int .i64 n, .int .i64 d], .agg [.int .i64 p, .int .i64 q]] [] (.int .i64 (cmpv n d p q)) [] := by
  refine FC.of_run mix Tryz.func32 rfl rfl (by simp [Tryz.ntmps32]) ?_
  simp (maxSteps := 1000000) only [go_sem, ↓reduceIte, Nat.reduceLT, Nat.reduceLeDiff, Nat.reduceEqDiff, Nat.reduceAdd, Nat.reduceSub, Nat.reduceBEq, reduceCtorEq, List.getElem?_toArray, Option.bind_some, decide_true, decide_false, Bool.true_beq, Bool.false_beq, Bool.not_true, Bool.not_false, not_true_eq_false, not_false_eq_true, Tryz.ntmps32]
  refine callF (c9 n d) ?_ ?_ ?_ ?_
  · simp (maxSteps := 1000000) only [go_sem, ↓reduceIte, Nat.reduceLT, Nat.reduceLeDiff, Nat.reduceEqDiff, Nat.reduceAdd, Nat.reduceSub, Nat.reduceBEq, reduceCtorEq, List.getElem?_toArray, Option.bind_some, decide_true, decide_false, Bool.true_beq, Bool.false_beq, Bool.not_true, Bool.not_false, not_true_eq_false, not_false_eq_true]
  · simp (maxSteps := 1000000) only [go_sem, ↓reduceIte, Nat.reduceLT, Nat.reduceLeDiff, Nat.reduceEqDiff, Nat.reduceAdd, Nat.reduceSub, Nat.reduceBEq, reduceCtorEq, List.getElem?_toArray, Option.bind_some, decide_true, decide_false, Bool.true_beq, Bool.false_beq, Bool.not_true, Bool.not_false, not_true_eq_false, not_false_eq_true]
  · simp (maxSteps := 1000000) only [go_sem, ↓reduceIte, Nat.reduceLT, Nat.reduceLeDiff, Nat.reduceEqDiff, Nat.reduceAdd, Nat.reduceSub, Nat.reduceBEq, reduceCtorEq, List.getElem?_toArray, Option.bind_some, decide_true, decide_false, Bool.true_beq, Bool.false_beq, Bool.not_true, Bool.not_false, not_true_eq_false, not_false_eq_true]
  by_cases h1 : val n d
  · simp (maxSteps := 1000000) only [go_sem, ↓reduceIte, Nat.reduceLT, Nat.reduceLeDiff, Nat.reduceEqDiff, Nat.reduceAdd, Nat.reduceSub, Nat.reduceBEq, reduceCtorEq, List.getElem?_toArray, Option.bind_some, decide_true, decide_false, Bool.true_beq, Bool.false_beq, Bool.not_true, Bool.not_false, not_true_eq_false, not_false_eq_true, h1]
    refine callF (c9 p q) ?_ ?_ ?_ ?_
    · simp (maxSteps := 1000000) only [go_sem, ↓reduceIte, Nat.reduceLT, Nat.reduceLeDiff, Nat.reduceEqDiff, Nat.reduceAdd, Nat.reduceSub, Nat.reduceBEq, reduceCtorEq, List.getElem?_toArray, Option.bind_some, decide_true, decide_false, Bool.true_beq, Bool.false_beq, Bool.not_true, Bool.not_false, not_true_eq_false, not_false_eq_true]
    · simp (maxSteps := 1000000) only [go_sem, ↓reduceIte, Nat.reduceLT, Nat.reduceLeDiff, Nat.reduceEqDiff, Nat.reduceAdd, Nat.reduceSub, Nat.reduceBEq, reduceCtorEq, List.getElem?_toArray, Option.bind_some, decide_true, decide_false, Bool.true_beq, Bool.false_beq, Bool.not_true, Bool.not_false, not_true_eq_false, not_false_eq_true]
    · simp (maxSteps := 1000000) only [go_sem, ↓reduceIte, Nat.reduceLT, Nat.reduceLeDiff, Nat.reduceEqDiff, Nat.reduceAdd, Nat.reduceSub, Nat.reduceBEq, reduceCtorEq, List.getElem?_toArray, Option.bind_some, decide_true, decide_false, Bool.true_beq, Bool.false_beq, Bool.not_true, Bool.not_false, not_true_eq_false, not_false_eq_true]
    by_cases h2 : val p q
    · simp (maxSteps := 1000000) only [go_sem, ↓reduceIte, Nat.reduceLT, Nat.reduceLeDiff, Nat.reduceEqDiff, Nat.reduceAdd, Nat.reduceSub, Nat.reduceBEq, reduceCtorEq, List.getElem?_toArray, Option.bind_some, decide_true, decide_false, Bool.true_beq, Bool.false_beq, Bool.not_true, Bool.not_false, not_true_eq_false, not_false_eq_true, h2]
      obtain ⟨a, b, rfl, rfl, ha, hb, hb0⟩ := val_nat h1
      obtain ⟨x, y, rfl, rfl, hx, hy, hy0⟩ := val_nat h2
      have e : cmpv a b x y = sgN (a * y) (x * b) := if_pos ⟨h1, h2⟩
      refine callF (c57 _ a b x y (Nat.lt_succ_self _) hb0 hy0 ha hb hx hy) ?_ ?_ ?_ ?_
      · simp (maxSteps := 1000000) only [go_sem, ↓reduceIte, Nat.reduceLT, Nat.reduceLeDiff, Nat.reduceEqDiff, Nat.reduceAdd, Nat.reduceSub, Nat.reduceBEq, reduceCtorEq, List.getElem?_toArray, Option.bind_some, decide_true, decide_false, Bool.true_beq, Bool.false_beq, Bool.not_true, Bool.not_false, not_true_eq_false, not_false_eq_true]
      · simp (maxSteps := 1000000) only [go_sem, ↓reduceIte, Nat.reduceLT, Nat.reduceLeDiff, Nat.reduceEqDiff, Nat.reduceAdd, Nat.reduceSub, Nat.reduceBEq, reduceCtorEq, List.getElem?_toArray, Option.bind_some, decide_true, decide_false, Bool.true_beq, Bool.false_beq, Bool.not_true, Bool.not_false, not_true_eq_false, not_false_eq_true]
      · simp (maxSteps := 1000000) only [go_sem, ↓reduceIte, Nat.reduceLT, Nat.reduceLeDiff, Nat.reduceEqDiff, Nat.reduceAdd, Nat.reduceSub, Nat.reduceBEq, reduceCtorEq, List.getElem?_toArray, Option.bind_some, decide_true, decide_false, Bool.true_beq, Bool.false_beq, Bool.not_true, Bool.not_false, not_true_eq_false, not_false_eq_true]
      simp (maxSteps := 1000000) only [go_sem, ↓reduceIte, Nat.reduceLT, Nat.reduceLeDiff, Nat.reduceEqDiff, Nat.reduceAdd, Nat.reduceSub, Nat.reduceBEq, reduceCtorEq, List.getElem?_toArray, Option.bind_some, decide_true, decide_false, Bool.true_beq, Bool.false_beq, Bool.not_true, Bool.not_false, not_true_eq_false, not_false_eq_true]
      rw [e]
      refine Fin.ret [.int .i64 (sgN (a * y) (x * b))] [] true ?_ (by simp) (by simp) ?_ ?_ <;> simp (maxSteps := 1000000) only [go_sem, ↓reduceIte, Nat.reduceLT, Nat.reduceLeDiff, Nat.reduceEqDiff, Nat.reduceAdd, Nat.reduceSub, Nat.reduceBEq, reduceCtorEq, List.getElem?_toArray, Option.bind_some, decide_true, decide_false, Bool.true_beq, Bool.false_beq, Bool.not_true, Bool.not_false, not_true_eq_false, not_false_eq_true, Tryz.results32, List.range_zero]
    · simp (maxSteps := 1000000) only [go_sem, ↓reduceIte, Nat.reduceLT, Nat.reduceLeDiff, Nat.reduceEqDiff, Nat.reduceAdd, Nat.reduceSub, Nat.reduceBEq, reduceCtorEq, List.getElem?_toArray, Option.bind_some, decide_true, decide_false, Bool.true_beq, Bool.false_beq, Bool.not_true, Bool.not_false, not_true_eq_false, not_false_eq_true, h2]
      have e : cmpv n d p q = 0 := if_neg fun h => h2 h.2
      rw [e]
      refine Fin.ret [.int .i64 0] [] true ?_ (by simp) (by simp) ?_ ?_ <;> simp (maxSteps := 1000000) only [go_sem, ↓reduceIte, Nat.reduceLT, Nat.reduceLeDiff, Nat.reduceEqDiff, Nat.reduceAdd, Nat.reduceSub, Nat.reduceBEq, reduceCtorEq, List.getElem?_toArray, Option.bind_some, decide_true, decide_false, Bool.true_beq, Bool.false_beq, Bool.not_true, Bool.not_false, not_true_eq_false, not_false_eq_true, Tryz.results32, List.range_zero]
  · simp (maxSteps := 1000000) only [go_sem, ↓reduceIte, Nat.reduceLT, Nat.reduceLeDiff, Nat.reduceEqDiff, Nat.reduceAdd, Nat.reduceSub, Nat.reduceBEq, reduceCtorEq, List.getElem?_toArray, Option.bind_some, decide_true, decide_false, Bool.true_beq, Bool.false_beq, Bool.not_true, Bool.not_false, not_true_eq_false, not_false_eq_true, h1]
    have e : cmpv n d p q = 0 := if_neg fun h => h1 h.1
    rw [e]
    refine Fin.ret [.int .i64 0] [] true ?_ (by simp) (by simp) ?_ ?_ <;> simp (maxSteps := 1000000) only [go_sem, ↓reduceIte, Nat.reduceLT, Nat.reduceLeDiff, Nat.reduceEqDiff, Nat.reduceAdd, Nat.reduceSub, Nat.reduceBEq, reduceCtorEq, List.getElem?_toArray, Option.bind_some, decide_true, decide_false, Bool.true_beq, Bool.false_beq, Bool.not_true, Bool.not_false, not_true_eq_false, not_false_eq_true, Tryz.results32, List.range_zero]
set_option maxRecDepth 20000 in
theorem c13 (n d p q : Int) : FC Tryz.prog 13 [.agg [.int .i64 n, .int .i64 d], .agg [.int .i64 p, .int .i64 q]] [] (.bool (decide (cmpv n d p q < 0))) [] := by
  refine FC.of_run mix Tryz.func13 rfl rfl (by simp [Tryz.ntmps13]) ?_
  simp (maxSteps := 1000000) only [go_sem, ↓reduceIte, Nat.reduceLT, Nat.reduceLeDiff, Nat.reduceEqDiff, Nat.reduceAdd, Nat.reduceSub, Nat.reduceBEq, reduceCtorEq, List.getElem?_toArray, Option.bind_some, decide_true, decide_false, Bool.true_beq, Bool.false_beq, Bool.not_true, Bool.not_false, not_true_eq_false, not_false_eq_true, Tryz.ntmps13]
  refine callF (c32 n d p q) ?_ ?_ ?_ ?_
  · simp (maxSteps := 1000000) only [go_sem, ↓reduceIte, Nat.reduceLT, Nat.reduceLeDiff, Nat.reduceEqDiff, Nat.reduceAdd, Nat.reduceSub, Nat.reduceBEq, reduceCtorEq, List.getElem?_toArray, Option.bind_some, decide_true, decide_false, Bool.true_beq, Bool.false_beq, Bool.not_true, Bool.not_false, not_true_eq_false, not_false_eq_true]
  · simp (maxSteps := 1000000) only [go_sem, ↓reduceIte, Nat.reduceLT, Nat.reduceLeDiff, Nat.reduceEqDiff, Nat.reduceAdd, Nat.reduceSub, Nat.reduceBEq, reduceCtorEq, List.getElem?_toArray, Option.bind_some, decide_true, decide_false, Bool.true_beq, Bool.false_beq, Bool.not_true, Bool.not_false, not_true_eq_false, not_false_eq_true]
  · simp (maxSteps := 1000000) only [go_sem, ↓reduceIte, Nat.reduceLT, Nat.reduceLeDiff, Nat.reduceEqDiff, Nat.reduceAdd, Nat.reduceSub, Nat.reduceBEq, reduceCtorEq, List.getElem?_toArray, Option.bind_some, decide_true, decide_false, Bool.true_beq, Bool.false_beq, Bool.not_true, Bool.not_false, not_true_eq_false, not_false_eq_true]
  simp (maxSteps := 1000000) only [go_sem, ↓reduceIte, Nat.reduceLT, Nat.reduceLeDiff, Nat.reduceEqDiff, Nat.reduceAdd, Nat.reduceSub, Nat.reduceBEq, reduceCtorEq, List.getElem?_toArray, Option.bind_some, decide_true, decide_false, Bool.true_beq, Bool.false_beq, Bool.not_true, Bool.not_false, not_true_eq_false, not_false_eq_true]
  refine Fin.ret [.bool (decide (cmpv n d p q < 0))] [] true ?_ (by simp) (by simp) ?_ ?_ <;> simp (maxSteps := 1000000) only [go_sem, ↓reduceIte, Nat.reduceLT, Nat.reduceLeDiff, Nat.reduceEqDiff, Nat.reduceAdd, Nat.reduceSub, Nat.reduceBEq, reduceCtorEq, List.getElem?_toArray, Option.bind_some, decide_true, decide_false, Bool.true_beq, Bool.false_beq, Bool.not_true, Bool.not_false, not_true_eq_false, not_false_eq_true, Tryz.results13, List.range_zero]
end J

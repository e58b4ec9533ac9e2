/- A part of the proof: the walk of functions that the law reaches. -/
import Derived.Test.YtcahllecebcfdaaGreatJ3
set_option linter.unusedVariables false
open Go Go.Proofs Go.AH
set_option linter.unusedSimpArgs false
namespace J
attribute [local go_sem] sz112 ag112 sz25 ag25 sz23 ag23 fld25_0 fld25_1 fld23_0 fld23_1 sz3 ag3 sz4 ag4 anil_int anil_tmp bne_dec beq_dec
def sgN (x y : Nat) : Int := if x < y then -1 else if y < x then 1 else 0
theorem sgN_lt {x y : Nat} (h : x < y) : sgN x y = -1 := by simp [sgN, h]
theorem sgN_gt {x y : Nat} (h : y < x) : sgN x y = 1 := by simp [sgN, h, show ¬ x < y by omega]
theorem sgN_eq {x y : Nat} (h : x = y) : sgN x y = 0 := by simp [sgN, h]
theorem quo_lt {a b c d : Nat} (hb : 0 < b) (hd : 0 < d) (h : a / b < c / d) : a * d < c * b := by
  have h1 : a < (c / d) * b := by rw [Nat.div_lt_iff_lt_mul hb] at h; exact h
  calc a * d < (c / d) * b * d := Nat.mul_lt_mul_of_pos_right h1 hd
    _ = (c / d) * d * b := by rw [Nat.mul_right_comm]
    _ ≤ c * b := Nat.mul_le_mul_right _ (Nat.div_mul_le_self c d)
theorem quo_eq {a b c d : Nat} (h : a / b = c / d) : sgN (a * d) (c * b) = sgN ((a % b) * d) ((c % d) * b) := by
  have e1 : a * d = (c / d) * (b * d) + (a % b) * d := by
    rw [← Nat.mul_assoc, ← Nat.add_mul, ← h, Nat.div_add_mod' a b]
  have e2 : c * b = (c / d) * (b * d) + (c % d) * b := by
    rw [Nat.mul_comm b d, ← Nat.mul_assoc, ← Nat.add_mul, Nat.div_add_mod' c d]
  rw [e1, e2]
  generalize (c / d) * (b * d) = z
  simp [sgN]
theorem tdivN (a b : Nat) : ((a : Int).tdiv b) = ((a / b : Nat) : Int) := by simp
theorem tmodN (a b : Nat) : ((a : Int).tmod b) = ((a % b : Nat) : Int) := (Int.ofNat_tmod a b).symm
theorem wrapN {a : Nat} (h : a < 9223372036854775808) : IntKind.i64.wrap (a : Int) = a := IntWalk.i64_in _ (by omega)
theorem ltN (a b : Nat) : ((a : Int) < b) = (a < b) := by simp
theorem eqN (a b : Nat) : ((a : Int) = b) = (a = b) := by simp only [eq_iff_iff]; omega
theorem eqN0 (a : Nat) : ((a : Int) = 0) = (a = 0) := by simp
set_option maxRecDepth 20000 in
theorem c57 : ∀ (m a b c d : Nat), b + d < m → 0 < b → 0 < d → a < 9223372036854775808 → b < 9223372036854775808 → c < 9223372036854775808 → d < 9223372036854775808 →
    FC Tryz.prog 57 [.int .i64 a, .int .i64 b, .int .i64 c, .int .i64 d] [] (.int .i64 (sgN (a * d) (c * b))) []
  | 0, a, b, c, d, hm, _, _, _, _, _, _ => by omega
  | m + 1, a, b, c, d, hm, hb, hd, ha', hb', hc', hd' => by
    have ih := c57 m d (c % d) b (a % b)
    refine FC.of_run mix Tryz.func57 rfl rfl (by simp [Tryz.ntmps57]) ?_
    have hb0 : ¬ b = 0 := by omega
    have hd0 : ¬ d = 0 := by omega
    have w1 := wrapN (a := a / b) (Nat.lt_of_le_of_lt (Nat.div_le_self _ _) ha')
    have w2 := wrapN (a := c / d) (Nat.lt_of_le_of_lt (Nat.div_le_self _ _) hc')
    simp (maxSteps := 1000000) only [go_sem, ↓reduceIte, Nat.reduceLT, Nat.reduceLeDiff, Nat.reduceEqDiff, Nat.reduceAdd, Nat.reduceSub, Nat.reduceBEq, reduceCtorEq, List.getElem?_toArray, Option.bind_some, decide_true, decide_false, Bool.true_beq, Bool.false_beq, Bool.not_true, Bool.not_false, not_true_eq_false, not_false_eq_true, Tryz.ntmps57, eqN0, hb0, hd0, tdivN, tmodN, w1, w2]
    refine drawnB_ok (by kernel_rfl) ?_
    simp (maxSteps := 1000000) only [go_sem, ↓reduceIte, Nat.reduceLT, Nat.reduceLeDiff, Nat.reduceEqDiff, Nat.reduceAdd, Nat.reduceSub, Nat.reduceBEq, reduceCtorEq, List.getElem?_toArray, Option.bind_some, decide_true, decide_false, Bool.true_beq, Bool.false_beq, Bool.not_true, Bool.not_false, not_true_eq_false, not_false_eq_true, eqN0, hb0, hd0, tdivN, tmodN, w1, w2, ltN, eqN, ne_eq]
    by_cases h1 : a / b = c / d
    · rw [quo_eq h1]
      simp (maxSteps := 1000000) only [go_sem, ↓reduceIte, Nat.reduceLT, Nat.reduceLeDiff, Nat.reduceEqDiff, Nat.reduceAdd, Nat.reduceSub, Nat.reduceBEq, reduceCtorEq, List.getElem?_toArray, Option.bind_some, decide_true, decide_false, Bool.true_beq, Bool.false_beq, Bool.not_true, Bool.not_false, not_true_eq_false, not_false_eq_true, h1, hb0, hd0, eqN0, tmodN, eqN, ltN, ne_eq]
      refine drawnB_ok (by kernel_rfl) ?_
      simp (maxSteps := 1000000) only [go_sem, ↓reduceIte, Nat.reduceLT, Nat.reduceLeDiff, Nat.reduceEqDiff, Nat.reduceAdd, Nat.reduceSub, Nat.reduceBEq, reduceCtorEq, List.getElem?_toArray, Option.bind_some, decide_true, decide_false, Bool.true_beq, Bool.false_beq, Bool.not_true, Bool.not_false, not_true_eq_false, not_false_eq_true, hb0, hd0, eqN0, tmodN, eqN, ltN, ne_eq]
      by_cases h3 : a % b = 0
      · by_cases h4 : c % d = 0
        · simp (maxSteps := 1000000) only [go_sem, ↓reduceIte, Nat.reduceLT, Nat.reduceLeDiff, Nat.reduceEqDiff, Nat.reduceAdd, Nat.reduceSub, Nat.reduceBEq, reduceCtorEq, List.getElem?_toArray, Option.bind_some, decide_true, decide_false, Bool.true_beq, Bool.false_beq, Bool.not_true, Bool.not_false, not_true_eq_false, not_false_eq_true, h3, h4, hb0, hd0, eqN0, tmodN, eqN, ltN, ne_eq]
          rw [sgN_eq (by simp only [h3, h4, Nat.zero_mul])]
          refine Fin.ret [.int .i64 0] [] true ?_ (by simp) (by simp) ?_ ?_ <;> simp (maxSteps := 1000000) only [go_sem, ↓reduceIte, Nat.reduceLT, Nat.reduceLeDiff, Nat.reduceEqDiff, Nat.reduceAdd, Nat.reduceSub, Nat.reduceBEq, reduceCtorEq, List.getElem?_toArray, Option.bind_some, decide_true, decide_false, Bool.true_beq, Bool.false_beq, Bool.not_true, Bool.not_false, not_true_eq_false, not_false_eq_true, Tryz.results57, List.range_zero]
        · simp (maxSteps := 1000000) only [go_sem, ↓reduceIte, Nat.reduceLT, Nat.reduceLeDiff, Nat.reduceEqDiff, Nat.reduceAdd, Nat.reduceSub, Nat.reduceBEq, reduceCtorEq, List.getElem?_toArray, Option.bind_some, decide_true, decide_false, Bool.true_beq, Bool.false_beq, Bool.not_true, Bool.not_false, not_true_eq_false, not_false_eq_true, h3, h4, hb0, hd0, eqN0, tmodN, eqN, ltN, ne_eq]
          rw [sgN_lt (by simp only [h3, Nat.zero_mul]; exact Nat.mul_pos (by omega) hb)]
          refine Fin.ret [.int .i64 (-1)] [] true ?_ (by simp) (by simp) ?_ ?_ <;> simp (maxSteps := 1000000) only [go_sem, ↓reduceIte, Nat.reduceLT, Nat.reduceLeDiff, Nat.reduceEqDiff, Nat.reduceAdd, Nat.reduceSub, Nat.reduceBEq, reduceCtorEq, List.getElem?_toArray, Option.bind_some, decide_true, decide_false, Bool.true_beq, Bool.false_beq, Bool.not_true, Bool.not_false, not_true_eq_false, not_false_eq_true, Tryz.results57, List.range_zero]
      · by_cases h4 : c % d = 0
        · simp (maxSteps := 1000000) only [go_sem, ↓reduceIte, Nat.reduceLT, Nat.reduceLeDiff, Nat.reduceEqDiff, Nat.reduceAdd, Nat.reduceSub, Nat.reduceBEq, reduceCtorEq, List.getElem?_toArray, Option.bind_some, decide_true, decide_false, Bool.true_beq, Bool.false_beq, Bool.not_true, Bool.not_false, not_true_eq_false, not_false_eq_true, h3, h4, hb0, hd0, eqN0, tmodN, eqN, ltN, ne_eq]
          rw [sgN_gt (by simp only [h4, Nat.zero_mul]; exact Nat.mul_pos (by omega) hd)]
          refine Fin.ret [.int .i64 1] [] true ?_ (by simp) (by simp) ?_ ?_ <;> simp (maxSteps := 1000000) only [go_sem, ↓reduceIte, Nat.reduceLT, Nat.reduceLeDiff, Nat.reduceEqDiff, Nat.reduceAdd, Nat.reduceSub, Nat.reduceBEq, reduceCtorEq, List.getElem?_toArray, Option.bind_some, decide_true, decide_false, Bool.true_beq, Bool.false_beq, Bool.not_true, Bool.not_false, not_true_eq_false, not_false_eq_true, Tryz.results57, List.range_zero]
        · simp (maxSteps := 1000000) only [go_sem, ↓reduceIte, Nat.reduceLT, Nat.reduceLeDiff, Nat.reduceEqDiff, Nat.reduceAdd, Nat.reduceSub, Nat.reduceBEq, reduceCtorEq, List.getElem?_toArray, Option.bind_some, decide_true, decide_false, Bool.true_beq, Bool.false_beq, Bool.not_true, Bool.not_false, not_true_eq_false, not_false_eq_true, h3, h4, hb0, hd0, eqN0, tmodN, eqN, ltN, ne_eq]
          have m1 := Nat.mod_lt a hb
          have m2 := Nat.mod_lt c hd
          refine callF (ih (by omega) (by omega) (by omega) (by omega) (by omega) (by omega) (by omega)) ?_ ?_ ?_ ?_
          · simp (maxSteps := 1000000) only [go_sem, ↓reduceIte, Nat.reduceLT, Nat.reduceLeDiff, Nat.reduceEqDiff, Nat.reduceAdd, Nat.reduceSub, Nat.reduceBEq, reduceCtorEq, List.getElem?_toArray, Option.bind_some, decide_true, decide_false, Bool.true_beq, Bool.false_beq, Bool.not_true, Bool.not_false, not_true_eq_false, not_false_eq_true]
          · simp (maxSteps := 1000000) only [go_sem, ↓reduceIte, Nat.reduceLT, Nat.reduceLeDiff, Nat.reduceEqDiff, Nat.reduceAdd, Nat.reduceSub, Nat.reduceBEq, reduceCtorEq, List.getElem?_toArray, Option.bind_some, decide_true, decide_false, Bool.true_beq, Bool.false_beq, Bool.not_true, Bool.not_false, not_true_eq_false, not_false_eq_true]
          · simp (maxSteps := 1000000) only [go_sem, ↓reduceIte, Nat.reduceLT, Nat.reduceLeDiff, Nat.reduceEqDiff, Nat.reduceAdd, Nat.reduceSub, Nat.reduceBEq, reduceCtorEq, List.getElem?_toArray, Option.bind_some, decide_true, decide_false, Bool.true_beq, Bool.false_beq, Bool.not_true, Bool.not_false, not_true_eq_false, not_false_eq_true]
          simp (maxSteps := 1000000) only [go_sem, ↓reduceIte, Nat.reduceLT, Nat.reduceLeDiff, Nat.reduceEqDiff, Nat.reduceAdd, Nat.reduceSub, Nat.reduceBEq, reduceCtorEq, List.getElem?_toArray, Option.bind_some, decide_true, decide_false, Bool.true_beq, Bool.false_beq, Bool.not_true, Bool.not_false, not_true_eq_false, not_false_eq_true]
          rw [Nat.mul_comm d, Nat.mul_comm b]
          refine Fin.ret [.int .i64 (sgN (a % b * d) (c % d * b))] [] true ?_ (by simp) (by simp) ?_ ?_ <;> simp (maxSteps := 1000000) only [go_sem, ↓reduceIte, Nat.reduceLT, Nat.reduceLeDiff, Nat.reduceEqDiff, Nat.reduceAdd, Nat.reduceSub, Nat.reduceBEq, reduceCtorEq, List.getElem?_toArray, Option.bind_some, decide_true, decide_false, Bool.true_beq, Bool.false_beq, Bool.not_true, Bool.not_false, not_true_eq_false, not_false_eq_true, Tryz.results57, List.range_zero]
    · by_cases h2 : a / b < c / d
      · simp (maxSteps := 1000000) only [go_sem, ↓reduceIte, Nat.reduceLT, Nat.reduceLeDiff, Nat.reduceEqDiff, Nat.reduceAdd, Nat.reduceSub, Nat.reduceBEq, reduceCtorEq, List.getElem?_toArray, Option.bind_some, decide_true, decide_false, Bool.true_beq, Bool.false_beq, Bool.not_true, Bool.not_false, not_true_eq_false, not_false_eq_true, h1, h2, hb0, hd0, eqN0, tmodN, eqN, ltN, ne_eq]
        rw [sgN_lt (quo_lt hb hd h2)]
        refine Fin.ret [.int .i64 (-1)] [] true ?_ (by simp) (by simp) ?_ ?_ <;> simp (maxSteps := 1000000) only [go_sem, ↓reduceIte, Nat.reduceLT, Nat.reduceLeDiff, Nat.reduceEqDiff, Nat.reduceAdd, Nat.reduceSub, Nat.reduceBEq, reduceCtorEq, List.getElem?_toArray, Option.bind_some, decide_true, decide_false, Bool.true_beq, Bool.false_beq, Bool.not_true, Bool.not_false, not_true_eq_false, not_false_eq_true, Tryz.results57, List.range_zero]
      · simp (maxSteps := 1000000) only [go_sem, ↓reduceIte, Nat.reduceLT, Nat.reduceLeDiff, Nat.reduceEqDiff, Nat.reduceAdd, Nat.reduceSub, Nat.reduceBEq, reduceCtorEq, List.getElem?_toArray, Option.bind_some, decide_true, decide_false, Bool.true_beq, Bool.false_beq, Bool.not_true, Bool.not_false, not_true_eq_false, not_false_eq_true, h1, h2, hb0, hd0, eqN0, tmodN, eqN, ltN, ne_eq]
        rw [sgN_gt (quo_lt hd hb (by omega))]
        refine Fin.ret [.int .i64 1] [] true ?_ (by simp) (by simp) ?_ ?_ <;> simp (maxSteps := 1000000) only [go_sem, ↓reduceIte, Nat.reduceLT, Nat.reduceLeDiff, Nat.reduceEqDiff, Nat.reduceAdd, Nat.reduceSub, Nat.reduceBEq, reduceCtorEq, List.getElem?_toArray, Option.bind_some, decide_true, decide_false, Bool.true_beq, Bool.false_beq, Bool.not_true, Bool.not_false, not_true_eq_false, not_false_eq_true, Tryz.results57, List.range_zero]
end J

/- A part of the proof: the walk of functions that the law reaches. -/
import Derived.Test.YtcahllecebcfdaaGreatJ2
set_option linter.unusedVariables false
open Go Go.Proofs Go.AH
set_option linter.unusedSimpArgs false
namespace J
theorem in112 : intT Tryz.prog 112 = some .u64 := by kernel_rfl
theorem sz112 : sizeT Tryz.prog 112 = some 1 := by kernel_rfl
theorem ag112 : aggT Tryz.prog 112 = some false := by kernel_rfl
theorem wrapu (x : Int) : IntKind.u64.wrap x = x % 18446744073709551616 := by
  rfl
theorem uand (x : Nat) : IntKind.u64.wrap ((BitVec.ofInt 64 (x : Int) &&& BitVec.ofInt 64 4294967295).toNat : Int) = ((x % 4294967296 : Nat) : Int) := by
  rw [wrapu]
  have e : (BitVec.ofInt 64 (x : Int) &&& BitVec.ofInt 64 4294967295).toNat = x % 4294967296 := by
    have : BitVec.ofInt 64 (x : Int) = BitVec.ofNat 64 x := by exact BitVec.ofInt_natCast _ _
    rw [this]
    have h2 : BitVec.ofInt 64 4294967295 = BitVec.ofNat 64 4294967295 := by
      show BitVec.ofInt 64 4294967295 = _
      decide
    rw [h2]
    show (BitVec.ofNat 64 x &&& BitVec.ofNat 64 4294967295).toNat = _
    rw [BitVec.toNat_and, BitVec.toNat_ofNat, BitVec.toNat_ofNat]
    have := Nat.and_two_pow_sub_one_eq_mod (x % 2 ^ 64) 32
    simp only [show (4294967295 : Nat) % 2 ^ 64 = 2 ^ 32 - 1 from by decide, this]
    omega
  rw [e]; omega
theorem uand0 : ∀ x : Nat, IntKind.u64.wrap ((BitVec.ofInt IntKind.u64.bits (x : Int) &&& BitVec.ofInt IntKind.u64.bits 4294967295).toNat : Int) = ((x % 4294967296 : Nat) : Int) := uand
theorem ushr (x : Nat) : ((x : Int).fdiv (2 ^ 32)) = ((x / 4294967296 : Nat) : Int) := by
  rw [Int.fdiv_eq_ediv_of_nonneg _ (by decide)]
  simp
theorem umul (a b : Nat) : IntKind.u64.wrap ((a : Int) * b) = ((a * b % 18446744073709551616 : Nat) : Int) := by
  rw [wrapu]; simp
theorem uadd (a b : Nat) : IntKind.u64.wrap ((a : Int) + b) = (((a + b) % 18446744073709551616 : Nat) : Int) := by
  rw [wrapu]; simp
theorem min32 : min (Int.toNat 32) 64 = 32 := by decide
theorem neg32 : ((32 : Int) < 0) = False := by decide
attribute [local go_sem] ushr umul uadd min32 neg32
attribute [local go_sem] sz112 ag112 sz25 ag25 sz23 ag23 fld25_0 fld25_1 fld23_0 fld23_1 sz3 ag3 sz4 ag4 anil_int anil_tmp bne_dec beq_dec
set_option maxRecDepth 20000 in
theorem c54 (x y : Nat) (hx : x < 18446744073709551616) (hy : y < 18446744073709551616) : FC Tryz.prog 54 [.int .u64 x, .int .u64 y] [] (.tup [.int .u64 (x * y / 18446744073709551616 : Nat), .int .u64 (x * y % 18446744073709551616 : Nat)]) [] := by
  refine FC.of_run mix Tryz.func54 rfl rfl (by simp [Tryz.ntmps54]) ?_
  have hu := uand0
  simp (maxSteps := 1000000) only [go_sem, ↓reduceIte, Nat.reduceLT, Nat.reduceLeDiff, Nat.reduceEqDiff, Nat.reduceAdd, Nat.reduceSub, Nat.reduceBEq, reduceCtorEq, List.getElem?_toArray, Option.bind_some, decide_true, decide_false, Bool.true_beq, Bool.false_beq, Bool.not_true, Bool.not_false, not_true_eq_false, not_false_eq_true] at hu
  simp (maxSteps := 1000000) only [go_sem, ↓reduceIte, Nat.reduceLT, Nat.reduceLeDiff, Nat.reduceEqDiff, Nat.reduceAdd, Nat.reduceSub, Nat.reduceBEq, reduceCtorEq, List.getElem?_toArray, Option.bind_some, decide_true, decide_false, Bool.true_beq, Bool.false_beq, Bool.not_true, Bool.not_false, not_true_eq_false, not_false_eq_true, Tryz.ntmps54, hu]
  refine Fin.ret [.int .u64 (x * y / 18446744073709551616 : Nat), .int .u64 (x * y % 18446744073709551616 : Nat)] [] true ?_ (by simp) (by simp) ?_ ?_ <;> simp (maxSteps := 1000000) only [go_sem, ↓reduceIte, Nat.reduceLT, Nat.reduceLeDiff, Nat.reduceEqDiff, Nat.reduceAdd, Nat.reduceSub, Nat.reduceBEq, reduceCtorEq, List.getElem?_toArray, Option.bind_some, decide_true, decide_false, Bool.true_beq, Bool.false_beq, Bool.not_true, Bool.not_false, not_true_eq_false, not_false_eq_true, Tryz.results54, List.range_zero]
  refine congrArg (fun z : Nat => some [D.int .u64 (z : Int), D.int .u64 ((x * y % 18446744073709551616 : Nat) : Int)]) ?_
  obtain ⟨_, _, _, g4⟩ := Lib.mul64_hi x y hx hy
  have ea := Lib.half_mul_le (a := x / 4294967296) (b := y / 4294967296) (by omega) (by omega)
  have eb := Lib.half_mul_le (a := x / 4294967296) (b := y % 4294967296) (by omega) (by omega)
  have ec := Lib.half_mul_le (a := x % 4294967296) (b := y / 4294967296) (by omega) (by omega)
  have ed := Lib.half_mul_le (a := x % 4294967296) (b := y % 4294967296) (by omega) (by omega)
  have ef : x * y / 18446744073709551616 < 18446744073709551616 := Nat.div_lt_of_lt_mul (Nat.mul_lt_mul'' hx hy)
  rw [← g4] at ef ⊢
  generalize (x / 4294967296) * (y / 4294967296) = a at *
  generalize (x / 4294967296) * (y % 4294967296) = b at *
  generalize (x % 4294967296) * (y / 4294967296) = c at *
  generalize (x % 4294967296) * (y % 4294967296) = d at *
  clear g4 hx hy hu
  omega
def fin14 (a b c d : Int) : Bool := decide (a < c ∨ a = c ∧ b < d)
set_option maxRecDepth 20000 in
theorem c14 (a b c d : Int) : FC Tryz.prog 14 [.agg [.int .i64 a, .int .i64 b], .agg [.int .i64 c, .int .i64 d]] [] (.bool (decide (a < c ∨ a = c ∧ b < d))) [] := by
  refine FC.of_run mix Tryz.func14 rfl rfl (by simp [Tryz.ntmps14]) ?_
  by_cases h1 : a < c
  · simp (maxSteps := 1000000) only [go_sem, ↓reduceIte, Nat.reduceLT, Nat.reduceLeDiff, Nat.reduceEqDiff, Nat.reduceAdd, Nat.reduceSub, Nat.reduceBEq, reduceCtorEq, List.getElem?_toArray, Option.bind_some, decide_true, decide_false, Bool.true_beq, Bool.false_beq, Bool.not_true, Bool.not_false, not_true_eq_false, not_false_eq_true, Tryz.ntmps14, h1]
    refine Fin.ret [.bool true] [] true ?_ (by simp) (by simp) ?_ ?_ <;> simp (maxSteps := 1000000) only [go_sem, ↓reduceIte, Nat.reduceLT, Nat.reduceLeDiff, Nat.reduceEqDiff, Nat.reduceAdd, Nat.reduceSub, Nat.reduceBEq, reduceCtorEq, List.getElem?_toArray, Option.bind_some, decide_true, decide_false, Bool.true_beq, Bool.false_beq, Bool.not_true, Bool.not_false, not_true_eq_false, not_false_eq_true, Tryz.results14, List.range_zero, h1]
  · by_cases h2 : a = c
    · subst h2
      simp (maxSteps := 1000000) only [go_sem, ↓reduceIte, Nat.reduceLT, Nat.reduceLeDiff, Nat.reduceEqDiff, Nat.reduceAdd, Nat.reduceSub, Nat.reduceBEq, reduceCtorEq, List.getElem?_toArray, Option.bind_some, decide_true, decide_false, Bool.true_beq, Bool.false_beq, Bool.not_true, Bool.not_false, not_true_eq_false, not_false_eq_true, Tryz.ntmps14, h1]
      refine Fin.ret [.bool (decide (b < d))] [] true ?_ (by simp) (by simp) ?_ ?_ <;> simp (maxSteps := 1000000) only [go_sem, ↓reduceIte, Nat.reduceLT, Nat.reduceLeDiff, Nat.reduceEqDiff, Nat.reduceAdd, Nat.reduceSub, Nat.reduceBEq, reduceCtorEq, List.getElem?_toArray, Option.bind_some, decide_true, decide_false, Bool.true_beq, Bool.false_beq, Bool.not_true, Bool.not_false, not_true_eq_false, not_false_eq_true, Tryz.results14, List.range_zero, h1]
    · simp (maxSteps := 1000000) only [go_sem, ↓reduceIte, Nat.reduceLT, Nat.reduceLeDiff, Nat.reduceEqDiff, Nat.reduceAdd, Nat.reduceSub, Nat.reduceBEq, reduceCtorEq, List.getElem?_toArray, Option.bind_some, decide_true, decide_false, Bool.true_beq, Bool.false_beq, Bool.not_true, Bool.not_false, not_true_eq_false, not_false_eq_true, Tryz.ntmps14, h1, h2]
      refine Fin.ret [.bool false] [] true ?_ (by simp) (by simp) ?_ ?_ <;> simp (maxSteps := 1000000) only [go_sem, ↓reduceIte, Nat.reduceLT, Nat.reduceLeDiff, Nat.reduceEqDiff, Nat.reduceAdd, Nat.reduceSub, Nat.reduceBEq, reduceCtorEq, List.getElem?_toArray, Option.bind_some, decide_true, decide_false, Bool.true_beq, Bool.false_beq, Bool.not_true, Bool.not_false, not_true_eq_false, not_false_eq_true, Tryz.results14, List.range_zero, h1, h2, false_and]
set_option maxRecDepth 20000 in
theorem c81 (a : Int) : FC Tryz.prog 81 [.int .i64 a] [] (.bool false) [] := by
  refine FC.of_run mix Tryz.func81 rfl rfl (by simp [Tryz.ntmps81]) ?_
  simp (maxSteps := 1000000) only [go_sem, ↓reduceIte, Nat.reduceLT, Nat.reduceLeDiff, Nat.reduceEqDiff, Nat.reduceAdd, Nat.reduceSub, Nat.reduceBEq, reduceCtorEq, List.getElem?_toArray, Option.bind_some, decide_true, decide_false, Bool.true_beq, Bool.false_beq, Bool.not_true, Bool.not_false, not_true_eq_false, not_false_eq_true, Tryz.ntmps81]
  refine Fin.ret [.bool false] [] true ?_ (by simp) (by simp) ?_ ?_ <;> simp (maxSteps := 1000000) only [go_sem, ↓reduceIte, Nat.reduceLT, Nat.reduceLeDiff, Nat.reduceEqDiff, Nat.reduceAdd, Nat.reduceSub, Nat.reduceBEq, reduceCtorEq, List.getElem?_toArray, Option.bind_some, decide_true, decide_false, Bool.true_beq, Bool.false_beq, Bool.not_true, Bool.not_false, not_true_eq_false, not_false_eq_true, Tryz.results81, List.range_zero, ne_eq]
def sg (a b : Int) : Int := if a < b then -1 else if b < a then 1 else 0
set_option maxRecDepth 20000 in
theorem c56 (a b : Int) : FC Tryz.prog 56 [.int .i64 a, .int .i64 b] [] (.int .i64 (sg a b)) [] := by
  refine FC.of_run mix Tryz.func56 rfl rfl (by simp [Tryz.ntmps56]) ?_
  simp (maxSteps := 1000000) only [go_sem, ↓reduceIte, Nat.reduceLT, Nat.reduceLeDiff, Nat.reduceEqDiff, Nat.reduceAdd, Nat.reduceSub, Nat.reduceBEq, reduceCtorEq, List.getElem?_toArray, Option.bind_some, decide_true, decide_false, Bool.true_beq, Bool.false_beq, Bool.not_true, Bool.not_false, not_true_eq_false, not_false_eq_true, Tryz.ntmps56]
  refine callF (c81 a) ?_ ?_ ?_ ?_
  · simp (maxSteps := 1000000) only [go_sem, ↓reduceIte, Nat.reduceLT, Nat.reduceLeDiff, Nat.reduceEqDiff, Nat.reduceAdd, Nat.reduceSub, Nat.reduceBEq, reduceCtorEq, List.getElem?_toArray, Option.bind_some, decide_true, decide_false, Bool.true_beq, Bool.false_beq, Bool.not_true, Bool.not_false, not_true_eq_false, not_false_eq_true]
  · simp (maxSteps := 1000000) only [go_sem, ↓reduceIte, Nat.reduceLT, Nat.reduceLeDiff, Nat.reduceEqDiff, Nat.reduceAdd, Nat.reduceSub, Nat.reduceBEq, reduceCtorEq, List.getElem?_toArray, Option.bind_some, decide_true, decide_false, Bool.true_beq, Bool.false_beq, Bool.not_true, Bool.not_false, not_true_eq_false, not_false_eq_true]
  · simp (maxSteps := 1000000) only [go_sem, ↓reduceIte, Nat.reduceLT, Nat.reduceLeDiff, Nat.reduceEqDiff, Nat.reduceAdd, Nat.reduceSub, Nat.reduceBEq, reduceCtorEq, List.getElem?_toArray, Option.bind_some, decide_true, decide_false, Bool.true_beq, Bool.false_beq, Bool.not_true, Bool.not_false, not_true_eq_false, not_false_eq_true]
  simp (maxSteps := 1000000) only [go_sem, ↓reduceIte, Nat.reduceLT, Nat.reduceLeDiff, Nat.reduceEqDiff, Nat.reduceAdd, Nat.reduceSub, Nat.reduceBEq, reduceCtorEq, List.getElem?_toArray, Option.bind_some, decide_true, decide_false, Bool.true_beq, Bool.false_beq, Bool.not_true, Bool.not_false, not_true_eq_false, not_false_eq_true]
  refine callF (c81 b) ?_ ?_ ?_ ?_
  · simp (maxSteps := 1000000) only [go_sem, ↓reduceIte, Nat.reduceLT, Nat.reduceLeDiff, Nat.reduceEqDiff, Nat.reduceAdd, Nat.reduceSub, Nat.reduceBEq, reduceCtorEq, List.getElem?_toArray, Option.bind_some, decide_true, decide_false, Bool.true_beq, Bool.false_beq, Bool.not_true, Bool.not_false, not_true_eq_false, not_false_eq_true]
  · simp (maxSteps := 1000000) only [go_sem, ↓reduceIte, Nat.reduceLT, Nat.reduceLeDiff, Nat.reduceEqDiff, Nat.reduceAdd, Nat.reduceSub, Nat.reduceBEq, reduceCtorEq, List.getElem?_toArray, Option.bind_some, decide_true, decide_false, Bool.true_beq, Bool.false_beq, Bool.not_true, Bool.not_false, not_true_eq_false, not_false_eq_true]
  · simp (maxSteps := 1000000) only [go_sem, ↓reduceIte, Nat.reduceLT, Nat.reduceLeDiff, Nat.reduceEqDiff, Nat.reduceAdd, Nat.reduceSub, Nat.reduceBEq, reduceCtorEq, List.getElem?_toArray, Option.bind_some, decide_true, decide_false, Bool.true_beq, Bool.false_beq, Bool.not_true, Bool.not_false, not_true_eq_false, not_false_eq_true]
  by_cases h1 : a < b
  · simp (maxSteps := 1000000) only [go_sem, ↓reduceIte, Nat.reduceLT, Nat.reduceLeDiff, Nat.reduceEqDiff, Nat.reduceAdd, Nat.reduceSub, Nat.reduceBEq, reduceCtorEq, List.getElem?_toArray, Option.bind_some, decide_true, decide_false, Bool.true_beq, Bool.false_beq, Bool.not_true, Bool.not_false, not_true_eq_false, not_false_eq_true, h1]
    refine Fin.ret [.int .i64 (-1)] [] true ?_ (by simp) (by simp) ?_ ?_ <;> simp (maxSteps := 1000000) only [go_sem, ↓reduceIte, Nat.reduceLT, Nat.reduceLeDiff, Nat.reduceEqDiff, Nat.reduceAdd, Nat.reduceSub, Nat.reduceBEq, reduceCtorEq, List.getElem?_toArray, Option.bind_some, decide_true, decide_false, Bool.true_beq, Bool.false_beq, Bool.not_true, Bool.not_false, not_true_eq_false, not_false_eq_true, Tryz.results56, List.range_zero, sg, h1]
  · by_cases h2 : b < a
    · simp (maxSteps := 1000000) only [go_sem, ↓reduceIte, Nat.reduceLT, Nat.reduceLeDiff, Nat.reduceEqDiff, Nat.reduceAdd, Nat.reduceSub, Nat.reduceBEq, reduceCtorEq, List.getElem?_toArray, Option.bind_some, decide_true, decide_false, Bool.true_beq, Bool.false_beq, Bool.not_true, Bool.not_false, not_true_eq_false, not_false_eq_true, h1, h2, gt_iff_lt]
      refine Fin.ret [.int .i64 1] [] true ?_ (by simp) (by simp) ?_ ?_ <;> simp (maxSteps := 1000000) only [go_sem, ↓reduceIte, Nat.reduceLT, Nat.reduceLeDiff, Nat.reduceEqDiff, Nat.reduceAdd, Nat.reduceSub, Nat.reduceBEq, reduceCtorEq, List.getElem?_toArray, Option.bind_some, decide_true, decide_false, Bool.true_beq, Bool.false_beq, Bool.not_true, Bool.not_false, not_true_eq_false, not_false_eq_true, Tryz.results56, List.range_zero, sg, h1, h2]
    · simp (maxSteps := 1000000) only [go_sem, ↓reduceIte, Nat.reduceLT, Nat.reduceLeDiff, Nat.reduceEqDiff, Nat.reduceAdd, Nat.reduceSub, Nat.reduceBEq, reduceCtorEq, List.getElem?_toArray, Option.bind_some, decide_true, decide_false, Bool.true_beq, Bool.false_beq, Bool.not_true, Bool.not_false, not_true_eq_false, not_false_eq_true, h1, h2, gt_iff_lt]
      refine Fin.ret [.int .i64 0] [] true ?_ (by simp) (by simp) ?_ ?_ <;> simp (maxSteps := 1000000) only [go_sem, ↓reduceIte, Nat.reduceLT, Nat.reduceLeDiff, Nat.reduceEqDiff, Nat.reduceAdd, Nat.reduceSub, Nat.reduceBEq, reduceCtorEq, List.getElem?_toArray, Option.bind_some, decide_true, decide_false, Bool.true_beq, Bool.false_beq, Bool.not_true, Bool.not_false, not_true_eq_false, not_false_eq_true, Tryz.results56, List.range_zero, sg, h1, h2]
theorem sz35 : sizeT Tryz.prog 35 = some 1 := by kernel_rfl
theorem ag35 : aggT Tryz.prog 35 = some false := by kernel_rfl
theorem un35 : Tryz.prog.underlying 35 = some (.slice 3) := by kernel_rfl
attribute [local go_sem] sz35 ag35 un35
set_option maxRecDepth 20000 in
theorem c55 (a b : Int) : FC Tryz.prog 55 [.vs [[.int .i64 a], [.int .i64 b]]] [] (.int .i64 (if a ≠ 0 then a else b)) [] := by
  refine FC.of_run mix Tryz.func55 rfl rfl (by simp [Tryz.ntmps55]) ?_
  simp (maxSteps := 1000000) only [go_sem, ↓reduceIte, Nat.reduceLT, Nat.reduceLeDiff, Nat.reduceEqDiff, Nat.reduceAdd, Nat.reduceSub, Nat.reduceBEq, reduceCtorEq, List.getElem?_toArray, Option.bind_some, decide_true, decide_false, Bool.true_beq, Bool.false_beq, Bool.not_true, Bool.not_false, not_true_eq_false, not_false_eq_true, Tryz.ntmps55]
  have w1 : IntKind.i64.wrap 1 = 1 := by decide
  have w2 : IntKind.i64.wrap 2 = 2 := by decide
  refine AW.loopx (σ := Int) mix (fun i => ⟨18, [(8, .int .i64 i), (7, .int .i64 2), (6, .vs [[.int .i64 a], [.int .i64 b]]), (3, .int .i64 0), (2, .int .i64 0)], []⟩) (fun i => i = 0 ∨ (i = 1 ∧ a = 0) ∨ (i = 2 ∧ a = 0 ∧ b = 0)) (fun i => (2 - i).toNat) 0 (.inl rfl) (Conv.mk ?_ ?_ ?_ ?_ ?_) ?_
  · simp (maxSteps := 1000000) only [go_sem, ↓reduceIte, Nat.reduceLT, Nat.reduceLeDiff, Nat.reduceEqDiff, Nat.reduceAdd, Nat.reduceSub, Nat.reduceBEq, reduceCtorEq, List.getElem?_toArray, Option.bind_some, decide_true, decide_false, Bool.true_beq, Bool.false_beq, Bool.not_true, Bool.not_false, not_true_eq_false, not_false_eq_true, Int.cast_ofNat_Int]
  · simp (maxSteps := 1000000) only [go_sem, ↓reduceIte, Nat.reduceLT, Nat.reduceLeDiff, Nat.reduceEqDiff, Nat.reduceAdd, Nat.reduceSub, Nat.reduceBEq, reduceCtorEq, List.getElem?_toArray, Option.bind_some, decide_true, decide_false, Bool.true_beq, Bool.false_beq, Bool.not_true, Bool.not_false, not_true_eq_false, not_false_eq_true]
  · simp (maxSteps := 1000000) only [go_sem, ↓reduceIte, Nat.reduceLT, Nat.reduceLeDiff, Nat.reduceEqDiff, Nat.reduceAdd, Nat.reduceSub, Nat.reduceBEq, reduceCtorEq, List.getElem?_toArray, Option.bind_some, decide_true, decide_false, Bool.true_beq, Bool.false_beq, Bool.not_true, Bool.not_false, not_true_eq_false, not_false_eq_true]
  · simp (maxSteps := 1000000) only [go_sem, ↓reduceIte, Nat.reduceLT, Nat.reduceLeDiff, Nat.reduceEqDiff, Nat.reduceAdd, Nat.reduceSub, Nat.reduceBEq, reduceCtorEq, List.getElem?_toArray, Option.bind_some, decide_true, decide_false, Bool.true_beq, Bool.false_beq, Bool.not_true, Bool.not_false, not_true_eq_false, not_false_eq_true]
  · simp (maxSteps := 1000000) only [go_sem, ↓reduceIte, Nat.reduceLT, Nat.reduceLeDiff, Nat.reduceEqDiff, Nat.reduceAdd, Nat.reduceSub, Nat.reduceBEq, reduceCtorEq, List.getElem?_toArray, Option.bind_some, decide_true, decide_false, Bool.true_beq, Bool.false_beq, Bool.not_true, Bool.not_false, not_true_eq_false, not_false_eq_true]
  · rintro i (rfl | ⟨rfl, rfl⟩ | ⟨rfl, rfl, rfl⟩)
    · simp (maxSteps := 1000000) only [go_sem, ↓reduceIte, Nat.reduceLT, Nat.reduceLeDiff, Nat.reduceEqDiff, Nat.reduceAdd, Nat.reduceSub, Nat.reduceBEq, reduceCtorEq, List.getElem?_toArray, Option.bind_some, decide_true, decide_false, Bool.true_beq, Bool.false_beq, Bool.not_true, Bool.not_false, not_true_eq_false, not_false_eq_true, Int.reduceLT, Int.reduceToNat]
      by_cases ha : a = 0
      · simp (maxSteps := 1000000) only [go_sem, ↓reduceIte, Nat.reduceLT, Nat.reduceLeDiff, Nat.reduceEqDiff, Nat.reduceAdd, Nat.reduceSub, Nat.reduceBEq, reduceCtorEq, List.getElem?_toArray, Option.bind_some, decide_true, decide_false, Bool.true_beq, Bool.false_beq, Bool.not_true, Bool.not_false, not_true_eq_false, not_false_eq_true, ha, Int.reduceAdd, w1, ne_eq]
        refine ⟨1, by decide, .inr (.inl rfl), Conv.mk ?_ ?_ ?_ ?_ ?_⟩ <;> simp (maxSteps := 1000000) only [go_sem, ↓reduceIte, Nat.reduceLT, Nat.reduceLeDiff, Nat.reduceEqDiff, Nat.reduceAdd, Nat.reduceSub, Nat.reduceBEq, reduceCtorEq, List.getElem?_toArray, Option.bind_some, decide_true, decide_false, Bool.true_beq, Bool.false_beq, Bool.not_true, Bool.not_false, not_true_eq_false, not_false_eq_true, ha]
      · simp (maxSteps := 1000000) only [go_sem, ↓reduceIte, Nat.reduceLT, Nat.reduceLeDiff, Nat.reduceEqDiff, Nat.reduceAdd, Nat.reduceSub, Nat.reduceBEq, reduceCtorEq, List.getElem?_toArray, Option.bind_some, decide_true, decide_false, Bool.true_beq, Bool.false_beq, Bool.not_true, Bool.not_false, not_true_eq_false, not_false_eq_true, ha, ne_eq]
        refine Fin.ret [.int .i64 a] [] true ?_ (by simp) (by simp) ?_ ?_ <;> simp (maxSteps := 1000000) only [go_sem, ↓reduceIte, Nat.reduceLT, Nat.reduceLeDiff, Nat.reduceEqDiff, Nat.reduceAdd, Nat.reduceSub, Nat.reduceBEq, reduceCtorEq, List.getElem?_toArray, Option.bind_some, decide_true, decide_false, Bool.true_beq, Bool.false_beq, Bool.not_true, Bool.not_false, not_true_eq_false, not_false_eq_true, Tryz.results55, List.range_zero, ha]
    · simp (maxSteps := 1000000) only [go_sem, ↓reduceIte, Nat.reduceLT, Nat.reduceLeDiff, Nat.reduceEqDiff, Nat.reduceAdd, Nat.reduceSub, Nat.reduceBEq, reduceCtorEq, List.getElem?_toArray, Option.bind_some, decide_true, decide_false, Bool.true_beq, Bool.false_beq, Bool.not_true, Bool.not_false, not_true_eq_false, not_false_eq_true, Int.reduceLT, Int.reduceToNat]
      by_cases hb : b = 0
      · simp (maxSteps := 1000000) only [go_sem, ↓reduceIte, Nat.reduceLT, Nat.reduceLeDiff, Nat.reduceEqDiff, Nat.reduceAdd, Nat.reduceSub, Nat.reduceBEq, reduceCtorEq, List.getElem?_toArray, Option.bind_some, decide_true, decide_false, Bool.true_beq, Bool.false_beq, Bool.not_true, Bool.not_false, not_true_eq_false, not_false_eq_true, hb, Int.reduceAdd, w2, ne_eq]
        refine ⟨2, by decide, .inr (.inr rfl), Conv.mk ?_ ?_ ?_ ?_ ?_⟩ <;> simp (maxSteps := 1000000) only [go_sem, ↓reduceIte, Nat.reduceLT, Nat.reduceLeDiff, Nat.reduceEqDiff, Nat.reduceAdd, Nat.reduceSub, Nat.reduceBEq, reduceCtorEq, List.getElem?_toArray, Option.bind_some, decide_true, decide_false, Bool.true_beq, Bool.false_beq, Bool.not_true, Bool.not_false, not_true_eq_false, not_false_eq_true, hb]
      · simp (maxSteps := 1000000) only [go_sem, ↓reduceIte, Nat.reduceLT, Nat.reduceLeDiff, Nat.reduceEqDiff, Nat.reduceAdd, Nat.reduceSub, Nat.reduceBEq, reduceCtorEq, List.getElem?_toArray, Option.bind_some, decide_true, decide_false, Bool.true_beq, Bool.false_beq, Bool.not_true, Bool.not_false, not_true_eq_false, not_false_eq_true, hb, ne_eq]
        refine Fin.ret [.int .i64 b] [] true ?_ (by simp) (by simp) ?_ ?_ <;> simp (maxSteps := 1000000) only [go_sem, ↓reduceIte, Nat.reduceLT, Nat.reduceLeDiff, Nat.reduceEqDiff, Nat.reduceAdd, Nat.reduceSub, Nat.reduceBEq, reduceCtorEq, List.getElem?_toArray, Option.bind_some, decide_true, decide_false, Bool.true_beq, Bool.false_beq, Bool.not_true, Bool.not_false, not_true_eq_false, not_false_eq_true, Tryz.results55, List.range_zero, hb, ne_eq]
    · simp (maxSteps := 1000000) only [go_sem, ↓reduceIte, Nat.reduceLT, Nat.reduceLeDiff, Nat.reduceEqDiff, Nat.reduceAdd, Nat.reduceSub, Nat.reduceBEq, reduceCtorEq, List.getElem?_toArray, Option.bind_some, decide_true, decide_false, Bool.true_beq, Bool.false_beq, Bool.not_true, Bool.not_false, not_true_eq_false, not_false_eq_true, Int.reduceLT, Int.reduceToNat]
      refine Fin.ret [.int .i64 0] [] true ?_ (by simp) (by simp) ?_ ?_ <;> simp (maxSteps := 1000000) only [go_sem, ↓reduceIte, Nat.reduceLT, Nat.reduceLeDiff, Nat.reduceEqDiff, Nat.reduceAdd, Nat.reduceSub, Nat.reduceBEq, reduceCtorEq, List.getElem?_toArray, Option.bind_some, decide_true, decide_false, Bool.true_beq, Bool.false_beq, Bool.not_true, Bool.not_false, not_true_eq_false, not_false_eq_true, Tryz.results55, List.range_zero, ne_eq]
end J

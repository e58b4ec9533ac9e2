/- The tree walked: part d. -/
import Derived.Test.YtjfgnmicjhjofaaGreatTc
/- Centred sums, products, quotients of the reference. -/
open Go Go.Proofs Go.AH
set_option linter.unusedSimpArgs false
set_option linter.unusedVariables false
namespace TR
def cenV (x : List Int) (i : Nat) : Int := IntKind.i64.wrap (IntKind.i64.wrap ((x.length : Int) * x.getD i 0) - segS x 0 x.length)
def stCen (x : List Int) : Nat → St
  | 0 => ⟨45, [(28, .int .i64 0), (27, .int .i64 x.length), (7, .zs), (5, .int .i64 (segS x 0 x.length)), (0, V x)], []⟩
  | i + 1 => ⟨45, [(28, .int .i64 ((i + 1 : Nat) : Int)), (27, .int .i64 x.length), (7, .rs 1 1 0 (i + 1) (i + 1)), (5, .int .i64 (segS x 0 x.length)), (0, V x)], [none, some (ints (rangeF (cenV x) (i + 1)))]⟩
set_option maxHeartbeats 2000000 in
set_option maxRecDepth 20000 in
theorem cCen (x : List Int) (hx : smp x) : FC Tryz.prog 138 [V x] [] (.tup [V (rangeF (cenV x) x.length), .int .i64 0]) [] := by
  refine FC.of_run mix Tryz.func138 rfl rfl (by simp [Tryz.ntmps138]) ?_
  have h2 := hx.1
  have h32 := hx.2.1
  repeat' first
    | simp (maxSteps := 1000000) only [go_sem, Int.reduceLT, Int.reduceLE, Int.reduceToNat, Int.reduceEq, Nat.reduceMul, ↓reduceIte, Nat.reduceLT, Nat.reduceLeDiff, Nat.reduceEqDiff, Nat.reduceAdd, Nat.reduceSub, Nat.reduceBEq, reduceCtorEq, *]
    | contradiction
    | refine wntB_decT (fun _ => ?_) (fun _ => ?_)
    | refine wntB_decF (fun _ => ?_) (fun _ => ?_)
    | refine cndB_dec (fun _ => ?_) (fun _ => ?_)
    | refine drawnB_ok (by kernel_rfl) ?_
    | refine kcWindow ?_
    | ((first | refine Fin.q ?_ ?_ | refine Fin.qn ?_ ?_) <;> ((try simp (maxSteps := 1000000) only [go_sem, Int.reduceLT, Int.reduceLE, Int.reduceToNat, Int.reduceEq, Nat.reduceMul, ↓reduceIte, Nat.reduceLT, Nat.reduceLeDiff, Nat.reduceEqDiff, Nat.reduceAdd, Nat.reduceSub, Nat.reduceBEq, reduceCtorEq, *]) <;> (skip)))
  refine AW.loopx (σ := Nat) mix (fun i => ⟨45, [(16, .int .i64 i), (15, .int .i64 x.length), (5, .int .i64 (segS x 0 i)), (0, V x)], []⟩) (fun i => i ≤ x.length) (fun i => x.length - i) 0 (by omega) (Conv.mk ?_ ?_ ?_ ?_ ?_) ?_
  iterate 5 (· (simp (maxSteps := 1000000) only [go_sem, Int.reduceLT, Int.reduceLE, Int.reduceToNat, Int.reduceEq, Nat.reduceMul, ↓reduceIte, Nat.reduceLT, Nat.reduceLeDiff, Nat.reduceEqDiff, Nat.reduceAdd, Nat.reduceSub, Nat.reduceBEq, reduceCtorEq, segS]) <;> (first | rfl | (simp [ints]; done) | (simp [*]; done) | ((repeat' (first | rfl | apply And.intro)); done)))
  clear hx
  intro i hi
  have hw := wrap1 (i := i) (by omega)
  by_cases h : i < x.length
  · have hx := ints_get h
    have z : 0 + i = i := by omega
    repeat' first
      | (refine ⟨i + 1, ?_, ?_, Conv.mk ?_ ?_ ?_ ?_ ?_⟩; (· (first | omega | (simp only; omega) | (simp only [List.length_nil, List.length_cons]; omega))); (· (omega)); (all_goals simp (maxSteps := 1000000) only [go_sem, Int.reduceLT, Int.reduceLE, Int.reduceToNat, Int.reduceEq, Nat.reduceMul, ↓reduceIte, Nat.reduceLT, Nat.reduceLeDiff, Nat.reduceEqDiff, Nat.reduceAdd, Nat.reduceSub, Nat.reduceBEq, reduceCtorEq, *, segS]); done)
      | simp (maxSteps := 1000000) only [go_sem, Int.reduceLT, Int.reduceLE, Int.reduceToNat, Int.reduceEq, Nat.reduceMul, ↓reduceIte, Nat.reduceLT, Nat.reduceLeDiff, Nat.reduceEqDiff, Nat.reduceAdd, Nat.reduceSub, Nat.reduceBEq, reduceCtorEq, *, segS]
      | contradiction
      | refine wntB_decT (fun _ => ?_) (fun _ => ?_)
      | refine wntB_decF (fun _ => ?_) (fun _ => ?_)
      | refine cndB_dec (fun _ => ?_) (fun _ => ?_)
      | refine drawnB_ok (by kernel_rfl) ?_
      | ((first | refine Fin.q ?_ ?_ | refine Fin.qn ?_ ?_) <;> ((try simp (maxSteps := 1000000) only [go_sem, Int.reduceLT, Int.reduceLE, Int.reduceToNat, Int.reduceEq, Nat.reduceMul, ↓reduceIte, Nat.reduceLT, Nat.reduceLeDiff, Nat.reduceEqDiff, Nat.reduceAdd, Nat.reduceSub, Nat.reduceBEq, reduceCtorEq, *, segS]) <;> (skip)))
  · obtain rfl : i = x.length := by omega
    clear hw h
    repeat' first
      | simp (maxSteps := 1000000) only [go_sem, Int.reduceLT, Int.reduceLE, Int.reduceToNat, Int.reduceEq, Nat.reduceMul, ↓reduceIte, Nat.reduceLT, Nat.reduceLeDiff, Nat.reduceEqDiff, Nat.reduceAdd, Nat.reduceSub, Nat.reduceBEq, reduceCtorEq, *]
      | contradiction
      | refine wntB_decT (fun _ => ?_) (fun _ => ?_)
      | refine wntB_decF (fun _ => ?_) (fun _ => ?_)
      | refine cndB_dec (fun _ => ?_) (fun _ => ?_)
      | refine drawnB_ok (by kernel_rfl) ?_
      | ((first | refine Fin.q ?_ ?_ | refine Fin.qn ?_ ?_) <;> ((try simp (maxSteps := 1000000) only [go_sem, Int.reduceLT, Int.reduceLE, Int.reduceToNat, Int.reduceEq, Nat.reduceMul, ↓reduceIte, Nat.reduceLT, Nat.reduceLeDiff, Nat.reduceEqDiff, Nat.reduceAdd, Nat.reduceSub, Nat.reduceBEq, reduceCtorEq, *]) <;> (skip)))
    refine AW.loopx (σ := Nat) mix (stCen x) (fun i => i ≤ x.length) (fun i => x.length - i) 0 (by omega) (Conv.mk ?_ ?_ ?_ ?_ ?_) ?_
    iterate 5 (· simp (maxSteps := 1000000) only [go_sem, Int.reduceLT, Int.reduceLE, Int.reduceToNat, Int.reduceEq, Nat.reduceMul, ↓reduceIte, Nat.reduceLT, Nat.reduceLeDiff, Nat.reduceEqDiff, Nat.reduceAdd, Nat.reduceSub, Nat.reduceBEq, reduceCtorEq, stCen])
    intro i hi
    have hC : i + 1 ≤ capMax := by unfold capMax; omega
    have hC2 : i + 1 + 1 ≤ capMax := by unfold capMax; omega
    rcases i with _ | i
    · have hx := ints_get (l := x) (i := 0) (by omega)
      have hp : 0 < x.length := by omega
      have hpI : (0 : Int) < x.length := by omega
      have hw : IntKind.i64.wrap ((0 : Int) + 1) = ((1 : Nat) : Int) := by decide
      have hv : IntKind.i64.wrap (IntKind.i64.wrap ((x.length : Int) * x.getD 0 0) - segS x 0 x.length) = cenV x 0 := rfl
      simp only [stCen]
      repeat' first
        | (refine ⟨1, ?_, ?_, Conv.mk ?_ ?_ ?_ ?_ ?_⟩; (· (first | omega | (simp only; omega) | (simp only [List.length_nil, List.length_cons]; omega))); (· (omega)); (all_goals simp (maxSteps := 1000000) only [go_sem, Int.reduceLT, Int.reduceLE, Int.reduceToNat, Int.reduceEq, Nat.reduceMul, ↓reduceIte, Nat.reduceLT, Nat.reduceLeDiff, Nat.reduceEqDiff, Nat.reduceAdd, Nat.reduceSub, Nat.reduceBEq, reduceCtorEq, *, stCen, Nat.zero_add, rangeF_one, List.length_singleton, List.isEmpty_cons, List.length_cons, List.length_nil]); done)
        | simp (maxSteps := 1000000) only [go_sem, Int.reduceLT, Int.reduceLE, Int.reduceToNat, Int.reduceEq, Nat.reduceMul, ↓reduceIte, Nat.reduceLT, Nat.reduceLeDiff, Nat.reduceEqDiff, Nat.reduceAdd, Nat.reduceSub, Nat.reduceBEq, reduceCtorEq, *, stCen, Nat.zero_add, rangeF_one, List.length_singleton, List.isEmpty_cons, List.length_cons, List.length_nil]
        | contradiction
        | refine wntB_decT (fun _ => ?_) (fun _ => ?_)
        | refine wntB_decF (fun _ => ?_) (fun _ => ?_)
        | refine cndB_dec (fun _ => ?_) (fun _ => ?_)
        | refine drawnB_ok (by kernel_rfl) ?_
        | ((first | refine Fin.q ?_ ?_ | refine Fin.qn ?_ ?_) <;> ((try simp (maxSteps := 1000000) only [go_sem, Int.reduceLT, Int.reduceLE, Int.reduceToNat, Int.reduceEq, Nat.reduceMul, ↓reduceIte, Nat.reduceLT, Nat.reduceLeDiff, Nat.reduceEqDiff, Nat.reduceAdd, Nat.reduceSub, Nat.reduceBEq, reduceCtorEq, *, stCen, Nat.zero_add, rangeF_one, List.length_singleton, List.isEmpty_cons, List.length_cons, List.length_nil]) <;> (skip)))
    · by_cases h : i + 1 < x.length
      · have hx := ints_get h
        have hw : IntKind.i64.wrap (((i + 1 : Nat) : Int) + 1) = ((i + 1 + 1 : Nat) : Int) := wrap1 (by omega)
        have hv : IntKind.i64.wrap (IntKind.i64.wrap ((x.length : Int) * x.getD (i + 1) 0) - segS x 0 x.length) = cenV x (i + 1) := rfl
        simp only [stCen]
        repeat' first
          | (refine ⟨i + 1 + 1, ?_, ?_, Conv.mk ?_ ?_ ?_ ?_ ?_⟩; (· (first | omega | (simp only; omega) | (simp only [List.length_nil, List.length_cons]; omega))); (· (omega)); (all_goals simp (maxSteps := 1000000) only [go_sem, Int.reduceLT, Int.reduceLE, Int.reduceToNat, Int.reduceEq, Nat.reduceMul, ↓reduceIte, Nat.reduceLT, Nat.reduceLeDiff, Nat.reduceEqDiff, Nat.reduceAdd, Nat.reduceSub, Nat.reduceBEq, reduceCtorEq, *, stCen, snocF, rangeF_len, takeF, no_succ_le, Nat.zero_add, List.isEmpty_cons, List.length_cons, List.length_nil, List.drop_zero, eq_self]); done)
          | simp (maxSteps := 1000000) only [go_sem, Int.reduceLT, Int.reduceLE, Int.reduceToNat, Int.reduceEq, Nat.reduceMul, ↓reduceIte, Nat.reduceLT, Nat.reduceLeDiff, Nat.reduceEqDiff, Nat.reduceAdd, Nat.reduceSub, Nat.reduceBEq, reduceCtorEq, *, stCen, snocF, rangeF_len, takeF, no_succ_le, Nat.zero_add, List.isEmpty_cons, List.length_cons, List.length_nil, List.drop_zero, eq_self]
          | contradiction
          | refine wntB_decT (fun _ => ?_) (fun _ => ?_)
          | refine wntB_decF (fun _ => ?_) (fun _ => ?_)
          | refine cndB_dec (fun _ => ?_) (fun _ => ?_)
          | refine drawnB_ok (by kernel_rfl) ?_
          | ((first | refine Fin.q ?_ ?_ | refine Fin.qn ?_ ?_) <;> ((try simp (maxSteps := 1000000) only [go_sem, Int.reduceLT, Int.reduceLE, Int.reduceToNat, Int.reduceEq, Nat.reduceMul, ↓reduceIte, Nat.reduceLT, Nat.reduceLeDiff, Nat.reduceEqDiff, Nat.reduceAdd, Nat.reduceSub, Nat.reduceBEq, reduceCtorEq, *, stCen, snocF, rangeF_len, takeF, no_succ_le, Nat.zero_add, List.isEmpty_cons, List.length_cons, List.length_nil, List.drop_zero, eq_self]) <;> (skip)))
      · have e : x.length = i + 1 := by omega
        rw [show V (rangeF (cenV x) x.length) = V (rangeF (cenV x) (i + 1)) by rw [e]]
        simp only [stCen]
        repeat' first
          | simp (maxSteps := 1000000) only [go_sem, Int.reduceLT, Int.reduceLE, Int.reduceToNat, Int.reduceEq, Nat.reduceMul, ↓reduceIte, Nat.reduceLT, Nat.reduceLeDiff, Nat.reduceEqDiff, Nat.reduceAdd, Nat.reduceSub, Nat.reduceBEq, reduceCtorEq, *, rangeF_len, takeF, List.drop_zero, Nat.zero_add, eq_self, no_succ_le, Nat.lt_irrefl]
          | contradiction
          | refine wntB_decT (fun _ => ?_) (fun _ => ?_)
          | refine wntB_decF (fun _ => ?_) (fun _ => ?_)
          | refine cndB_dec (fun _ => ?_) (fun _ => ?_)
          | refine drawnB_ok (by kernel_rfl) ?_
          | ((first | refine Fin.q ?_ ?_ | refine Fin.qn ?_ ?_) <;> ((try simp (maxSteps := 1000000) only [go_sem, Int.reduceLT, Int.reduceLE, Int.reduceToNat, Int.reduceEq, Nat.reduceMul, ↓reduceIte, Nat.reduceLT, Nat.reduceLeDiff, Nat.reduceEqDiff, Nat.reduceAdd, Nat.reduceSub, Nat.reduceBEq, reduceCtorEq, *, rangeF_len, takeF, List.drop_zero, Nat.zero_add, eq_self, no_succ_le, Nat.lt_irrefl]) <;> (skip)))
set_option maxRecDepth 20000 in
theorem kcCen {x : List Int} {H : Heap} {slot : Nat} {K : D → List (Nat × Blk) → List (Nat × Blk) → Prop} (hK : K (.tup [V (rangeF (cenV x) x.length), .int .i64 0]) [] []) (hx : smp x := by first | assumption | omega) : @callB ⟨callX Tryz.prog⟩ 138 [V x] H slot ⟨K⟩ := by
  have he0 : rdOf H (D.idsL [V x]) = [] := by simp (maxSteps := 1000000) only [go_sem, Int.reduceLT, Int.reduceLE, Int.reduceToNat, Int.reduceEq, Nat.reduceMul, ↓reduceIte, Nat.reduceLT, Nat.reduceLeDiff, Nat.reduceEqDiff, Nat.reduceAdd, Nat.reduceSub, Nat.reduceBEq, reduceCtorEq]
  refine call0 false (cCen x hx) ?_ ?_ (fun h => nomatch h) (by rw [he0]; exact hK)
  iterate 2 (· simp (maxSteps := 1000000) only [go_sem, Int.reduceLT, Int.reduceLE, Int.reduceToNat, Int.reduceEq, Nat.reduceMul, ↓reduceIte, Nat.reduceLT, Nat.reduceLeDiff, Nat.reduceEqDiff, Nat.reduceAdd, Nat.reduceSub, Nat.reduceBEq, reduceCtorEq])
set_option maxHeartbeats 2000000 in
set_option maxRecDepth 20000 in
theorem cCenS (x : List Int) (n : Nat) (hx : smp x) (h1 : 1 ≤ n) (h8 : n ≤ 8) (hnm : n ≤ x.length) : FC Tryz.prog 111 [V x, .int .i64 n] [] (.tup [V (rangeF (foldV (rangeF (cenV x) x.length) x.length n) n), .int .i64 0]) [] := by
  refine FC.of_run mix Tryz.func111 rfl rfl (by simp [Tryz.ntmps111]) ?_
  have h2 := hx.1
  have h32 := hx.2.1
  have hf := cFold (rangeF (cenV x) x.length) n (by rw [rangeF_len]; exact h32) h1 h8 (by rw [rangeF_len]; exact hnm)
  rw [rangeF_len] at hf
  have kf : ∀ {H : Heap} {slot : Nat} {K : D → List (Nat × Blk) → List (Nat × Blk) → Prop}, K (V (rangeF (foldV (rangeF (cenV x) x.length) x.length n) n)) [] [] → @callB ⟨callX Tryz.prog⟩ 137 [V (rangeF (cenV x) x.length), V (rangeF (startF x.length n) (n + 1))] H slot ⟨K⟩ := fun hK => call0 false hf rfl rfl (fun h => nomatch h) hK
  clear hf
  repeat' first
    | simp (maxSteps := 1000000) only [go_sem, Int.reduceLT, Int.reduceLE, Int.reduceToNat, Int.reduceEq, Nat.reduceMul, ↓reduceIte, Nat.reduceLT, Nat.reduceLeDiff, Nat.reduceEqDiff, Nat.reduceAdd, Nat.reduceSub, Nat.reduceBEq, reduceCtorEq, *]
    | contradiction
    | refine wntB_decT (fun _ => ?_) (fun _ => ?_)
    | refine wntB_decF (fun _ => ?_) (fun _ => ?_)
    | refine cndB_dec (fun _ => ?_) (fun _ => ?_)
    | refine drawnB_ok (by kernel_rfl) ?_
    | refine kcCen ?_
    | refine kcStarts ?_
    | refine kf ?_
    | ((first | refine Fin.q ?_ ?_ | refine Fin.qn ?_ ?_) <;> ((try simp (maxSteps := 1000000) only [go_sem, Int.reduceLT, Int.reduceLE, Int.reduceToNat, Int.reduceEq, Nat.reduceMul, ↓reduceIte, Nat.reduceLT, Nat.reduceLeDiff, Nat.reduceEqDiff, Nat.reduceAdd, Nat.reduceSub, Nat.reduceBEq, reduceCtorEq, *]) <;> (skip)))
set_option maxRecDepth 20000 in
theorem kcCenS {x : List Int} {n : Nat} {H : Heap} {slot : Nat} {K : D → List (Nat × Blk) → List (Nat × Blk) → Prop} (hK : K (.tup [V (rangeF (foldV (rangeF (cenV x) x.length) x.length n) n), .int .i64 0]) [] []) (hx : smp x := by first | assumption | omega) (h1 : 1 ≤ n := by first | assumption | omega) (h8 : n ≤ 8 := by first | assumption | omega) (hnm : n ≤ x.length := by first | assumption | omega) : @callB ⟨callX Tryz.prog⟩ 111 [V x, .int .i64 n] H slot ⟨K⟩ := by
  have he0 : rdOf H (D.idsL [V x, .int .i64 n]) = [] := by simp (maxSteps := 1000000) only [go_sem, Int.reduceLT, Int.reduceLE, Int.reduceToNat, Int.reduceEq, Nat.reduceMul, ↓reduceIte, Nat.reduceLT, Nat.reduceLeDiff, Nat.reduceEqDiff, Nat.reduceAdd, Nat.reduceSub, Nat.reduceBEq, reduceCtorEq]
  refine call0 false (cCenS x n hx h1 h8 hnm) ?_ ?_ (fun h => nomatch h) (by rw [he0]; exact hK)
  iterate 2 (· simp (maxSteps := 1000000) only [go_sem, Int.reduceLT, Int.reduceLE, Int.reduceToNat, Int.reduceEq, Nat.reduceMul, ↓reduceIte, Nat.reduceLT, Nat.reduceLeDiff, Nat.reduceEqDiff, Nat.reduceAdd, Nat.reduceSub, Nat.reduceBEq, reduceCtorEq])
def prS (x : List Int) : Nat → Int × Int × Int
  | 0 => (0, 0, 0)
  | i + 1 => (IntKind.i64.wrap ((prS x i).1 + IntKind.i64.wrap (x.getD i 0 * x.getD i 0)), IntKind.i64.wrap ((prS x i).2.1 + x.getD i 0), IntKind.i64.wrap ((prS x i).2.2 + x.getD i 0))
def prV (x : List Int) : Int := IntKind.i64.wrap (IntKind.i64.wrap ((x.length : Int) * (prS x x.length).1) - IntKind.i64.wrap ((prS x x.length).2.1 * (prS x x.length).2.2))
set_option maxHeartbeats 2000000 in
set_option maxRecDepth 20000 in
theorem cproduct (x : List Int) (hx : smp x) : FC Tryz.prog 140 [V x, V x] [] (.int .i64 (prV x)) [] := by
  refine FC.of_run mix Tryz.func140 rfl rfl (by simp [Tryz.ntmps140]) ?_
  have h32 := hx.2.1
  clear hx
  repeat' first
    | simp (maxSteps := 1000000) only [go_sem, Int.reduceLT, Int.reduceLE, Int.reduceToNat, Int.reduceEq, Nat.reduceMul, ↓reduceIte, Nat.reduceLT, Nat.reduceLeDiff, Nat.reduceEqDiff, Nat.reduceAdd, Nat.reduceSub, Nat.reduceBEq, reduceCtorEq, *]
    | contradiction
    | refine wntB_decT (fun _ => ?_) (fun _ => ?_)
    | refine wntB_decF (fun _ => ?_) (fun _ => ?_)
    | refine cndB_dec (fun _ => ?_) (fun _ => ?_)
    | refine drawnB_ok (by kernel_rfl) ?_
    | ((first | refine Fin.q ?_ ?_ | refine Fin.qn ?_ ?_) <;> ((try simp (maxSteps := 1000000) only [go_sem, Int.reduceLT, Int.reduceLE, Int.reduceToNat, Int.reduceEq, Nat.reduceMul, ↓reduceIte, Nat.reduceLT, Nat.reduceLeDiff, Nat.reduceEqDiff, Nat.reduceAdd, Nat.reduceSub, Nat.reduceBEq, reduceCtorEq, *]) <;> (skip)))
  refine AW.loopx (σ := Nat) mix (fun i => ⟨46, [(11, .int .i64 i), (10, .int .i64 x.length), (7, .int .i64 (prS x i).2.2), (6, .int .i64 (prS x i).2.1), (5, .int .i64 (prS x i).1), (1, V x), (0, V x)], []⟩) (fun i => i ≤ x.length) (fun i => x.length - i) 0 (by omega) (Conv.mk ?_ ?_ ?_ ?_ ?_) ?_
  iterate 5 (· (simp (maxSteps := 1000000) only [go_sem, Int.reduceLT, Int.reduceLE, Int.reduceToNat, Int.reduceEq, Nat.reduceMul, ↓reduceIte, Nat.reduceLT, Nat.reduceLeDiff, Nat.reduceEqDiff, Nat.reduceAdd, Nat.reduceSub, Nat.reduceBEq, reduceCtorEq, prS]) <;> (first | rfl | (simp [ints]; done) | (simp [*]; done) | ((repeat' (first | rfl | apply And.intro)); done)))
  intro i hi
  have hw := wrap1 (i := i) (by omega)
  by_cases h : i < x.length
  · have hx := ints_get h
    repeat' first
      | (refine ⟨i + 1, ?_, ?_, Conv.mk ?_ ?_ ?_ ?_ ?_⟩; (· (first | omega | (simp only; omega) | (simp only [List.length_nil, List.length_cons]; omega))); (· (omega)); (all_goals simp (maxSteps := 1000000) only [go_sem, Int.reduceLT, Int.reduceLE, Int.reduceToNat, Int.reduceEq, Nat.reduceMul, ↓reduceIte, Nat.reduceLT, Nat.reduceLeDiff, Nat.reduceEqDiff, Nat.reduceAdd, Nat.reduceSub, Nat.reduceBEq, reduceCtorEq, *, prS]); done)
      | simp (maxSteps := 1000000) only [go_sem, Int.reduceLT, Int.reduceLE, Int.reduceToNat, Int.reduceEq, Nat.reduceMul, ↓reduceIte, Nat.reduceLT, Nat.reduceLeDiff, Nat.reduceEqDiff, Nat.reduceAdd, Nat.reduceSub, Nat.reduceBEq, reduceCtorEq, *, prS]
      | contradiction
      | refine wntB_decT (fun _ => ?_) (fun _ => ?_)
      | refine wntB_decF (fun _ => ?_) (fun _ => ?_)
      | refine cndB_dec (fun _ => ?_) (fun _ => ?_)
      | refine drawnB_ok (by kernel_rfl) ?_
      | ((first | refine Fin.q ?_ ?_ | refine Fin.qn ?_ ?_) <;> ((try simp (maxSteps := 1000000) only [go_sem, Int.reduceLT, Int.reduceLE, Int.reduceToNat, Int.reduceEq, Nat.reduceMul, ↓reduceIte, Nat.reduceLT, Nat.reduceLeDiff, Nat.reduceEqDiff, Nat.reduceAdd, Nat.reduceSub, Nat.reduceBEq, reduceCtorEq, *, prS]) <;> (skip)))
  · obtain rfl : i = x.length := by omega
    repeat' first
      | simp (maxSteps := 1000000) only [go_sem, Int.reduceLT, Int.reduceLE, Int.reduceToNat, Int.reduceEq, Nat.reduceMul, ↓reduceIte, Nat.reduceLT, Nat.reduceLeDiff, Nat.reduceEqDiff, Nat.reduceAdd, Nat.reduceSub, Nat.reduceBEq, reduceCtorEq, *]
      | contradiction
      | refine wntB_decT (fun _ => ?_) (fun _ => ?_)
      | refine wntB_decF (fun _ => ?_) (fun _ => ?_)
      | refine cndB_dec (fun _ => ?_) (fun _ => ?_)
      | refine drawnB_ok (by kernel_rfl) ?_
      | ((first | refine Fin.q ?_ ?_ | refine Fin.qn ?_ ?_) <;> ((try simp (maxSteps := 1000000) only [go_sem, Int.reduceLT, Int.reduceLE, Int.reduceToNat, Int.reduceEq, Nat.reduceMul, ↓reduceIte, Nat.reduceLT, Nat.reduceLeDiff, Nat.reduceEqDiff, Nat.reduceAdd, Nat.reduceSub, Nat.reduceBEq, reduceCtorEq, *]) <;> (first | done | rfl)))
set_option maxRecDepth 20000 in
theorem kcproduct {x : List Int} {H : Heap} {slot : Nat} {K : D → List (Nat × Blk) → List (Nat × Blk) → Prop} (hK : K (.int .i64 (prV x)) [] []) (hx : smp x := by first | assumption | omega) : @callB ⟨callX Tryz.prog⟩ 140 [V x, V x] H slot ⟨K⟩ := by
  have he0 : rdOf H (D.idsL [V x, V x]) = [] := by simp (maxSteps := 1000000) only [go_sem, Int.reduceLT, Int.reduceLE, Int.reduceToNat, Int.reduceEq, Nat.reduceMul, ↓reduceIte, Nat.reduceLT, Nat.reduceLeDiff, Nat.reduceEqDiff, Nat.reduceAdd, Nat.reduceSub, Nat.reduceBEq, reduceCtorEq]
  refine call0 false (cproduct x hx) ?_ ?_ (fun h => nomatch h) (by rw [he0]; exact hK)
  iterate 2 (· simp (maxSteps := 1000000) only [go_sem, Int.reduceLT, Int.reduceLE, Int.reduceToNat, Int.reduceEq, Nat.reduceMul, ↓reduceIte, Nat.reduceLT, Nat.reduceLeDiff, Nat.reduceEqDiff, Nat.reduceAdd, Nat.reduceSub, Nat.reduceBEq, reduceCtorEq])
set_option maxHeartbeats 2000000 in
set_option maxRecDepth 20000 in
theorem cTwo (x : List Int) (hx : smp x) : FC Tryz.prog 139 [V x, V x, .int .i64 0] [] (.int .i64 0) [] := by
  refine FC.of_run mix Tryz.func139 rfl rfl (by simp [Tryz.ntmps139]) ?_
  have h1 := hx.1
  have h2 := hx.2.1
  have h3 : ¬ ((x.length : Int) < 2) := by omega
  have h4 : ¬ ((32 : Int) < x.length) := by omega
  have h5 : IntKind.i64.wrap ((x.length : Int) - (x.length : Int)) = 0 := by rw [Int.sub_self]; rfl
  repeat' first
    | simp (maxSteps := 1000000) only [go_sem, Int.reduceLT, Int.reduceLE, Int.reduceToNat, Int.reduceEq, Nat.reduceMul, ↓reduceIte, Nat.reduceLT, Nat.reduceLeDiff, Nat.reduceEqDiff, Nat.reduceAdd, Nat.reduceSub, Nat.reduceBEq, reduceCtorEq, *]
    | contradiction
    | refine wntB_decT (fun _ => ?_) (fun _ => ?_)
    | refine wntB_decF (fun _ => ?_) (fun _ => ?_)
    | refine cndB_dec (fun _ => ?_) (fun _ => ?_)
    | refine drawnB_ok (by kernel_rfl) ?_
    | refine kcSamples ?_
    | ((first | refine Fin.q ?_ ?_ | refine Fin.qn ?_ ?_) <;> ((try simp (maxSteps := 1000000) only [go_sem, Int.reduceLT, Int.reduceLE, Int.reduceToNat, Int.reduceEq, Nat.reduceMul, ↓reduceIte, Nat.reduceLT, Nat.reduceLeDiff, Nat.reduceEqDiff, Nat.reduceAdd, Nat.reduceSub, Nat.reduceBEq, reduceCtorEq, *]) <;> (skip)))
set_option maxRecDepth 20000 in
theorem kcTwo {x : List Int} {H : Heap} {slot : Nat} {K : D → List (Nat × Blk) → List (Nat × Blk) → Prop} (hK : K (.int .i64 0) [] []) (hx : smp x := by first | assumption | omega) : @callB ⟨callX Tryz.prog⟩ 139 [V x, V x, .int .i64 0] H slot ⟨K⟩ := by
  have he0 : rdOf H (D.idsL [V x, V x, .int .i64 0]) = [] := by simp (maxSteps := 1000000) only [go_sem, Int.reduceLT, Int.reduceLE, Int.reduceToNat, Int.reduceEq, Nat.reduceMul, ↓reduceIte, Nat.reduceLT, Nat.reduceLeDiff, Nat.reduceEqDiff, Nat.reduceAdd, Nat.reduceSub, Nat.reduceBEq, reduceCtorEq]
  refine call0 false (cTwo x hx) ?_ ?_ (fun h => nomatch h) (by rw [he0]; exact hK)
  iterate 2 (· simp (maxSteps := 1000000) only [go_sem, Int.reduceLT, Int.reduceLE, Int.reduceToNat, Int.reduceEq, Nat.reduceMul, ↓reduceIte, Nat.reduceLT, Nat.reduceLeDiff, Nat.reduceEqDiff, Nat.reduceAdd, Nat.reduceSub, Nat.reduceBEq, reduceCtorEq])
set_option maxHeartbeats 2000000 in
set_option maxRecDepth 20000 in
theorem cProduct (x : List Int) (hx : smp x) : FC Tryz.prog 112 [V x, V x] [] (.tup [.int .i64 (prV x), .int .i64 0]) [] := by
  refine FC.of_run mix Tryz.func112 rfl rfl (by simp [Tryz.ntmps112]) ?_
  repeat' first
    | simp (maxSteps := 1000000) only [go_sem, Int.reduceLT, Int.reduceLE, Int.reduceToNat, Int.reduceEq, Nat.reduceMul, ↓reduceIte, Nat.reduceLT, Nat.reduceLeDiff, Nat.reduceEqDiff, Nat.reduceAdd, Nat.reduceSub, Nat.reduceBEq, reduceCtorEq, *]
    | contradiction
    | refine wntB_decT (fun _ => ?_) (fun _ => ?_)
    | refine wntB_decF (fun _ => ?_) (fun _ => ?_)
    | refine cndB_dec (fun _ => ?_) (fun _ => ?_)
    | refine drawnB_ok (by kernel_rfl) ?_
    | refine kcTwo ?_
    | refine kcproduct ?_
    | ((first | refine Fin.q ?_ ?_ | refine Fin.qn ?_ ?_) <;> ((try simp (maxSteps := 1000000) only [go_sem, Int.reduceLT, Int.reduceLE, Int.reduceToNat, Int.reduceEq, Nat.reduceMul, ↓reduceIte, Nat.reduceLT, Nat.reduceLeDiff, Nat.reduceEqDiff, Nat.reduceAdd, Nat.reduceSub, Nat.reduceBEq, reduceCtorEq, *]) <;> (skip)))
set_option maxRecDepth 20000 in
theorem kcProduct {x : List Int} {H : Heap} {slot : Nat} {K : D → List (Nat × Blk) → List (Nat × Blk) → Prop} (hK : K (.tup [.int .i64 (prV x), .int .i64 0]) [] []) (hx : smp x := by first | assumption | omega) : @callB ⟨callX Tryz.prog⟩ 112 [V x, V x] H slot ⟨K⟩ := by
  have he0 : rdOf H (D.idsL [V x, V x]) = [] := by simp (maxSteps := 1000000) only [go_sem, Int.reduceLT, Int.reduceLE, Int.reduceToNat, Int.reduceEq, Nat.reduceMul, ↓reduceIte, Nat.reduceLT, Nat.reduceLeDiff, Nat.reduceEqDiff, Nat.reduceAdd, Nat.reduceSub, Nat.reduceBEq, reduceCtorEq]
  refine call0 false (cProduct x hx) ?_ ?_ (fun h => nomatch h) (by rw [he0]; exact hK)
  iterate 2 (· simp (maxSteps := 1000000) only [go_sem, Int.reduceLT, Int.reduceLE, Int.reduceToNat, Int.reduceEq, Nat.reduceMul, ↓reduceIte, Nat.reduceLT, Nat.reduceLeDiff, Nat.reduceEqDiff, Nat.reduceAdd, Nat.reduceSub, Nat.reduceBEq, reduceCtorEq])
def downV (a b : Int) : Int := if a.tmod b < 0 then IntKind.i64.wrap (IntKind.i64.wrap (a.tdiv b) - 1) else IntKind.i64.wrap (a.tdiv b)
set_option maxHeartbeats 2000000 in
set_option maxRecDepth 20000 in
theorem cDown (a b : Int) (hb : ¬ b = 0) : FC Tryz.prog 113 [.int .i64 a, .int .i64 b] [] (.int .i64 (downV a b)) [] := by
  refine FC.of_run mix Tryz.func113 rfl rfl (by simp [Tryz.ntmps113]) ?_
  repeat' first
    | simp (maxSteps := 1000000) only [go_sem, Int.reduceLT, Int.reduceLE, Int.reduceToNat, Int.reduceEq, Nat.reduceMul, ↓reduceIte, Nat.reduceLT, Nat.reduceLeDiff, Nat.reduceEqDiff, Nat.reduceAdd, Nat.reduceSub, Nat.reduceBEq, reduceCtorEq, *, downV, if_true, if_false]
    | contradiction
    | refine wntB_decT (fun _ => ?_) (fun _ => ?_)
    | refine wntB_decF (fun _ => ?_) (fun _ => ?_)
    | refine cndB_dec (fun _ => ?_) (fun _ => ?_)
    | refine drawnB_ok (by kernel_rfl) ?_
    | ((first | refine Fin.q ?_ ?_ | refine Fin.qn ?_ ?_) <;> ((try simp (maxSteps := 1000000) only [go_sem, Int.reduceLT, Int.reduceLE, Int.reduceToNat, Int.reduceEq, Nat.reduceMul, ↓reduceIte, Nat.reduceLT, Nat.reduceLeDiff, Nat.reduceEqDiff, Nat.reduceAdd, Nat.reduceSub, Nat.reduceBEq, reduceCtorEq, *, downV, if_true, if_false]) <;> (skip)))
set_option maxRecDepth 20000 in
theorem kcDown {a b : Int} {H : Heap} {slot : Nat} {K : D → List (Nat × Blk) → List (Nat × Blk) → Prop} (hK : K (.int .i64 (downV a b)) [] []) (hb : ¬ b = 0 := by first | assumption | omega) : @callB ⟨callX Tryz.prog⟩ 113 [.int .i64 a, .int .i64 b] H slot ⟨K⟩ := by
  have he0 : rdOf H (D.idsL [.int .i64 a, .int .i64 b]) = [] := by simp (maxSteps := 1000000) only [go_sem, Int.reduceLT, Int.reduceLE, Int.reduceToNat, Int.reduceEq, Nat.reduceMul, ↓reduceIte, Nat.reduceLT, Nat.reduceLeDiff, Nat.reduceEqDiff, Nat.reduceAdd, Nat.reduceSub, Nat.reduceBEq, reduceCtorEq]
  refine call0 false (cDown a b hb) ?_ ?_ (fun h => nomatch h) (by rw [he0]; exact hK)
  iterate 2 (· simp (maxSteps := 1000000) only [go_sem, Int.reduceLT, Int.reduceLE, Int.reduceToNat, Int.reduceEq, Nat.reduceMul, ↓reduceIte, Nat.reduceLT, Nat.reduceLeDiff, Nat.reduceEqDiff, Nat.reduceAdd, Nat.reduceSub, Nat.reduceBEq, reduceCtorEq])
def bitF (k : Nat) : Int := if k < 32 then 2 ^ (31 - k) else 0
def floorR (n : Int) : Nat → Int
  | 0 => 0
  | k + 1 => if IntKind.i64.wrap (floorR n k + bitF k) ≤ 2147483648 ∧ IntKind.i64.wrap (IntKind.i64.wrap (floorR n k + bitF k) * IntKind.i64.wrap (floorR n k + bitF k)) ≤ n then IntKind.i64.wrap (floorR n k + bitF k) else floorR n k
def floorV (n : Int) : Int := if n < 0 ∨ 4611686018427387904 < n then 0 else floorR n 32
theorem bitF_pos : ∀ k, k < 32 → 0 < bitF k := fun k h => by
  unfold bitF; rw [if_pos h]; exact Int.pow_pos (by decide)
theorem bitF_half : ∀ k, k < 32 → Int.fdiv (bitF k) (2 ^ (min 1 64)) = bitF (k + 1) := by decide
set_option maxHeartbeats 2000000 in
set_option maxRecDepth 20000 in
theorem cFloor (n : Int)  : FC Tryz.prog 141 [.int .i64 n] [] (.int .i64 (floorV n)) [] := by
  refine FC.of_run mix Tryz.func141 rfl rfl (by simp [Tryz.ntmps141]) ?_
  by_cases h1 : n < 0
  · rw [show floorV n = 0 from if_pos (.inl h1)]
    repeat' first
      | simp (maxSteps := 1000000) only [go_sem, Int.reduceLT, Int.reduceLE, Int.reduceToNat, Int.reduceEq, Nat.reduceMul, ↓reduceIte, Nat.reduceLT, Nat.reduceLeDiff, Nat.reduceEqDiff, Nat.reduceAdd, Nat.reduceSub, Nat.reduceBEq, reduceCtorEq, *]
      | contradiction
      | refine wntB_decT (fun _ => ?_) (fun _ => ?_)
      | refine wntB_decF (fun _ => ?_) (fun _ => ?_)
      | refine cndB_dec (fun _ => ?_) (fun _ => ?_)
      | refine drawnB_ok (by kernel_rfl) ?_
      | ((first | refine Fin.q ?_ ?_ | refine Fin.qn ?_ ?_) <;> ((try simp (maxSteps := 1000000) only [go_sem, Int.reduceLT, Int.reduceLE, Int.reduceToNat, Int.reduceEq, Nat.reduceMul, ↓reduceIte, Nat.reduceLT, Nat.reduceLeDiff, Nat.reduceEqDiff, Nat.reduceAdd, Nat.reduceSub, Nat.reduceBEq, reduceCtorEq, *]) <;> (skip)))
  · by_cases h2 : 4611686018427387904 < n
    · rw [show floorV n = 0 from if_pos (.inr h2)]
      repeat' first
        | simp (maxSteps := 1000000) only [go_sem, Int.reduceLT, Int.reduceLE, Int.reduceToNat, Int.reduceEq, Nat.reduceMul, ↓reduceIte, Nat.reduceLT, Nat.reduceLeDiff, Nat.reduceEqDiff, Nat.reduceAdd, Nat.reduceSub, Nat.reduceBEq, reduceCtorEq, *]
        | contradiction
        | refine wntB_decT (fun _ => ?_) (fun _ => ?_)
        | refine wntB_decF (fun _ => ?_) (fun _ => ?_)
        | refine cndB_dec (fun _ => ?_) (fun _ => ?_)
        | refine drawnB_ok (by kernel_rfl) ?_
        | ((first | refine Fin.q ?_ ?_ | refine Fin.qn ?_ ?_) <;> ((try simp (maxSteps := 1000000) only [go_sem, Int.reduceLT, Int.reduceLE, Int.reduceToNat, Int.reduceEq, Nat.reduceMul, ↓reduceIte, Nat.reduceLT, Nat.reduceLeDiff, Nat.reduceEqDiff, Nat.reduceAdd, Nat.reduceSub, Nat.reduceBEq, reduceCtorEq, *]) <;> (skip)))
    · rw [show floorV n = floorR n 32 from if_neg (by omega)]
      repeat' first
        | simp (maxSteps := 1000000) only [go_sem, Int.reduceLT, Int.reduceLE, Int.reduceToNat, Int.reduceEq, Nat.reduceMul, ↓reduceIte, Nat.reduceLT, Nat.reduceLeDiff, Nat.reduceEqDiff, Nat.reduceAdd, Nat.reduceSub, Nat.reduceBEq, reduceCtorEq, *]
        | contradiction
        | refine wntB_decT (fun _ => ?_) (fun _ => ?_)
        | refine wntB_decF (fun _ => ?_) (fun _ => ?_)
        | refine cndB_dec (fun _ => ?_) (fun _ => ?_)
        | refine drawnB_ok (by kernel_rfl) ?_
        | ((first | refine Fin.q ?_ ?_ | refine Fin.qn ?_ ?_) <;> ((try simp (maxSteps := 1000000) only [go_sem, Int.reduceLT, Int.reduceLE, Int.reduceToNat, Int.reduceEq, Nat.reduceMul, ↓reduceIte, Nat.reduceLT, Nat.reduceLeDiff, Nat.reduceEqDiff, Nat.reduceAdd, Nat.reduceSub, Nat.reduceBEq, reduceCtorEq, *]) <;> (skip)))
      refine AW.loopx (σ := Nat) mix (fun k => ⟨34, [(4, .int .i64 (bitF k)), (3, .int .i64 (floorR n k)), (0, .int .i64 n)], []⟩) (fun k => k ≤ 32) (fun k => 32 - k) 0 (by omega) (Conv.mk ?_ ?_ ?_ ?_ ?_) ?_
      iterate 5 (· (simp (maxSteps := 1000000) only [go_sem, Int.reduceLT, Int.reduceLE, Int.reduceToNat, Int.reduceEq, Nat.reduceMul, ↓reduceIte, Nat.reduceLT, Nat.reduceLeDiff, Nat.reduceEqDiff, Nat.reduceAdd, Nat.reduceSub, Nat.reduceBEq, reduceCtorEq, floorR]) <;> (first | rfl | (simp [ints]; done) | (simp [*]; done) | ((repeat' (first | rfl | apply And.intro)); done)))
      clear h1 h2
      intro k hk
      by_cases h : k < 32
      · have hp : (0 < bitF k) = True := by simp only [eq_iff_iff, iff_true]; exact bitF_pos k h
        have hh := bitF_half k h
        repeat' first
          | (refine ⟨k + 1, ?_, ?_, Conv.mk ?_ ?_ ?_ ?_ ?_⟩; (· (first | omega | (simp only; omega) | (simp only [List.length_nil, List.length_cons]; omega))); (· (omega)); (all_goals simp (maxSteps := 1000000) only [go_sem, Int.reduceLT, Int.reduceLE, Int.reduceToNat, Int.reduceEq, Nat.reduceMul, ↓reduceIte, Nat.reduceLT, Nat.reduceLeDiff, Nat.reduceEqDiff, Nat.reduceAdd, Nat.reduceSub, Nat.reduceBEq, reduceCtorEq, *, floorR, true_and, if_true, if_false]); done)
          | simp (maxSteps := 1000000) only [go_sem, Int.reduceLT, Int.reduceLE, Int.reduceToNat, Int.reduceEq, Nat.reduceMul, ↓reduceIte, Nat.reduceLT, Nat.reduceLeDiff, Nat.reduceEqDiff, Nat.reduceAdd, Nat.reduceSub, Nat.reduceBEq, reduceCtorEq, *, floorR, true_and, if_true, if_false]
          | contradiction
          | refine wntB_decT (fun _ => ?_) (fun _ => ?_)
          | refine wntB_decF (fun _ => ?_) (fun _ => ?_)
          | refine cndB_dec (fun _ => ?_) (fun _ => ?_)
          | refine drawnB_ok (by kernel_rfl) ?_
          | ((first | refine Fin.q ?_ ?_ | refine Fin.qn ?_ ?_) <;> ((try simp (maxSteps := 1000000) only [go_sem, Int.reduceLT, Int.reduceLE, Int.reduceToNat, Int.reduceEq, Nat.reduceMul, ↓reduceIte, Nat.reduceLT, Nat.reduceLeDiff, Nat.reduceEqDiff, Nat.reduceAdd, Nat.reduceSub, Nat.reduceBEq, reduceCtorEq, *, floorR, true_and, if_true, if_false]) <;> (skip)))
      · obtain rfl : k = 32 := by omega
        have hp : (0 < bitF 32) = False := by decide
        repeat' first
          | simp (maxSteps := 1000000) only [go_sem, Int.reduceLT, Int.reduceLE, Int.reduceToNat, Int.reduceEq, Nat.reduceMul, ↓reduceIte, Nat.reduceLT, Nat.reduceLeDiff, Nat.reduceEqDiff, Nat.reduceAdd, Nat.reduceSub, Nat.reduceBEq, reduceCtorEq, *]
          | contradiction
          | refine wntB_decT (fun _ => ?_) (fun _ => ?_)
          | refine wntB_decF (fun _ => ?_) (fun _ => ?_)
          | refine cndB_dec (fun _ => ?_) (fun _ => ?_)
          | refine drawnB_ok (by kernel_rfl) ?_
          | ((first | refine Fin.q ?_ ?_ | refine Fin.qn ?_ ?_) <;> ((try simp (maxSteps := 1000000) only [go_sem, Int.reduceLT, Int.reduceLE, Int.reduceToNat, Int.reduceEq, Nat.reduceMul, ↓reduceIte, Nat.reduceLT, Nat.reduceLeDiff, Nat.reduceEqDiff, Nat.reduceAdd, Nat.reduceSub, Nat.reduceBEq, reduceCtorEq, *]) <;> (skip)))
set_option maxRecDepth 20000 in
theorem kcFloor {n : Int} {H : Heap} {slot : Nat} {K : D → List (Nat × Blk) → List (Nat × Blk) → Prop} (hK : K (.int .i64 (floorV n)) [] []) : @callB ⟨callX Tryz.prog⟩ 141 [.int .i64 n] H slot ⟨K⟩ := by
  have he0 : rdOf H (D.idsL [.int .i64 n]) = [] := by simp (maxSteps := 1000000) only [go_sem, Int.reduceLT, Int.reduceLE, Int.reduceToNat, Int.reduceEq, Nat.reduceMul, ↓reduceIte, Nat.reduceLT, Nat.reduceLeDiff, Nat.reduceEqDiff, Nat.reduceAdd, Nat.reduceSub, Nat.reduceBEq, reduceCtorEq]
  refine call0 false (cFloor n ) ?_ ?_ (fun h => nomatch h) (by rw [he0]; exact hK)
  iterate 2 (· simp (maxSteps := 1000000) only [go_sem, Int.reduceLT, Int.reduceLE, Int.reduceToNat, Int.reduceEq, Nat.reduceMul, ↓reduceIte, Nat.reduceLT, Nat.reduceLeDiff, Nat.reduceEqDiff, Nat.reduceAdd, Nat.reduceSub, Nat.reduceBEq, reduceCtorEq])
def ceilV (n : Int) : Int := if (0 ≤ n ∧ n ≤ 4611686018427387904) ∧ IntKind.i64.wrap (floorV n * floorV n) < n then IntKind.i64.wrap (floorV n + 1) else floorV n
set_option maxHeartbeats 2000000 in
set_option maxRecDepth 20000 in
theorem cCeil (n : Int)  : FC Tryz.prog 142 [.int .i64 n] [] (.int .i64 (ceilV n)) [] := by
  refine FC.of_run mix Tryz.func142 rfl rfl (by simp [Tryz.ntmps142]) ?_
  repeat' first
    | simp (maxSteps := 1000000) only [go_sem, Int.reduceLT, Int.reduceLE, Int.reduceToNat, Int.reduceEq, Nat.reduceMul, ↓reduceIte, Nat.reduceLT, Nat.reduceLeDiff, Nat.reduceEqDiff, Nat.reduceAdd, Nat.reduceSub, Nat.reduceBEq, reduceCtorEq, *, ceilV, true_and, and_true, if_true, if_false]
    | contradiction
    | refine wntB_decT (fun _ => ?_) (fun _ => ?_)
    | refine wntB_decF (fun _ => ?_) (fun _ => ?_)
    | refine cndB_dec (fun _ => ?_) (fun _ => ?_)
    | refine drawnB_ok (by kernel_rfl) ?_
    | refine kcFloor ?_
    | ((first | refine Fin.q ?_ ?_ | refine Fin.qn ?_ ?_) <;> ((try simp (maxSteps := 1000000) only [go_sem, Int.reduceLT, Int.reduceLE, Int.reduceToNat, Int.reduceEq, Nat.reduceMul, ↓reduceIte, Nat.reduceLT, Nat.reduceLeDiff, Nat.reduceEqDiff, Nat.reduceAdd, Nat.reduceSub, Nat.reduceBEq, reduceCtorEq, *, ceilV, true_and, and_true, if_true, if_false]) <;> (skip)))
set_option maxRecDepth 20000 in
theorem kcCeil {n : Int} {H : Heap} {slot : Nat} {K : D → List (Nat × Blk) → List (Nat × Blk) → Prop} (hK : K (.int .i64 (ceilV n)) [] []) : @callB ⟨callX Tryz.prog⟩ 142 [.int .i64 n] H slot ⟨K⟩ := by
  have he0 : rdOf H (D.idsL [.int .i64 n]) = [] := by simp (maxSteps := 1000000) only [go_sem, Int.reduceLT, Int.reduceLE, Int.reduceToNat, Int.reduceEq, Nat.reduceMul, ↓reduceIte, Nat.reduceLT, Nat.reduceLeDiff, Nat.reduceEqDiff, Nat.reduceAdd, Nat.reduceSub, Nat.reduceBEq, reduceCtorEq]
  refine call0 false (cCeil n ) ?_ ?_ (fun h => nomatch h) (by rw [he0]; exact hK)
  iterate 2 (· simp (maxSteps := 1000000) only [go_sem, Int.reduceLT, Int.reduceLE, Int.reduceToNat, Int.reduceEq, Nat.reduceMul, ↓reduceIte, Nat.reduceLT, Nat.reduceLeDiff, Nat.reduceEqDiff, Nat.reduceAdd, Nat.reduceSub, Nat.reduceBEq, reduceCtorEq])
def quotQ (t e : Int) : Int := IntKind.i64.wrap ((IntKind.i64.wrap (t * t)).tdiv e)
def quotBad (t e : Int) : Prop := t < -2147483648 ∨ 2147483648 < t ∨ e < 1 ∨ 4611686018427387904 < e
instance (t e : Int) : Decidable (quotBad t e) := by unfold quotBad; infer_instance
def quotV (t e : Int) : Int := if quotBad t e then 0 else if 0 ≤ t then floorV (quotQ t e) else if (IntKind.i64.wrap (t * t)).tmod e = 0 then IntKind.i64.wrap (0 - ceilV (quotQ t e)) else IntKind.i64.wrap (0 - ceilV (IntKind.i64.wrap (quotQ t e + 1)))
set_option maxHeartbeats 2000000 in
set_option maxRecDepth 20000 in
theorem cQuot (t e : Int)  : FC Tryz.prog 114 [.int .i64 t, .int .i64 e] [] (.tup [.int .i64 (quotV t e), .int .i64 (if quotBad t e then 1 else 0)]) [] := by
  refine FC.of_run mix Tryz.func114 rfl rfl (by simp [Tryz.ntmps114]) ?_
  by_cases hb : quotBad t e
  · rw [if_pos hb, show quotV t e = 0 from if_pos hb]
    unfold quotBad at hb
    repeat' first
      | simp (maxSteps := 1000000) only [go_sem, Int.reduceLT, Int.reduceLE, Int.reduceToNat, Int.reduceEq, Nat.reduceMul, ↓reduceIte, Nat.reduceLT, Nat.reduceLeDiff, Nat.reduceEqDiff, Nat.reduceAdd, Nat.reduceSub, Nat.reduceBEq, reduceCtorEq, *]
      | contradiction
      | refine wntB_decT (fun _ => ?_) (fun _ => ?_)
      | refine wntB_decF (fun _ => ?_) (fun _ => ?_)
      | refine cndB_dec (fun _ => ?_) (fun _ => ?_)
      | refine drawnB_ok (by kernel_rfl) ?_
      | ((first | refine Fin.q ?_ ?_ | refine Fin.qn ?_ ?_) <;> ((try simp (maxSteps := 1000000) only [go_sem, Int.reduceLT, Int.reduceLE, Int.reduceToNat, Int.reduceEq, Nat.reduceMul, ↓reduceIte, Nat.reduceLT, Nat.reduceLeDiff, Nat.reduceEqDiff, Nat.reduceAdd, Nat.reduceSub, Nat.reduceBEq, reduceCtorEq, *]) <;> (first | done | (exfalso; omega))))
    all_goals (exfalso; omega)
  · rw [if_neg hb]
    have he : ¬ e = 0 := by intro h; apply hb; unfold quotBad; omega
    by_cases ht : 0 ≤ t
    · rw [show quotV t e = floorV (quotQ t e) by unfold quotV; rw [if_neg hb, if_pos ht]]
      have h1 : ¬ t < -2147483648 := fun h => hb (.inl h)
      have h2 : ¬ 2147483648 < t := fun h => hb (.inr (.inl h))
      have h3 : ¬ e < 1 := fun h => hb (.inr (.inr (.inl h)))
      have h4 : ¬ 4611686018427387904 < e := fun h => hb (.inr (.inr (.inr h)))
      repeat' first
        | simp (maxSteps := 1000000) only [go_sem, Int.reduceLT, Int.reduceLE, Int.reduceToNat, Int.reduceEq, Nat.reduceMul, ↓reduceIte, Nat.reduceLT, Nat.reduceLeDiff, Nat.reduceEqDiff, Nat.reduceAdd, Nat.reduceSub, Nat.reduceBEq, reduceCtorEq, *]
        | contradiction
        | refine wntB_decT (fun _ => ?_) (fun _ => ?_)
        | refine wntB_decF (fun _ => ?_) (fun _ => ?_)
        | refine cndB_dec (fun _ => ?_) (fun _ => ?_)
        | refine drawnB_ok (by kernel_rfl) ?_
        | refine kcFloor ?_
        | ((first | refine Fin.q ?_ ?_ | refine Fin.qn ?_ ?_) <;> ((try simp (maxSteps := 1000000) only [go_sem, Int.reduceLT, Int.reduceLE, Int.reduceToNat, Int.reduceEq, Nat.reduceMul, ↓reduceIte, Nat.reduceLT, Nat.reduceLeDiff, Nat.reduceEqDiff, Nat.reduceAdd, Nat.reduceSub, Nat.reduceBEq, reduceCtorEq, *]) <;> (first | done | rfl)))
    · have h1 : ¬ t < -2147483648 := fun h => hb (.inl h)
      have h2 : ¬ 2147483648 < t := fun h => hb (.inr (.inl h))
      have h3 : ¬ e < 1 := fun h => hb (.inr (.inr (.inl h)))
      have h4 : ¬ 4611686018427387904 < e := fun h => hb (.inr (.inr (.inr h)))
      by_cases hm : (IntKind.i64.wrap (t * t)).tmod e = 0
      · rw [show quotV t e = IntKind.i64.wrap (0 - ceilV (quotQ t e)) by unfold quotV; rw [if_neg hb, if_neg ht, if_pos hm]]
        repeat' first
          | simp (maxSteps := 1000000) only [go_sem, Int.reduceLT, Int.reduceLE, Int.reduceToNat, Int.reduceEq, Nat.reduceMul, ↓reduceIte, Nat.reduceLT, Nat.reduceLeDiff, Nat.reduceEqDiff, Nat.reduceAdd, Nat.reduceSub, Nat.reduceBEq, reduceCtorEq, *]
          | contradiction
          | refine wntB_decT (fun _ => ?_) (fun _ => ?_)
          | refine wntB_decF (fun _ => ?_) (fun _ => ?_)
          | refine cndB_dec (fun _ => ?_) (fun _ => ?_)
          | refine drawnB_ok (by kernel_rfl) ?_
          | refine kcCeil ?_
          | ((first | refine Fin.q ?_ ?_ | refine Fin.qn ?_ ?_) <;> ((try simp (maxSteps := 1000000) only [go_sem, Int.reduceLT, Int.reduceLE, Int.reduceToNat, Int.reduceEq, Nat.reduceMul, ↓reduceIte, Nat.reduceLT, Nat.reduceLeDiff, Nat.reduceEqDiff, Nat.reduceAdd, Nat.reduceSub, Nat.reduceBEq, reduceCtorEq, *]) <;> (first | done | rfl)))
      · rw [show quotV t e = IntKind.i64.wrap (0 - ceilV (IntKind.i64.wrap (quotQ t e + 1))) by unfold quotV; rw [if_neg hb, if_neg ht, if_neg hm]]
        repeat' first
          | simp (maxSteps := 1000000) only [go_sem, Int.reduceLT, Int.reduceLE, Int.reduceToNat, Int.reduceEq, Nat.reduceMul, ↓reduceIte, Nat.reduceLT, Nat.reduceLeDiff, Nat.reduceEqDiff, Nat.reduceAdd, Nat.reduceSub, Nat.reduceBEq, reduceCtorEq, *]
          | contradiction
          | refine wntB_decT (fun _ => ?_) (fun _ => ?_)
          | refine wntB_decF (fun _ => ?_) (fun _ => ?_)
          | refine cndB_dec (fun _ => ?_) (fun _ => ?_)
          | refine drawnB_ok (by kernel_rfl) ?_
          | refine kcCeil ?_
          | ((first | refine Fin.q ?_ ?_ | refine Fin.qn ?_ ?_) <;> ((try simp (maxSteps := 1000000) only [go_sem, Int.reduceLT, Int.reduceLE, Int.reduceToNat, Int.reduceEq, Nat.reduceMul, ↓reduceIte, Nat.reduceLT, Nat.reduceLeDiff, Nat.reduceEqDiff, Nat.reduceAdd, Nat.reduceSub, Nat.reduceBEq, reduceCtorEq, *]) <;> (first | done | rfl)))
set_option maxRecDepth 20000 in
theorem kcQuot {t e : Int} {H : Heap} {slot : Nat} {K : D → List (Nat × Blk) → List (Nat × Blk) → Prop} (hK : K (.tup [.int .i64 (quotV t e), .int .i64 (if quotBad t e then 1 else 0)]) [] []) : @callB ⟨callX Tryz.prog⟩ 114 [.int .i64 t, .int .i64 e] H slot ⟨K⟩ := by
  have he0 : rdOf H (D.idsL [.int .i64 t, .int .i64 e]) = [] := by simp (maxSteps := 1000000) only [go_sem, Int.reduceLT, Int.reduceLE, Int.reduceToNat, Int.reduceEq, Nat.reduceMul, ↓reduceIte, Nat.reduceLT, Nat.reduceLeDiff, Nat.reduceEqDiff, Nat.reduceAdd, Nat.reduceSub, Nat.reduceBEq, reduceCtorEq]
  refine call0 false (cQuot t e ) ?_ ?_ (fun h => nomatch h) (by rw [he0]; exact hK)
  iterate 2 (· simp (maxSteps := 1000000) only [go_sem, Int.reduceLT, Int.reduceLE, Int.reduceToNat, Int.reduceEq, Nat.reduceMul, ↓reduceIte, Nat.reduceLT, Nat.reduceLeDiff, Nat.reduceEqDiff, Nat.reduceAdd, Nat.reduceSub, Nat.reduceBEq, reduceCtorEq])
end TR

/- Coordinates of the reference. -/
open Go Go.Proofs Go.AH
set_option linter.unusedSimpArgs false
set_option linter.unusedVariables false
namespace TR
def isLen (s : Sc) (x : List Int) : Prop := (x.length : Int) = s.len
set_option maxHeartbeats 2000000 in
set_option maxRecDepth 20000 in
theorem cFits (s : Sc) (x : List Int) (hs : s.ok) (hx : smp x) (hl : isLen s x) : FC Tryz.prog 108 [.agg s.row, V x] [] (.int .i64 0) [] := by
  refine FC.of_run mix Tryz.func108 rfl rfl (by simp [Tryz.ntmps108]) ?_
  have hne : ((x.length : Int) = s.len) = True := eq_true hl
  clear hl
  repeat' first
    | simp (maxSteps := 1000000) only [go_sem, Int.reduceLT, Int.reduceLE, Int.reduceToNat, Int.reduceEq, Nat.reduceMul, ↓reduceIte, Nat.reduceLT, Nat.reduceLeDiff, Nat.reduceEqDiff, Nat.reduceAdd, Nat.reduceSub, Nat.reduceBEq, reduceCtorEq, *]
    | contradiction
    | refine wntB_decT (fun _ => ?_) (fun _ => ?_)
    | refine wntB_decF (fun _ => ?_) (fun _ => ?_)
    | refine cndB_dec (fun _ => ?_) (fun _ => ?_)
    | refine drawnB_ok (by kernel_rfl) ?_
    | refine kcwCheckR ?_
    | ((first | refine Fin.q ?_ ?_ | refine Fin.qn ?_ ?_) <;> ((try simp (maxSteps := 1000000) only [go_sem, Int.reduceLT, Int.reduceLE, Int.reduceToNat, Int.reduceEq, Nat.reduceMul, ↓reduceIte, Nat.reduceLT, Nat.reduceLeDiff, Nat.reduceEqDiff, Nat.reduceAdd, Nat.reduceSub, Nat.reduceBEq, reduceCtorEq, *]) <;> (skip)))
  have hk : ∀ {H : Heap} {slot : Nat} {K : D → List (Nat × Blk) → List (Nat × Blk) → Prop}, K (.int .i64 0) [] [] → @callB ⟨callX Tryz.prog⟩ 135 [V x] H slot ⟨K⟩ := fun hK => kcSamples hK hx
  repeat' first
    | simp (maxSteps := 1000000) only [go_sem, Int.reduceLT, Int.reduceLE, Int.reduceToNat, Int.reduceEq, Nat.reduceMul, ↓reduceIte, Nat.reduceLT, Nat.reduceLeDiff, Nat.reduceEqDiff, Nat.reduceAdd, Nat.reduceSub, Nat.reduceBEq, reduceCtorEq, *]
    | contradiction
    | refine wntB_decT (fun _ => ?_) (fun _ => ?_)
    | refine wntB_decF (fun _ => ?_) (fun _ => ?_)
    | refine cndB_dec (fun _ => ?_) (fun _ => ?_)
    | refine drawnB_ok (by kernel_rfl) ?_
    | refine hk ?_
    | ((first | refine Fin.q ?_ ?_ | refine Fin.qn ?_ ?_) <;> ((try simp (maxSteps := 1000000) only [go_sem, Int.reduceLT, Int.reduceLE, Int.reduceToNat, Int.reduceEq, Nat.reduceMul, ↓reduceIte, Nat.reduceLT, Nat.reduceLeDiff, Nat.reduceEqDiff, Nat.reduceAdd, Nat.reduceSub, Nat.reduceBEq, reduceCtorEq, *]) <;> (skip)))
set_option maxRecDepth 20000 in
theorem kcFits {s : Sc} {x : List Int} {H : Heap} {slot : Nat} {K : D → List (Nat × Blk) → List (Nat × Blk) → Prop} (hK : K (.int .i64 0) [] []) (hs : s.ok := by first | assumption | omega) (hx : smp x := by first | assumption | omega) (hl : isLen s x := by first | assumption | omega) : @callB ⟨callX Tryz.prog⟩ 108 [.agg s.row, V x] H slot ⟨K⟩ := by
  have he0 : rdOf H (D.idsL [.agg s.row, V x]) = [] := by simp (maxSteps := 1000000) only [go_sem, Int.reduceLT, Int.reduceLE, Int.reduceToNat, Int.reduceEq, Nat.reduceMul, ↓reduceIte, Nat.reduceLT, Nat.reduceLeDiff, Nat.reduceEqDiff, Nat.reduceAdd, Nat.reduceSub, Nat.reduceBEq, reduceCtorEq]
  refine call0 false (cFits s x hs hx hl) ?_ ?_ (fun h => nomatch h) (by rw [he0]; exact hK)
  iterate 2 (· simp (maxSteps := 1000000) only [go_sem, Int.reduceLT, Int.reduceLE, Int.reduceToNat, Int.reduceEq, Nat.reduceMul, ↓reduceIte, Nat.reduceLT, Nat.reduceLeDiff, Nat.reduceEqDiff, Nat.reduceAdd, Nat.reduceSub, Nat.reduceBEq, reduceCtorEq])
def lenF (m n p : Nat) : Nat := (p + 1) * m / n - p * m / n
theorem lenF_facts {m n i : Nat} (hn : 1 ≤ n) (hnm : n ≤ m) (hi : i + 1 ≤ n) (hm : m ≤ 32) : 1 ≤ lenF m n i ∧ lenF m n i ≤ 32 ∧ IntKind.i64.wrap (startF m n (i + 1) - startF m n i) = (lenF m n i : Int) := by
  have h1 := start_mono hn hnm i
  have h2 := start_le (m := m) hn hi
  unfold startF lenF
  generalize (i + 1) * m / n = B at *
  generalize i * m / n = A at *
  refine ⟨by omega, by omega, ?_⟩
  rw [wrapS] <;> omega
def coordV (s : Sc) (x : List Int) (n p : Nat) : Int :=
  if s.kind = 2 then downV (foldV (rangeF (cenV x) x.length) x.length n p) ((x.length * lenF x.length n p : Nat) : Int)
  else if s.kind = 3 then quotV (IntKind.i64.wrap (64 * foldV (rangeF (cenV x) x.length) x.length n p)) (IntKind.i64.wrap ((x.length : Int) * prV x))
  else downV (foldV x x.length n p) ((lenF x.length n p : Nat) : Int)
def stCo (s : Sc) (x : List Int) (n : Nat) : Nat → St
  | 0 => ⟨109, [(57, .int .i64 0), (56, .int .i64 n), (16, .zs), (14, .int .i64 (prV x)), (12, V (rangeF (foldV (rangeF (cenV x) x.length) x.length n) n)), (10, V (rangeF (foldV x x.length n) n)), (8, V (rangeF (startF x.length n) (n + 1))), (7, .int .i64 x.length), (2, .ptr 0 1 0 0)], [some [s.row]]⟩
  | i + 1 => ⟨109, [(57, .int .i64 ((i + 1 : Nat) : Int)), (56, .int .i64 n), (16, .rs 1 2 0 (i + 1) (i + 1)), (14, .int .i64 (prV x)), (12, V (rangeF (foldV (rangeF (cenV x) x.length) x.length n) n)), (10, V (rangeF (foldV x x.length n) n)), (8, V (rangeF (startF x.length n) (n + 1))), (7, .int .i64 x.length), (2, .ptr 0 1 0 0)], [some [s.row], none, some (ints (rangeF (coordV s x n) (i + 1)))]⟩
set_option maxHeartbeats 2000000 in
set_option maxRecDepth 20000 in
theorem cCoord (s : Sc) (x : List Int) (n : Nat) (hs : s.ok) (hx : smp x) (hl : isLen s x) (hp : s.pcs = n) : FC Tryz.prog 66 [.agg s.row, V x] [] (.tup [V (rangeF (coordV s x n) n), .int .i64 0]) [] := by
  refine FC.of_run mix Tryz.func66 rfl rfl (by simp [Tryz.ntmps66]) ?_
  have hl' : (x.length : Int) = s.len := hl
  have b1 := hs.1.2.2.2.1
  have b2 := hs.1.2.2.2.2.1
  have b3 := hs.1.2.2.2.2.2.1
  have h2 := hx.1
  have h32 := hx.2.1
  have n1 : 1 ≤ n := by omega
  have n8 : n ≤ 8 := by omega
  have nm : n ≤ x.length := by omega
  have kF : ∀ {H : Heap} {slot : Nat} {K : D → List (Nat × Blk) → List (Nat × Blk) → Prop}, K (.int .i64 0) [] [] → @callB ⟨callX Tryz.prog⟩ 108 [.agg s.row, V x] H slot ⟨K⟩ := fun hK => kcFits hK hs hx hl
  have kS : ∀ {H : Heap} {slot : Nat} {K : D → List (Nat × Blk) → List (Nat × Blk) → Prop}, K (.tup [V (rangeF (startF x.length n) (n + 1)), .int .i64 0]) [] [] → @callB ⟨callX Tryz.prog⟩ 109 [.int .i64 x.length, .int .i64 s.pcs] H slot ⟨K⟩ := fun hK => by rw [hp]; exact kcStarts hK
  have kU : ∀ {H : Heap} {slot : Nat} {K : D → List (Nat × Blk) → List (Nat × Blk) → Prop}, K (.tup [V (rangeF (foldV x x.length n) n), .int .i64 0]) [] [] → @callB ⟨callX Tryz.prog⟩ 110 [V x, .int .i64 s.pcs] H slot ⟨K⟩ := fun hK => by rw [hp]; exact kcSums hK
  have kC : ∀ {H : Heap} {slot : Nat} {K : D → List (Nat × Blk) → List (Nat × Blk) → Prop}, K (.tup [V (rangeF (foldV (rangeF (cenV x) x.length) x.length n) n), .int .i64 0]) [] [] → @callB ⟨callX Tryz.prog⟩ 111 [V x, .int .i64 s.pcs] H slot ⟨K⟩ := fun hK => by rw [hp]; exact kcCenS hK
  have kP : ∀ {H : Heap} {slot : Nat} {K : D → List (Nat × Blk) → List (Nat × Blk) → Prop}, K (.tup [.int .i64 (prV x), .int .i64 0]) [] [] → @callB ⟨callX Tryz.prog⟩ 112 [V x, V x] H slot ⟨K⟩ := fun hK => kcProduct hK hx
  clear hs hx hp hl hl' b1 b2 b3
  repeat' first
    | simp (maxSteps := 1000000) only [go_sem, Int.reduceLT, Int.reduceLE, Int.reduceToNat, Int.reduceEq, Nat.reduceMul, ↓reduceIte, Nat.reduceLT, Nat.reduceLeDiff, Nat.reduceEqDiff, Nat.reduceAdd, Nat.reduceSub, Nat.reduceBEq, reduceCtorEq, *, rangeF_len]
    | contradiction
    | refine wntB_decT (fun _ => ?_) (fun _ => ?_)
    | refine wntB_decF (fun _ => ?_) (fun _ => ?_)
    | refine cndB_dec (fun _ => ?_) (fun _ => ?_)
    | refine drawnB_ok (by kernel_rfl) ?_
    | refine kF ?_
    | refine kS ?_
    | refine kU ?_
    | refine kC ?_
    | refine kP ?_
    | ((first | refine Fin.q ?_ ?_ | refine Fin.qn ?_ ?_) <;> ((try simp (maxSteps := 1000000) only [go_sem, Int.reduceLT, Int.reduceLE, Int.reduceToNat, Int.reduceEq, Nat.reduceMul, ↓reduceIte, Nat.reduceLT, Nat.reduceLeDiff, Nat.reduceEqDiff, Nat.reduceAdd, Nat.reduceSub, Nat.reduceBEq, reduceCtorEq, *, rangeF_len]) <;> (skip)))
  clear kF kS kU kC kP
  refine AW.loopx (σ := Nat) mix (stCo s x n) (fun i => i ≤ n) (fun i => n - i) 0 (by omega) (Conv.mk ?_ ?_ ?_ ?_ ?_) ?_
  iterate 5 (· simp (maxSteps := 1000000) only [go_sem, Int.reduceLT, Int.reduceLE, Int.reduceToNat, Int.reduceEq, Nat.reduceMul, ↓reduceIte, Nat.reduceLT, Nat.reduceLeDiff, Nat.reduceEqDiff, Nat.reduceAdd, Nat.reduceSub, Nat.reduceBEq, reduceCtorEq, stCo])
  intro i hi
  have hC : i + 1 ≤ capMax := by unfold capMax; omega
  have hC2 : i + 1 + 1 ≤ capMax := by unfold capMax; omega
  by_cases h : i < n
  · obtain ⟨hl1, hl2, hL⟩ := lenF_facts n1 nm (show i + 1 ≤ n by omega) h32
    have hl0 : ¬ ((lenF x.length n i : Nat) : Int) = 0 := by omega
    have hml : x.length * lenF x.length n i ≤ 32 * 32 := Nat.mul_le_mul h32 hl2
    have hml1 : 0 < x.length * lenF x.length n i := Nat.mul_pos (by omega) (by omega)
    have hmw : IntKind.i64.wrap ((x.length : Int) * ((lenF x.length n i : Nat) : Int)) = ((x.length * lenF x.length n i : Nat) : Int) := mulN (by omega)
    have hm0 : ¬ ((x.length * lenF x.length n i : Nat) : Int) = 0 := by omega
    have g1 := getF (startF x.length n) (n := n + 1) (i := i) (by omega)
    have g2 := getF (startF x.length n) (n := n + 1) (i := i + 1) (by omega)
    have g3 := getF (foldV x x.length n) (n := n) (i := i) h
    have g4 := getF (foldV (rangeF (cenV x) x.length) x.length n) (n := n) (i := i) h
    have v2 : s.kind = 2 → downV (foldV (rangeF (cenV x) x.length) x.length n i) ((x.length * lenF x.length n i : Nat) : Int) = coordV s x n i := fun h => by unfold coordV; rw [if_pos h]
    have v3 : s.kind = 3 → quotV (IntKind.i64.wrap (64 * foldV (rangeF (cenV x) x.length) x.length n i)) (IntKind.i64.wrap ((x.length : Int) * prV x)) = coordV s x n i := fun h => by unfold coordV; rw [if_neg (by omega), if_pos h]
    have v0 : ¬ s.kind = 2 → ¬ s.kind = 3 → downV (foldV x x.length n i) ((lenF x.length n i : Nat) : Int) = coordV s x n i := fun h1 h2 => by unfold coordV; rw [if_neg h1, if_neg h2]
    have hw := wrap1 (i := i) (by omega)
    have b0 : i < n + 1 := by omega
    have b1 : i + 1 < n + 1 := by omega
    clear hl1 hl2 hml hml1 h2 h32 n1 n8 nm
    by_cases k2 : s.kind = 2
    · have v := v2 k2
      clear v2 v3 v0
      rcases i with _ | i
      · have e0 : ((0 : Nat) : Int) = 0 := rfl
        have hw0 : IntKind.i64.wrap ((0 : Int) + 1) = ((1 : Nat) : Int) := by decide
        have hn0 : (0 : Int) < (n : Int) := by omega
        simp only [stCo]
        repeat' first
          | (refine ⟨1, ?_, ?_, Conv.mk ?_ ?_ ?_ ?_ ?_⟩; (· (first | omega | (simp only; omega) | (simp only [List.length_nil, List.length_cons]; omega))); (· (omega)); (all_goals simp (maxSteps := 1000000) only [go_sem, Int.reduceLT, Int.reduceLE, Int.reduceToNat, Int.reduceEq, Nat.reduceMul, ↓reduceIte, Nat.reduceLT, Nat.reduceLeDiff, Nat.reduceEqDiff, Nat.reduceAdd, Nat.reduceSub, Nat.reduceBEq, reduceCtorEq, *, stCo, Nat.zero_add, rangeF_len, rangeF_one, List.length_singleton, List.isEmpty_cons, List.length_cons, List.length_nil]); done)
          | simp (maxSteps := 1000000) only [go_sem, Int.reduceLT, Int.reduceLE, Int.reduceToNat, Int.reduceEq, Nat.reduceMul, ↓reduceIte, Nat.reduceLT, Nat.reduceLeDiff, Nat.reduceEqDiff, Nat.reduceAdd, Nat.reduceSub, Nat.reduceBEq, reduceCtorEq, *, stCo, Nat.zero_add, rangeF_len, rangeF_one, List.length_singleton, List.isEmpty_cons, List.length_cons, List.length_nil]
          | contradiction
          | refine wntB_decT (fun _ => ?_) (fun _ => ?_)
          | refine wntB_decF (fun _ => ?_) (fun _ => ?_)
          | refine cndB_dec (fun _ => ?_) (fun _ => ?_)
          | refine drawnB_ok (by kernel_rfl) ?_
          | refine kcDown ?_
          | ((first | refine Fin.q ?_ ?_ | refine Fin.qn ?_ ?_) <;> ((try simp (maxSteps := 1000000) only [go_sem, Int.reduceLT, Int.reduceLE, Int.reduceToNat, Int.reduceEq, Nat.reduceMul, ↓reduceIte, Nat.reduceLT, Nat.reduceLeDiff, Nat.reduceEqDiff, Nat.reduceAdd, Nat.reduceSub, Nat.reduceBEq, reduceCtorEq, *, stCo, Nat.zero_add, rangeF_len, rangeF_one, List.length_singleton, List.isEmpty_cons, List.length_cons, List.length_nil]) <;> (skip)))
      · simp only [stCo]
        repeat' first
          | (refine ⟨i + 1 + 1, ?_, ?_, Conv.mk ?_ ?_ ?_ ?_ ?_⟩; (· (first | omega | (simp only; omega) | (simp only [List.length_nil, List.length_cons]; omega))); (· (omega)); (all_goals simp (maxSteps := 1000000) only [go_sem, Int.reduceLT, Int.reduceLE, Int.reduceToNat, Int.reduceEq, Nat.reduceMul, ↓reduceIte, Nat.reduceLT, Nat.reduceLeDiff, Nat.reduceEqDiff, Nat.reduceAdd, Nat.reduceSub, Nat.reduceBEq, reduceCtorEq, *, stCo, snocF, rangeF_len, takeF, no_succ_le, Nat.zero_add, List.isEmpty_cons, List.length_cons, List.length_nil, List.drop_zero, eq_self]); done)
          | simp (maxSteps := 1000000) only [go_sem, Int.reduceLT, Int.reduceLE, Int.reduceToNat, Int.reduceEq, Nat.reduceMul, ↓reduceIte, Nat.reduceLT, Nat.reduceLeDiff, Nat.reduceEqDiff, Nat.reduceAdd, Nat.reduceSub, Nat.reduceBEq, reduceCtorEq, *, stCo, snocF, rangeF_len, takeF, no_succ_le, Nat.zero_add, List.isEmpty_cons, List.length_cons, List.length_nil, List.drop_zero, eq_self]
          | contradiction
          | refine wntB_decT (fun _ => ?_) (fun _ => ?_)
          | refine wntB_decF (fun _ => ?_) (fun _ => ?_)
          | refine cndB_dec (fun _ => ?_) (fun _ => ?_)
          | refine drawnB_ok (by kernel_rfl) ?_
          | refine kcDown ?_
          | ((first | refine Fin.q ?_ ?_ | refine Fin.qn ?_ ?_) <;> ((try simp (maxSteps := 1000000) only [go_sem, Int.reduceLT, Int.reduceLE, Int.reduceToNat, Int.reduceEq, Nat.reduceMul, ↓reduceIte, Nat.reduceLT, Nat.reduceLeDiff, Nat.reduceEqDiff, Nat.reduceAdd, Nat.reduceSub, Nat.reduceBEq, reduceCtorEq, *, stCo, snocF, rangeF_len, takeF, no_succ_le, Nat.zero_add, List.isEmpty_cons, List.length_cons, List.length_nil, List.drop_zero, eq_self]) <;> (skip)))
    · by_cases k3 : s.kind = 3
      · have v := v3 k3
        clear v2 v3 v0
        rcases i with _ | i
        · have e0 : ((0 : Nat) : Int) = 0 := rfl
          have hw0 : IntKind.i64.wrap ((0 : Int) + 1) = ((1 : Nat) : Int) := by decide
          have hn0 : (0 : Int) < (n : Int) := by omega
          simp only [stCo]
          repeat' first
            | (refine ⟨1, ?_, ?_, Conv.mk ?_ ?_ ?_ ?_ ?_⟩; (· (first | omega | (simp only; omega) | (simp only [List.length_nil, List.length_cons]; omega))); (· (omega)); (all_goals simp (maxSteps := 1000000) only [go_sem, Int.reduceLT, Int.reduceLE, Int.reduceToNat, Int.reduceEq, Nat.reduceMul, ↓reduceIte, Nat.reduceLT, Nat.reduceLeDiff, Nat.reduceEqDiff, Nat.reduceAdd, Nat.reduceSub, Nat.reduceBEq, reduceCtorEq, *, stCo, Nat.zero_add, rangeF_len, rangeF_one, List.length_singleton, List.isEmpty_cons, List.length_cons, List.length_nil]); done)
            | simp (maxSteps := 1000000) only [go_sem, Int.reduceLT, Int.reduceLE, Int.reduceToNat, Int.reduceEq, Nat.reduceMul, ↓reduceIte, Nat.reduceLT, Nat.reduceLeDiff, Nat.reduceEqDiff, Nat.reduceAdd, Nat.reduceSub, Nat.reduceBEq, reduceCtorEq, *, stCo, Nat.zero_add, rangeF_len, rangeF_one, List.length_singleton, List.isEmpty_cons, List.length_cons, List.length_nil]
            | contradiction
            | refine wntB_decT (fun _ => ?_) (fun _ => ?_)
            | refine wntB_decF (fun _ => ?_) (fun _ => ?_)
            | refine cndB_dec (fun _ => ?_) (fun _ => ?_)
            | refine drawnB_ok (by kernel_rfl) ?_
            | refine kcDown ?_
            | refine kcQuot ?_
            | ((first | refine Fin.q ?_ ?_ | refine Fin.qn ?_ ?_) <;> ((try simp (maxSteps := 1000000) only [go_sem, Int.reduceLT, Int.reduceLE, Int.reduceToNat, Int.reduceEq, Nat.reduceMul, ↓reduceIte, Nat.reduceLT, Nat.reduceLeDiff, Nat.reduceEqDiff, Nat.reduceAdd, Nat.reduceSub, Nat.reduceBEq, reduceCtorEq, *, stCo, Nat.zero_add, rangeF_len, rangeF_one, List.length_singleton, List.isEmpty_cons, List.length_cons, List.length_nil]) <;> (skip)))
        · simp only [stCo]
          repeat' first
            | (refine ⟨i + 1 + 1, ?_, ?_, Conv.mk ?_ ?_ ?_ ?_ ?_⟩; (· (first | omega | (simp only; omega) | (simp only [List.length_nil, List.length_cons]; omega))); (· (omega)); (all_goals simp (maxSteps := 1000000) only [go_sem, Int.reduceLT, Int.reduceLE, Int.reduceToNat, Int.reduceEq, Nat.reduceMul, ↓reduceIte, Nat.reduceLT, Nat.reduceLeDiff, Nat.reduceEqDiff, Nat.reduceAdd, Nat.reduceSub, Nat.reduceBEq, reduceCtorEq, *, stCo, snocF, rangeF_len, takeF, no_succ_le, Nat.zero_add, List.isEmpty_cons, List.length_cons, List.length_nil, List.drop_zero, eq_self]); done)
            | simp (maxSteps := 1000000) only [go_sem, Int.reduceLT, Int.reduceLE, Int.reduceToNat, Int.reduceEq, Nat.reduceMul, ↓reduceIte, Nat.reduceLT, Nat.reduceLeDiff, Nat.reduceEqDiff, Nat.reduceAdd, Nat.reduceSub, Nat.reduceBEq, reduceCtorEq, *, stCo, snocF, rangeF_len, takeF, no_succ_le, Nat.zero_add, List.isEmpty_cons, List.length_cons, List.length_nil, List.drop_zero, eq_self]
            | contradiction
            | refine wntB_decT (fun _ => ?_) (fun _ => ?_)
            | refine wntB_decF (fun _ => ?_) (fun _ => ?_)
            | refine cndB_dec (fun _ => ?_) (fun _ => ?_)
            | refine drawnB_ok (by kernel_rfl) ?_
            | refine kcDown ?_
            | refine kcQuot ?_
            | ((first | refine Fin.q ?_ ?_ | refine Fin.qn ?_ ?_) <;> ((try simp (maxSteps := 1000000) only [go_sem, Int.reduceLT, Int.reduceLE, Int.reduceToNat, Int.reduceEq, Nat.reduceMul, ↓reduceIte, Nat.reduceLT, Nat.reduceLeDiff, Nat.reduceEqDiff, Nat.reduceAdd, Nat.reduceSub, Nat.reduceBEq, reduceCtorEq, *, stCo, snocF, rangeF_len, takeF, no_succ_le, Nat.zero_add, List.isEmpty_cons, List.length_cons, List.length_nil, List.drop_zero, eq_self]) <;> (skip)))
      · have v := v0 k2 k3
        clear v2 v3 v0
        rcases i with _ | i
        · have e0 : ((0 : Nat) : Int) = 0 := rfl
          have hw0 : IntKind.i64.wrap ((0 : Int) + 1) = ((1 : Nat) : Int) := by decide
          have hn0 : (0 : Int) < (n : Int) := by omega
          simp only [stCo]
          repeat' first
            | (refine ⟨1, ?_, ?_, Conv.mk ?_ ?_ ?_ ?_ ?_⟩; (· (first | omega | (simp only; omega) | (simp only [List.length_nil, List.length_cons]; omega))); (· (omega)); (all_goals simp (maxSteps := 1000000) only [go_sem, Int.reduceLT, Int.reduceLE, Int.reduceToNat, Int.reduceEq, Nat.reduceMul, ↓reduceIte, Nat.reduceLT, Nat.reduceLeDiff, Nat.reduceEqDiff, Nat.reduceAdd, Nat.reduceSub, Nat.reduceBEq, reduceCtorEq, *, stCo, Nat.zero_add, rangeF_len, rangeF_one, List.length_singleton, List.isEmpty_cons, List.length_cons, List.length_nil]); done)
            | simp (maxSteps := 1000000) only [go_sem, Int.reduceLT, Int.reduceLE, Int.reduceToNat, Int.reduceEq, Nat.reduceMul, ↓reduceIte, Nat.reduceLT, Nat.reduceLeDiff, Nat.reduceEqDiff, Nat.reduceAdd, Nat.reduceSub, Nat.reduceBEq, reduceCtorEq, *, stCo, Nat.zero_add, rangeF_len, rangeF_one, List.length_singleton, List.isEmpty_cons, List.length_cons, List.length_nil]
            | contradiction
            | refine wntB_decT (fun _ => ?_) (fun _ => ?_)
            | refine wntB_decF (fun _ => ?_) (fun _ => ?_)
            | refine cndB_dec (fun _ => ?_) (fun _ => ?_)
            | refine drawnB_ok (by kernel_rfl) ?_
            | refine kcDown ?_
            | ((first | refine Fin.q ?_ ?_ | refine Fin.qn ?_ ?_) <;> ((try simp (maxSteps := 1000000) only [go_sem, Int.reduceLT, Int.reduceLE, Int.reduceToNat, Int.reduceEq, Nat.reduceMul, ↓reduceIte, Nat.reduceLT, Nat.reduceLeDiff, Nat.reduceEqDiff, Nat.reduceAdd, Nat.reduceSub, Nat.reduceBEq, reduceCtorEq, *, stCo, Nat.zero_add, rangeF_len, rangeF_one, List.length_singleton, List.isEmpty_cons, List.length_cons, List.length_nil]) <;> (skip)))
        · simp only [stCo]
          repeat' first
            | (refine ⟨i + 1 + 1, ?_, ?_, Conv.mk ?_ ?_ ?_ ?_ ?_⟩; (· (first | omega | (simp only; omega) | (simp only [List.length_nil, List.length_cons]; omega))); (· (omega)); (all_goals simp (maxSteps := 1000000) only [go_sem, Int.reduceLT, Int.reduceLE, Int.reduceToNat, Int.reduceEq, Nat.reduceMul, ↓reduceIte, Nat.reduceLT, Nat.reduceLeDiff, Nat.reduceEqDiff, Nat.reduceAdd, Nat.reduceSub, Nat.reduceBEq, reduceCtorEq, *, stCo, snocF, rangeF_len, takeF, no_succ_le, Nat.zero_add, List.isEmpty_cons, List.length_cons, List.length_nil, List.drop_zero, eq_self]); done)
            | simp (maxSteps := 1000000) only [go_sem, Int.reduceLT, Int.reduceLE, Int.reduceToNat, Int.reduceEq, Nat.reduceMul, ↓reduceIte, Nat.reduceLT, Nat.reduceLeDiff, Nat.reduceEqDiff, Nat.reduceAdd, Nat.reduceSub, Nat.reduceBEq, reduceCtorEq, *, stCo, snocF, rangeF_len, takeF, no_succ_le, Nat.zero_add, List.isEmpty_cons, List.length_cons, List.length_nil, List.drop_zero, eq_self]
            | contradiction
            | refine wntB_decT (fun _ => ?_) (fun _ => ?_)
            | refine wntB_decF (fun _ => ?_) (fun _ => ?_)
            | refine cndB_dec (fun _ => ?_) (fun _ => ?_)
            | refine drawnB_ok (by kernel_rfl) ?_
            | refine kcDown ?_
            | ((first | refine Fin.q ?_ ?_ | refine Fin.qn ?_ ?_) <;> ((try simp (maxSteps := 1000000) only [go_sem, Int.reduceLT, Int.reduceLE, Int.reduceToNat, Int.reduceEq, Nat.reduceMul, ↓reduceIte, Nat.reduceLT, Nat.reduceLeDiff, Nat.reduceEqDiff, Nat.reduceAdd, Nat.reduceSub, Nat.reduceBEq, reduceCtorEq, *, stCo, snocF, rangeF_len, takeF, no_succ_le, Nat.zero_add, List.isEmpty_cons, List.length_cons, List.length_nil, List.drop_zero, eq_self]) <;> (skip)))
  · obtain rfl : i = n := by omega
    obtain ⟨j, rfl⟩ : ∃ j, i = j + 1 := ⟨i - 1, by omega⟩
    simp only [stCo]
    repeat' first
      | simp (maxSteps := 1000000) only [go_sem, Int.reduceLT, Int.reduceLE, Int.reduceToNat, Int.reduceEq, Nat.reduceMul, ↓reduceIte, Nat.reduceLT, Nat.reduceLeDiff, Nat.reduceEqDiff, Nat.reduceAdd, Nat.reduceSub, Nat.reduceBEq, reduceCtorEq, *, rangeF_len, takeF, List.drop_zero, Nat.zero_add, eq_self, no_succ_le, Nat.lt_irrefl]
      | contradiction
      | refine wntB_decT (fun _ => ?_) (fun _ => ?_)
      | refine wntB_decF (fun _ => ?_) (fun _ => ?_)
      | refine cndB_dec (fun _ => ?_) (fun _ => ?_)
      | refine drawnB_ok (by kernel_rfl) ?_
      | ((first | refine Fin.q ?_ ?_ | refine Fin.qn ?_ ?_) <;> ((try simp (maxSteps := 1000000) only [go_sem, Int.reduceLT, Int.reduceLE, Int.reduceToNat, Int.reduceEq, Nat.reduceMul, ↓reduceIte, Nat.reduceLT, Nat.reduceLeDiff, Nat.reduceEqDiff, Nat.reduceAdd, Nat.reduceSub, Nat.reduceBEq, reduceCtorEq, *, rangeF_len, takeF, List.drop_zero, Nat.zero_add, eq_self, no_succ_le, Nat.lt_irrefl]) <;> (skip)))
set_option maxRecDepth 20000 in
theorem kcCoord {s : Sc} {x : List Int} {n : Nat} {H : Heap} {slot : Nat} {K : D → List (Nat × Blk) → List (Nat × Blk) → Prop} (hK : K (.tup [V (rangeF (coordV s x n) n), .int .i64 0]) [] []) (hs : s.ok := by first | assumption | omega) (hx : smp x := by first | assumption | omega) (hl : isLen s x := by first | assumption | omega) (hp : s.pcs = n := by first | assumption | omega) : @callB ⟨callX Tryz.prog⟩ 66 [.agg s.row, V x] H slot ⟨K⟩ := by
  have he0 : rdOf H (D.idsL [.agg s.row, V x]) = [] := by simp (maxSteps := 1000000) only [go_sem, Int.reduceLT, Int.reduceLE, Int.reduceToNat, Int.reduceEq, Nat.reduceMul, ↓reduceIte, Nat.reduceLT, Nat.reduceLeDiff, Nat.reduceEqDiff, Nat.reduceAdd, Nat.reduceSub, Nat.reduceBEq, reduceCtorEq]
  refine call0 false (cCoord s x n hs hx hl hp) ?_ ?_ (fun h => nomatch h) (by rw [he0]; exact hK)
  iterate 2 (· simp (maxSteps := 1000000) only [go_sem, Int.reduceLT, Int.reduceLE, Int.reduceToNat, Int.reduceEq, Nat.reduceMul, ↓reduceIte, Nat.reduceLT, Nat.reduceLeDiff, Nat.reduceEqDiff, Nat.reduceAdd, Nat.reduceSub, Nat.reduceBEq, reduceCtorEq])
end TR

/- The reference's word of a window; its symbols may be written. -/
open Go Go.Proofs Go.AH
set_option linter.unusedSimpArgs false
set_option linter.unusedVariables false
namespace TR
def cntV (l : List Int) (c : Int) : Nat → Nat
  | 0 => 0
  | k + 1 => if l.getD k 0 ≤ c then cntV l c k + 1 else cntV l c k
theorem cntV_le (l : List Int) (c : Int) : ∀ k, cntV l c k ≤ k
  | 0 => Nat.le_refl _
  | k + 1 => by have := cntV_le l c k; simp only [cntV]; split <;> omega
def symV (s : Sc) (x : List Int) (n p : Nat) : Int := ((cntV s.cuts (coordV s x n p) s.cuts.length : Nat) : Int)
def fourV (_p : Nat) : Int := 4
def stOf (s : Sc) (x : List Int) (n : Nat) : Nat → St
  | 0 => ⟨59, [(24, .int .i64 0), (23, .int .i64 n), (8, .ptr 2 1 0 0), (6, V (rangeF (coordV s x n) n)), (4, .ptr 1 1 0 0), (2, .ptr 0 1 0 0)], [some [s.row], some [[.zs, .zs]], some [[.zs, .zs]]]⟩
  | i + 1 => ⟨59, [(24, .int .i64 ((i + 1 : Nat) : Int)), (23, .int .i64 n), (8, .ptr 2 1 0 0), (6, V (rangeF (coordV s x n) n)), (4, .ptr 1 1 0 0), (2, .ptr 0 1 0 0)], [some [s.row], some [[.zs, .zs]], some [[.rs 1 4 0 (i + 1) (i + 1), .rs 1 6 0 (i + 1) (i + 1)]], none, some (ints (rangeF (symV s x n) (i + 1))), none, some (ints (rangeF fourV (i + 1)))]⟩
set_option maxHeartbeats 2000000 in
set_option maxRecDepth 20000 in
theorem cOfR (s : Sc) (x : List Int) (n : Nat) (hs : s.ok) (hx : smp x) (hl : isLen s x) (hp : s.pcs = n) : FC Tryz.prog 32 [.agg s.row, V x] [] (.tup [.agg [.rs 1 0 0 n n, .rs 1 1 0 n n], .int .i64 0]) [ints (rangeF (symV s x n) n), ints (rangeF fourV n)] := by
  have b1 := hs.1.2.2.2.1
  have b2 := hs.1.2.2.2.2.1
  have b15 := hs.1.2.2.2.2.2.2
  have n1 : 1 ≤ n := by omega
  have n8 : n ≤ 8 := by omega
  have kC : ∀ {H : Heap} {slot : Nat} {K : D → List (Nat × Blk) → List (Nat × Blk) → Prop}, K (.tup [V (rangeF (coordV s x n) n), .int .i64 0]) [] [] → @callB ⟨callX Tryz.prog⟩ 66 [.agg s.row, V x] H slot ⟨K⟩ := fun hK => kcCoord hK hs hx hl hp
  clear hs hx hp hl b1 b2
  refine FC.of_run mix Tryz.func32 rfl rfl (by simp [Tryz.ntmps32]) ?_
  repeat' first
    | simp (maxSteps := 1000000) only [go_sem, Int.reduceLT, Int.reduceLE, Int.reduceToNat, Int.reduceEq, Nat.reduceMul, ↓reduceIte, Nat.reduceLT, Nat.reduceLeDiff, Nat.reduceEqDiff, Nat.reduceAdd, Nat.reduceSub, Nat.reduceBEq, reduceCtorEq, *, rangeF_len]
    | contradiction
    | refine wntB_decT (fun _ => ?_) (fun _ => ?_)
    | refine wntB_decF (fun _ => ?_) (fun _ => ?_)
    | refine cndB_dec (fun _ => ?_) (fun _ => ?_)
    | refine drawnB_ok (by kernel_rfl) ?_
    | refine kC ?_
    | ((first | refine Fin.q ?_ ?_ | refine Fin.qn ?_ ?_) <;> ((try simp (maxSteps := 1000000) only [go_sem, Int.reduceLT, Int.reduceLE, Int.reduceToNat, Int.reduceEq, Nat.reduceMul, ↓reduceIte, Nat.reduceLT, Nat.reduceLeDiff, Nat.reduceEqDiff, Nat.reduceAdd, Nat.reduceSub, Nat.reduceBEq, reduceCtorEq, *, rangeF_len]) <;> (skip)))
  clear kC
  refine AW.loopx (σ := Nat) mix (stOf s x n) (fun i => i ≤ n) (fun i => n - i) 0 (by omega) (Conv.mk ?_ ?_ ?_ ?_ ?_) ?_
  iterate 5 (· simp (maxSteps := 1000000) only [go_sem, Int.reduceLT, Int.reduceLE, Int.reduceToNat, Int.reduceEq, Nat.reduceMul, ↓reduceIte, Nat.reduceLT, Nat.reduceLeDiff, Nat.reduceEqDiff, Nat.reduceAdd, Nat.reduceSub, Nat.reduceBEq, reduceCtorEq, stOf])
  intro i hi
  have hC : i + 1 ≤ capMax := by unfold capMax; omega
  have hC2 : i + 1 + 1 ≤ capMax := by unfold capMax; omega
  by_cases h : i < n
  · have hc := getF (coordV s x n) (n := n) (i := i) h
    have hw := wrap1 (i := i) (by omega)
    have hv : ((cntV s.cuts (coordV s x n i) s.cuts.length : Nat) : Int) = symV s x n i := rfl
    have h4 : ((4 : Int)) = fourV i := rfl
    rcases i with _ | i
    · have e0 : ((0 : Nat) : Int) = 0 := rfl
      have hw0 : IntKind.i64.wrap ((0 : Int) + 1) = ((1 : Nat) : Int) := by decide
      have hn0 : (0 : Int) < (n : Int) := by omega
      have hf : [[D.int .i64 4]] = ints (rangeF fourV 1) := rfl
      clear h4
      simp only [stOf]
      repeat' first
        | simp (maxSteps := 1000000) only [go_sem, Int.reduceLT, Int.reduceLE, Int.reduceToNat, Int.reduceEq, Nat.reduceMul, ↓reduceIte, Nat.reduceLT, Nat.reduceLeDiff, Nat.reduceEqDiff, Nat.reduceAdd, Nat.reduceSub, Nat.reduceBEq, reduceCtorEq, *, rangeF_len]
        | contradiction
        | refine wntB_decT (fun _ => ?_) (fun _ => ?_)
        | refine wntB_decF (fun _ => ?_) (fun _ => ?_)
        | refine cndB_dec (fun _ => ?_) (fun _ => ?_)
        | refine drawnB_ok (by kernel_rfl) ?_
        | ((first | refine Fin.q ?_ ?_ | refine Fin.qn ?_ ?_) <;> ((try simp (maxSteps := 1000000) only [go_sem, Int.reduceLT, Int.reduceLE, Int.reduceToNat, Int.reduceEq, Nat.reduceMul, ↓reduceIte, Nat.reduceLT, Nat.reduceLeDiff, Nat.reduceEqDiff, Nat.reduceAdd, Nat.reduceSub, Nat.reduceBEq, reduceCtorEq, *, rangeF_len]) <;> (skip)))
      refine AW.loopx (σ := Nat) mix (fun k => ⟨59, [(30, .int .i64 (k : Int)), (29, .int .i64 s.cuts.length), (10, .int .i64 ((cntV s.cuts (coordV s x n (0)) k : Nat) : Int)), (9, .int .i64 0), (24, .int .i64 0), (23, .int .i64 n), (8, .ptr 2 1 0 0), (6, V (rangeF (coordV s x n) n)), (4, .ptr 1 1 0 0), (2, .ptr 0 1 0 0)], [some [s.row], some [[.zs, .zs]], some [[.zs, .zs]]]⟩) (fun k => k ≤ s.cuts.length) (fun k => s.cuts.length - k) 0 (Nat.zero_le _) (Conv.mk ?_ ?_ ?_ ?_ ?_) ?_
      iterate 5 (· (simp (maxSteps := 1000000) only [go_sem, Int.reduceLT, Int.reduceLE, Int.reduceToNat, Int.reduceEq, Nat.reduceMul, ↓reduceIte, Nat.reduceLT, Nat.reduceLeDiff, Nat.reduceEqDiff, Nat.reduceAdd, Nat.reduceSub, Nat.reduceBEq, reduceCtorEq, cntV]) <;> (first | rfl | (simp [ints]; done) | (simp [*]; done) | ((repeat' (first | rfl | apply And.intro)); done)))
      intro k hk
      by_cases g : k < s.cuts.length
      · have hx := ints_get g
        have hwk := wrap1 (i := k) (by omega)
        have hcl := cntV_le s.cuts (coordV s x n (0)) k
        have hwc := wrap1 (i := cntV s.cuts (coordV s x n (0)) k) (by omega)
        clear hcl
        repeat' first
          | (refine ⟨k + 1, ?_, ?_, Conv.mk ?_ ?_ ?_ ?_ ?_⟩; (· (first | omega | (simp only; omega) | (simp only [List.length_nil, List.length_cons]; omega))); (· (omega)); (all_goals simp (maxSteps := 1000000) only [go_sem, Int.reduceLT, Int.reduceLE, Int.reduceToNat, Int.reduceEq, Nat.reduceMul, ↓reduceIte, Nat.reduceLT, Nat.reduceLeDiff, Nat.reduceEqDiff, Nat.reduceAdd, Nat.reduceSub, Nat.reduceBEq, reduceCtorEq, *, rangeF_len, cntV, if_true, if_false]); done)
          | simp (maxSteps := 1000000) only [go_sem, Int.reduceLT, Int.reduceLE, Int.reduceToNat, Int.reduceEq, Nat.reduceMul, ↓reduceIte, Nat.reduceLT, Nat.reduceLeDiff, Nat.reduceEqDiff, Nat.reduceAdd, Nat.reduceSub, Nat.reduceBEq, reduceCtorEq, *, rangeF_len, cntV, if_true, if_false]
          | contradiction
          | refine wntB_decT (fun _ => ?_) (fun _ => ?_)
          | refine wntB_decF (fun _ => ?_) (fun _ => ?_)
          | refine cndB_dec (fun _ => ?_) (fun _ => ?_)
          | refine drawnB_ok (by kernel_rfl) ?_
          | ((first | refine Fin.q ?_ ?_ | refine Fin.qn ?_ ?_) <;> ((try simp (maxSteps := 1000000) only [go_sem, Int.reduceLT, Int.reduceLE, Int.reduceToNat, Int.reduceEq, Nat.reduceMul, ↓reduceIte, Nat.reduceLT, Nat.reduceLeDiff, Nat.reduceEqDiff, Nat.reduceAdd, Nat.reduceSub, Nat.reduceBEq, reduceCtorEq, *, rangeF_len, cntV, if_true, if_false]) <;> (skip)))
      · obtain rfl : k = s.cuts.length := by omega
        repeat' first
          | (refine ⟨1, ?_, ?_, Conv.mk ?_ ?_ ?_ ?_ ?_⟩; (· (first | omega | (simp only; omega) | (simp only [List.length_nil, List.length_cons]; omega))); (· (omega)); (all_goals simp (maxSteps := 1000000) only [go_sem, Int.reduceLT, Int.reduceLE, Int.reduceToNat, Int.reduceEq, Nat.reduceMul, ↓reduceIte, Nat.reduceLT, Nat.reduceLeDiff, Nat.reduceEqDiff, Nat.reduceAdd, Nat.reduceSub, Nat.reduceBEq, reduceCtorEq, *, stOf, Nat.zero_add, rangeF_len, rangeF_one, List.length_singleton, List.isEmpty_cons, List.length_cons, List.length_nil]); done)
          | simp (maxSteps := 1000000) only [go_sem, Int.reduceLT, Int.reduceLE, Int.reduceToNat, Int.reduceEq, Nat.reduceMul, ↓reduceIte, Nat.reduceLT, Nat.reduceLeDiff, Nat.reduceEqDiff, Nat.reduceAdd, Nat.reduceSub, Nat.reduceBEq, reduceCtorEq, *, stOf, Nat.zero_add, rangeF_len, rangeF_one, List.length_singleton, List.isEmpty_cons, List.length_cons, List.length_nil]
          | contradiction
          | refine wntB_decT (fun _ => ?_) (fun _ => ?_)
          | refine wntB_decF (fun _ => ?_) (fun _ => ?_)
          | refine cndB_dec (fun _ => ?_) (fun _ => ?_)
          | refine drawnB_ok (by kernel_rfl) ?_
          | ((first | refine Fin.q ?_ ?_ | refine Fin.qn ?_ ?_) <;> ((try simp (maxSteps := 1000000) only [go_sem, Int.reduceLT, Int.reduceLE, Int.reduceToNat, Int.reduceEq, Nat.reduceMul, ↓reduceIte, Nat.reduceLT, Nat.reduceLeDiff, Nat.reduceEqDiff, Nat.reduceAdd, Nat.reduceSub, Nat.reduceBEq, reduceCtorEq, *, stOf, Nat.zero_add, rangeF_len, rangeF_one, List.length_singleton, List.isEmpty_cons, List.length_cons, List.length_nil]) <;> (skip)))
    · have hf : ints (rangeF fourV (i + 1)) ++ [[D.int .i64 4]] = ints (rangeF fourV (i + 1 + 1)) := snocF fourV (i + 1)
      clear h4
      simp only [stOf]
      repeat' first
        | simp (maxSteps := 1000000) only [go_sem, Int.reduceLT, Int.reduceLE, Int.reduceToNat, Int.reduceEq, Nat.reduceMul, ↓reduceIte, Nat.reduceLT, Nat.reduceLeDiff, Nat.reduceEqDiff, Nat.reduceAdd, Nat.reduceSub, Nat.reduceBEq, reduceCtorEq, *, rangeF_len]
        | contradiction
        | refine wntB_decT (fun _ => ?_) (fun _ => ?_)
        | refine wntB_decF (fun _ => ?_) (fun _ => ?_)
        | refine cndB_dec (fun _ => ?_) (fun _ => ?_)
        | refine drawnB_ok (by kernel_rfl) ?_
        | ((first | refine Fin.q ?_ ?_ | refine Fin.qn ?_ ?_) <;> ((try simp (maxSteps := 1000000) only [go_sem, Int.reduceLT, Int.reduceLE, Int.reduceToNat, Int.reduceEq, Nat.reduceMul, ↓reduceIte, Nat.reduceLT, Nat.reduceLeDiff, Nat.reduceEqDiff, Nat.reduceAdd, Nat.reduceSub, Nat.reduceBEq, reduceCtorEq, *, rangeF_len]) <;> (skip)))
      refine AW.loopx (σ := Nat) mix (fun k => ⟨59, [(30, .int .i64 (k : Int)), (29, .int .i64 s.cuts.length), (10, .int .i64 ((cntV s.cuts (coordV s x n (i + 1)) k : Nat) : Int)), (9, .int .i64 ((i + 1 : Nat) : Int)), (24, .int .i64 ((i + 1 : Nat) : Int)), (23, .int .i64 n), (8, .ptr 2 1 0 0), (6, V (rangeF (coordV s x n) n)), (4, .ptr 1 1 0 0), (2, .ptr 0 1 0 0)], [some [s.row], some [[.zs, .zs]], some [[.rs 1 4 0 (i + 1) (i + 1), .rs 1 6 0 (i + 1) (i + 1)]], none, some (ints (rangeF (symV s x n) (i + 1))), none, some (ints (rangeF fourV (i + 1)))]⟩) (fun k => k ≤ s.cuts.length) (fun k => s.cuts.length - k) 0 (Nat.zero_le _) (Conv.mk ?_ ?_ ?_ ?_ ?_) ?_
      iterate 5 (· (simp (maxSteps := 1000000) only [go_sem, Int.reduceLT, Int.reduceLE, Int.reduceToNat, Int.reduceEq, Nat.reduceMul, ↓reduceIte, Nat.reduceLT, Nat.reduceLeDiff, Nat.reduceEqDiff, Nat.reduceAdd, Nat.reduceSub, Nat.reduceBEq, reduceCtorEq, cntV]) <;> (first | rfl | (simp [ints]; done) | (simp [*]; done) | ((repeat' (first | rfl | apply And.intro)); done)))
      intro k hk
      by_cases g : k < s.cuts.length
      · have hx := ints_get g
        have hwk := wrap1 (i := k) (by omega)
        have hcl := cntV_le s.cuts (coordV s x n (i + 1)) k
        have hwc := wrap1 (i := cntV s.cuts (coordV s x n (i + 1)) k) (by omega)
        clear hcl
        repeat' first
          | (refine ⟨k + 1, ?_, ?_, Conv.mk ?_ ?_ ?_ ?_ ?_⟩; (· (first | omega | (simp only; omega) | (simp only [List.length_nil, List.length_cons]; omega))); (· (omega)); (all_goals simp (maxSteps := 1000000) only [go_sem, Int.reduceLT, Int.reduceLE, Int.reduceToNat, Int.reduceEq, Nat.reduceMul, ↓reduceIte, Nat.reduceLT, Nat.reduceLeDiff, Nat.reduceEqDiff, Nat.reduceAdd, Nat.reduceSub, Nat.reduceBEq, reduceCtorEq, *, rangeF_len, cntV, if_true, if_false]); done)
          | simp (maxSteps := 1000000) only [go_sem, Int.reduceLT, Int.reduceLE, Int.reduceToNat, Int.reduceEq, Nat.reduceMul, ↓reduceIte, Nat.reduceLT, Nat.reduceLeDiff, Nat.reduceEqDiff, Nat.reduceAdd, Nat.reduceSub, Nat.reduceBEq, reduceCtorEq, *, rangeF_len, cntV, if_true, if_false]
          | contradiction
          | refine wntB_decT (fun _ => ?_) (fun _ => ?_)
          | refine wntB_decF (fun _ => ?_) (fun _ => ?_)
          | refine cndB_dec (fun _ => ?_) (fun _ => ?_)
          | refine drawnB_ok (by kernel_rfl) ?_
          | ((first | refine Fin.q ?_ ?_ | refine Fin.qn ?_ ?_) <;> ((try simp (maxSteps := 1000000) only [go_sem, Int.reduceLT, Int.reduceLE, Int.reduceToNat, Int.reduceEq, Nat.reduceMul, ↓reduceIte, Nat.reduceLT, Nat.reduceLeDiff, Nat.reduceEqDiff, Nat.reduceAdd, Nat.reduceSub, Nat.reduceBEq, reduceCtorEq, *, rangeF_len, cntV, if_true, if_false]) <;> (skip)))
      · obtain rfl : k = s.cuts.length := by omega
        repeat' first
          | (refine ⟨i + 1 + 1, ?_, ?_, Conv.mk ?_ ?_ ?_ ?_ ?_⟩; (· (first | omega | (simp only; omega) | (simp only [List.length_nil, List.length_cons]; omega))); (· (omega)); (all_goals simp (maxSteps := 1000000) only [go_sem, Int.reduceLT, Int.reduceLE, Int.reduceToNat, Int.reduceEq, Nat.reduceMul, ↓reduceIte, Nat.reduceLT, Nat.reduceLeDiff, Nat.reduceEqDiff, Nat.reduceAdd, Nat.reduceSub, Nat.reduceBEq, reduceCtorEq, *, stOf, snocF, rangeF_len, takeF, no_succ_le, Nat.zero_add, List.isEmpty_cons, List.length_cons, List.length_nil, List.drop_zero, eq_self]); done)
          | simp (maxSteps := 1000000) only [go_sem, Int.reduceLT, Int.reduceLE, Int.reduceToNat, Int.reduceEq, Nat.reduceMul, ↓reduceIte, Nat.reduceLT, Nat.reduceLeDiff, Nat.reduceEqDiff, Nat.reduceAdd, Nat.reduceSub, Nat.reduceBEq, reduceCtorEq, *, stOf, snocF, rangeF_len, takeF, no_succ_le, Nat.zero_add, List.isEmpty_cons, List.length_cons, List.length_nil, List.drop_zero, eq_self]
          | contradiction
          | refine wntB_decT (fun _ => ?_) (fun _ => ?_)
          | refine wntB_decF (fun _ => ?_) (fun _ => ?_)
          | refine cndB_dec (fun _ => ?_) (fun _ => ?_)
          | refine drawnB_ok (by kernel_rfl) ?_
          | ((first | refine Fin.q ?_ ?_ | refine Fin.qn ?_ ?_) <;> ((try simp (maxSteps := 1000000) only [go_sem, Int.reduceLT, Int.reduceLE, Int.reduceToNat, Int.reduceEq, Nat.reduceMul, ↓reduceIte, Nat.reduceLT, Nat.reduceLeDiff, Nat.reduceEqDiff, Nat.reduceAdd, Nat.reduceSub, Nat.reduceBEq, reduceCtorEq, *, stOf, snocF, rangeF_len, takeF, no_succ_le, Nat.zero_add, List.isEmpty_cons, List.length_cons, List.length_nil, List.drop_zero, eq_self]) <;> (skip)))
  · obtain rfl : i = n := by omega
    obtain ⟨j, rfl⟩ : ∃ j, i = j + 1 := ⟨i - 1, by omega⟩
    simp only [stOf]
    repeat' first
      | simp (maxSteps := 1000000) only [go_sem, Int.reduceLT, Int.reduceLE, Int.reduceToNat, Int.reduceEq, Nat.reduceMul, ↓reduceIte, Nat.reduceLT, Nat.reduceLeDiff, Nat.reduceEqDiff, Nat.reduceAdd, Nat.reduceSub, Nat.reduceBEq, reduceCtorEq, *, rangeF_len, takeF, List.drop_zero, Nat.zero_add, eq_self, no_succ_le, Nat.lt_irrefl]
      | contradiction
      | refine wntB_decT (fun _ => ?_) (fun _ => ?_)
      | refine wntB_decF (fun _ => ?_) (fun _ => ?_)
      | refine cndB_dec (fun _ => ?_) (fun _ => ?_)
      | refine drawnB_ok (by kernel_rfl) ?_
      | ((first | refine Fin.qy [4, 6] (by simp) (by simp) ?_ ?_ | refine Fin.qn ?_ ?_) <;> ((try simp (maxSteps := 1000000) only [go_sem, Int.reduceLT, Int.reduceLE, Int.reduceToNat, Int.reduceEq, Nat.reduceMul, ↓reduceIte, Nat.reduceLT, Nat.reduceLeDiff, Nat.reduceEqDiff, Nat.reduceAdd, Nat.reduceSub, Nat.reduceBEq, reduceCtorEq, *, rangeF_len, takeF, List.drop_zero, Nat.zero_add, eq_self, no_succ_le, Nat.lt_irrefl]) <;> (skip)))
end TR

/- Measures and schemes that are drawn. -/
open Go Go.Proofs Go.AH
set_option linter.unusedSimpArgs false
set_option linter.unusedVariables false
namespace TR
def bandT (v : Int) : Int := if v = 0 then 0 else if v = 1 then 1 else if v = 2 then 2 else if v = 3 then 5 else 32
def mkK (L : List Int) (a : Nat) : Int := 1 + dv L a 5
def mkB (L : List Int) (a : Nat) : Int := if mkK L a = 4 then bandT (dv L (da L a 5) 5) else 0
def mkG (L : List Int) (a : Nat) : Int := if mkK L a = 5 then dv L (da L a 5) 9 - 3 else 0
def mkA (L : List Int) (a : Nat) : Nat := if mkK L a = 4 then da L (da L a 5) 5 else if mkK L a = 5 then da L (da L a 5) 9 else da L a 5
theorem mkA_le (L : List Int) (a : Nat) (h : a ≤ 1000) (hL : L.length ≤ 1000) : mkA L a ≤ 1000 := by
  unfold mkA
  (repeat' split) <;> (repeat' first | assumption | apply da_le)
theorem mk_ok (L : List Int) (a : Nat) : mOK (mkK L a) (mkB L a) (mkG L a) := by
  have h1 := dv_lt L a (n := 5) (by decide)
  have h2 := dv_lt L (da L a 5) (n := 9) (by decide)
  unfold mOK mkB mkG bandT
  have h3 : mkK L a = 1 + dv L a 5 := rfl
  (repeat' split) <;> omega
set_option maxHeartbeats 2000000 in
set_option maxRecDepth 20000 in
theorem cMeas (L : List Int) (a : Nat) (hL : L.length ≤ 1000) (ha : a ≤ 1000) : FC Tryz.prog 34 [.ptr 0 1 0 0, .int .i64 0] [[[V L, .int .i64 a]]] (.agg [.int .i64 (mkK L a), .int .i64 (mkB L a), .int .i64 (mkG L a)]) [[[V L, .int .i64 (mkA L a)]]] := by
  have b1 := dv_lt L a (n := 5) (by decide)
  have b2 := dv_lt L (da L a 5) (n := 5) (by decide)
  have b3 := dv_lt L (da L a 5) (n := 9) (by decide)
  have w1 : IntKind.i64.wrap (1 + dv L a 5) = mkK L a := by unfold mkK; rw [wrapS] <;> omega
  have w2 : IntKind.i64.wrap (dv L (da L a 5) 9 - 3) = dv L (da L a 5) 9 - 3 := by rw [wrapS] <;> omega
  by_cases h4 : mkK L a = 4
  · have e1 : mkG L a = 0 := by unfold mkG; rw [if_neg (by omega)]
    have e2 : mkA L a = da L (da L a 5) 5 := if_pos h4
    have e3 : mkB L a = bandT (dv L (da L a 5) 5) := if_pos h4
    rw [e1, e2, e3]
    clear b1 b3 w2 e1 e2 e3
    rcases (by omega : dv L (da L a 5) 5 = 0 ∨ dv L (da L a 5) 5 = 1 ∨ dv L (da L a 5) 5 = 2 ∨ dv L (da L a 5) 5 = 3 ∨ dv L (da L a 5) 5 = 4) with h | h | h | h | h
    all_goals clear b2; rw [h]; refine FC.of_run mix Tryz.func34 rfl rfl (by simp [Tryz.ntmps34]) ?_
    all_goals skip
    · repeat' first
        | simp (maxSteps := 1000000) only [go_sem, Int.reduceLT, Int.reduceLE, Int.reduceToNat, Int.reduceEq, Nat.reduceMul, ↓reduceIte, Nat.reduceLT, Nat.reduceLeDiff, Nat.reduceEqDiff, Nat.reduceAdd, Nat.reduceSub, Nat.reduceBEq, reduceCtorEq, *]
        | contradiction
        | refine wntB_decT (fun _ => ?_) (fun _ => ?_)
        | refine wntB_decF (fun _ => ?_) (fun _ => ?_)
        | refine cndB_dec (fun _ => ?_) (fun _ => ?_)
        | refine drawnB_ok (by kernel_rfl) ?_
        | refine (kNext rfl) ?_
        | ((first | refine Fin.q ?_ ?_ | refine Fin.qn ?_ ?_) <;> ((try simp (maxSteps := 1000000) only [go_sem, Int.reduceLT, Int.reduceLE, Int.reduceToNat, Int.reduceEq, Nat.reduceMul, ↓reduceIte, Nat.reduceLT, Nat.reduceLeDiff, Nat.reduceEqDiff, Nat.reduceAdd, Nat.reduceSub, Nat.reduceBEq, reduceCtorEq, *]) <;> (first | done | rfl)))
    · repeat' first
        | simp (maxSteps := 1000000) only [go_sem, Int.reduceLT, Int.reduceLE, Int.reduceToNat, Int.reduceEq, Nat.reduceMul, ↓reduceIte, Nat.reduceLT, Nat.reduceLeDiff, Nat.reduceEqDiff, Nat.reduceAdd, Nat.reduceSub, Nat.reduceBEq, reduceCtorEq, *]
        | contradiction
        | refine wntB_decT (fun _ => ?_) (fun _ => ?_)
        | refine wntB_decF (fun _ => ?_) (fun _ => ?_)
        | refine cndB_dec (fun _ => ?_) (fun _ => ?_)
        | refine drawnB_ok (by kernel_rfl) ?_
        | refine (kNext rfl) ?_
        | ((first | refine Fin.q ?_ ?_ | refine Fin.qn ?_ ?_) <;> ((try simp (maxSteps := 1000000) only [go_sem, Int.reduceLT, Int.reduceLE, Int.reduceToNat, Int.reduceEq, Nat.reduceMul, ↓reduceIte, Nat.reduceLT, Nat.reduceLeDiff, Nat.reduceEqDiff, Nat.reduceAdd, Nat.reduceSub, Nat.reduceBEq, reduceCtorEq, *]) <;> (first | done | rfl)))
    · repeat' first
        | simp (maxSteps := 1000000) only [go_sem, Int.reduceLT, Int.reduceLE, Int.reduceToNat, Int.reduceEq, Nat.reduceMul, ↓reduceIte, Nat.reduceLT, Nat.reduceLeDiff, Nat.reduceEqDiff, Nat.reduceAdd, Nat.reduceSub, Nat.reduceBEq, reduceCtorEq, *]
        | contradiction
        | refine wntB_decT (fun _ => ?_) (fun _ => ?_)
        | refine wntB_decF (fun _ => ?_) (fun _ => ?_)
        | refine cndB_dec (fun _ => ?_) (fun _ => ?_)
        | refine drawnB_ok (by kernel_rfl) ?_
        | refine (kNext rfl) ?_
        | ((first | refine Fin.q ?_ ?_ | refine Fin.qn ?_ ?_) <;> ((try simp (maxSteps := 1000000) only [go_sem, Int.reduceLT, Int.reduceLE, Int.reduceToNat, Int.reduceEq, Nat.reduceMul, ↓reduceIte, Nat.reduceLT, Nat.reduceLeDiff, Nat.reduceEqDiff, Nat.reduceAdd, Nat.reduceSub, Nat.reduceBEq, reduceCtorEq, *]) <;> (first | done | rfl)))
    · repeat' first
        | simp (maxSteps := 1000000) only [go_sem, Int.reduceLT, Int.reduceLE, Int.reduceToNat, Int.reduceEq, Nat.reduceMul, ↓reduceIte, Nat.reduceLT, Nat.reduceLeDiff, Nat.reduceEqDiff, Nat.reduceAdd, Nat.reduceSub, Nat.reduceBEq, reduceCtorEq, *]
        | contradiction
        | refine wntB_decT (fun _ => ?_) (fun _ => ?_)
        | refine wntB_decF (fun _ => ?_) (fun _ => ?_)
        | refine cndB_dec (fun _ => ?_) (fun _ => ?_)
        | refine drawnB_ok (by kernel_rfl) ?_
        | refine (kNext rfl) ?_
        | ((first | refine Fin.q ?_ ?_ | refine Fin.qn ?_ ?_) <;> ((try simp (maxSteps := 1000000) only [go_sem, Int.reduceLT, Int.reduceLE, Int.reduceToNat, Int.reduceEq, Nat.reduceMul, ↓reduceIte, Nat.reduceLT, Nat.reduceLeDiff, Nat.reduceEqDiff, Nat.reduceAdd, Nat.reduceSub, Nat.reduceBEq, reduceCtorEq, *]) <;> (first | done | rfl)))
    · repeat' first
        | simp (maxSteps := 1000000) only [go_sem, Int.reduceLT, Int.reduceLE, Int.reduceToNat, Int.reduceEq, Nat.reduceMul, ↓reduceIte, Nat.reduceLT, Nat.reduceLeDiff, Nat.reduceEqDiff, Nat.reduceAdd, Nat.reduceSub, Nat.reduceBEq, reduceCtorEq, *]
        | contradiction
        | refine wntB_decT (fun _ => ?_) (fun _ => ?_)
        | refine wntB_decF (fun _ => ?_) (fun _ => ?_)
        | refine cndB_dec (fun _ => ?_) (fun _ => ?_)
        | refine drawnB_ok (by kernel_rfl) ?_
        | refine (kNext rfl) ?_
        | ((first | refine Fin.q ?_ ?_ | refine Fin.qn ?_ ?_) <;> ((try simp (maxSteps := 1000000) only [go_sem, Int.reduceLT, Int.reduceLE, Int.reduceToNat, Int.reduceEq, Nat.reduceMul, ↓reduceIte, Nat.reduceLT, Nat.reduceLeDiff, Nat.reduceEqDiff, Nat.reduceAdd, Nat.reduceSub, Nat.reduceBEq, reduceCtorEq, *]) <;> (first | done | rfl)))
  · by_cases h5 : mkK L a = 5
    · have e1 : mkG L a = dv L (da L a 5) 9 - 3 := if_pos h5
      have e2 : mkA L a = da L (da L a 5) 9 := by unfold mkA; rw [if_neg h4, if_pos h5]
      have e3 : mkB L a = 0 := if_neg h4
      rw [e1, e2, e3]
      clear b1 b2 b3 e1 e2 e3
      refine FC.of_run mix Tryz.func34 rfl rfl (by simp [Tryz.ntmps34]) ?_
      repeat' first
        | simp (maxSteps := 1000000) only [go_sem, Int.reduceLT, Int.reduceLE, Int.reduceToNat, Int.reduceEq, Nat.reduceMul, ↓reduceIte, Nat.reduceLT, Nat.reduceLeDiff, Nat.reduceEqDiff, Nat.reduceAdd, Nat.reduceSub, Nat.reduceBEq, reduceCtorEq, *]
        | contradiction
        | refine wntB_decT (fun _ => ?_) (fun _ => ?_)
        | refine wntB_decF (fun _ => ?_) (fun _ => ?_)
        | refine cndB_dec (fun _ => ?_) (fun _ => ?_)
        | refine drawnB_ok (by kernel_rfl) ?_
        | refine (kNext rfl) ?_
        | ((first | refine Fin.q ?_ ?_ | refine Fin.qn ?_ ?_) <;> ((try simp (maxSteps := 1000000) only [go_sem, Int.reduceLT, Int.reduceLE, Int.reduceToNat, Int.reduceEq, Nat.reduceMul, ↓reduceIte, Nat.reduceLT, Nat.reduceLeDiff, Nat.reduceEqDiff, Nat.reduceAdd, Nat.reduceSub, Nat.reduceBEq, reduceCtorEq, *]) <;> (skip)))
    · have e1 : mkG L a = 0 := if_neg h5
      have e2 : mkA L a = da L a 5 := by unfold mkA; rw [if_neg h4, if_neg h5]
      have e3 : mkB L a = 0 := if_neg h4
      rw [e1, e2, e3]
      clear b1 b2 b3 e1 e2 e3
      refine FC.of_run mix Tryz.func34 rfl rfl (by simp [Tryz.ntmps34]) ?_
      repeat' first
        | simp (maxSteps := 1000000) only [go_sem, Int.reduceLT, Int.reduceLE, Int.reduceToNat, Int.reduceEq, Nat.reduceMul, ↓reduceIte, Nat.reduceLT, Nat.reduceLeDiff, Nat.reduceEqDiff, Nat.reduceAdd, Nat.reduceSub, Nat.reduceBEq, reduceCtorEq, *]
        | contradiction
        | refine wntB_decT (fun _ => ?_) (fun _ => ?_)
        | refine wntB_decF (fun _ => ?_) (fun _ => ?_)
        | refine cndB_dec (fun _ => ?_) (fun _ => ?_)
        | refine drawnB_ok (by kernel_rfl) ?_
        | refine (kNext rfl) ?_
        | ((first | refine Fin.q ?_ ?_ | refine Fin.qn ?_ ?_) <;> ((try simp (maxSteps := 1000000) only [go_sem, Int.reduceLT, Int.reduceLE, Int.reduceToNat, Int.reduceEq, Nat.reduceMul, ↓reduceIte, Nat.reduceLT, Nat.reduceLeDiff, Nat.reduceEqDiff, Nat.reduceAdd, Nat.reduceSub, Nat.reduceBEq, reduceCtorEq, *]) <;> (skip)))
theorem kMeas {L : List Int} {a q : Nat} {H : Heap} (hH : hget H q = some [[V L, .int .i64 a]]) {slot : Nat} {K : D → List (Nat × Blk) → List (Nat × Blk) → Prop} (hK : K (.agg [.int .i64 (mkK L a), .int .i64 (mkB L a), .int .i64 (mkG L a)]) [(q, [[V L, .int .i64 (mkA L a)]])] [(q, [[V L, .int .i64 a]]), (q, [[V L, .int .i64 a]])]) (hL : L.length ≤ 1000 := by assumption) (ha : a ≤ 1000 := by first | assumption | (repeat' first | assumption | apply da_le)) : @callB ⟨callX Tryz.prog⟩ 34 [.ptr q 1 0 0, .int .i64 0] H slot ⟨K⟩ := by
  have e : rdOf H ([q] ++ D.idsL [.ptr q 1 0 0, .int .i64 0]) = [(q, [[V L, .int .i64 a]]), (q, [[V L, .int .i64 a]])] := by simp [D.idsL, D.ids, rdOf, hH]
  refine callX2 [q] (cMeas L a hL ha) (by simp) ?_ ?_ ⟨by simp, by simp⟩ (r' := .agg [.int .i64 (mkK L a), .int .i64 (mkB L a), .int .i64 (mkG L a)]) (outs' := [[[V L, .int .i64 (mkA L a)]]]) rfl ?_ ?_
  · simp [trL, tr, pos]
  · rw [e]; simp [insA, AH.look, trB, pureB, D.isPur]
  · simp [backB, trB, pureB, D.isPur]
  · rw [e]; exact hK
end TR

/- Schemes that are drawn. -/
open Go Go.Proofs Go.AH
set_option linter.unusedSimpArgs false
set_option linter.unusedVariables false
namespace TR
/-- What is drawn before the cuts. -/
structure Pre where
  k : Int
  b : Int
  g : Int
  pcs : Int
  at0 : Int
  step : Int
  cnt : Int
  a : Nat
def pre1 (L : List Int) (a : Nat) (len : Int) : Nat := da L (mkA L a) (min len 4)
def preS (L : List Int) (a : Nat) (len : Int) : Pre :=
  if mkK L a = 3 then
    (fun (q : Nat) => ⟨mkK L a, mkB L a, mkG L a, 1 + dv L (mkA L a) (min len 4), -60 + dv L q 20, 5 + dv L (da L q 20) 12, dv L (da L (da L q 20) 12) 16, da L (da L (da L q 20) 12) 16⟩) (da L (da L (pre1 L a len) 10) 4)
  else (fun (q : Nat) => ⟨mkK L a, mkB L a, mkG L a, 1 + dv L (mkA L a) (min len 4), -6 - dv L (pre1 L a len) 10, 1 + dv L (da L (pre1 L a len) 10) 4, dv L q 16, da L q 16⟩) (da L (da L (pre1 L a len) 10) 4)
structure PreOK (p : Pre) (len : Int) : Prop where
  m : mOK p.k p.b p.g
  p1 : 1 ≤ p.pcs
  p2 : p.pcs ≤ 4
  p3 : p.pcs ≤ len
  a1 : -60 ≤ p.at0
  a2 : p.at0 ≤ -6
  s1 : 1 ≤ p.step
  s2 : p.step ≤ 16
  c1 : 0 ≤ p.cnt
  c2 : p.cnt ≤ 15
  ha : p.a ≤ 1000
theorem pre_ok (L : List Int) (a : Nat) (len : Int) (h : 2 ≤ len) (hL : L.length ≤ 1000) (ha : a ≤ 1000) : PreOK (preS L a len) len := by
  have m := mk_ok L a
  have b1 := dv_lt L (mkA L a) (n := min len 4) (by omega)
  have q1 : pre1 L a len ≤ 1000 := da_le _ _ _ (mkA_le L a ha hL) hL
  unfold preS
  split
  · have q2 := da_le L _ 4 (da_le L _ 10 q1 hL) hL
    generalize da L (da L (pre1 L a len) 10) 4 = q at *
    have b2 := dv_lt L q (n := 20) (by decide)
    have b3 := dv_lt L (da L q 20) (n := 12) (by decide)
    have b4 := dv_lt L (da L (da L q 20) 12) (n := 16) (by decide)
    exact ⟨m, by simp only; omega, by simp only; omega, by simp only; omega, by simp only; omega, by simp only; omega, by simp only; omega, by simp only; omega, by simp only; omega, by simp only; omega, da_le _ _ _ (da_le _ _ _ (da_le _ _ _ q2 hL) hL) hL⟩
  · have b2 := dv_lt L (pre1 L a len) (n := 10) (by decide)
    have b3 := dv_lt L (da L (pre1 L a len) 10) (n := 4) (by decide)
    have q2 := da_le L _ 4 (da_le L _ 10 q1 hL) hL
    generalize da L (da L (pre1 L a len) 10) 4 = q at *
    have b4 := dv_lt L q (n := 16) (by decide)
    exact ⟨m, by simp only; omega, by simp only; omega, by simp only; omega, by simp only; omega, by simp only; omega, by simp only; omega, by simp only; omega, by simp only; omega, by simp only; omega, da_le _ _ _ q2 hL⟩
/-- The places in the deck, and the cuts. -/
def posC (L : List Int) (st : Int) (a : Nat) : Nat → Nat
  | 0 => a
  | j + 1 => da L (posC L st a j) (2 * st)
def cutC (L : List Int) (st : Int) (a : Nat) (t : Int) : Nat → Int
  | 0 => t
  | j + 1 => cutC L st a t j + 1 + dv L (posC L st a j) (2 * st)
theorem posC_le (L : List Int) (st : Int) (a : Nat) (h : a ≤ 1000) (hL : L.length ≤ 1000) : ∀ j, posC L st a j ≤ 1000
  | 0 => h
  | j + 1 => da_le _ _ _ (posC_le L st a h hL j) hL
theorem cutC_bnd (L : List Int) (st : Int) (a : Nat) (t : Int) (h1 : 1 ≤ st) (h2 : st ≤ 16) : ∀ j, t ≤ cutC L st a t j ∧ cutC L st a t j ≤ t + 32 * j
  | 0 => by simp [cutC]
  | j + 1 => by
    have := cutC_bnd L st a t h1 h2 j
    have := dv_lt L (posC L st a j) (n := 2 * st) (by omega)
    simp only [cutC]
    omega
def scOf (L : List Int) (p : Pre) (len : Int) : Sc := ⟨p.k, p.b, p.g, len, p.pcs, rangeF (cutC L p.step p.a p.at0) p.cnt.toNat⟩
theorem scOf_ok {L : List Int} {p : Pre} {len : Int} (h : PreOK p len) (h2 : 2 ≤ len) (h3 : len ≤ 32) : (scOf L p len).ok := by
  obtain ⟨m, p1, p2, p3, a1, a2, s1, s2, c1, c2, ha⟩ := h
  refine ⟨⟨m, h2, h3, p1, by show p.pcs ≤ 8; omega, p3, by simp only [scOf, rangeF_len]; omega⟩, fun i hi => ?_⟩
  simp only [scOf, rangeF_len] at hi
  unfold cutOK
  simp only [scOf]
  rw [rangeF_get _ hi]
  have := cutC_bnd L p.step p.a p.at0 s1 s2 i
  refine ⟨by omega, by omega, fun h0 => ?_⟩
  rw [rangeF_get _ (by omega)]
  obtain ⟨j, rfl⟩ : ∃ j, i = j + 1 := ⟨i - 1, by omega⟩
  have := dv_lt L (posC L p.step p.a j) (n := 2 * p.step) (by omega)
  simp only [cutC, Nat.add_sub_cancel]
  omega
def stSc (L : List Int) (p : Pre) (len : Int) : Nat → St
  | 0 => ⟨54, [(8, .int .i64 p.cnt), (6, .int .i64 p.at0), (7, .int .i64 p.step), (5, .ptr 26 1 0 0), (4, .ptr 1 1 0 0), (0, .ptr 0 1 0 0)], [some [[V L, .int .i64 p.a]], some [[.int .i64 0, .int .i64 0, .int .i64 0, .int .i64 0, .int .i64 0, .zs]], none, none, none, none, none, none, none, none, none, none, none, none, none, none, none, none, none, none, none, none, none, none, none, none, some [[.int .i64 p.k, .int .i64 p.b, .int .i64 p.g, .int .i64 len, .int .i64 p.pcs, .zs]]]⟩
  | j + 1 => ⟨54, [(8, .int .i64 (p.cnt - ((j + 1 : Nat) : Int))), (6, .int .i64 (cutC L p.step p.a p.at0 (j + 1))), (7, .int .i64 p.step), (5, .ptr 26 1 0 0), (4, .ptr 1 1 0 0), (0, .ptr 0 1 0 0)], [some [[V L, .int .i64 (posC L p.step p.a (j + 1))]], some [[.int .i64 0, .int .i64 0, .int .i64 0, .int .i64 0, .int .i64 0, .zs]], none, none, none, none, none, none, none, none, none, none, none, none, none, none, none, none, none, none, none, none, none, none, none, none, some [[.int .i64 p.k, .int .i64 p.b, .int .i64 p.g, .int .i64 len, .int .i64 p.pcs, .rs 1 28 0 (j + 1) (j + 1)]], none, some (ints (rangeF (cutC L p.step p.a p.at0) (j + 1)))]⟩
set_option maxHeartbeats 4000000 in
set_option maxRecDepth 20000 in
theorem cSch (L : List Int) (a : Nat) (len : Int) (h2 : 2 ≤ len) (h32 : len ≤ 32) (hL : L.length ≤ 1000) (ha : a ≤ 1000) (p : Pre) (hpe : preS L a len = p) : FC Tryz.prog 11 [.ptr 0 1 0 0, .int .i64 len] [[[V L, .int .i64 a]]] (.agg (scOf L p len).row) [[[V L, .int .i64 (posC L p.step p.a p.cnt.toNat)]]] := by
  have hp := pre_ok L a len h2 hL ha
  rw [hpe] at hp
  have b1 := dv_lt L (mkA L a) (n := min len 4) (by omega)
  have hm : (if 4 < len then 4 else len) = min len 4 := by omega
  have hn : min len 4 < 1000000 := by omega
  have hmk := mkA_le L a ha hL
  have w1 : IntKind.i64.wrap (1 + dv L (mkA L a) (min len 4)) = 1 + dv L (mkA L a) (min len 4) := by rw [wrapS] <;> omega
  have hp1 : da L (mkA L a) (min len 4) = pre1 L a len := rfl
  have hq1 : pre1 L a len ≤ 1000 := da_le _ _ _ hmk hL
  clear b1
  by_cases h3 : mkK L a = 3
  · have hpx : p = ⟨mkK L a, mkB L a, mkG L a, 1 + dv L (mkA L a) (min len 4), -60 + dv L (da L (da L (pre1 L a len) 10) 4) 20, 5 + dv L (da L (da L (da L (pre1 L a len) 10) 4) 20) 12, dv L (da L (da L (da L (da L (pre1 L a len) 10) 4) 20) 12) 16, da L (da L (da L (da L (da L (pre1 L a len) 10) 4) 20) 12) 16⟩ := by rw [← hpe]; unfold preS; rw [if_pos h3]
    have q1 : p.k = mkK L a := by rw [hpx]
    have q2 : p.b = mkB L a := by rw [hpx]
    have q3 : p.g = mkG L a := by rw [hpx]
    have q4 : p.pcs = 1 + dv L (mkA L a) (min len 4) := by rw [hpx]
    have q5 : p.at0 = -60 + dv L (da L (da L (pre1 L a len) 10) 4) 20 := by rw [hpx]
    have q6 : p.step = 5 + dv L (da L (da L (da L (pre1 L a len) 10) 4) 20) 12 := by rw [hpx]
    have q7 : p.cnt = dv L (da L (da L (da L (da L (pre1 L a len) 10) 4) 20) 12) 16 := by rw [hpx]
    have q8 : p.a = da L (da L (da L (da L (da L (pre1 L a len) 10) 4) 20) 12) 16 := by rw [hpx]
    have c2 := dv_lt L (da L (da L (pre1 L a len) 10) 4) (n := 20) (by decide)
    have c3 := dv_lt L (da L (da L (da L (pre1 L a len) 10) 4) 20) (n := 12) (by decide)
    have u1 : IntKind.i64.wrap (-60 + dv L (da L (da L (pre1 L a len) 10) 4) 20) = -60 + dv L (da L (da L (pre1 L a len) 10) 4) 20 := by rw [wrapS] <;> omega
    have u2 : IntKind.i64.wrap (5 + dv L (da L (da L (da L (pre1 L a len) 10) 4) 20) 12) = 5 + dv L (da L (da L (da L (pre1 L a len) 10) 4) 20) 12 := by rw [wrapS] <;> omega
    have u3 := w1
    clear hpx hpe c2 c3
    refine FC.of_run mix Tryz.func11 rfl rfl (by simp [Tryz.ntmps11]) ?_
    repeat' first
      | simp (maxSteps := 1000000) only [go_sem, Int.reduceLT, Int.reduceLE, Int.reduceToNat, Int.reduceEq, Nat.reduceMul, ↓reduceIte, Nat.reduceLT, Nat.reduceLeDiff, Nat.reduceEqDiff, Nat.reduceAdd, Nat.reduceSub, Nat.reduceBEq, reduceCtorEq, *]
      | contradiction
      | refine wntB_decT (fun _ => ?_) (fun _ => ?_)
      | refine wntB_decF (fun _ => ?_) (fun _ => ?_)
      | refine cndB_dec (fun _ => ?_) (fun _ => ?_)
      | refine drawnB_ok (by kernel_rfl) ?_
      | refine (kNext rfl) ?_
      | refine (kMeas rfl) ?_
      | ((first | refine Fin.q ?_ ?_ | refine Fin.qn ?_ ?_) <;> ((try simp (maxSteps := 1000000) only [go_sem, Int.reduceLT, Int.reduceLE, Int.reduceToNat, Int.reduceEq, Nat.reduceMul, ↓reduceIte, Nat.reduceLT, Nat.reduceLeDiff, Nat.reduceEqDiff, Nat.reduceAdd, Nat.reduceSub, Nat.reduceBEq, reduceCtorEq, *]) <;> (skip)))
    refine AW.loopx (σ := Nat) mix (stSc L p len) (fun j => (j : Int) ≤ p.cnt) (fun j => p.cnt.toNat - j) 0 hp.c1 (Conv.mk ?_ ?_ ?_ ?_ ?_) ?_
    iterate 5 (· simp (maxSteps := 1000000) only [go_sem, Int.reduceLT, Int.reduceLE, Int.reduceToNat, Int.reduceEq, Nat.reduceMul, ↓reduceIte, Nat.reduceLT, Nat.reduceLeDiff, Nat.reduceEqDiff, Nat.reduceAdd, Nat.reduceSub, Nat.reduceBEq, reduceCtorEq, stSc, q1, q2, q3, q4, q5, q6, q7, q8, u1, u2, u3, h3])
    clear q1 q2 q3 q4 q5 q6 q7 q8 u1 u2 u3
    intro j hj
    obtain ⟨_, _, _, _, a1, a2, s1, s2, c1, c2, hpa⟩ := hp
    have hC : j + 1 ≤ capMax := by unfold capMax; omega
    have hC2 : j + 1 + 1 ≤ capMax := by unfold capMax; omega
    have hpos := posC_le L p.step p.a hpa hL j
    have hb := cutC_bnd L p.step p.a p.at0 s1 s2 j
    have hd := dv_lt L (posC L p.step p.a j) (n := 2 * p.step) (by omega)
    have ws : IntKind.i64.wrap (2 * p.step) = 2 * p.step := by rw [wrapS] <;> omega
    have wc1 : IntKind.i64.wrap (cutC L p.step p.a p.at0 j + 1) = cutC L p.step p.a p.at0 j + 1 := by rw [wrapS] <;> omega
    have wc2 : IntKind.i64.wrap (cutC L p.step p.a p.at0 j + 1 + dv L (posC L p.step p.a j) (2 * p.step)) = cutC L p.step p.a p.at0 (j + 1) := by rw [wrapS] <;> (try simp only [cutC]) <;> omega
    have hn2 : 2 * p.step < 1000000 := by omega
    have hpp : da L (posC L p.step p.a j) (2 * p.step) = posC L p.step p.a (j + 1) := rfl
    rcases j with _ | j
    · have z1 : cutC L p.step p.a p.at0 0 = p.at0 := rfl
      have z2 : posC L p.step p.a 0 = p.a := rfl
      rw [z1] at wc1 wc2
      rw [z2] at wc2 hpp hpos
      have zf : [[D.int .i64 p.at0]] = ints (rangeF (cutC L p.step p.a p.at0) 1) := rfl
      by_cases h : 0 < p.cnt
      · have hw : IntKind.i64.wrap (p.cnt - 1) = p.cnt - ((0 + 1 : Nat) : Int) := by rw [wrapS] <;> omega
        clear hb hd z1 z2
        simp only [stSc]
        repeat' first
          | (refine ⟨1, ?_, ?_, Conv.mk ?_ ?_ ?_ ?_ ?_⟩; (· (first | omega | (simp only; omega) | (simp only [List.length_nil, List.length_cons]; omega))); (· (omega)); (all_goals simp (maxSteps := 1000000) only [go_sem, Int.reduceLT, Int.reduceLE, Int.reduceToNat, Int.reduceEq, Nat.reduceMul, ↓reduceIte, Nat.reduceLT, Nat.reduceLeDiff, Nat.reduceEqDiff, Nat.reduceAdd, Nat.reduceSub, Nat.reduceBEq, reduceCtorEq, *, stSc, Nat.zero_add, List.length_singleton, List.isEmpty_cons, List.length_cons, List.length_nil]); done)
          | simp (maxSteps := 1000000) only [go_sem, Int.reduceLT, Int.reduceLE, Int.reduceToNat, Int.reduceEq, Nat.reduceMul, ↓reduceIte, Nat.reduceLT, Nat.reduceLeDiff, Nat.reduceEqDiff, Nat.reduceAdd, Nat.reduceSub, Nat.reduceBEq, reduceCtorEq, *, stSc, Nat.zero_add, List.length_singleton, List.isEmpty_cons, List.length_cons, List.length_nil]
          | contradiction
          | refine wntB_decT (fun _ => ?_) (fun _ => ?_)
          | refine wntB_decF (fun _ => ?_) (fun _ => ?_)
          | refine cndB_dec (fun _ => ?_) (fun _ => ?_)
          | refine drawnB_ok (by kernel_rfl) ?_
          | refine (kNext rfl) ?_
          | ((first | refine Fin.q ?_ ?_ | refine Fin.qn ?_ ?_) <;> ((try simp (maxSteps := 1000000) only [go_sem, Int.reduceLT, Int.reduceLE, Int.reduceToNat, Int.reduceEq, Nat.reduceMul, ↓reduceIte, Nat.reduceLT, Nat.reduceLeDiff, Nat.reduceEqDiff, Nat.reduceAdd, Nat.reduceSub, Nat.reduceBEq, reduceCtorEq, *, stSc, Nat.zero_add, List.length_singleton, List.isEmpty_cons, List.length_cons, List.length_nil]) <;> (skip)))
      · have hz : p.cnt = 0 := by omega
        have e1 : scOf L p len = ⟨p.k, p.b, p.g, len, p.pcs, []⟩ := by unfold scOf; rw [hz]; rfl
        have e2 : posC L p.step p.a p.cnt.toNat = p.a := by rw [hz]; rfl
        rw [e1, e2]
        clear hb hd z1 z2 e1 e2
        simp only [stSc]
        repeat' first
          | simp (maxSteps := 1000000) only [go_sem, Int.reduceLT, Int.reduceLE, Int.reduceToNat, Int.reduceEq, Nat.reduceMul, ↓reduceIte, Nat.reduceLT, Nat.reduceLeDiff, Nat.reduceEqDiff, Nat.reduceAdd, Nat.reduceSub, Nat.reduceBEq, reduceCtorEq, *]
          | contradiction
          | refine wntB_decT (fun _ => ?_) (fun _ => ?_)
          | refine wntB_decF (fun _ => ?_) (fun _ => ?_)
          | refine cndB_dec (fun _ => ?_) (fun _ => ?_)
          | refine drawnB_ok (by kernel_rfl) ?_
          | ((first | refine Fin.q ?_ ?_ | refine Fin.qn ?_ ?_) <;> ((try simp (maxSteps := 1000000) only [go_sem, Int.reduceLT, Int.reduceLE, Int.reduceToNat, Int.reduceEq, Nat.reduceMul, ↓reduceIte, Nat.reduceLT, Nat.reduceLeDiff, Nat.reduceEqDiff, Nat.reduceAdd, Nat.reduceSub, Nat.reduceBEq, reduceCtorEq, *]) <;> (first | done | rfl)))
    · by_cases h : ((j + 1 : Nat) : Int) < p.cnt
      · have hw : IntKind.i64.wrap (p.cnt - ((j + 1 : Nat) : Int) - 1) = p.cnt - ((j + 1 + 1 : Nat) : Int) := by rw [wrapS] <;> omega
        have hlt : (0 < p.cnt - ((j + 1 : Nat) : Int)) = True := by simp only [eq_iff_iff, iff_true]; omega
        clear hb hd
        simp only [stSc]
        repeat' first
          | (refine ⟨j + 1 + 1, ?_, ?_, Conv.mk ?_ ?_ ?_ ?_ ?_⟩; (· (first | omega | (simp only; omega) | (simp only [List.length_nil, List.length_cons]; omega))); (· (omega)); (all_goals simp (maxSteps := 1000000) only [go_sem, Int.reduceLT, Int.reduceLE, Int.reduceToNat, Int.reduceEq, Nat.reduceMul, ↓reduceIte, Nat.reduceLT, Nat.reduceLeDiff, Nat.reduceEqDiff, Nat.reduceAdd, Nat.reduceSub, Nat.reduceBEq, reduceCtorEq, *, stSc, snocF, rangeF_len, takeF, no_succ_le, Nat.zero_add, List.isEmpty_cons, List.length_cons, List.length_nil, List.drop_zero, eq_self]); done)
          | simp (maxSteps := 1000000) only [go_sem, Int.reduceLT, Int.reduceLE, Int.reduceToNat, Int.reduceEq, Nat.reduceMul, ↓reduceIte, Nat.reduceLT, Nat.reduceLeDiff, Nat.reduceEqDiff, Nat.reduceAdd, Nat.reduceSub, Nat.reduceBEq, reduceCtorEq, *, stSc, snocF, rangeF_len, takeF, no_succ_le, Nat.zero_add, List.isEmpty_cons, List.length_cons, List.length_nil, List.drop_zero, eq_self]
          | contradiction
          | refine wntB_decT (fun _ => ?_) (fun _ => ?_)
          | refine wntB_decF (fun _ => ?_) (fun _ => ?_)
          | refine cndB_dec (fun _ => ?_) (fun _ => ?_)
          | refine drawnB_ok (by kernel_rfl) ?_
          | refine (kNext rfl) ?_
          | ((first | refine Fin.q ?_ ?_ | refine Fin.qn ?_ ?_) <;> ((try simp (maxSteps := 1000000) only [go_sem, Int.reduceLT, Int.reduceLE, Int.reduceToNat, Int.reduceEq, Nat.reduceMul, ↓reduceIte, Nat.reduceLT, Nat.reduceLeDiff, Nat.reduceEqDiff, Nat.reduceAdd, Nat.reduceSub, Nat.reduceBEq, reduceCtorEq, *, stSc, snocF, rangeF_len, takeF, no_succ_le, Nat.zero_add, List.isEmpty_cons, List.length_cons, List.length_nil, List.drop_zero, eq_self]) <;> (skip)))
      · have hz : p.cnt.toNat = j + 1 := by omega
        have hlt : (0 < p.cnt - ((j + 1 : Nat) : Int)) = False := by simp only [eq_iff_iff, iff_false]; omega
        have e1 : scOf L p len = ⟨p.k, p.b, p.g, len, p.pcs, rangeF (cutC L p.step p.a p.at0) (j + 1)⟩ := by unfold scOf; rw [hz]
        rw [e1, hz]
        clear hb hd e1 hz
        simp only [stSc]
        repeat' first
          | simp (maxSteps := 1000000) only [go_sem, Int.reduceLT, Int.reduceLE, Int.reduceToNat, Int.reduceEq, Nat.reduceMul, ↓reduceIte, Nat.reduceLT, Nat.reduceLeDiff, Nat.reduceEqDiff, Nat.reduceAdd, Nat.reduceSub, Nat.reduceBEq, reduceCtorEq, *, rangeF_len, takeF, List.drop_zero, Nat.zero_add, eq_self, no_succ_le, Nat.lt_irrefl]
          | contradiction
          | refine wntB_decT (fun _ => ?_) (fun _ => ?_)
          | refine wntB_decF (fun _ => ?_) (fun _ => ?_)
          | refine cndB_dec (fun _ => ?_) (fun _ => ?_)
          | refine drawnB_ok (by kernel_rfl) ?_
          | ((first | refine Fin.q ?_ ?_ | refine Fin.qn ?_ ?_) <;> ((try simp (maxSteps := 1000000) only [go_sem, Int.reduceLT, Int.reduceLE, Int.reduceToNat, Int.reduceEq, Nat.reduceMul, ↓reduceIte, Nat.reduceLT, Nat.reduceLeDiff, Nat.reduceEqDiff, Nat.reduceAdd, Nat.reduceSub, Nat.reduceBEq, reduceCtorEq, *, rangeF_len, takeF, List.drop_zero, Nat.zero_add, eq_self, no_succ_le, Nat.lt_irrefl]) <;> (skip)))
  · have hpx : p = ⟨mkK L a, mkB L a, mkG L a, 1 + dv L (mkA L a) (min len 4), -6 - dv L (pre1 L a len) 10, 1 + dv L (da L (pre1 L a len) 10) 4, dv L (da L (da L (pre1 L a len) 10) 4) 16, da L (da L (da L (pre1 L a len) 10) 4) 16⟩ := by rw [← hpe]; unfold preS; rw [if_neg h3]
    have q1 : p.k = mkK L a := by rw [hpx]
    have q2 : p.b = mkB L a := by rw [hpx]
    have q3 : p.g = mkG L a := by rw [hpx]
    have q4 : p.pcs = 1 + dv L (mkA L a) (min len 4) := by rw [hpx]
    have q5 : p.at0 = -6 - dv L (pre1 L a len) 10 := by rw [hpx]
    have q6 : p.step = 1 + dv L (da L (pre1 L a len) 10) 4 := by rw [hpx]
    have q7 : p.cnt = dv L (da L (da L (pre1 L a len) 10) 4) 16 := by rw [hpx]
    have q8 : p.a = da L (da L (da L (pre1 L a len) 10) 4) 16 := by rw [hpx]
    have c2 := dv_lt L (pre1 L a len) (n := 10) (by decide)
    have c3 := dv_lt L (da L (pre1 L a len) 10) (n := 4) (by decide)
    have u1 : IntKind.i64.wrap (-6 - dv L (pre1 L a len) 10) = -6 - dv L (pre1 L a len) 10 := by rw [wrapS] <;> omega
    have u2 : IntKind.i64.wrap (1 + dv L (da L (pre1 L a len) 10) 4) = 1 + dv L (da L (pre1 L a len) 10) 4 := by rw [wrapS] <;> omega
    have u3 := w1
    clear hpx hpe c2 c3
    refine FC.of_run mix Tryz.func11 rfl rfl (by simp [Tryz.ntmps11]) ?_
    repeat' first
      | simp (maxSteps := 1000000) only [go_sem, Int.reduceLT, Int.reduceLE, Int.reduceToNat, Int.reduceEq, Nat.reduceMul, ↓reduceIte, Nat.reduceLT, Nat.reduceLeDiff, Nat.reduceEqDiff, Nat.reduceAdd, Nat.reduceSub, Nat.reduceBEq, reduceCtorEq, *]
      | contradiction
      | refine wntB_decT (fun _ => ?_) (fun _ => ?_)
      | refine wntB_decF (fun _ => ?_) (fun _ => ?_)
      | refine cndB_dec (fun _ => ?_) (fun _ => ?_)
      | refine drawnB_ok (by kernel_rfl) ?_
      | refine (kNext rfl) ?_
      | refine (kMeas rfl) ?_
      | ((first | refine Fin.q ?_ ?_ | refine Fin.qn ?_ ?_) <;> ((try simp (maxSteps := 1000000) only [go_sem, Int.reduceLT, Int.reduceLE, Int.reduceToNat, Int.reduceEq, Nat.reduceMul, ↓reduceIte, Nat.reduceLT, Nat.reduceLeDiff, Nat.reduceEqDiff, Nat.reduceAdd, Nat.reduceSub, Nat.reduceBEq, reduceCtorEq, *]) <;> (skip)))
    refine AW.loopx (σ := Nat) mix (stSc L p len) (fun j => (j : Int) ≤ p.cnt) (fun j => p.cnt.toNat - j) 0 hp.c1 (Conv.mk ?_ ?_ ?_ ?_ ?_) ?_
    iterate 5 (· simp (maxSteps := 1000000) only [go_sem, Int.reduceLT, Int.reduceLE, Int.reduceToNat, Int.reduceEq, Nat.reduceMul, ↓reduceIte, Nat.reduceLT, Nat.reduceLeDiff, Nat.reduceEqDiff, Nat.reduceAdd, Nat.reduceSub, Nat.reduceBEq, reduceCtorEq, stSc, q1, q2, q3, q4, q5, q6, q7, q8, u1, u2, u3])
    clear q1 q2 q3 q4 q5 q6 q7 q8 u1 u2 u3
    intro j hj
    obtain ⟨_, _, _, _, a1, a2, s1, s2, c1, c2, hpa⟩ := hp
    have hC : j + 1 ≤ capMax := by unfold capMax; omega
    have hC2 : j + 1 + 1 ≤ capMax := by unfold capMax; omega
    have hpos := posC_le L p.step p.a hpa hL j
    have hb := cutC_bnd L p.step p.a p.at0 s1 s2 j
    have hd := dv_lt L (posC L p.step p.a j) (n := 2 * p.step) (by omega)
    have ws : IntKind.i64.wrap (2 * p.step) = 2 * p.step := by rw [wrapS] <;> omega
    have wc1 : IntKind.i64.wrap (cutC L p.step p.a p.at0 j + 1) = cutC L p.step p.a p.at0 j + 1 := by rw [wrapS] <;> omega
    have wc2 : IntKind.i64.wrap (cutC L p.step p.a p.at0 j + 1 + dv L (posC L p.step p.a j) (2 * p.step)) = cutC L p.step p.a p.at0 (j + 1) := by rw [wrapS] <;> (try simp only [cutC]) <;> omega
    have hn2 : 2 * p.step < 1000000 := by omega
    have hpp : da L (posC L p.step p.a j) (2 * p.step) = posC L p.step p.a (j + 1) := rfl
    rcases j with _ | j
    · have z1 : cutC L p.step p.a p.at0 0 = p.at0 := rfl
      have z2 : posC L p.step p.a 0 = p.a := rfl
      rw [z1] at wc1 wc2
      rw [z2] at wc2 hpp hpos
      have zf : [[D.int .i64 p.at0]] = ints (rangeF (cutC L p.step p.a p.at0) 1) := rfl
      by_cases h : 0 < p.cnt
      · have hw : IntKind.i64.wrap (p.cnt - 1) = p.cnt - ((0 + 1 : Nat) : Int) := by rw [wrapS] <;> omega
        clear hb hd z1 z2
        simp only [stSc]
        repeat' first
          | (refine ⟨1, ?_, ?_, Conv.mk ?_ ?_ ?_ ?_ ?_⟩; (· (first | omega | (simp only; omega) | (simp only [List.length_nil, List.length_cons]; omega))); (· (omega)); (all_goals simp (maxSteps := 1000000) only [go_sem, Int.reduceLT, Int.reduceLE, Int.reduceToNat, Int.reduceEq, Nat.reduceMul, ↓reduceIte, Nat.reduceLT, Nat.reduceLeDiff, Nat.reduceEqDiff, Nat.reduceAdd, Nat.reduceSub, Nat.reduceBEq, reduceCtorEq, *, stSc, Nat.zero_add, List.length_singleton, List.isEmpty_cons, List.length_cons, List.length_nil]); done)
          | simp (maxSteps := 1000000) only [go_sem, Int.reduceLT, Int.reduceLE, Int.reduceToNat, Int.reduceEq, Nat.reduceMul, ↓reduceIte, Nat.reduceLT, Nat.reduceLeDiff, Nat.reduceEqDiff, Nat.reduceAdd, Nat.reduceSub, Nat.reduceBEq, reduceCtorEq, *, stSc, Nat.zero_add, List.length_singleton, List.isEmpty_cons, List.length_cons, List.length_nil]
          | contradiction
          | refine wntB_decT (fun _ => ?_) (fun _ => ?_)
          | refine wntB_decF (fun _ => ?_) (fun _ => ?_)
          | refine cndB_dec (fun _ => ?_) (fun _ => ?_)
          | refine drawnB_ok (by kernel_rfl) ?_
          | refine (kNext rfl) ?_
          | ((first | refine Fin.q ?_ ?_ | refine Fin.qn ?_ ?_) <;> ((try simp (maxSteps := 1000000) only [go_sem, Int.reduceLT, Int.reduceLE, Int.reduceToNat, Int.reduceEq, Nat.reduceMul, ↓reduceIte, Nat.reduceLT, Nat.reduceLeDiff, Nat.reduceEqDiff, Nat.reduceAdd, Nat.reduceSub, Nat.reduceBEq, reduceCtorEq, *, stSc, Nat.zero_add, List.length_singleton, List.isEmpty_cons, List.length_cons, List.length_nil]) <;> (skip)))
      · have hz : p.cnt = 0 := by omega
        have e1 : scOf L p len = ⟨p.k, p.b, p.g, len, p.pcs, []⟩ := by unfold scOf; rw [hz]; rfl
        have e2 : posC L p.step p.a p.cnt.toNat = p.a := by rw [hz]; rfl
        rw [e1, e2]
        clear hb hd z1 z2 e1 e2
        simp only [stSc]
        repeat' first
          | simp (maxSteps := 1000000) only [go_sem, Int.reduceLT, Int.reduceLE, Int.reduceToNat, Int.reduceEq, Nat.reduceMul, ↓reduceIte, Nat.reduceLT, Nat.reduceLeDiff, Nat.reduceEqDiff, Nat.reduceAdd, Nat.reduceSub, Nat.reduceBEq, reduceCtorEq, *]
          | contradiction
          | refine wntB_decT (fun _ => ?_) (fun _ => ?_)
          | refine wntB_decF (fun _ => ?_) (fun _ => ?_)
          | refine cndB_dec (fun _ => ?_) (fun _ => ?_)
          | refine drawnB_ok (by kernel_rfl) ?_
          | ((first | refine Fin.q ?_ ?_ | refine Fin.qn ?_ ?_) <;> ((try simp (maxSteps := 1000000) only [go_sem, Int.reduceLT, Int.reduceLE, Int.reduceToNat, Int.reduceEq, Nat.reduceMul, ↓reduceIte, Nat.reduceLT, Nat.reduceLeDiff, Nat.reduceEqDiff, Nat.reduceAdd, Nat.reduceSub, Nat.reduceBEq, reduceCtorEq, *]) <;> (first | done | rfl)))
    · by_cases h : ((j + 1 : Nat) : Int) < p.cnt
      · have hw : IntKind.i64.wrap (p.cnt - ((j + 1 : Nat) : Int) - 1) = p.cnt - ((j + 1 + 1 : Nat) : Int) := by rw [wrapS] <;> omega
        have hlt : (0 < p.cnt - ((j + 1 : Nat) : Int)) = True := by simp only [eq_iff_iff, iff_true]; omega
        clear hb hd
        simp only [stSc]
        repeat' first
          | (refine ⟨j + 1 + 1, ?_, ?_, Conv.mk ?_ ?_ ?_ ?_ ?_⟩; (· (first | omega | (simp only; omega) | (simp only [List.length_nil, List.length_cons]; omega))); (· (omega)); (all_goals simp (maxSteps := 1000000) only [go_sem, Int.reduceLT, Int.reduceLE, Int.reduceToNat, Int.reduceEq, Nat.reduceMul, ↓reduceIte, Nat.reduceLT, Nat.reduceLeDiff, Nat.reduceEqDiff, Nat.reduceAdd, Nat.reduceSub, Nat.reduceBEq, reduceCtorEq, *, stSc, snocF, rangeF_len, takeF, no_succ_le, Nat.zero_add, List.isEmpty_cons, List.length_cons, List.length_nil, List.drop_zero, eq_self]); done)
          | simp (maxSteps := 1000000) only [go_sem, Int.reduceLT, Int.reduceLE, Int.reduceToNat, Int.reduceEq, Nat.reduceMul, ↓reduceIte, Nat.reduceLT, Nat.reduceLeDiff, Nat.reduceEqDiff, Nat.reduceAdd, Nat.reduceSub, Nat.reduceBEq, reduceCtorEq, *, stSc, snocF, rangeF_len, takeF, no_succ_le, Nat.zero_add, List.isEmpty_cons, List.length_cons, List.length_nil, List.drop_zero, eq_self]
          | contradiction
          | refine wntB_decT (fun _ => ?_) (fun _ => ?_)
          | refine wntB_decF (fun _ => ?_) (fun _ => ?_)
          | refine cndB_dec (fun _ => ?_) (fun _ => ?_)
          | refine drawnB_ok (by kernel_rfl) ?_
          | refine (kNext rfl) ?_
          | ((first | refine Fin.q ?_ ?_ | refine Fin.qn ?_ ?_) <;> ((try simp (maxSteps := 1000000) only [go_sem, Int.reduceLT, Int.reduceLE, Int.reduceToNat, Int.reduceEq, Nat.reduceMul, ↓reduceIte, Nat.reduceLT, Nat.reduceLeDiff, Nat.reduceEqDiff, Nat.reduceAdd, Nat.reduceSub, Nat.reduceBEq, reduceCtorEq, *, stSc, snocF, rangeF_len, takeF, no_succ_le, Nat.zero_add, List.isEmpty_cons, List.length_cons, List.length_nil, List.drop_zero, eq_self]) <;> (skip)))
      · have hz : p.cnt.toNat = j + 1 := by omega
        have hlt : (0 < p.cnt - ((j + 1 : Nat) : Int)) = False := by simp only [eq_iff_iff, iff_false]; omega
        have e1 : scOf L p len = ⟨p.k, p.b, p.g, len, p.pcs, rangeF (cutC L p.step p.a p.at0) (j + 1)⟩ := by unfold scOf; rw [hz]
        rw [e1, hz]
        clear hb hd e1 hz
        simp only [stSc]
        repeat' first
          | simp (maxSteps := 1000000) only [go_sem, Int.reduceLT, Int.reduceLE, Int.reduceToNat, Int.reduceEq, Nat.reduceMul, ↓reduceIte, Nat.reduceLT, Nat.reduceLeDiff, Nat.reduceEqDiff, Nat.reduceAdd, Nat.reduceSub, Nat.reduceBEq, reduceCtorEq, *, rangeF_len, takeF, List.drop_zero, Nat.zero_add, eq_self, no_succ_le, Nat.lt_irrefl]
          | contradiction
          | refine wntB_decT (fun _ => ?_) (fun _ => ?_)
          | refine wntB_decF (fun _ => ?_) (fun _ => ?_)
          | refine cndB_dec (fun _ => ?_) (fun _ => ?_)
          | refine drawnB_ok (by kernel_rfl) ?_
          | ((first | refine Fin.q ?_ ?_ | refine Fin.qn ?_ ?_) <;> ((try simp (maxSteps := 1000000) only [go_sem, Int.reduceLT, Int.reduceLE, Int.reduceToNat, Int.reduceEq, Nat.reduceMul, ↓reduceIte, Nat.reduceLT, Nat.reduceLeDiff, Nat.reduceEqDiff, Nat.reduceAdd, Nat.reduceSub, Nat.reduceBEq, reduceCtorEq, *, rangeF_len, takeF, List.drop_zero, Nat.zero_add, eq_self, no_succ_le, Nat.lt_irrefl]) <;> (skip)))
theorem kSch {L : List Int} {a q : Nat} {len : Int} {H : Heap} (hH : hget H q = some [[V L, .int .i64 a]]) {slot : Nat} {K : D → List (Nat × Blk) → List (Nat × Blk) → Prop} (p : Pre) (hpe : preS L a len = p) (hK : K (.agg (scOf L p len).row) [(q, [[V L, .int .i64 (posC L p.step p.a p.cnt.toNat)]])] [(q, [[V L, .int .i64 a]]), (q, [[V L, .int .i64 a]])]) (hL : L.length ≤ 1000 := by assumption) (ha : a ≤ 1000 := by first | assumption | (repeat' first | assumption | apply da_le)) (h2 : 2 ≤ len := by first | assumption | omega) (h32 : len ≤ 32 := by first | assumption | omega) : @callB ⟨callX Tryz.prog⟩ 11 [.ptr q 1 0 0, .int .i64 len] H slot ⟨K⟩ := by
  have e : rdOf H ([q] ++ D.idsL [.ptr q 1 0 0, .int .i64 len]) = [(q, [[V L, .int .i64 a]]), (q, [[V L, .int .i64 a]])] := by simp [D.idsL, D.ids, rdOf, hH]
  refine callX2 [q] (cSch L a len h2 h32 hL ha p hpe) (by simp) ?_ ?_ ⟨by simp, by simp⟩ (r' := .agg (scOf L p len).row) (outs' := [[[V L, .int .i64 (posC L p.step p.a p.cnt.toNat)]]]) rfl ?_ ?_
  · simp [trL, tr, pos]
  · rw [e]; simp [insA, AH.look, trB, pureB, D.isPur]
  · simp [backB, trB, pureB, D.isPur, Sc.row, V]
  · rw [e]; exact hK
end TR


/- The tree walked: part b. -/
import Derived.Test.YtmhkanhgmfolhaaGreatTa
import Derived.Test.YtmhkanhgmfolhaaGreatAhWeak
/- Words and entries compared. -/
open Go Go.Proofs Go.AH
set_option linter.unusedSimpArgs false
set_option linter.unusedVariables false
namespace TR
def Wd.fok (s : Sc) (w : Wd) : Prop := w.ok s ∧ w.full
instance (s : Sc) (w : Wd) : Decidable (w.fok s) := by unfold Wd.fok; infer_instance
def wcmp (s : Sc) (a b : Wd) : Int := if a.fok s ∧ b.fok s then cmp3 (shuf a.s) (shuf b.s) else 0
theorem fok_syms {s : Sc} {w : Wd} (h : w.ok s) (hf : w.full) : symsOK w.s := by
  obtain ⟨h8, hl, _⟩ := len8 h
  refine ⟨by omega, fun i hi => ?_⟩
  have h1 := h.2.2.2 i (by omega)
  have h2 := hf i (by omega)
  unfold bitOK at h1
  rw [h2] at h1
  exact ⟨h1.2.2.1, by simpa using h1.2.2.2⟩
set_option maxHeartbeats 2000000 in
set_option maxRecDepth 20000 in
theorem cwCmp (s : Sc) (a b : Wd)  : FC Tryz.prog 99 [.agg s.row, .agg a.row, .agg b.row] [] (.int .i64 (wcmp s a b)) [] := by
  refine FC.of_run mix Tryz.func99 rfl rfl (by simp [Tryz.ntmps99]) ?_
  by_cases h1 : a.ok s
  · by_cases h2 : b.ok s
    · have l1 := (len8 h1).1
      have l2 := (len8 h2).1
      by_cases h3 : a.full
      · by_cases h4 : b.full
        · have s1 := fok_syms h1 h3
          have s2 := fok_syms h2 h4
          rw [show wcmp s a b = cmp3 (shuf a.s) (shuf b.s) from if_pos ⟨⟨h1, h3⟩, ⟨h2, h4⟩⟩]
          repeat' first
            | simp (maxSteps := 1000000) only [go_sem, Int.reduceLT, Int.reduceLE, Int.reduceToNat, Int.reduceEq, Nat.reduceMul, ↓reduceIte, Nat.reduceLT, Nat.reduceLeDiff, Nat.reduceEqDiff, Nat.reduceAdd, Nat.reduceSub, Nat.reduceBEq, reduceCtorEq, *]
            | contradiction
            | refine wT ?_ ?_ <;> intro _
            | refine wF ?_ ?_ <;> intro _
            | refine cD ?_ ?_ <;> intro _
            | refine dO (by kernel_rfl) ?_
            | refine kcwValid ?_
            | refine kcfull ?_
            | refine kcshuf ?_
            | refine kcCmp3 ?_
            | refine Fin.q ?_ ?_
            | refine Fin.qn ?_ ?_
        · rw [show wcmp s a b = 0 from if_neg (fun h => h4 h.2.2)]
          repeat' first
            | simp (maxSteps := 1000000) only [go_sem, Int.reduceLT, Int.reduceLE, Int.reduceToNat, Int.reduceEq, Nat.reduceMul, ↓reduceIte, Nat.reduceLT, Nat.reduceLeDiff, Nat.reduceEqDiff, Nat.reduceAdd, Nat.reduceSub, Nat.reduceBEq, reduceCtorEq, *]
            | contradiction
            | refine wT ?_ ?_ <;> intro _
            | refine wF ?_ ?_ <;> intro _
            | refine cD ?_ ?_ <;> intro _
            | refine dO (by kernel_rfl) ?_
            | refine kcwValid ?_
            | refine kcfull ?_
            | refine Fin.q ?_ ?_
            | refine Fin.qn ?_ ?_
      · rw [show wcmp s a b = 0 from if_neg (fun h => h3 h.1.2)]
        repeat' first
          | simp (maxSteps := 1000000) only [go_sem, Int.reduceLT, Int.reduceLE, Int.reduceToNat, Int.reduceEq, Nat.reduceMul, ↓reduceIte, Nat.reduceLT, Nat.reduceLeDiff, Nat.reduceEqDiff, Nat.reduceAdd, Nat.reduceSub, Nat.reduceBEq, reduceCtorEq, *]
          | contradiction
          | refine wT ?_ ?_ <;> intro _
          | refine wF ?_ ?_ <;> intro _
          | refine cD ?_ ?_ <;> intro _
          | refine dO (by kernel_rfl) ?_
          | refine kcwValid ?_
          | refine kcfull ?_
          | refine Fin.q ?_ ?_
          | refine Fin.qn ?_ ?_
    · rw [show wcmp s a b = 0 from if_neg (fun h => h2 h.2.1)]
      repeat' first
        | simp (maxSteps := 1000000) only [go_sem, Int.reduceLT, Int.reduceLE, Int.reduceToNat, Int.reduceEq, Nat.reduceMul, ↓reduceIte, Nat.reduceLT, Nat.reduceLeDiff, Nat.reduceEqDiff, Nat.reduceAdd, Nat.reduceSub, Nat.reduceBEq, reduceCtorEq, *]
        | contradiction
        | refine wT ?_ ?_ <;> intro _
        | refine wF ?_ ?_ <;> intro _
        | refine cD ?_ ?_ <;> intro _
        | refine dO (by kernel_rfl) ?_
        | refine kcwValid ?_
        | refine Fin.q ?_ ?_
        | refine Fin.qn ?_ ?_
  · rw [show wcmp s a b = 0 from if_neg (fun h => h1 h.1.1)]
    repeat' first
      | simp (maxSteps := 1000000) only [go_sem, Int.reduceLT, Int.reduceLE, Int.reduceToNat, Int.reduceEq, Nat.reduceMul, ↓reduceIte, Nat.reduceLT, Nat.reduceLeDiff, Nat.reduceEqDiff, Nat.reduceAdd, Nat.reduceSub, Nat.reduceBEq, reduceCtorEq, *]
      | contradiction
      | refine wT ?_ ?_ <;> intro _
      | refine wF ?_ ?_ <;> intro _
      | refine cD ?_ ?_ <;> intro _
      | refine dO (by kernel_rfl) ?_
      | refine kcwValid ?_
      | refine Fin.q ?_ ?_
      | refine Fin.qn ?_ ?_
set_option maxRecDepth 20000 in
theorem kcwCmp {s : Sc} {a b : Wd} {H : Heap} {slot : Nat} {K : D → List (Nat × Blk) → List (Nat × Blk) → Prop} (hK : K (.int .i64 (wcmp s a b)) [] []) : @callB ⟨callX Tryz.prog⟩ 99 [.agg s.row, .agg a.row, .agg b.row] H slot ⟨K⟩ := by
  have he0 : rdOf H (D.idsL [.agg s.row, .agg a.row, .agg b.row]) = [] := by simp (maxSteps := 1000000) only [go_sem, Int.reduceLT, Int.reduceLE, Int.reduceToNat, Int.reduceEq, Nat.reduceMul, ↓reduceIte, Nat.reduceLT, Nat.reduceLeDiff, Nat.reduceEqDiff, Nat.reduceAdd, Nat.reduceSub, Nat.reduceBEq, reduceCtorEq]
  refine call0 false (cwCmp s a b ) ?_ ?_ (fun h => nomatch h) (by rw [he0]; exact hK)
  iterate 2 (· simp (maxSteps := 1000000) only [go_sem, Int.reduceLT, Int.reduceLE, Int.reduceToNat, Int.reduceEq, Nat.reduceMul, ↓reduceIte, Nat.reduceLT, Nat.reduceLeDiff, Nat.reduceEqDiff, Nat.reduceAdd, Nat.reduceSub, Nat.reduceBEq, reduceCtorEq])
theorem cmp3_lt {x y : Int} (h : x < y) : cmp3 x y = -1 := if_pos h
theorem cmp3_gt {x y : Int} (h : y < x) : cmp3 x y = 1 := by unfold cmp3; rw [if_neg (by omega), if_pos h]
theorem cmp3_eq {x y : Int} (h : x = y) : cmp3 x y = 0 := by unfold cmp3; rw [if_neg (by omega), if_neg (by omega)]
set_option maxHeartbeats 2000000 in
set_option maxRecDepth 20000 in
theorem cwCmpR (s : Sc) (a b : Wd)  : FC Tryz.prog 155 [.agg s.row, .agg a.row, .agg b.row] [] (.int .i64 (wcmp s a b)) [] := by
  refine FC.of_run mix Tryz.func155 rfl rfl (by simp [Tryz.ntmps155]) ?_
  by_cases h1 : a.ok s ∧ a.full
  · by_cases h2 : b.ok s ∧ b.full
    · rw [show wcmp s a b = cmp3 (shuf a.s) (shuf b.s) from if_pos ⟨h1, h2⟩]
      repeat' first
        | simp (maxSteps := 1000000) only [go_sem, Int.reduceLT, Int.reduceLE, Int.reduceToNat, Int.reduceEq, Nat.reduceMul, ↓reduceIte, Nat.reduceLT, Nat.reduceLeDiff, Nat.reduceEqDiff, Nat.reduceAdd, Nat.reduceSub, Nat.reduceBEq, reduceCtorEq, *]
        | contradiction
        | refine wT ?_ ?_ <;> intro _
        | refine wF ?_ ?_ <;> intro _
        | refine cD ?_ ?_ <;> intro _
        | refine dO (by kernel_rfl) ?_
        | refine kc19FullR ?_
        | refine Fin.q ?_ ?_
        | refine Fin.qn ?_ ?_
      have hs1 := fok_syms h1.1 h1.2
      have hs2 := fok_syms h2.1 h2.2
      have hl : b.s.length = a.s.length := by
        have e1 := len8 h1.1
        have e2 := len8 h2.1
        omega
      obtain ⟨h8, hs1⟩ := hs1
      obtain ⟨_, hs2⟩ := hs2
      clear h1 h2
      refine AW.loopx (σ := Nat) mix (fun k => ⟨54, [(7, .int .i64 (3 - (k : Int))), (5, .ptr 2 1 0 0), (4, .ptr 1 1 0 0), (3, .ptr 0 1 0 0)], [some [s.row], some [a.row], some [b.row]]⟩) (fun k => k ≤ 4 ∧ out a.s k = out b.s k) (fun k => 4 - k) 0 ⟨by omega, rfl⟩ (Conv.mk ?_ ?_ ?_ ?_ ?_) ?_
      iterate 5 (· (simp (maxSteps := 1000000) only [go_sem, Int.reduceLT, Int.reduceLE, Int.reduceToNat, Int.reduceEq, Nat.reduceMul, ↓reduceIte, Nat.reduceLT, Nat.reduceLeDiff, Nat.reduceEqDiff, Nat.reduceAdd, Nat.reduceSub, Nat.reduceBEq, reduceCtorEq]) <;> (first | rfl | (simp [ints]; done) | (simp [*]; done) | ((repeat' (first | rfl | apply And.intro)); done)))
      intro k ⟨hk, ho⟩
      by_cases h : k < 4
      · have hc : (0 ≤ 3 - (k : Int)) = True := by simp only [eq_iff_iff, iff_true]; omega
        repeat' first
          | simp (maxSteps := 1000000) only [go_sem, Int.reduceLT, Int.reduceLE, Int.reduceToNat, Int.reduceEq, Nat.reduceMul, ↓reduceIte, Nat.reduceLT, Nat.reduceLeDiff, Nat.reduceEqDiff, Nat.reduceAdd, Nat.reduceSub, Nat.reduceBEq, reduceCtorEq, *]
          | contradiction
          | refine wT ?_ ?_ <;> intro _
          | refine wF ?_ ?_ <;> intro _
          | refine cD ?_ ?_ <;> intro _
          | refine dO (by kernel_rfl) ?_
          | refine Fin.q ?_ ?_
          | refine Fin.qn ?_ ?_
        refine AW.loopx (σ := Nat) mix (fun i => ⟨54, [(28, .int .i64 i), (27, .int .i64 a.s.length), (7, .int .i64 (3 - (k : Int))), (5, .ptr 2 1 0 0), (4, .ptr 1 1 0 0), (3, .ptr 0 1 0 0)], [some [s.row], some [a.row], some [b.row]]⟩) (fun i => i ≤ a.s.length ∧ inn (3 - k) a.s i (out a.s k) = inn (3 - k) b.s i (out b.s k)) (fun i => a.s.length - i) 0 ⟨by omega, ho⟩ (Conv.mk ?_ ?_ ?_ ?_ ?_) ?_
        iterate 5 (· (simp (maxSteps := 1000000) only [go_sem, Int.reduceLT, Int.reduceLE, Int.reduceToNat, Int.reduceEq, Nat.reduceMul, ↓reduceIte, Nat.reduceLT, Nat.reduceLeDiff, Nat.reduceEqDiff, Nat.reduceAdd, Nat.reduceSub, Nat.reduceBEq, reduceCtorEq]) <;> (first | rfl | (simp [ints]; done) | (simp [*]; done) | ((repeat' (first | rfl | apply And.intro)); done)))
        intro i ⟨hi, hin⟩
        have hw := wrap1 (i := i) (by omega)
        by_cases g : i < a.s.length
        · have hx := ints_get g
          have hy := ints_get (l := b.s) (i := i) (by omega)
          have hbr := shr3 (a.s.getD i 0) h
          have hbs := shr3 (b.s.getD i 0) h
          obtain ⟨hd0, hd1⟩ := shr_bnd (k := 3 - k) (hs1 i g).1 (hs1 i g).2
          obtain ⟨he0, he1⟩ := shr_bnd (k := 3 - k) (hs2 i (by omega)).1 (hs2 i (by omega)).2
          have hn : (3 - (k : Int) < 0) = False := by simp only [eq_iff_iff, iff_false]; omega
          have hA : bitAt (a.s.getD i 0) (3 - k) < bitAt (b.s.getD i 0) (3 - k) → cmp3 (shuf a.s) (shuf b.s) = -1 := fun hh => cmp3_lt (shuf_lt hl.symm h g ho hin hh)
          have hB : bitAt (b.s.getD i 0) (3 - k) < bitAt (a.s.getD i 0) (3 - k) → cmp3 (shuf a.s) (shuf b.s) = 1 := fun hh => cmp3_gt (shuf_lt hl h (by omega) ho.symm hin.symm hh)
          rw [ho] at hin
          clear hs1 hs2
          repeat' first
            | simp (maxSteps := 1000000) only [go_sem, Int.reduceLT, Int.reduceLE, Int.reduceToNat, Int.reduceEq, Nat.reduceMul, ↓reduceIte, Nat.reduceLT, Nat.reduceLeDiff, Nat.reduceEqDiff, Nat.reduceAdd, Nat.reduceSub, Nat.reduceBEq, reduceCtorEq, *, bit_fold]
            | contradiction
            | refine wT ?_ ?_ <;> intro _
            | refine wF ?_ ?_ <;> intro _
            | refine cD ?_ ?_ <;> intro _
            | refine dO (by kernel_rfl) ?_
            | (refine ⟨i + 1, ?_, ?_, Conv.mk ?_ ?_ ?_ ?_ ?_⟩; (· (first | omega | (simp only; omega) | (simp only [List.length_nil, List.length_cons]; omega))); (· (exact ⟨by omega, by simp only [inn]; omega⟩)))
            | refine Fin.q ?_ ?_
            | refine Fin.qn ?_ ?_
        · obtain rfl : i = a.s.length := by omega
          have hw3 : IntKind.i64.wrap (3 - (k : Int) - 1) = 3 - ((k + 1 : Nat) : Int) := by rw [wrapS] <;> omega
          have hk1 : out a.s (k + 1) = out b.s (k + 1) := by simp only [out]; rw [hin, hl]
          clear hs1 hs2 hc ho hin
          repeat' first
            | simp (maxSteps := 1000000) only [go_sem, Int.reduceLT, Int.reduceLE, Int.reduceToNat, Int.reduceEq, Nat.reduceMul, ↓reduceIte, Nat.reduceLT, Nat.reduceLeDiff, Nat.reduceEqDiff, Nat.reduceAdd, Nat.reduceSub, Nat.reduceBEq, reduceCtorEq, *]
            | contradiction
            | refine wT ?_ ?_ <;> intro _
            | refine wF ?_ ?_ <;> intro _
            | refine cD ?_ ?_ <;> intro _
            | refine dO (by kernel_rfl) ?_
            | (refine ⟨k + 1, ?_, ?_, Conv.mk ?_ ?_ ?_ ?_ ?_⟩; (· (first | omega | (simp only; omega) | (simp only [List.length_nil, List.length_cons]; omega))); (· (exact ⟨by omega, hk1⟩)))
            | refine Fin.q ?_ ?_
            | refine Fin.qn ?_ ?_
      · obtain rfl : k = 4 := by omega
        have hc : (0 ≤ 3 - ((4 : Nat) : Int)) = False := by simp only [eq_iff_iff, iff_false]; omega
        rw [show cmp3 (shuf a.s) (shuf b.s) = 0 from cmp3_eq ho]
        clear ho hs1 hs2 hl h8
        repeat' first
          | simp (maxSteps := 1000000) only [go_sem, Int.reduceLT, Int.reduceLE, Int.reduceToNat, Int.reduceEq, Nat.reduceMul, ↓reduceIte, Nat.reduceLT, Nat.reduceLeDiff, Nat.reduceEqDiff, Nat.reduceAdd, Nat.reduceSub, Nat.reduceBEq, reduceCtorEq, *]
          | contradiction
          | refine wT ?_ ?_ <;> intro _
          | refine wF ?_ ?_ <;> intro _
          | refine cD ?_ ?_ <;> intro _
          | refine dO (by kernel_rfl) ?_
          | refine Fin.q ?_ ?_
          | refine Fin.qn ?_ ?_
    · rw [show wcmp s a b = 0 from if_neg (fun h => h2 h.2)]
      repeat' first
        | simp (maxSteps := 1000000) only [go_sem, Int.reduceLT, Int.reduceLE, Int.reduceToNat, Int.reduceEq, Nat.reduceMul, ↓reduceIte, Nat.reduceLT, Nat.reduceLeDiff, Nat.reduceEqDiff, Nat.reduceAdd, Nat.reduceSub, Nat.reduceBEq, reduceCtorEq, *]
        | contradiction
        | refine wT ?_ ?_ <;> intro _
        | refine wF ?_ ?_ <;> intro _
        | refine cD ?_ ?_ <;> intro _
        | refine dO (by kernel_rfl) ?_
        | refine kc19FullR ?_
        | refine Fin.q ?_ ?_
        | refine Fin.qn ?_ ?_
  · rw [show wcmp s a b = 0 from if_neg (fun h => h1 h.1)]
    repeat' first
      | simp (maxSteps := 1000000) only [go_sem, Int.reduceLT, Int.reduceLE, Int.reduceToNat, Int.reduceEq, Nat.reduceMul, ↓reduceIte, Nat.reduceLT, Nat.reduceLeDiff, Nat.reduceEqDiff, Nat.reduceAdd, Nat.reduceSub, Nat.reduceBEq, reduceCtorEq, *]
      | contradiction
      | refine wT ?_ ?_ <;> intro _
      | refine wF ?_ ?_ <;> intro _
      | refine cD ?_ ?_ <;> intro _
      | refine dO (by kernel_rfl) ?_
      | refine kc19FullR ?_
      | refine Fin.q ?_ ?_
      | refine Fin.qn ?_ ?_
set_option maxRecDepth 20000 in
theorem kcwCmpR {s : Sc} {a b : Wd} {H : Heap} {slot : Nat} {K : D → List (Nat × Blk) → List (Nat × Blk) → Prop} (hK : K (.int .i64 (wcmp s a b)) [] []) : @callB ⟨callX Tryz.prog⟩ 155 [.agg s.row, .agg a.row, .agg b.row] H slot ⟨K⟩ := by
  have he0 : rdOf H (D.idsL [.agg s.row, .agg a.row, .agg b.row]) = [] := by simp (maxSteps := 1000000) only [go_sem, Int.reduceLT, Int.reduceLE, Int.reduceToNat, Int.reduceEq, Nat.reduceMul, ↓reduceIte, Nat.reduceLT, Nat.reduceLeDiff, Nat.reduceEqDiff, Nat.reduceAdd, Nat.reduceSub, Nat.reduceBEq, reduceCtorEq]
  refine call0 false (cwCmpR s a b ) ?_ ?_ (fun h => nomatch h) (by rw [he0]; exact hK)
  iterate 2 (· simp (maxSteps := 1000000) only [go_sem, Int.reduceLT, Int.reduceLE, Int.reduceToNat, Int.reduceEq, Nat.reduceMul, ↓reduceIte, Nat.reduceLT, Nat.reduceLeDiff, Nat.reduceEqDiff, Nat.reduceAdd, Nat.reduceSub, Nat.reduceBEq, reduceCtorEq])
set_option maxHeartbeats 2000000 in
set_option maxRecDepth 20000 in
theorem cSooner (a b c d : Int)  : FC Tryz.prog 156 [.agg [.int .i64 a, .int .i64 b], .agg [.int .i64 c, .int .i64 d]] [] (.bool (decide (a < c ∨ a = c ∧ b < d))) [] := by
  refine FC.of_run mix Tryz.func156 rfl rfl (by simp [Tryz.ntmps156]) ?_
  repeat' first
    | simp (maxSteps := 1000000) only [go_sem, Int.reduceLT, Int.reduceLE, Int.reduceToNat, Int.reduceEq, Nat.reduceMul, ↓reduceIte, Nat.reduceLT, Nat.reduceLeDiff, Nat.reduceEqDiff, Nat.reduceAdd, Nat.reduceSub, Nat.reduceBEq, reduceCtorEq, *]
    | contradiction
    | refine wT ?_ ?_ <;> intro _
    | refine wF ?_ ?_ <;> intro _
    | refine cD ?_ ?_ <;> intro _
    | refine dO (by kernel_rfl) ?_
    | ((first | refine Fin.q ?_ ?_ | refine Fin.qn ?_ ?_) <;> ((try simp (maxSteps := 1000000) only [go_sem, Int.reduceLT, Int.reduceLE, Int.reduceToNat, Int.reduceEq, Nat.reduceMul, ↓reduceIte, Nat.reduceLT, Nat.reduceLeDiff, Nat.reduceEqDiff, Nat.reduceAdd, Nat.reduceSub, Nat.reduceBEq, reduceCtorEq, *]) <;> (first | done | (simp only [Option.some.injEq, D.bool.injEq]; first | exact decide_eq_decide.2 (by omega) | exact (decide_eq_true (by omega)).symm | exact (decide_eq_false (by omega)).symm))))
set_option maxRecDepth 20000 in
theorem kcSooner {a b c d : Int} {H : Heap} {slot : Nat} {K : D → List (Nat × Blk) → List (Nat × Blk) → Prop} (hK : K (.bool (decide (a < c ∨ a = c ∧ b < d))) [] []) : @callB ⟨callX Tryz.prog⟩ 156 [.agg [.int .i64 a, .int .i64 b], .agg [.int .i64 c, .int .i64 d]] H slot ⟨K⟩ := by
  have he0 : rdOf H (D.idsL [.agg [.int .i64 a, .int .i64 b], .agg [.int .i64 c, .int .i64 d]]) = [] := by simp (maxSteps := 1000000) only [go_sem, Int.reduceLT, Int.reduceLE, Int.reduceToNat, Int.reduceEq, Nat.reduceMul, ↓reduceIte, Nat.reduceLT, Nat.reduceLeDiff, Nat.reduceEqDiff, Nat.reduceAdd, Nat.reduceSub, Nat.reduceBEq, reduceCtorEq]
  refine call0 false (cSooner a b c d ) ?_ ?_ (fun h => nomatch h) (by rw [he0]; exact hK)
  iterate 2 (· simp (maxSteps := 1000000) only [go_sem, Int.reduceLT, Int.reduceLE, Int.reduceToNat, Int.reduceEq, Nat.reduceMul, ↓reduceIte, Nat.reduceLT, Nat.reduceLeDiff, Nat.reduceEqDiff, Nat.reduceAdd, Nat.reduceSub, Nat.reduceBEq, reduceCtorEq])
/-- How entries are ordered. -/
def ecmp (s : Sc) (x y : En) : Int := or2 (wcmp s x.w y.w) (or2 (cmp3 x.p y.p) (cmp3 x.q y.q))
set_option maxHeartbeats 2000000 in
set_option maxRecDepth 20000 in
theorem ceCmp (s : Sc) (x y : En)  : FC Tryz.prog 54 [.agg s.row, .agg x.row, .agg y.row] [] (.int .i64 (ecmp s x y)) [] := by
  refine FC.of_run mix Tryz.func54 rfl rfl (by simp [Tryz.ntmps54]) ?_
  repeat' first
    | simp (maxSteps := 1000000) only [go_sem, Int.reduceLT, Int.reduceLE, Int.reduceToNat, Int.reduceEq, Nat.reduceMul, ↓reduceIte, Nat.reduceLT, Nat.reduceLeDiff, Nat.reduceEqDiff, Nat.reduceAdd, Nat.reduceSub, Nat.reduceBEq, reduceCtorEq, *]
    | contradiction
    | refine wT ?_ ?_ <;> intro _
    | refine wF ?_ ?_ <;> intro _
    | refine cD ?_ ?_ <;> intro _
    | refine dO (by kernel_rfl) ?_
    | refine kcwCmp ?_
    | refine kcsCmp ?_
    | refine (kOr rfl) ?_
    | ((first | refine Fin.q ?_ ?_ | refine Fin.qn ?_ ?_) <;> ((try simp (maxSteps := 1000000) only [go_sem, Int.reduceLT, Int.reduceLE, Int.reduceToNat, Int.reduceEq, Nat.reduceMul, ↓reduceIte, Nat.reduceLT, Nat.reduceLeDiff, Nat.reduceEqDiff, Nat.reduceAdd, Nat.reduceSub, Nat.reduceBEq, reduceCtorEq, *]) <;> (first | done | rfl)))
set_option maxRecDepth 20000 in
theorem kceCmp {s : Sc} {x y : En} {H : Heap} {slot : Nat} {K : D → List (Nat × Blk) → List (Nat × Blk) → Prop} (hK : K (.int .i64 (ecmp s x y)) [] []) : @callB ⟨callX Tryz.prog⟩ 54 [.agg s.row, .agg x.row, .agg y.row] H slot ⟨K⟩ := by
  have he0 : rdOf H (D.idsL [.agg s.row, .agg x.row, .agg y.row]) = [] := by simp (maxSteps := 1000000) only [go_sem, Int.reduceLT, Int.reduceLE, Int.reduceToNat, Int.reduceEq, Nat.reduceMul, ↓reduceIte, Nat.reduceLT, Nat.reduceLeDiff, Nat.reduceEqDiff, Nat.reduceAdd, Nat.reduceSub, Nat.reduceBEq, reduceCtorEq]
  refine call0 false (ceCmp s x y ) ?_ ?_ (fun h => nomatch h) (by rw [he0]; exact hK)
  iterate 2 (· simp (maxSteps := 1000000) only [go_sem, Int.reduceLT, Int.reduceLE, Int.reduceToNat, Int.reduceEq, Nat.reduceMul, ↓reduceIte, Nat.reduceLT, Nat.reduceLeDiff, Nat.reduceEqDiff, Nat.reduceAdd, Nat.reduceSub, Nat.reduceBEq, reduceCtorEq])
set_option maxHeartbeats 2000000 in
set_option maxRecDepth 20000 in
theorem ceLess (s : Sc) (x y : En)  : FC Tryz.prog 97 [.agg s.row, .agg x.row, .agg y.row] [] (.bool (decide (ecmp s x y < 0))) [] := by
  refine FC.of_run mix Tryz.func97 rfl rfl (by simp [Tryz.ntmps97]) ?_
  repeat' first
    | simp (maxSteps := 1000000) only [go_sem, Int.reduceLT, Int.reduceLE, Int.reduceToNat, Int.reduceEq, Nat.reduceMul, ↓reduceIte, Nat.reduceLT, Nat.reduceLeDiff, Nat.reduceEqDiff, Nat.reduceAdd, Nat.reduceSub, Nat.reduceBEq, reduceCtorEq, *]
    | contradiction
    | refine wT ?_ ?_ <;> intro _
    | refine wF ?_ ?_ <;> intro _
    | refine cD ?_ ?_ <;> intro _
    | refine dO (by kernel_rfl) ?_
    | refine kceCmp ?_
    | refine Fin.q ?_ ?_
    | refine Fin.qn ?_ ?_
set_option maxRecDepth 20000 in
theorem kceLess {s : Sc} {x y : En} {H : Heap} {slot : Nat} {K : D → List (Nat × Blk) → List (Nat × Blk) → Prop} (hK : K (.bool (decide (ecmp s x y < 0))) [] []) : @callB ⟨callX Tryz.prog⟩ 97 [.agg s.row, .agg x.row, .agg y.row] H slot ⟨K⟩ := by
  have he0 : rdOf H (D.idsL [.agg s.row, .agg x.row, .agg y.row]) = [] := by simp (maxSteps := 1000000) only [go_sem, Int.reduceLT, Int.reduceLE, Int.reduceToNat, Int.reduceEq, Nat.reduceMul, ↓reduceIte, Nat.reduceLT, Nat.reduceLeDiff, Nat.reduceEqDiff, Nat.reduceAdd, Nat.reduceSub, Nat.reduceBEq, reduceCtorEq]
  refine call0 false (ceLess s x y ) ?_ ?_ (fun h => nomatch h) (by rw [he0]; exact hK)
  iterate 2 (· simp (maxSteps := 1000000) only [go_sem, Int.reduceLT, Int.reduceLE, Int.reduceToNat, Int.reduceEq, Nat.reduceMul, ↓reduceIte, Nat.reduceLT, Nat.reduceLeDiff, Nat.reduceEqDiff, Nat.reduceAdd, Nat.reduceSub, Nat.reduceBEq, reduceCtorEq])
theorem ecmp_lt (s : Sc) (x y : En) : ecmp s x y < 0 ↔ wcmp s x.w y.w < 0 ∨ wcmp s x.w y.w = 0 ∧ (x.p < y.p ∨ x.p = y.p ∧ x.q < y.q) := by
  unfold ecmp or2 cmp3
  repeat' split
  all_goals omega
set_option maxHeartbeats 2000000 in
set_option maxRecDepth 20000 in
theorem ceLessR (s : Sc) (x y : En)  : FC Tryz.prog 104 [.agg s.row, .agg x.row, .agg y.row] [] (.bool (decide (ecmp s x y < 0))) [] := by
  refine FC.of_run mix Tryz.func104 rfl rfl (by simp [Tryz.ntmps104]) ?_
  repeat' first
    | simp (maxSteps := 1000000) only [go_sem, Int.reduceLT, Int.reduceLE, Int.reduceToNat, Int.reduceEq, Nat.reduceMul, ↓reduceIte, Nat.reduceLT, Nat.reduceLeDiff, Nat.reduceEqDiff, Nat.reduceAdd, Nat.reduceSub, Nat.reduceBEq, reduceCtorEq, *]
    | contradiction
    | refine wT ?_ ?_ <;> intro _
    | refine wF ?_ ?_ <;> intro _
    | refine cD ?_ ?_ <;> intro _
    | refine dO (by kernel_rfl) ?_
    | refine kcwCmpR ?_
    | refine kcSooner ?_
    | ((first | refine Fin.q ?_ ?_ | refine Fin.qn ?_ ?_) <;> ((try simp (maxSteps := 1000000) only [go_sem, Int.reduceLT, Int.reduceLE, Int.reduceToNat, Int.reduceEq, Nat.reduceMul, ↓reduceIte, Nat.reduceLT, Nat.reduceLeDiff, Nat.reduceEqDiff, Nat.reduceAdd, Nat.reduceSub, Nat.reduceBEq, reduceCtorEq, *]) <;> (first | done | (simp only [Option.some.injEq, D.bool.injEq]; first | exact decide_eq_decide.2 (by have := ecmp_lt s x y; omega) | exact (decide_eq_true (by have := ecmp_lt s x y; omega)).symm | exact (decide_eq_false (by have := ecmp_lt s x y; omega)).symm))))
set_option maxRecDepth 20000 in
theorem kceLessR {s : Sc} {x y : En} {H : Heap} {slot : Nat} {K : D → List (Nat × Blk) → List (Nat × Blk) → Prop} (hK : K (.bool (decide (ecmp s x y < 0))) [] []) : @callB ⟨callX Tryz.prog⟩ 104 [.agg s.row, .agg x.row, .agg y.row] H slot ⟨K⟩ := by
  have he0 : rdOf H (D.idsL [.agg s.row, .agg x.row, .agg y.row]) = [] := by simp (maxSteps := 1000000) only [go_sem, Int.reduceLT, Int.reduceLE, Int.reduceToNat, Int.reduceEq, Nat.reduceMul, ↓reduceIte, Nat.reduceLT, Nat.reduceLeDiff, Nat.reduceEqDiff, Nat.reduceAdd, Nat.reduceSub, Nat.reduceBEq, reduceCtorEq]
  refine call0 false (ceLessR s x y ) ?_ ?_ (fun h => nomatch h) (by rw [he0]; exact hK)
  iterate 2 (· simp (maxSteps := 1000000) only [go_sem, Int.reduceLT, Int.reduceLE, Int.reduceToNat, Int.reduceEq, Nat.reduceMul, ↓reduceIte, Nat.reduceLT, Nat.reduceLeDiff, Nat.reduceEqDiff, Nat.reduceAdd, Nat.reduceSub, Nat.reduceBEq, reduceCtorEq])
end TR

/- Entries in order. -/
open Go Go.Proofs Go.AH
set_option linter.unusedSimpArgs false
set_option linter.unusedVariables false
namespace TR
/-- The entry at a place is valid, and behind the one before it. -/
def inOrder (s : Sc) (l : List En) (i : Nat) : Prop := (l.getD i default).ok s ∧ (0 < i → ecmp s (l.getD (i - 1) default) (l.getD i default) < 0)
instance (s : Sc) (l : List En) (i : Nat) : Decidable (inOrder s l i) := by unfold inOrder; infer_instance
def sorted (s : Sc) (l : List En) : Prop := ∀ i, i < l.length → inOrder s l i
instance (s : Sc) (l : List En) : Decidable (sorted s l) := by unfold sorted; infer_instance
theorem ents_get1 {l : List En} {i : Nat} (h : i < l.length) : (ents l)[i - 1]? = some (l.getD (i - 1) default).row := ents_get (by omega)
theorem rowlen (e : En) : (En.row e).length = 4 := rfl
set_option maxHeartbeats 2000000 in
set_option maxRecDepth 20000 in
theorem cSorted (s : Sc) (l : List En) (hl : l.length < 1000000000000000) : FC Tryz.prog 52 [.agg s.row, .vs (ents l)] [] (.bool (decide (sorted s l))) [] := by
  refine FC.of_run mix Tryz.func52 rfl rfl (by simp [Tryz.ntmps52]) ?_
  repeat' first
    | simp (maxSteps := 1000000) only [go_sem, Int.reduceLT, Int.reduceLE, Int.reduceToNat, Int.reduceEq, Nat.reduceMul, ↓reduceIte, Nat.reduceLT, Nat.reduceLeDiff, Nat.reduceEqDiff, Nat.reduceAdd, Nat.reduceSub, Nat.reduceBEq, reduceCtorEq, *]
    | contradiction
    | refine wT ?_ ?_ <;> intro _
    | refine wF ?_ ?_ <;> intro _
    | refine cD ?_ ?_ <;> intro _
    | refine dO (by kernel_rfl) ?_
    | refine Fin.q ?_ ?_
    | refine Fin.qn ?_ ?_
  refine AW.loopx (σ := Nat) mix (fun i => ⟨34, [(9, .int .i64 i), (8, .int .i64 l.length), (7, .vs (ents l)), (1, .vs (ents l)), (2, .ptr 0 1 0 0)], [some [s.row]]⟩) (fun i => i ≤ l.length ∧ ∀ q, q < i → inOrder s l q) (fun i => l.length - i) 0 ⟨by omega, fun q h => by omega⟩ (Conv.mk ?_ ?_ ?_ ?_ ?_) ?_
  iterate 5 (· (simp (maxSteps := 1000000) only [go_sem, Int.reduceLT, Int.reduceLE, Int.reduceToNat, Int.reduceEq, Nat.reduceMul, ↓reduceIte, Nat.reduceLT, Nat.reduceLeDiff, Nat.reduceEqDiff, Nat.reduceAdd, Nat.reduceSub, Nat.reduceBEq, reduceCtorEq]) <;> (first | rfl | (simp [ints]; done) | (simp [*]; done) | ((repeat' (first | rfl | apply And.intro)); done)))
  intro i ⟨hi, hq⟩
  have hw := wrap1 (i := i) (by omega)
  by_cases h : i < l.length
  · have hx := ents_get h
    have hy := ents_get1 h
    have hw2 : 0 < i → IntKind.i64.wrap ((i : Int) - 1) = ((i - 1 : Nat) : Int) := fun h => wrapm1 h (by omega)
    have hbad : ¬ inOrder s l i → ¬ sorted s l := fun h1 h2 => h1 (h2 i h)
    clear hbad
    repeat' first
      | simp (maxSteps := 1000000) only [go_sem, Int.reduceLT, Int.reduceLE, Int.reduceToNat, Int.reduceEq, Nat.reduceMul, ↓reduceIte, Nat.reduceLT, Nat.reduceLeDiff, Nat.reduceEqDiff, Nat.reduceAdd, Nat.reduceSub, Nat.reduceBEq, reduceCtorEq, *]
      | contradiction
      | refine wT ?_ ?_ <;> intro _
      | refine wF ?_ ?_ <;> intro _
      | refine cD ?_ ?_ <;> intro _
      | refine dO (by kernel_rfl) ?_
      | refine kcrValid ?_
      | refine kceLess ?_
      | (refine ⟨i + 1, ?_, ?_, Conv.mk ?_ ?_ ?_ ?_ ?_⟩; (· (first | omega | (simp only; omega) | (simp only [List.length_nil, List.length_cons]; omega))); (· (exact ⟨by omega, upto hq (by unfold inOrder; grind)⟩)))
      | ((first | refine Fin.q ?_ ?_ | refine Fin.qn ?_ ?_) <;> ((try simp (maxSteps := 1000000) only [go_sem, Int.reduceLT, Int.reduceLE, Int.reduceToNat, Int.reduceEq, Nat.reduceMul, ↓reduceIte, Nat.reduceLT, Nat.reduceLeDiff, Nat.reduceEqDiff, Nat.reduceAdd, Nat.reduceSub, Nat.reduceBEq, reduceCtorEq, *]) <;> (first | done | (simp only [Option.some.injEq, D.bool.injEq]; exact (decide_eq_false (fun hs => by have := hs i h; unfold inOrder at this; grind)).symm))))
  · repeat' first
      | simp (maxSteps := 1000000) only [go_sem, Int.reduceLT, Int.reduceLE, Int.reduceToNat, Int.reduceEq, Nat.reduceMul, ↓reduceIte, Nat.reduceLT, Nat.reduceLeDiff, Nat.reduceEqDiff, Nat.reduceAdd, Nat.reduceSub, Nat.reduceBEq, reduceCtorEq, *]
      | contradiction
      | refine wT ?_ ?_ <;> intro _
      | refine wF ?_ ?_ <;> intro _
      | refine cD ?_ ?_ <;> intro _
      | refine dO (by kernel_rfl) ?_
      | ((first | refine Fin.q ?_ ?_ | refine Fin.qn ?_ ?_) <;> ((try simp (maxSteps := 1000000) only [go_sem, Int.reduceLT, Int.reduceLE, Int.reduceToNat, Int.reduceEq, Nat.reduceMul, ↓reduceIte, Nat.reduceLT, Nat.reduceLeDiff, Nat.reduceEqDiff, Nat.reduceAdd, Nat.reduceSub, Nat.reduceBEq, reduceCtorEq, *]) <;> (first | done | (simp only [Option.some.injEq, D.bool.injEq]; first | exact decide_eq_decide.2 (by exact fun q h => hq q (by omega)) | exact (decide_eq_true (by exact fun q h => hq q (by omega))).symm | exact (decide_eq_false (by exact fun q h => hq q (by omega))).symm))))
set_option maxRecDepth 20000 in
theorem kcSorted {s : Sc} {l : List En} {H : Heap} {slot : Nat} {K : D → List (Nat × Blk) → List (Nat × Blk) → Prop} (hK : K (.bool (decide (sorted s l))) [] []) (hl : l.length < 1000000000000000 := by first | assumption | omega) : @callB ⟨callX Tryz.prog⟩ 52 [.agg s.row, .vs (ents l)] H slot ⟨K⟩ := by
  have he0 : rdOf H (D.idsL [.agg s.row, .vs (ents l)]) = [] := by simp (maxSteps := 1000000) only [go_sem, Int.reduceLT, Int.reduceLE, Int.reduceToNat, Int.reduceEq, Nat.reduceMul, ↓reduceIte, Nat.reduceLT, Nat.reduceLeDiff, Nat.reduceEqDiff, Nat.reduceAdd, Nat.reduceSub, Nat.reduceBEq, reduceCtorEq]
  refine call0 false (cSorted s l hl) ?_ ?_ (fun h => nomatch h) (by rw [he0]; exact hK)
  iterate 2 (· simp (maxSteps := 1000000) only [go_sem, Int.reduceLT, Int.reduceLE, Int.reduceToNat, Int.reduceEq, Nat.reduceMul, ↓reduceIte, Nat.reduceLT, Nat.reduceLeDiff, Nat.reduceEqDiff, Nat.reduceAdd, Nat.reduceSub, Nat.reduceBEq, reduceCtorEq])
set_option maxHeartbeats 2000000 in
set_option maxRecDepth 20000 in
theorem cSortedR (s : Sc) (l : List En) (hl : l.length < 1000000000000000) : FC Tryz.prog 58 [.agg s.row, .vs (ents l)] [] (.bool (decide (sorted s l))) [] := by
  refine FC.of_run mix Tryz.func58 rfl rfl (by simp [Tryz.ntmps58]) ?_
  repeat' first
    | simp (maxSteps := 1000000) only [go_sem, Int.reduceLT, Int.reduceLE, Int.reduceToNat, Int.reduceEq, Nat.reduceMul, ↓reduceIte, Nat.reduceLT, Nat.reduceLeDiff, Nat.reduceEqDiff, Nat.reduceAdd, Nat.reduceSub, Nat.reduceBEq, reduceCtorEq, *]
    | contradiction
    | refine wT ?_ ?_ <;> intro _
    | refine wF ?_ ?_ <;> intro _
    | refine cD ?_ ?_ <;> intro _
    | refine dO (by kernel_rfl) ?_
    | refine Fin.q ?_ ?_
    | refine Fin.qn ?_ ?_
  refine AW.loopx (σ := Nat) mix (fun i => ⟨37, [(5, .int .i64 i), (1, .vs (ents l)), (2, .ptr 0 1 0 0)], [some [s.row]]⟩) (fun i => i ≤ l.length ∧ ∀ q, q < i → inOrder s l q) (fun i => l.length - i) 0 ⟨by omega, fun q h => by omega⟩ (Conv.mk ?_ ?_ ?_ ?_ ?_) ?_
  iterate 5 (· (simp (maxSteps := 1000000) only [go_sem, Int.reduceLT, Int.reduceLE, Int.reduceToNat, Int.reduceEq, Nat.reduceMul, ↓reduceIte, Nat.reduceLT, Nat.reduceLeDiff, Nat.reduceEqDiff, Nat.reduceAdd, Nat.reduceSub, Nat.reduceBEq, reduceCtorEq]) <;> (first | rfl | (simp [ints]; done) | (simp [*]; done) | ((repeat' (first | rfl | apply And.intro)); done)))
  intro i ⟨hi, hq⟩
  have hw := wrap1 (i := i) (by omega)
  by_cases h : i < l.length
  · have hx := ents_get h
    have hy := ents_get1 h
    have hw2 : 0 < i → IntKind.i64.wrap ((i : Int) - 1) = ((i - 1 : Nat) : Int) := fun h => wrapm1 h (by omega)
    repeat' first
      | simp (maxSteps := 1000000) only [go_sem, Int.reduceLT, Int.reduceLE, Int.reduceToNat, Int.reduceEq, Nat.reduceMul, ↓reduceIte, Nat.reduceLT, Nat.reduceLeDiff, Nat.reduceEqDiff, Nat.reduceAdd, Nat.reduceSub, Nat.reduceBEq, reduceCtorEq, *]
      | contradiction
      | refine wT ?_ ?_ <;> intro _
      | refine wF ?_ ?_ <;> intro _
      | refine cD ?_ ?_ <;> intro _
      | refine dO (by kernel_rfl) ?_
      | refine kcrValidR ?_
      | refine kceLessR ?_
      | (refine ⟨i + 1, ?_, ?_, Conv.mk ?_ ?_ ?_ ?_ ?_⟩; (· (first | omega | (simp only; omega) | (simp only [List.length_nil, List.length_cons]; omega))); (· (exact ⟨by omega, upto hq (by unfold inOrder; grind)⟩)))
      | ((first | refine Fin.q ?_ ?_ | refine Fin.qn ?_ ?_) <;> ((try simp (maxSteps := 1000000) only [go_sem, Int.reduceLT, Int.reduceLE, Int.reduceToNat, Int.reduceEq, Nat.reduceMul, ↓reduceIte, Nat.reduceLT, Nat.reduceLeDiff, Nat.reduceEqDiff, Nat.reduceAdd, Nat.reduceSub, Nat.reduceBEq, reduceCtorEq, *]) <;> (first | done | (simp only [Option.some.injEq, D.bool.injEq]; exact (decide_eq_false (fun hs => by have := hs i h; unfold inOrder at this; grind)).symm))))
  · repeat' first
      | simp (maxSteps := 1000000) only [go_sem, Int.reduceLT, Int.reduceLE, Int.reduceToNat, Int.reduceEq, Nat.reduceMul, ↓reduceIte, Nat.reduceLT, Nat.reduceLeDiff, Nat.reduceEqDiff, Nat.reduceAdd, Nat.reduceSub, Nat.reduceBEq, reduceCtorEq, *]
      | contradiction
      | refine wT ?_ ?_ <;> intro _
      | refine wF ?_ ?_ <;> intro _
      | refine cD ?_ ?_ <;> intro _
      | refine dO (by kernel_rfl) ?_
      | ((first | refine Fin.q ?_ ?_ | refine Fin.qn ?_ ?_) <;> ((try simp (maxSteps := 1000000) only [go_sem, Int.reduceLT, Int.reduceLE, Int.reduceToNat, Int.reduceEq, Nat.reduceMul, ↓reduceIte, Nat.reduceLT, Nat.reduceLeDiff, Nat.reduceEqDiff, Nat.reduceAdd, Nat.reduceSub, Nat.reduceBEq, reduceCtorEq, *]) <;> (first | done | (simp only [Option.some.injEq, D.bool.injEq]; first | exact decide_eq_decide.2 (by exact fun q h => hq q (by omega)) | exact (decide_eq_true (by exact fun q h => hq q (by omega))).symm | exact (decide_eq_false (by exact fun q h => hq q (by omega))).symm))))
set_option maxRecDepth 20000 in
theorem kcSortedR {s : Sc} {l : List En} {H : Heap} {slot : Nat} {K : D → List (Nat × Blk) → List (Nat × Blk) → Prop} (hK : K (.bool (decide (sorted s l))) [] []) (hl : l.length < 1000000000000000 := by first | assumption | omega) : @callB ⟨callX Tryz.prog⟩ 58 [.agg s.row, .vs (ents l)] H slot ⟨K⟩ := by
  have he0 : rdOf H (D.idsL [.agg s.row, .vs (ents l)]) = [] := by simp (maxSteps := 1000000) only [go_sem, Int.reduceLT, Int.reduceLE, Int.reduceToNat, Int.reduceEq, Nat.reduceMul, ↓reduceIte, Nat.reduceLT, Nat.reduceLeDiff, Nat.reduceEqDiff, Nat.reduceAdd, Nat.reduceSub, Nat.reduceBEq, reduceCtorEq]
  refine call0 false (cSortedR s l hl) ?_ ?_ (fun h => nomatch h) (by rw [he0]; exact hK)
  iterate 2 (· simp (maxSteps := 1000000) only [go_sem, Int.reduceLT, Int.reduceLE, Int.reduceToNat, Int.reduceEq, Nat.reduceMul, ↓reduceIte, Nat.reduceLT, Nat.reduceLeDiff, Nat.reduceEqDiff, Nat.reduceAdd, Nat.reduceSub, Nat.reduceBEq, reduceCtorEq])
end TR

/- Words that are split. -/
open Go Go.Proofs Go.AH
set_option linter.unusedSimpArgs false
set_option linter.unusedVariables false
namespace TR
theorem set_ints (l : List Int) (i : Nat) (x : Int) : (ints l).set i [.int .i64 x] = ints (l.set i x) := by simp [ints, List.map_set]
theorem ints_ne {l : List Int} (h : l ≠ []) : (ints l).isEmpty = false := by cases l <;> simp_all [ints]
theorem len_set (l : List Int) (i : Nat) (x : Int) : (l.set i x).length = l.length := List.length_set
theorem take_set (l : List Int) (i : Nat) (x : Int) : (ints (l.set i x)).take l.length = ints (l.set i x) := by
  have := take_ints (l.set i x)
  rwa [List.length_set] at this
def Wd.with (w : Wd) (p : Nat) (bit : Int) : Wd := ⟨w.s.set p (2 * w.s.getD p 0 + bit), w.b.set p (w.b.getD p 0 + 1)⟩
set_option maxHeartbeats 2000000 in
set_option maxRecDepth 20000 in
theorem cwith (w : Wd) (p : Nat) (bit : Int) (h8 : w.b.length ≤ 8) (hl : w.s.length = w.b.length) (hp : p < w.b.length) (h0 : 0 ≤ w.s.getD p 0) (h1 : w.s.getD p 0 < 16) (h2 : 0 ≤ bit) (h3 : bit ≤ 1) (h4 : 0 ≤ w.b.getD p 0) (h5 : w.b.getD p 0 < 4) : FC Tryz.prog 177 [.agg w.row, .int .i64 p, .int .i64 bit] [] (.agg (w.with p bit).row) [] := by
  refine FC.of_run mix Tryz.func177 rfl rfl (by simp [Tryz.ntmps177]) ?_
  have e1 := ints_ne (l := w.s) (by intro h; rw [h] at hl; simp at hl; omega)
  have e2 := ints_ne (l := w.b) (by intro h; rw [h] at hp; simp at hp)
  have c1 : w.s.length ≤ capMax := by unfold capMax; omega
  have c2 : w.b.length ≤ capMax := by unfold capMax; omega
  have hx := ints_get (l := w.s) (i := p) (by omega)
  have hy := ints_get (l := w.b) (i := p) (by omega)
  have w1 : IntKind.i64.wrap (2 * w.s.getD p 0) = 2 * w.s.getD p 0 := by rw [wrapS] <;> omega
  have w2 : IntKind.i64.wrap (2 * w.s.getD p 0 + bit) = 2 * w.s.getD p 0 + bit := by rw [wrapS] <;> omega
  have w3 : IntKind.i64.wrap (w.b.getD p 0 + 1) = w.b.getD p 0 + 1 := by rw [wrapS] <;> omega
  have hp2 : p < w.s.length := by omega
  clear h0 h1 h2 h3 h4 h5 hl
  repeat' first
    | simp (maxSteps := 1000000) only [go_sem, Int.reduceLT, Int.reduceLE, Int.reduceToNat, Int.reduceEq, Nat.reduceMul, ↓reduceIte, Nat.reduceLT, Nat.reduceLeDiff, Nat.reduceEqDiff, Nat.reduceAdd, Nat.reduceSub, Nat.reduceBEq, reduceCtorEq, *, set_ints, len_set, List.drop_zero, List.take_length, take_set]
    | contradiction
    | refine wT ?_ ?_ <;> intro _
    | refine wF ?_ ?_ <;> intro _
    | refine cD ?_ ?_ <;> intro _
    | refine dO (by kernel_rfl) ?_
    | ((first | refine Fin.q ?_ ?_ | refine Fin.qn ?_ ?_) <;> ((try simp (maxSteps := 1000000) only [go_sem, Int.reduceLT, Int.reduceLE, Int.reduceToNat, Int.reduceEq, Nat.reduceMul, ↓reduceIte, Nat.reduceLT, Nat.reduceLeDiff, Nat.reduceEqDiff, Nat.reduceAdd, Nat.reduceSub, Nat.reduceBEq, reduceCtorEq, *, set_ints, len_set, List.drop_zero, List.take_length, take_set]) <;> (first | done | rfl)))
set_option maxRecDepth 20000 in
theorem kcwith {w : Wd} {p : Nat} {bit : Int} {H : Heap} {slot : Nat} {K : D → List (Nat × Blk) → List (Nat × Blk) → Prop} (hK : K (.agg (w.with p bit).row) [] []) (h8 : w.b.length ≤ 8 := by first | assumption | omega) (hl : w.s.length = w.b.length := by first | assumption | omega) (hp : p < w.b.length := by first | assumption | omega) (h0 : 0 ≤ w.s.getD p 0 := by first | assumption | omega) (h1 : w.s.getD p 0 < 16 := by first | assumption | omega) (h2 : 0 ≤ bit := by first | assumption | omega) (h3 : bit ≤ 1 := by first | assumption | omega) (h4 : 0 ≤ w.b.getD p 0 := by first | assumption | omega) (h5 : w.b.getD p 0 < 4 := by first | assumption | omega) : @callB ⟨callX Tryz.prog⟩ 177 [.agg w.row, .int .i64 p, .int .i64 bit] H slot ⟨K⟩ := by
  have he0 : rdOf H (D.idsL [.agg w.row, .int .i64 p, .int .i64 bit]) = [] := by simp (maxSteps := 1000000) only [go_sem, Int.reduceLT, Int.reduceLE, Int.reduceToNat, Int.reduceEq, Nat.reduceMul, ↓reduceIte, Nat.reduceLT, Nat.reduceLeDiff, Nat.reduceEqDiff, Nat.reduceAdd, Nat.reduceSub, Nat.reduceBEq, reduceCtorEq]
  refine call0 false (cwith w p bit h8 hl hp h0 h1 h2 h3 h4 h5) ?_ ?_ (fun h => nomatch h) (by rw [he0]; exact hK)
  iterate 2 (· simp (maxSteps := 1000000) only [go_sem, Int.reduceLT, Int.reduceLE, Int.reduceToNat, Int.reduceEq, Nat.reduceMul, ↓reduceIte, Nat.reduceLT, Nat.reduceLeDiff, Nat.reduceEqDiff, Nat.reduceAdd, Nat.reduceSub, Nat.reduceBEq, reduceCtorEq])
/-- What is known where a valid word can be split. -/
structure CanSplit (s : Sc) (w : Wd) (p : Nat) : Prop where
  ok : w.ok s
  h8 : w.b.length ≤ 8
  hl : w.s.length = w.b.length
  hp : p < w.b.length
  h0 : 0 ≤ w.s.getD p 0
  h1 : w.s.getD p 0 < 16
  h4 : 0 ≤ w.b.getD p 0
  h5 : w.b.getD p 0 < 4
  hs : (p : Int) < s.pcs
theorem canSplit {s : Sc} {w : Wd} {p : Nat} (hv : w.ok s) (hp : p < w.b.length) (h4 : w.b.getD p 0 < 4) : CanSplit s w p := by
  obtain ⟨a, b, c⟩ := len8 hv
  have h := hv.2.2.2 p hp
  unfold bitOK at h
  have h6 : (2 : Int) ^ (w.b.getD p 0).toNat ≤ 16 := by
    rcases (by omega : w.b.getD p 0 = 0 ∨ w.b.getD p 0 = 1 ∨ w.b.getD p 0 = 2 ∨ w.b.getD p 0 = 3) with e | e | e | e <;> rw [e] <;> decide
  exact ⟨hv, a, b, hp, h.2.2.1, by omega, h.1, h4, by omega⟩
set_option maxHeartbeats 2000000 in
set_option maxRecDepth 20000 in
theorem cSplitR (s : Sc) (w : Wd) (p : Nat) (hc : CanSplit s w p) : FC Tryz.prog 134 [.agg s.row, .agg w.row, .int .i64 p] [] (.tup [.agg (w.with p 0).row, .agg (w.with p 1).row, .int .i64 0]) [] := by
  refine FC.of_run mix Tryz.func134 rfl rfl (by simp [Tryz.ntmps134]) ?_
  obtain ⟨hv, h8, hl, hp, h0, h1, h4, h5, hs⟩ := hc
  have hx := ints_get hp
  have hn : (w.b.getD p 0 = 4) = False := by simp only [eq_iff_iff, iff_false]; omega
  have hz : (s.pcs ≤ (p : Int)) = False := by simp only [eq_iff_iff, iff_false]; omega
  repeat' first
    | simp (maxSteps := 1000000) only [go_sem, Int.reduceLT, Int.reduceLE, Int.reduceToNat, Int.reduceEq, Nat.reduceMul, ↓reduceIte, Nat.reduceLT, Nat.reduceLeDiff, Nat.reduceEqDiff, Nat.reduceAdd, Nat.reduceSub, Nat.reduceBEq, reduceCtorEq, *]
    | contradiction
    | refine wT ?_ ?_ <;> intro _
    | refine wF ?_ ?_ <;> intro _
    | refine cD ?_ ?_ <;> intro _
    | refine dO (by kernel_rfl) ?_
    | refine kcwValidR ?_
    | refine kcwith ?_
    | refine Fin.q ?_ ?_
    | refine Fin.qn ?_ ?_
set_option maxRecDepth 20000 in
theorem kcSplitR {s : Sc} {w : Wd} {p : Nat} {H : Heap} {slot : Nat} {K : D → List (Nat × Blk) → List (Nat × Blk) → Prop} (hK : K (.tup [.agg (w.with p 0).row, .agg (w.with p 1).row, .int .i64 0]) [] []) (hc : CanSplit s w p := by first | assumption | omega) : @callB ⟨callX Tryz.prog⟩ 134 [.agg s.row, .agg w.row, .int .i64 p] H slot ⟨K⟩ := by
  have he0 : rdOf H (D.idsL [.agg s.row, .agg w.row, .int .i64 p]) = [] := by simp (maxSteps := 1000000) only [go_sem, Int.reduceLT, Int.reduceLE, Int.reduceToNat, Int.reduceEq, Nat.reduceMul, ↓reduceIte, Nat.reduceLT, Nat.reduceLeDiff, Nat.reduceEqDiff, Nat.reduceAdd, Nat.reduceSub, Nat.reduceBEq, reduceCtorEq]
  refine call0 false (cSplitR s w p hc) ?_ ?_ (fun h => nomatch h) (by rw [he0]; exact hK)
  iterate 2 (· simp (maxSteps := 1000000) only [go_sem, Int.reduceLT, Int.reduceLE, Int.reduceToNat, Int.reduceEq, Nat.reduceMul, ↓reduceIte, Nat.reduceLT, Nat.reduceLeDiff, Nat.reduceEqDiff, Nat.reduceAdd, Nat.reduceSub, Nat.reduceBEq, reduceCtorEq])
end TR

/- The program's split. -/
open Go Go.Proofs Go.AH
set_option linter.unusedSimpArgs false
set_option linter.unusedVariables false
namespace TR
theorem kCloneO {l : List Int} {H : Heap} {slot : Nat} {K : D → List (Nat × Blk) → List (Nat × Blk) → Prop} (hn : l ≠ []) (hl : l.length ≤ 4294967296) (hK : K (.rs 1 slot 0 l.length l.length) [(slot, ints l)] []) : @callB ⟨callX Tryz.prog⟩ 94 [V l] H slot ⟨K⟩ := by
  refine callO (cCloneO_int l hn hl) rfl (r' := .rs 1 slot 0 l.length l.length) (outs' := [ints l]) rfl ?_ (by simp) hK
  simp [backB, trB, pureB, ints_pure]
def stS (s : Sc) (w : Wd) (p : Nat) : Nat → St
  | 0 => ⟨76, [(39, .int .i64 0), (9, .ptr 4 1 0 0), (8, .int .i64 0), (7, .ptr 3 1 0 0), (6, .ptr 2 1 0 0), (4, .ptr 1 1 0 0), (3, .ptr 0 1 0 0), (2, .int .i64 p)], [some [s.row], some [w.row], some [[.zs, .zs]], some [[.zs, .zs]], some [[.zs, .zs, .zs, .zs]]]⟩
  | 1 => ⟨76, [(39, .int .i64 1), (9, .ptr 4 1 0 0), (8, .int .i64 0), (7, .ptr 3 1 0 0), (6, .ptr 2 1 0 0), (4, .ptr 1 1 0 0), (3, .ptr 0 1 0 0), (2, .int .i64 p)], [some [s.row], some [w.row], some [[.zs, .zs]], some [[.zs, .zs]], some [[.rs 1 5 0 w.s.length w.s.length, .rs 1 17 0 w.b.length w.b.length, .zs, .zs]], some (ints (w.with p 0).s), none, none, none, none, none, none, none, none, none, none, none, some (ints (w.with p 0).b)]⟩
  | _ => ⟨76, [(39, .int .i64 2), (9, .ptr 4 1 0 0), (8, .int .i64 0), (7, .ptr 3 1 0 0), (6, .ptr 2 1 0 0), (4, .ptr 1 1 0 0), (3, .ptr 0 1 0 0), (2, .int .i64 p)], [some [s.row], some [w.row], some [[.zs, .zs]], some [[.zs, .zs]], some [[.rs 1 5 0 w.s.length w.s.length, .rs 1 17 0 w.b.length w.b.length, .rs 1 18 0 w.s.length w.s.length, .rs 1 30 0 w.b.length w.b.length]], some (ints (w.with p 0).s), none, none, none, none, none, none, none, none, none, none, none, some (ints (w.with p 0).b), some (ints (w.with p 1).s), none, none, none, none, none, none, none, none, none, none, none, some (ints (w.with p 1).b)]⟩
set_option maxHeartbeats 2000000 in
set_option maxRecDepth 20000 in
theorem cSplit (s : Sc) (w : Wd) (p : Nat) (hc : CanSplit s w p) : FC Tryz.prog 120 [.agg s.row, .agg w.row, .int .i64 p] [] (.tup [.agg (w.with p 0).row, .agg (w.with p 1).row, .int .i64 0]) [] := by
  refine FC.of_run mix Tryz.func120 rfl rfl (by simp [Tryz.ntmps120]) ?_
  obtain ⟨hv, h8, hl, hp, h0, h1, h4, h5, hs⟩ := hc
  have hx := ints_get hp
  have hn : (w.b.getD p 0 = 4) = False := by simp only [eq_iff_iff, iff_false]; omega
  have hz : (s.pcs ≤ (p : Int)) = False := by simp only [eq_iff_iff, iff_false]; omega
  have n1 : w.s ≠ [] := by intro h; rw [h] at hl; simp at hl; omega
  have n2 : w.b ≠ [] := by intro h; rw [h] at hp; simp at hp
  have l1 : w.s.length ≤ 4294967296 := by omega
  have l2 : w.b.length ≤ 4294967296 := by omega
  repeat' first
    | simp (maxSteps := 1000000) only [go_sem, Int.reduceLT, Int.reduceLE, Int.reduceToNat, Int.reduceEq, Nat.reduceMul, ↓reduceIte, Nat.reduceLT, Nat.reduceLeDiff, Nat.reduceEqDiff, Nat.reduceAdd, Nat.reduceSub, Nat.reduceBEq, reduceCtorEq, *]
    | contradiction
    | refine wT ?_ ?_ <;> intro _
    | refine wF ?_ ?_ <;> intro _
    | refine cD ?_ ?_ <;> intro _
    | refine dO (by kernel_rfl) ?_
    | refine kcwValid ?_
    | refine Fin.q ?_ ?_
    | refine Fin.qn ?_ ?_
  refine AW.loopx (σ := Nat) mix (stS s w p) (fun i => i ≤ 2) (fun i => 2 - i) 0 (by omega) (Conv.mk ?_ ?_ ?_ ?_ ?_) ?_
  iterate 5 (· simp (maxSteps := 1000000) only [go_sem, Int.reduceLT, Int.reduceLE, Int.reduceToNat, Int.reduceEq, Nat.reduceMul, ↓reduceIte, Nat.reduceLT, Nat.reduceLeDiff, Nat.reduceEqDiff, Nat.reduceAdd, Nat.reduceSub, Nat.reduceBEq, reduceCtorEq, stS])
  intro i hi
  have hx0 := ints_get (l := w.s) (i := p) (by omega)
  have w1 : IntKind.i64.wrap (2 * w.s.getD p 0) = 2 * w.s.getD p 0 := by rw [wrapS] <;> omega
  have w2 : IntKind.i64.wrap (2 * w.s.getD p 0 + 0) = 2 * w.s.getD p 0 + 0 := by rw [wrapS] <;> omega
  have w4 : IntKind.i64.wrap (2 * w.s.getD p 0 + 1) = 2 * w.s.getD p 0 + 1 := by rw [wrapS] <;> omega
  have w3 : IntKind.i64.wrap (w.b.getD p 0 + 1) = w.b.getD p 0 + 1 := by rw [wrapS] <;> omega
  have hw0 : IntKind.i64.wrap ((0 : Int) + 1) = 1 := by decide
  have hw1 : IntKind.i64.wrap ((1 : Int) + 1) = 2 := by decide
  have hp2 : p < w.s.length := by omega
  clear hl h0 h1 h4 h5 hz hn
  rcases (by omega : i = 0 ∨ i = 1 ∨ i = 2) with rfl | rfl | rfl
  · simp only [stS]
    repeat' first
      | simp (maxSteps := 1000000) only [go_sem, Int.reduceLT, Int.reduceLE, Int.reduceToNat, Int.reduceEq, Nat.reduceMul, ↓reduceIte, Nat.reduceLT, Nat.reduceLeDiff, Nat.reduceEqDiff, Nat.reduceAdd, Nat.reduceSub, Nat.reduceBEq, reduceCtorEq, *, set_ints, len_set, List.drop_zero, List.take_length, take_set, stS, Wd.with]
      | contradiction
      | refine wT ?_ ?_ <;> intro _
      | refine wF ?_ ?_ <;> intro _
      | refine cD ?_ ?_ <;> intro _
      | refine dO (by kernel_rfl) ?_
      | refine (kCloneO ‹_› ‹_›) ?_
      | (refine ⟨1, ?_, ?_, Conv.mk ?_ ?_ ?_ ?_ ?_⟩; (· (first | omega | (simp only; omega) | (simp only [List.length_nil, List.length_cons]; omega))); (· (omega)))
      | refine Fin.q ?_ ?_
      | refine Fin.qn ?_ ?_
  · simp only [stS]
    repeat' first
      | simp (maxSteps := 1000000) only [go_sem, Int.reduceLT, Int.reduceLE, Int.reduceToNat, Int.reduceEq, Nat.reduceMul, ↓reduceIte, Nat.reduceLT, Nat.reduceLeDiff, Nat.reduceEqDiff, Nat.reduceAdd, Nat.reduceSub, Nat.reduceBEq, reduceCtorEq, *, set_ints, len_set, List.drop_zero, List.take_length, take_set, stS, Wd.with]
      | contradiction
      | refine wT ?_ ?_ <;> intro _
      | refine wF ?_ ?_ <;> intro _
      | refine cD ?_ ?_ <;> intro _
      | refine dO (by kernel_rfl) ?_
      | refine (kCloneO ‹_› ‹_›) ?_
      | (refine ⟨2, ?_, ?_, Conv.mk ?_ ?_ ?_ ?_ ?_⟩; (· (first | omega | (simp only; omega) | (simp only [List.length_nil, List.length_cons]; omega))); (· (omega)))
      | refine Fin.q ?_ ?_
      | refine Fin.qn ?_ ?_
  · simp only [stS]
    repeat' first
      | simp (maxSteps := 1000000) only [go_sem, Int.reduceLT, Int.reduceLE, Int.reduceToNat, Int.reduceEq, Nat.reduceMul, ↓reduceIte, Nat.reduceLT, Nat.reduceLeDiff, Nat.reduceEqDiff, Nat.reduceAdd, Nat.reduceSub, Nat.reduceBEq, reduceCtorEq, *, set_ints, len_set, List.drop_zero, List.take_length, take_set, Wd.with]
      | contradiction
      | refine wT ?_ ?_ <;> intro _
      | refine wF ?_ ?_ <;> intro _
      | refine cD ?_ ?_ <;> intro _
      | refine dO (by kernel_rfl) ?_
      | ((first | refine Fin.q ?_ ?_ | refine Fin.qn ?_ ?_) <;> ((try simp (maxSteps := 1000000) only [go_sem, Int.reduceLT, Int.reduceLE, Int.reduceToNat, Int.reduceEq, Nat.reduceMul, ↓reduceIte, Nat.reduceLT, Nat.reduceLeDiff, Nat.reduceEqDiff, Nat.reduceAdd, Nat.reduceSub, Nat.reduceBEq, reduceCtorEq, *, set_ints, len_set, List.drop_zero, List.take_length, take_set, Wd.with]) <;> (first | done | rfl)))
set_option maxRecDepth 20000 in
theorem kcSplit {s : Sc} {w : Wd} {p : Nat} {H : Heap} {slot : Nat} {K : D → List (Nat × Blk) → List (Nat × Blk) → Prop} (hK : K (.tup [.agg (w.with p 0).row, .agg (w.with p 1).row, .int .i64 0]) [] []) (hc : CanSplit s w p := by first | assumption | omega) : @callB ⟨callX Tryz.prog⟩ 120 [.agg s.row, .agg w.row, .int .i64 p] H slot ⟨K⟩ := by
  have he0 : rdOf H (D.idsL [.agg s.row, .agg w.row, .int .i64 p]) = [] := by simp (maxSteps := 1000000) only [go_sem, Int.reduceLT, Int.reduceLE, Int.reduceToNat, Int.reduceEq, Nat.reduceMul, ↓reduceIte, Nat.reduceLT, Nat.reduceLeDiff, Nat.reduceEqDiff, Nat.reduceAdd, Nat.reduceSub, Nat.reduceBEq, reduceCtorEq]
  refine call0 false (cSplit s w p hc) ?_ ?_ (fun h => nomatch h) (by rw [he0]; exact hK)
  iterate 2 (· simp (maxSteps := 1000000) only [go_sem, Int.reduceLT, Int.reduceLE, Int.reduceToNat, Int.reduceEq, Nat.reduceMul, ↓reduceIte, Nat.reduceLT, Nat.reduceLeDiff, Nat.reduceEqDiff, Nat.reduceAdd, Nat.reduceSub, Nat.reduceBEq, reduceCtorEq])
end TR

/- Roots, the piece with the fewest bits, copies of words. -/
open Go Go.Proofs Go.AH
set_option linter.unusedSimpArgs false
set_option linter.unusedVariables false
namespace TR
def zeros (n : Nat) : List Int := List.replicate n 0
def rootW (s : Sc) : Wd := ⟨zeros s.pcs.toNat, zeros s.pcs.toNat⟩
theorem rep_ints (n : Nat) : List.replicate n [D.int .i64 0] = ints (zeros n) := by simp [ints, zeros]
theorem take_zeros (n : Nat) : (ints (zeros n)).take n = ints (zeros n) := by
  have := take_ints (zeros n)
  rwa [show (zeros n).length = n by simp [zeros]] at this
theorem len_zeros (n : Nat) : (zeros n).length = n := by simp [zeros]
set_option maxHeartbeats 2000000 in
set_option maxRecDepth 20000 in
theorem cRoot (s : Sc) (hs : s.ok) : FC Tryz.prog 75 [.agg s.row] [] (.tup [.agg (rootW s).row, .int .i64 0]) [] := by
  refine FC.of_run mix Tryz.func75 rfl rfl (by simp [Tryz.ntmps75]) ?_
  have h1 := hs.1.2.2.2.1
  have h2 := hs.1.2.2.2.2.1
  have h3 : (s.pcs = 0) = False := by simp only [eq_iff_iff, iff_false]; omega
  have h4 : 0 ≤ s.pcs := by omega
  have h5 : s.pcs ≤ (capMax : Int) := by unfold capMax; omega
  repeat' first
    | simp (maxSteps := 1000000) only [go_sem, Int.reduceLT, Int.reduceLE, Int.reduceToNat, Int.reduceEq, Nat.reduceMul, ↓reduceIte, Nat.reduceLT, Nat.reduceLeDiff, Nat.reduceEqDiff, Nat.reduceAdd, Nat.reduceSub, Nat.reduceBEq, reduceCtorEq, *, rep_ints, len_zeros, Int.le_refl, List.drop_zero, take_zeros]
    | contradiction
    | refine wT ?_ ?_ <;> intro _
    | refine wF ?_ ?_ <;> intro _
    | refine cD ?_ ?_ <;> intro _
    | refine dO (by kernel_rfl) ?_
    | refine kcwCheck ?_
    | ((first | refine Fin.q ?_ ?_ | refine Fin.qn ?_ ?_) <;> ((try simp (maxSteps := 1000000) only [go_sem, Int.reduceLT, Int.reduceLE, Int.reduceToNat, Int.reduceEq, Nat.reduceMul, ↓reduceIte, Nat.reduceLT, Nat.reduceLeDiff, Nat.reduceEqDiff, Nat.reduceAdd, Nat.reduceSub, Nat.reduceBEq, reduceCtorEq, *, rep_ints, len_zeros, Int.le_refl, List.drop_zero, take_zeros]) <;> (first | done | rfl)))
set_option maxRecDepth 20000 in
theorem kcRoot {s : Sc} {H : Heap} {slot : Nat} {K : D → List (Nat × Blk) → List (Nat × Blk) → Prop} (hK : K (.tup [.agg (rootW s).row, .int .i64 0]) [] []) (hs : s.ok := by first | assumption | omega) : @callB ⟨callX Tryz.prog⟩ 75 [.agg s.row] H slot ⟨K⟩ := by
  have he0 : rdOf H (D.idsL [.agg s.row]) = [] := by simp (maxSteps := 1000000) only [go_sem, Int.reduceLT, Int.reduceLE, Int.reduceToNat, Int.reduceEq, Nat.reduceMul, ↓reduceIte, Nat.reduceLT, Nat.reduceLeDiff, Nat.reduceEqDiff, Nat.reduceAdd, Nat.reduceSub, Nat.reduceBEq, reduceCtorEq]
  refine call0 false (cRoot s hs) ?_ ?_ (fun h => nomatch h) (by rw [he0]; exact hK)
  iterate 2 (· simp (maxSteps := 1000000) only [go_sem, Int.reduceLT, Int.reduceLE, Int.reduceToNat, Int.reduceEq, Nat.reduceMul, ↓reduceIte, Nat.reduceLT, Nat.reduceLeDiff, Nat.reduceEqDiff, Nat.reduceAdd, Nat.reduceSub, Nat.reduceBEq, reduceCtorEq])
set_option maxHeartbeats 2000000 in
set_option maxRecDepth 20000 in
theorem cRootR (s : Sc) (hs : s.ok) : FC Tryz.prog 81 [.agg s.row] [] (.tup [.agg (rootW s).row, .int .i64 0]) [] := by
  refine FC.of_run mix Tryz.func81 rfl rfl (by simp [Tryz.ntmps81]) ?_
  have h1 := hs.1.2.2.2.1
  have h2 := hs.1.2.2.2.2.1
  have h3 : (s.pcs = 0) = False := by simp only [eq_iff_iff, iff_false]; omega
  have h4 : 0 ≤ s.pcs := by omega
  have h5 : s.pcs ≤ (capMax : Int) := by unfold capMax; omega
  repeat' first
    | simp (maxSteps := 1000000) only [go_sem, Int.reduceLT, Int.reduceLE, Int.reduceToNat, Int.reduceEq, Nat.reduceMul, ↓reduceIte, Nat.reduceLT, Nat.reduceLeDiff, Nat.reduceEqDiff, Nat.reduceAdd, Nat.reduceSub, Nat.reduceBEq, reduceCtorEq, *, rep_ints, len_zeros, Int.le_refl, List.drop_zero, take_zeros]
    | contradiction
    | refine wT ?_ ?_ <;> intro _
    | refine wF ?_ ?_ <;> intro _
    | refine cD ?_ ?_ <;> intro _
    | refine dO (by kernel_rfl) ?_
    | refine kcwCheckR ?_
    | ((first | refine Fin.q ?_ ?_ | refine Fin.qn ?_ ?_) <;> ((try simp (maxSteps := 1000000) only [go_sem, Int.reduceLT, Int.reduceLE, Int.reduceToNat, Int.reduceEq, Nat.reduceMul, ↓reduceIte, Nat.reduceLT, Nat.reduceLeDiff, Nat.reduceEqDiff, Nat.reduceAdd, Nat.reduceSub, Nat.reduceBEq, reduceCtorEq, *, rep_ints, len_zeros, Int.le_refl, List.drop_zero, take_zeros]) <;> (first | done | rfl)))
set_option maxRecDepth 20000 in
theorem kcRootR {s : Sc} {H : Heap} {slot : Nat} {K : D → List (Nat × Blk) → List (Nat × Blk) → Prop} (hK : K (.tup [.agg (rootW s).row, .int .i64 0]) [] []) (hs : s.ok := by first | assumption | omega) : @callB ⟨callX Tryz.prog⟩ 81 [.agg s.row] H slot ⟨K⟩ := by
  have he0 : rdOf H (D.idsL [.agg s.row]) = [] := by simp (maxSteps := 1000000) only [go_sem, Int.reduceLT, Int.reduceLE, Int.reduceToNat, Int.reduceEq, Nat.reduceMul, ↓reduceIte, Nat.reduceLT, Nat.reduceLeDiff, Nat.reduceEqDiff, Nat.reduceAdd, Nat.reduceSub, Nat.reduceBEq, reduceCtorEq]
  refine call0 false (cRootR s hs) ?_ ?_ (fun h => nomatch h) (by rw [he0]; exact hK)
  iterate 2 (· simp (maxSteps := 1000000) only [go_sem, Int.reduceLT, Int.reduceLE, Int.reduceToNat, Int.reduceEq, Nat.reduceMul, ↓reduceIte, Nat.reduceLT, Nat.reduceLeDiff, Nat.reduceEqDiff, Nat.reduceAdd, Nat.reduceSub, Nat.reduceBEq, reduceCtorEq])
def better (b : List Int) (best : Int) (i : Nat) : Int := if b.getD i 0 < 4 ∧ (best < 0 ∨ b.getD i 0 < b.getD best.toNat 0) then i else best
def fewestF (b : List Int) : Nat → Int
  | 0 => -1
  | i + 1 => better b (fewestF b i) i
theorem fewestF_range (b : List Int) (i : Nat) : -1 ≤ fewestF b i ∧ fewestF b i < i := by
  induction i with
  | zero => simp [fewestF]
  | succ i ih => simp only [fewestF, better]; split <;> omega
set_option maxHeartbeats 2000000 in
set_option maxRecDepth 20000 in
theorem cfewest (w : Wd) (hl : w.b.length < 1000000000000000) : FC Tryz.prog 119 [.agg w.row] [] (.int .i64 (fewestF w.b w.b.length)) [] := by
  refine FC.of_run mix Tryz.func119 rfl rfl (by simp [Tryz.ntmps119]) ?_
  repeat' first
    | simp (maxSteps := 1000000) only [go_sem, Int.reduceLT, Int.reduceLE, Int.reduceToNat, Int.reduceEq, Nat.reduceMul, ↓reduceIte, Nat.reduceLT, Nat.reduceLeDiff, Nat.reduceEqDiff, Nat.reduceAdd, Nat.reduceSub, Nat.reduceBEq, reduceCtorEq, *]
    | contradiction
    | refine wT ?_ ?_ <;> intro _
    | refine wF ?_ ?_ <;> intro _
    | refine cD ?_ ?_ <;> intro _
    | refine dO (by kernel_rfl) ?_
    | refine Fin.q ?_ ?_
    | refine Fin.qn ?_ ?_
  refine AW.loopx (σ := Nat) mix (fun i => ⟨32, [(9, .int .i64 i), (8, .int .i64 w.b.length), (7, V w.b), (3, .int .i64 (fewestF w.b i)), (1, .ptr 0 1 0 0)], [some [w.row]]⟩) (fun i => i ≤ w.b.length) (fun i => w.b.length - i) 0 (by omega) (Conv.mk ?_ ?_ ?_ ?_ ?_) ?_
  iterate 5 (· (simp (maxSteps := 1000000) only [go_sem, Int.reduceLT, Int.reduceLE, Int.reduceToNat, Int.reduceEq, Nat.reduceMul, ↓reduceIte, Nat.reduceLT, Nat.reduceLeDiff, Nat.reduceEqDiff, Nat.reduceAdd, Nat.reduceSub, Nat.reduceBEq, reduceCtorEq, fewestF]) <;> (first | rfl | (simp [ints]; done) | (simp [*]; done) | ((repeat' (first | rfl | apply And.intro)); done)))
  intro i hi
  have hw := wrap1 (i := i) (by omega)
  by_cases h : i < w.b.length
  · have hx := ints_get h
    have hr := fewestF_range w.b i
    have hy : ¬ fewestF w.b i < 0 → (ints w.b)[(fewestF w.b i).toNat]? = some [.int .i64 (w.b.getD (fewestF w.b i).toNat 0)] := fun hh => ints_get (by omega)
    clear hr
    repeat' first
      | simp (maxSteps := 1000000) only [go_sem, Int.reduceLT, Int.reduceLE, Int.reduceToNat, Int.reduceEq, Nat.reduceMul, ↓reduceIte, Nat.reduceLT, Nat.reduceLeDiff, Nat.reduceEqDiff, Nat.reduceAdd, Nat.reduceSub, Nat.reduceBEq, reduceCtorEq, *, fewestF, better, true_or, or_true, false_or, or_false, and_self]
      | contradiction
      | refine wT ?_ ?_ <;> intro _
      | refine wF ?_ ?_ <;> intro _
      | refine cD ?_ ?_ <;> intro _
      | refine dO (by kernel_rfl) ?_
      | (refine ⟨i + 1, ?_, ?_, Conv.mk ?_ ?_ ?_ ?_ ?_⟩; (· (first | omega | (simp only; omega) | (simp only [List.length_nil, List.length_cons]; omega))); (· (omega)))
      | refine Fin.q ?_ ?_
      | refine Fin.qn ?_ ?_
  · obtain rfl : i = w.b.length := by omega
    repeat' first
      | simp (maxSteps := 1000000) only [go_sem, Int.reduceLT, Int.reduceLE, Int.reduceToNat, Int.reduceEq, Nat.reduceMul, ↓reduceIte, Nat.reduceLT, Nat.reduceLeDiff, Nat.reduceEqDiff, Nat.reduceAdd, Nat.reduceSub, Nat.reduceBEq, reduceCtorEq, *]
      | contradiction
      | refine wT ?_ ?_ <;> intro _
      | refine wF ?_ ?_ <;> intro _
      | refine cD ?_ ?_ <;> intro _
      | refine dO (by kernel_rfl) ?_
      | refine Fin.q ?_ ?_
      | refine Fin.qn ?_ ?_
set_option maxRecDepth 20000 in
theorem kcfewest {w : Wd} {H : Heap} {slot : Nat} {K : D → List (Nat × Blk) → List (Nat × Blk) → Prop} (hK : K (.int .i64 (fewestF w.b w.b.length)) [] []) (hl : w.b.length < 1000000000000000 := by first | assumption | omega) : @callB ⟨callX Tryz.prog⟩ 119 [.agg w.row] H slot ⟨K⟩ := by
  have he0 : rdOf H (D.idsL [.agg w.row]) = [] := by simp (maxSteps := 1000000) only [go_sem, Int.reduceLT, Int.reduceLE, Int.reduceToNat, Int.reduceEq, Nat.reduceMul, ↓reduceIte, Nat.reduceLT, Nat.reduceLeDiff, Nat.reduceEqDiff, Nat.reduceAdd, Nat.reduceSub, Nat.reduceBEq, reduceCtorEq]
  refine call0 false (cfewest w hl) ?_ ?_ (fun h => nomatch h) (by rw [he0]; exact hK)
  iterate 2 (· simp (maxSteps := 1000000) only [go_sem, Int.reduceLT, Int.reduceLE, Int.reduceToNat, Int.reduceEq, Nat.reduceMul, ↓reduceIte, Nat.reduceLT, Nat.reduceLeDiff, Nat.reduceEqDiff, Nat.reduceAdd, Nat.reduceSub, Nat.reduceBEq, reduceCtorEq])
set_option maxHeartbeats 2000000 in
set_option maxRecDepth 20000 in
theorem cfewestR (w : Wd) (hl : w.b.length < 1000000000000000) : FC Tryz.prog 133 [.agg w.row] [] (.int .i64 (fewestF w.b w.b.length)) [] := by
  refine FC.of_run mix Tryz.func133 rfl rfl (by simp [Tryz.ntmps133]) ?_
  repeat' first
    | simp (maxSteps := 1000000) only [go_sem, Int.reduceLT, Int.reduceLE, Int.reduceToNat, Int.reduceEq, Nat.reduceMul, ↓reduceIte, Nat.reduceLT, Nat.reduceLeDiff, Nat.reduceEqDiff, Nat.reduceAdd, Nat.reduceSub, Nat.reduceBEq, reduceCtorEq, *]
    | contradiction
    | refine wT ?_ ?_ <;> intro _
    | refine wF ?_ ?_ <;> intro _
    | refine cD ?_ ?_ <;> intro _
    | refine dO (by kernel_rfl) ?_
    | refine Fin.q ?_ ?_
    | refine Fin.qn ?_ ?_
  refine AW.loopx (σ := Nat) mix (fun i => ⟨37, [(4, .int .i64 i), (3, .int .i64 (fewestF w.b i)), (1, .ptr 0 1 0 0)], [some [w.row]]⟩) (fun i => i ≤ w.b.length) (fun i => w.b.length - i) 0 (by omega) (Conv.mk ?_ ?_ ?_ ?_ ?_) ?_
  iterate 5 (· (simp (maxSteps := 1000000) only [go_sem, Int.reduceLT, Int.reduceLE, Int.reduceToNat, Int.reduceEq, Nat.reduceMul, ↓reduceIte, Nat.reduceLT, Nat.reduceLeDiff, Nat.reduceEqDiff, Nat.reduceAdd, Nat.reduceSub, Nat.reduceBEq, reduceCtorEq, fewestF]) <;> (first | rfl | (simp [ints]; done) | (simp [*]; done) | ((repeat' (first | rfl | apply And.intro)); done)))
  intro i hi
  have hw := wrap1 (i := i) (by omega)
  by_cases h : i < w.b.length
  · have hx := ints_get h
    have hr := fewestF_range w.b i
    have hy : ¬ fewestF w.b i < 0 → (ints w.b)[(fewestF w.b i).toNat]? = some [.int .i64 (w.b.getD (fewestF w.b i).toNat 0)] := fun hh => ints_get (by omega)
    clear hr
    repeat' first
      | simp (maxSteps := 1000000) only [go_sem, Int.reduceLT, Int.reduceLE, Int.reduceToNat, Int.reduceEq, Nat.reduceMul, ↓reduceIte, Nat.reduceLT, Nat.reduceLeDiff, Nat.reduceEqDiff, Nat.reduceAdd, Nat.reduceSub, Nat.reduceBEq, reduceCtorEq, *, fewestF, better, true_or, or_true, false_or, or_false, and_self]
      | contradiction
      | refine wT ?_ ?_ <;> intro _
      | refine wF ?_ ?_ <;> intro _
      | refine cD ?_ ?_ <;> intro _
      | refine dO (by kernel_rfl) ?_
      | (refine ⟨i + 1, ?_, ?_, Conv.mk ?_ ?_ ?_ ?_ ?_⟩; (· (first | omega | (simp only; omega) | (simp only [List.length_nil, List.length_cons]; omega))); (· (omega)))
      | refine Fin.q ?_ ?_
      | refine Fin.qn ?_ ?_
  · obtain rfl : i = w.b.length := by omega
    repeat' first
      | simp (maxSteps := 1000000) only [go_sem, Int.reduceLT, Int.reduceLE, Int.reduceToNat, Int.reduceEq, Nat.reduceMul, ↓reduceIte, Nat.reduceLT, Nat.reduceLeDiff, Nat.reduceEqDiff, Nat.reduceAdd, Nat.reduceSub, Nat.reduceBEq, reduceCtorEq, *]
      | contradiction
      | refine wT ?_ ?_ <;> intro _
      | refine wF ?_ ?_ <;> intro _
      | refine cD ?_ ?_ <;> intro _
      | refine dO (by kernel_rfl) ?_
      | refine Fin.q ?_ ?_
      | refine Fin.qn ?_ ?_
set_option maxRecDepth 20000 in
theorem kcfewestR {w : Wd} {H : Heap} {slot : Nat} {K : D → List (Nat × Blk) → List (Nat × Blk) → Prop} (hK : K (.int .i64 (fewestF w.b w.b.length)) [] []) (hl : w.b.length < 1000000000000000 := by first | assumption | omega) : @callB ⟨callX Tryz.prog⟩ 133 [.agg w.row] H slot ⟨K⟩ := by
  have he0 : rdOf H (D.idsL [.agg w.row]) = [] := by simp (maxSteps := 1000000) only [go_sem, Int.reduceLT, Int.reduceLE, Int.reduceToNat, Int.reduceEq, Nat.reduceMul, ↓reduceIte, Nat.reduceLT, Nat.reduceLeDiff, Nat.reduceEqDiff, Nat.reduceAdd, Nat.reduceSub, Nat.reduceBEq, reduceCtorEq]
  refine call0 false (cfewestR w hl) ?_ ?_ (fun h => nomatch h) (by rw [he0]; exact hK)
  iterate 2 (· simp (maxSteps := 1000000) only [go_sem, Int.reduceLT, Int.reduceLE, Int.reduceToNat, Int.reduceEq, Nat.reduceMul, ↓reduceIte, Nat.reduceLT, Nat.reduceLeDiff, Nat.reduceEqDiff, Nat.reduceAdd, Nat.reduceSub, Nat.reduceBEq, reduceCtorEq])
theorem kClone {l : List Int} {H : Heap} {slot : Nat} {K : D → List (Nat × Blk) → List (Nat × Blk) → Prop} (hK : K (V l) [] []) (hl : l.length ≤ 4294967296 := by first | assumption | omega) : @callB ⟨callX Tryz.prog⟩ 94 [V l] H slot ⟨K⟩ := call0 false (cClone_int l hl) rfl rfl (fun h => nomatch h) hK
set_option maxHeartbeats 2000000 in
set_option maxRecDepth 20000 in
theorem cwords (w : Wd) (h1 : w.s.length ≤ 4294967296) (h2 : w.b.length ≤ 4294967296) : FC Tryz.prog 96 [.agg w.row] [] (.agg w.row) [] := by
  refine FC.of_run mix Tryz.func96 rfl rfl (by simp [Tryz.ntmps96]) ?_
  repeat' first
    | simp (maxSteps := 1000000) only [go_sem, Int.reduceLT, Int.reduceLE, Int.reduceToNat, Int.reduceEq, Nat.reduceMul, ↓reduceIte, Nat.reduceLT, Nat.reduceLeDiff, Nat.reduceEqDiff, Nat.reduceAdd, Nat.reduceSub, Nat.reduceBEq, reduceCtorEq, *]
    | contradiction
    | refine wT ?_ ?_ <;> intro _
    | refine wF ?_ ?_ <;> intro _
    | refine cD ?_ ?_ <;> intro _
    | refine dO (by kernel_rfl) ?_
    | refine kClone ?_
    | refine Fin.q ?_ ?_
    | refine Fin.qn ?_ ?_
set_option maxRecDepth 20000 in
theorem kcwords {w : Wd} {H : Heap} {slot : Nat} {K : D → List (Nat × Blk) → List (Nat × Blk) → Prop} (hK : K (.agg w.row) [] []) (h1 : w.s.length ≤ 4294967296 := by first | assumption | omega) (h2 : w.b.length ≤ 4294967296 := by first | assumption | omega) : @callB ⟨callX Tryz.prog⟩ 96 [.agg w.row] H slot ⟨K⟩ := by
  have he0 : rdOf H (D.idsL [.agg w.row]) = [] := by simp (maxSteps := 1000000) only [go_sem, Int.reduceLT, Int.reduceLE, Int.reduceToNat, Int.reduceEq, Nat.reduceMul, ↓reduceIte, Nat.reduceLT, Nat.reduceLeDiff, Nat.reduceEqDiff, Nat.reduceAdd, Nat.reduceSub, Nat.reduceBEq, reduceCtorEq]
  refine call0 false (cwords w h1 h2) ?_ ?_ (fun h => nomatch h) (by rw [he0]; exact hK)
  iterate 2 (· simp (maxSteps := 1000000) only [go_sem, Int.reduceLT, Int.reduceLE, Int.reduceToNat, Int.reduceEq, Nat.reduceMul, ↓reduceIte, Nat.reduceLT, Nat.reduceLeDiff, Nat.reduceEqDiff, Nat.reduceAdd, Nat.reduceSub, Nat.reduceBEq, reduceCtorEq])
set_option maxHeartbeats 2000000 in
set_option maxRecDepth 20000 in
theorem ccap (n : Int)  : FC Tryz.prog 118 [.int .i64 n] [] (.bool (decide (1 ≤ n ∧ n ≤ 64))) [] := by
  refine FC.of_run mix Tryz.func118 rfl rfl (by simp [Tryz.ntmps118]) ?_
  repeat' first
    | simp (maxSteps := 1000000) only [go_sem, Int.reduceLT, Int.reduceLE, Int.reduceToNat, Int.reduceEq, Nat.reduceMul, ↓reduceIte, Nat.reduceLT, Nat.reduceLeDiff, Nat.reduceEqDiff, Nat.reduceAdd, Nat.reduceSub, Nat.reduceBEq, reduceCtorEq, *]
    | contradiction
    | refine wT ?_ ?_ <;> intro _
    | refine wF ?_ ?_ <;> intro _
    | refine cD ?_ ?_ <;> intro _
    | refine dO (by kernel_rfl) ?_
    | ((first | refine Fin.q ?_ ?_ | refine Fin.qn ?_ ?_) <;> ((try simp (maxSteps := 1000000) only [go_sem, Int.reduceLT, Int.reduceLE, Int.reduceToNat, Int.reduceEq, Nat.reduceMul, ↓reduceIte, Nat.reduceLT, Nat.reduceLeDiff, Nat.reduceEqDiff, Nat.reduceAdd, Nat.reduceSub, Nat.reduceBEq, reduceCtorEq, *]) <;> (first | done | (simp only [Option.some.injEq, D.bool.injEq]; first | exact decide_eq_decide.2 (by omega) | exact (decide_eq_true (by omega)).symm | exact (decide_eq_false (by omega)).symm))))
set_option maxRecDepth 20000 in
theorem kccap {n : Int} {H : Heap} {slot : Nat} {K : D → List (Nat × Blk) → List (Nat × Blk) → Prop} (hK : K (.bool (decide (1 ≤ n ∧ n ≤ 64))) [] []) : @callB ⟨callX Tryz.prog⟩ 118 [.int .i64 n] H slot ⟨K⟩ := by
  have he0 : rdOf H (D.idsL [.int .i64 n]) = [] := by simp (maxSteps := 1000000) only [go_sem, Int.reduceLT, Int.reduceLE, Int.reduceToNat, Int.reduceEq, Nat.reduceMul, ↓reduceIte, Nat.reduceLT, Nat.reduceLeDiff, Nat.reduceEqDiff, Nat.reduceAdd, Nat.reduceSub, Nat.reduceBEq, reduceCtorEq]
  refine call0 false (ccap n ) ?_ ?_ (fun h => nomatch h) (by rw [he0]; exact hK)
  iterate 2 (· simp (maxSteps := 1000000) only [go_sem, Int.reduceLT, Int.reduceLE, Int.reduceToNat, Int.reduceEq, Nat.reduceMul, ↓reduceIte, Nat.reduceLT, Nat.reduceLeDiff, Nat.reduceEqDiff, Nat.reduceAdd, Nat.reduceSub, Nat.reduceBEq, reduceCtorEq])
end TR

/- run.Copy. -/
open Go Go.Proofs Go.AH
set_option linter.unusedSimpArgs false
set_option linter.unusedVariables false
namespace TR
theorem kCloneE {l : List En} {H : Heap} {slot : Nat} {K : D → List (Nat × Blk) → List (Nat × Blk) → Prop} (hK : K (.vs (ents l)) [] []) (hl : l.length ≤ 4294967296 := by first | assumption | omega) : @callB ⟨callX Tryz.prog⟩ 88 [.vs (ents l)] H slot ⟨K⟩ := call0 false (cClone_en l hl) rfl rfl (fun h => nomatch h) hK
theorem kCloneEO {l : List En} {H : Heap} {slot : Nat} {K : D → List (Nat × Blk) → List (Nat × Blk) → Prop} (hn : l ≠ []) (hl : l.length ≤ 4294967296) (hK : K (.rs 4 slot 0 l.length l.length) [(slot, ents l)] []) : @callB ⟨callX Tryz.prog⟩ 88 [.vs (ents l)] H slot ⟨K⟩ := by
  refine callO (cCloneO_en l hn hl) rfl (r' := .rs 4 slot 0 l.length l.length) (outs' := [ents l]) rfl ?_ (by simp) hK
  simp [backB, trB, pureB, ents_pure]
theorem set_self {l : List En} {i : Nat} (h : i < l.length) : (ents l).set i [V (l.getD i default).w.s, V (l.getD i default).w.b, .int .i64 (l.getD i default).p, .int .i64 (l.getD i default).q] = ents l := by
  have := ents_get h
  apply List.ext_getElem?
  intro j
  rw [List.getElem?_set]
  split
  · rename_i e
    subst e
    rw [if_pos (by rw [ents_len]; exact h), this]
    rfl
  · rfl
def En.lens (e : En) : Prop := e.w.s.length ≤ 4294967296 ∧ e.w.b.length ≤ 4294967296
set_option maxHeartbeats 2000000 in
set_option maxRecDepth 20000 in
theorem ceCopy (l : List En) (hl : l.length ≤ 4294967296) (hw : ∀ i, i < l.length → (l.getD i default).lens) : FC Tryz.prog 69 [.vs (ents l)] [] (.vs (ents l)) [] := by
  refine FC.of_run mix Tryz.func69 rfl rfl (by simp [Tryz.ntmps69]) ?_
  by_cases hn : l = []
  · subst hn
    repeat' first
      | simp (maxSteps := 1000000) only [go_sem, Int.reduceLT, Int.reduceLE, Int.reduceToNat, Int.reduceEq, Nat.reduceMul, ↓reduceIte, Nat.reduceLT, Nat.reduceLeDiff, Nat.reduceEqDiff, Nat.reduceAdd, Nat.reduceSub, Nat.reduceBEq, reduceCtorEq, *, List.length_nil]
      | contradiction
      | refine wT ?_ ?_ <;> intro _
      | refine wF ?_ ?_ <;> intro _
      | refine cD ?_ ?_ <;> intro _
      | refine dO (by kernel_rfl) ?_
      | refine kCloneE ?_
      | refine Fin.q ?_ ?_
      | refine Fin.qn ?_ ?_
    refine AW.loopx (σ := Unit) mix (fun _u => ⟨30, [(10, .int .i64 0), (9, .int .i64 0), (3, .vs (ents []))], []⟩) (fun _u => True) (fun _u => 0) () trivial (Conv.mk ?_ ?_ ?_ ?_ ?_) ?_
    iterate 5 (· (simp (maxSteps := 1000000) only [go_sem, Int.reduceLT, Int.reduceLE, Int.reduceToNat, Int.reduceEq, Nat.reduceMul, ↓reduceIte, Nat.reduceLT, Nat.reduceLeDiff, Nat.reduceEqDiff, Nat.reduceAdd, Nat.reduceSub, Nat.reduceBEq, reduceCtorEq, List.length_nil]) <;> (first | rfl | (simp [ints]; done) | (simp [*]; done) | ((repeat' (first | rfl | apply And.intro)); done)))
    intro _ _
    repeat' first
      | simp (maxSteps := 1000000) only [go_sem, Int.reduceLT, Int.reduceLE, Int.reduceToNat, Int.reduceEq, Nat.reduceMul, ↓reduceIte, Nat.reduceLT, Nat.reduceLeDiff, Nat.reduceEqDiff, Nat.reduceAdd, Nat.reduceSub, Nat.reduceBEq, reduceCtorEq, *]
      | contradiction
      | refine wT ?_ ?_ <;> intro _
      | refine wF ?_ ?_ <;> intro _
      | refine cD ?_ ?_ <;> intro _
      | refine dO (by kernel_rfl) ?_
      | refine Fin.q ?_ ?_
      | refine Fin.qn ?_ ?_
  · repeat' first
      | simp (maxSteps := 1000000) only [go_sem, Int.reduceLT, Int.reduceLE, Int.reduceToNat, Int.reduceEq, Nat.reduceMul, ↓reduceIte, Nat.reduceLT, Nat.reduceLeDiff, Nat.reduceEqDiff, Nat.reduceAdd, Nat.reduceSub, Nat.reduceBEq, reduceCtorEq, *]
      | contradiction
      | refine wT ?_ ?_ <;> intro _
      | refine wF ?_ ?_ <;> intro _
      | refine cD ?_ ?_ <;> intro _
      | refine dO (by kernel_rfl) ?_
      | refine (kCloneEO ‹_› ‹_›) ?_
      | refine Fin.q ?_ ?_
      | refine Fin.qn ?_ ?_
    refine AW.loopx (σ := Nat) mix (fun i => ⟨30, [(10, .int .i64 i), (9, .int .i64 l.length), (8, .rs 4 0 0 l.length l.length), (3, .rs 4 0 0 l.length l.length)], [some (ents l)]⟩) (fun i => i ≤ l.length) (fun i => l.length - i) 0 (by omega) (Conv.mk ?_ ?_ ?_ ?_ ?_) ?_
    iterate 5 (· (simp (maxSteps := 1000000) only [go_sem, Int.reduceLT, Int.reduceLE, Int.reduceToNat, Int.reduceEq, Nat.reduceMul, ↓reduceIte, Nat.reduceLT, Nat.reduceLeDiff, Nat.reduceEqDiff, Nat.reduceAdd, Nat.reduceSub, Nat.reduceBEq, reduceCtorEq]) <;> (first | rfl | (simp [ints]; done) | (simp [*]; done) | ((repeat' (first | rfl | apply And.intro)); done)))
    intro i hi
    have hv := wrap1 (i := i) (by omega)
    by_cases h : i < l.length
    · have hx := ents_get h
      have hy := set_self h
      obtain ⟨e1, e2⟩ := hw i h
      clear hw
      repeat' first
        | simp (maxSteps := 1000000) only [go_sem, Int.reduceLT, Int.reduceLE, Int.reduceToNat, Int.reduceEq, Nat.reduceMul, ↓reduceIte, Nat.reduceLT, Nat.reduceLeDiff, Nat.reduceEqDiff, Nat.reduceAdd, Nat.reduceSub, Nat.reduceBEq, reduceCtorEq, *, List.drop_zero, List.take_length]
        | contradiction
        | refine wT ?_ ?_ <;> intro _
        | refine wF ?_ ?_ <;> intro _
        | refine cD ?_ ?_ <;> intro _
        | refine dO (by kernel_rfl) ?_
        | refine kClone ?_
        | (refine ⟨i + 1, ?_, ?_, Conv.mk ?_ ?_ ?_ ?_ ?_⟩; (· (first | omega | (simp only; omega) | (simp only [List.length_nil, List.length_cons]; omega))); (· (omega)))
        | refine Fin.q ?_ ?_
        | refine Fin.qn ?_ ?_
    · repeat' first
        | simp (maxSteps := 1000000) only [go_sem, Int.reduceLT, Int.reduceLE, Int.reduceToNat, Int.reduceEq, Nat.reduceMul, ↓reduceIte, Nat.reduceLT, Nat.reduceLeDiff, Nat.reduceEqDiff, Nat.reduceAdd, Nat.reduceSub, Nat.reduceBEq, reduceCtorEq, *, List.drop_zero, List.take_length]
        | contradiction
        | refine wT ?_ ?_ <;> intro _
        | refine wF ?_ ?_ <;> intro _
        | refine cD ?_ ?_ <;> intro _
        | refine dO (by kernel_rfl) ?_
        | refine Fin.q ?_ ?_
        | refine Fin.qn ?_ ?_
set_option maxRecDepth 20000 in
theorem kceCopy {l : List En} {H : Heap} {slot : Nat} {K : D → List (Nat × Blk) → List (Nat × Blk) → Prop} (hK : K (.vs (ents l)) [] []) (hl : l.length ≤ 4294967296 := by first | assumption | omega) (hw : ∀ i, i < l.length → (l.getD i default).lens := by first | assumption | omega) : @callB ⟨callX Tryz.prog⟩ 69 [.vs (ents l)] H slot ⟨K⟩ := by
  have he0 : rdOf H (D.idsL [.vs (ents l)]) = [] := by simp (maxSteps := 1000000) only [go_sem, Int.reduceLT, Int.reduceLE, Int.reduceToNat, Int.reduceEq, Nat.reduceMul, ↓reduceIte, Nat.reduceLT, Nat.reduceLeDiff, Nat.reduceEqDiff, Nat.reduceAdd, Nat.reduceSub, Nat.reduceBEq, reduceCtorEq]
  refine call0 false (ceCopy l hl hw) ?_ ?_ (fun h => nomatch h) (by rw [he0]; exact hK)
  iterate 2 (· simp (maxSteps := 1000000) only [go_sem, Int.reduceLT, Int.reduceLE, Int.reduceToNat, Int.reduceEq, Nat.reduceMul, ↓reduceIte, Nat.reduceLT, Nat.reduceLeDiff, Nat.reduceEqDiff, Nat.reduceAdd, Nat.reduceSub, Nat.reduceBEq, reduceCtorEq])
end TR

/- slices.ContainsFunc with the closure of tree.grow. -/
open Go Go.Proofs Go.AH
set_option linter.unusedSimpArgs false
set_option linter.unusedVariables false
namespace TR
/-- The cells of a tree whose nodes lie in a block. -/
def trow (s : Sc) (c : Int) (b n : Nat) : List D := [.int .i64 s.kind, .int .i64 s.band, .int .i64 s.gap, .int .i64 s.len, .int .i64 s.pcs, V s.cuts, .int .i64 c, .rs 6 b 0 n n]
attribute [go_sem] trow
set_option maxHeartbeats 2000000 in
set_option maxRecDepth 20000 in
theorem cgrow1 (s : Sc) (c : Int) (ns : List Nd) (w : Wd) (x : En) : FC Tryz.prog 122 [.agg x.row, .ptr 0 1 0 0, .ptr 3 1 0 0] [[[.ptr 1 1 0 0]], [trow s c 2 ns.length], nods ns, [w.row]] (.bool (decide (w.has s x.w))) [[[.ptr 1 1 0 0]], [trow s c 2 ns.length], nods ns, [w.row]] := by
  refine FC.of_run mix Tryz.func122 rfl rfl (by simp [Tryz.ntmps122]) ?_
  simp (maxSteps := 1000000) only [go_sem, Int.reduceLT, Int.reduceLE, Int.reduceToNat, Int.reduceEq, Nat.reduceMul, ↓reduceIte, Nat.reduceLT, Nat.reduceLeDiff, Nat.reduceEqDiff, Nat.reduceAdd, Nat.reduceSub, Nat.reduceBEq, reduceCtorEq]
  repeat' first
    | simp (maxSteps := 1000000) only [go_sem, Int.reduceLT, Int.reduceLE, Int.reduceToNat, Int.reduceEq, Nat.reduceMul, ↓reduceIte, Nat.reduceLT, Nat.reduceLeDiff, Nat.reduceEqDiff, Nat.reduceAdd, Nat.reduceSub, Nat.reduceBEq, reduceCtorEq, *]
    | contradiction
    | refine wT ?_ ?_ <;> intro _
    | refine wF ?_ ?_ <;> intro _
    | refine cD ?_ ?_ <;> intro _
    | refine dO (by kernel_rfl) ?_
    | refine kcHas ?_
    | refine Fin.q ?_ ?_
    | refine Fin.qn ?_ ?_
set_option maxHeartbeats 2000000 in
set_option maxRecDepth 20000 in
theorem cIdx4 (s : Sc) (c : Int) (ns : List Nd) (w : Wd) (l : List En) (hl : l.length < 1000000000000000) : FC Tryz.prog 111 [.vs (ents l), .fn 122 [.ptr 0 1 0 0, .ptr 3 1 0 0]] [[[.ptr 1 1 0 0]], [trow s c 2 ns.length], nods ns, [w.row]] (.int .i64 (idxI (fun x : En => w.has s x.w) l)) [[[.ptr 1 1 0 0]], [trow s c 2 ns.length], nods ns, [w.row]] := by
  refine FC.of_run mix Tryz.func111 rfl rfl (by simp [Tryz.ntmps111]) ?_
  repeat' first
    | simp (maxSteps := 1000000) only [go_sem, Int.reduceLT, Int.reduceLE, Int.reduceToNat, Int.reduceEq, Nat.reduceMul, ↓reduceIte, Nat.reduceLT, Nat.reduceLeDiff, Nat.reduceEqDiff, Nat.reduceAdd, Nat.reduceSub, Nat.reduceBEq, reduceCtorEq, *]
    | contradiction
    | refine wT ?_ ?_ <;> intro _
    | refine wF ?_ ?_ <;> intro _
    | refine cD ?_ ?_ <;> intro _
    | refine dO (by kernel_rfl) ?_
    | refine Fin.q ?_ ?_
    | refine Fin.qn ?_ ?_
  refine AW.loopx (σ := Nat) mix (fun i => ⟨19, [(8, .int .i64 i), (7, .int .i64 l.length), (1, .fn 122 [.ptr 0 1 0 0, .ptr 3 1 0 0]), (0, .vs (ents l))], [some [[.ptr 1 1 0 0]], some [trow s c 2 ns.length], some (nods ns), some [w.row]]⟩) (fun i => i ≤ l.length ∧ ∀ q, q < i → ¬ w.has s (l.getD q default).w) (fun i => l.length - i) 0 ⟨by omega, fun q h => by omega⟩ (Conv.mk ?_ ?_ ?_ ?_ ?_) ?_
  iterate 5 (· (simp (maxSteps := 1000000) only [go_sem, Int.reduceLT, Int.reduceLE, Int.reduceToNat, Int.reduceEq, Nat.reduceMul, ↓reduceIte, Nat.reduceLT, Nat.reduceLeDiff, Nat.reduceEqDiff, Nat.reduceAdd, Nat.reduceSub, Nat.reduceBEq, reduceCtorEq]) <;> (first | rfl | (simp [ints]; done) | (simp [*]; done) | ((repeat' (first | rfl | apply And.intro)); done)))
  intro i ⟨hi, hq⟩
  have hw := wrap1 (i := i) (by omega)
  by_cases h : i < l.length
  · have hx := ents_get h
    repeat' first
      | simp (maxSteps := 1000000) only [go_sem, Int.reduceLT, Int.reduceLE, Int.reduceToNat, Int.reduceEq, Nat.reduceMul, ↓reduceIte, Nat.reduceLT, Nat.reduceLeDiff, Nat.reduceEqDiff, Nat.reduceAdd, Nat.reduceSub, Nat.reduceBEq, reduceCtorEq, *, En.row]
      | contradiction
      | refine wT ?_ ?_ <;> intro _
      | refine wF ?_ ?_ <;> intro _
      | refine cD ?_ ?_ <;> intro _
      | refine dO (by kernel_rfl) ?_
      | refine Fin.q ?_ ?_
      | refine Fin.qn ?_ ?_
    refine callX2 [0, 1, 2, 3] (cgrow1 s c ns w (l.getD i default)) (by decide) ?_ ?_ ⟨by simp, by simp⟩ (r' := .bool (decide (w.has s (l.getD i default).w))) (outs' := [[[.ptr 1 1 0 0]], [trow s c 2 ns.length], nods ns, [w.row]]) rfl ?_ ?_
    · simp (maxSteps := 1000000) only [go_sem, Int.reduceLT, Int.reduceLE, Int.reduceToNat, Int.reduceEq, Nat.reduceMul, ↓reduceIte, Nat.reduceLT, Nat.reduceLeDiff, Nat.reduceEqDiff, Nat.reduceAdd, Nat.reduceSub, Nat.reduceBEq, reduceCtorEq, List.zip_cons_cons]
    · simp (maxSteps := 1000000) only [go_sem, Int.reduceLT, Int.reduceLE, Int.reduceToNat, Int.reduceEq, Nat.reduceMul, ↓reduceIte, Nat.reduceLT, Nat.reduceLeDiff, Nat.reduceEqDiff, Nat.reduceAdd, Nat.reduceSub, Nat.reduceBEq, reduceCtorEq, insA]
    · simp (maxSteps := 1000000) only [go_sem, Int.reduceLT, Int.reduceLE, Int.reduceToNat, Int.reduceEq, Nat.reduceMul, ↓reduceIte, Nat.reduceLT, Nat.reduceLeDiff, Nat.reduceEqDiff, Nat.reduceAdd, Nat.reduceSub, Nat.reduceBEq, reduceCtorEq, backB]
    · simp (maxSteps := 1000000) only [go_sem, Int.reduceLT, Int.reduceLE, Int.reduceToNat, Int.reduceEq, Nat.reduceMul, ↓reduceIte, Nat.reduceLT, Nat.reduceLeDiff, Nat.reduceEqDiff, Nat.reduceAdd, Nat.reduceSub, Nat.reduceBEq, reduceCtorEq, List.zip_cons_cons]
      repeat' first
        | simp (maxSteps := 1000000) only [go_sem, Int.reduceLT, Int.reduceLE, Int.reduceToNat, Int.reduceEq, Nat.reduceMul, ↓reduceIte, Nat.reduceLT, Nat.reduceLeDiff, Nat.reduceEqDiff, Nat.reduceAdd, Nat.reduceSub, Nat.reduceBEq, reduceCtorEq, *, En.row]
        | contradiction
        | refine wT ?_ ?_ <;> intro _
        | refine wF ?_ ?_ <;> intro _
        | refine cD ?_ ?_ <;> intro _
        | refine dO (by kernel_rfl) ?_
        | (refine ⟨i + 1, ?_, ?_, Conv.mk ?_ ?_ ?_ ?_ ?_⟩; (· (first | omega | (simp only; omega) | (simp only [List.length_nil, List.length_cons]; omega))); (· (exact ⟨by omega, upto hq ‹_›⟩)))
        | ((first | refine Fin.q ?_ ?_ | refine Fin.qn ?_ ?_) <;> ((try simp (maxSteps := 1000000) only [go_sem, Int.reduceLT, Int.reduceLE, Int.reduceToNat, Int.reduceEq, Nat.reduceMul, ↓reduceIte, Nat.reduceLT, Nat.reduceLeDiff, Nat.reduceEqDiff, Nat.reduceAdd, Nat.reduceSub, Nat.reduceBEq, reduceCtorEq, *, En.row]) <;> (first | done | rw [idx_here h ‹_› hq])))
  · repeat' first
      | simp (maxSteps := 1000000) only [go_sem, Int.reduceLT, Int.reduceLE, Int.reduceToNat, Int.reduceEq, Nat.reduceMul, ↓reduceIte, Nat.reduceLT, Nat.reduceLeDiff, Nat.reduceEqDiff, Nat.reduceAdd, Nat.reduceSub, Nat.reduceBEq, reduceCtorEq, *]
      | contradiction
      | refine wT ?_ ?_ <;> intro _
      | refine wF ?_ ?_ <;> intro _
      | refine cD ?_ ?_ <;> intro _
      | refine dO (by kernel_rfl) ?_
      | ((first | refine Fin.q ?_ ?_ | refine Fin.qn ?_ ?_) <;> ((try simp (maxSteps := 1000000) only [go_sem, Int.reduceLT, Int.reduceLE, Int.reduceToNat, Int.reduceEq, Nat.reduceMul, ↓reduceIte, Nat.reduceLT, Nat.reduceLeDiff, Nat.reduceEqDiff, Nat.reduceAdd, Nat.reduceSub, Nat.reduceBEq, reduceCtorEq, *]) <;> (first | done | rw [idx_none (fun q h => hq q (by omega))])))
set_option maxHeartbeats 2000000 in
set_option maxRecDepth 20000 in
theorem cCont4 (s : Sc) (c : Int) (ns : List Nd) (w : Wd) (l : List En) (hl : l.length < 1000000000000000) : FC Tryz.prog 65 [.vs (ents l), .fn 122 [.ptr 0 1 0 0, .ptr 3 1 0 0]] [[[.ptr 1 1 0 0]], [trow s c 2 ns.length], nods ns, [w.row]] (.bool (decide (∃ x, x ∈ l ∧ w.has s x.w))) [[[.ptr 1 1 0 0]], [trow s c 2 ns.length], nods ns, [w.row]] := by
  refine FC.of_run mix Tryz.func65 rfl rfl (by simp [Tryz.ntmps65]) ?_
  repeat' first
    | simp (maxSteps := 1000000) only [go_sem, Int.reduceLT, Int.reduceLE, Int.reduceToNat, Int.reduceEq, Nat.reduceMul, ↓reduceIte, Nat.reduceLT, Nat.reduceLeDiff, Nat.reduceEqDiff, Nat.reduceAdd, Nat.reduceSub, Nat.reduceBEq, reduceCtorEq, *]
    | contradiction
    | refine wT ?_ ?_ <;> intro _
    | refine wF ?_ ?_ <;> intro _
    | refine cD ?_ ?_ <;> intro _
    | refine dO (by kernel_rfl) ?_
    | refine Fin.q ?_ ?_
    | refine Fin.qn ?_ ?_
  refine callX2 [0, 1, 2, 3] (cIdx4 s c ns w l hl) (by decide) ?_ ?_ ⟨by simp, by simp⟩ (r' := .int .i64 (idxI (fun x : En => w.has s x.w) l)) (outs' := [[[.ptr 1 1 0 0]], [trow s c 2 ns.length], nods ns, [w.row]]) rfl ?_ ?_
  iterate 3 (· simp (maxSteps := 1000000) only [go_sem, Int.reduceLT, Int.reduceLE, Int.reduceToNat, Int.reduceEq, Nat.reduceMul, ↓reduceIte, Nat.reduceLT, Nat.reduceLeDiff, Nat.reduceEqDiff, Nat.reduceAdd, Nat.reduceSub, Nat.reduceBEq, reduceCtorEq])
  · repeat' first
      | simp (maxSteps := 1000000) only [go_sem, Int.reduceLT, Int.reduceLE, Int.reduceToNat, Int.reduceEq, Nat.reduceMul, ↓reduceIte, Nat.reduceLT, Nat.reduceLeDiff, Nat.reduceEqDiff, Nat.reduceAdd, Nat.reduceSub, Nat.reduceBEq, reduceCtorEq, *, idx_nonneg]
      | contradiction
      | refine wT ?_ ?_ <;> intro _
      | refine wF ?_ ?_ <;> intro _
      | refine cD ?_ ?_ <;> intro _
      | refine dO (by kernel_rfl) ?_
      | refine Fin.q ?_ ?_
      | refine Fin.qn ?_ ?_
end TR

/- How a tree grows: the plain function, and the program's. -/
open Go Go.Proofs Go.AH
set_option linter.unusedSimpArgs false
set_option linter.unusedVariables false
namespace TR
/-- The nodes of entries below a word, the first of which gets the number `a`. `d`: how many bits the word may still get. -/
def growF (s : Sc) (c : Int) : Nat → Nat → Wd → List En → List Nd
  | 0, _, w, l => [⟨w, 0, -1, -1, l⟩]
  | d + 1, a, w, l => if (l.length : Int) ≤ c ∨ fewestF w.b w.b.length < 0 then [⟨w, 0, -1, -1, l⟩] else
      (fun (p : Nat) => (fun (L : List Nd) => ⟨w, p, ((a + 1 : Nat) : Int), ((a + 1 + L.length : Nat) : Int), []⟩ :: (L ++ growF s c d (a + 1 + L.length) (w.with p 1) (l.filter fun x => !decide ((w.with p 0).has s x.w))))
        (growF s c d (a + 1) (w.with p 0) (l.filter fun x => decide ((w.with p 0).has s x.w)))) (fewestF w.b w.b.length).toNat
theorem growF_split {s : Sc} {c : Int} {d a : Nat} {w : Wd} {l : List En} {p : Nat} (hL : ¬ (l.length : Int) ≤ c) (hpe : fewestF w.b w.b.length = p) : growF s c (d + 1) a w l = ⟨w, p, ((a + 1 : Nat) : Int), ((a + 1 + (growF s c d (a + 1) (w.with p 0) (l.filter fun x => decide ((w.with p 0).has s x.w))).length : Nat) : Int), []⟩ :: (growF s c d (a + 1) (w.with p 0) (l.filter fun x => decide ((w.with p 0).has s x.w)) ++ growF s c d (a + 1 + (growF s c d (a + 1) (w.with p 0) (l.filter fun x => decide ((w.with p 0).has s x.w))).length) (w.with p 1) (l.filter fun x => !decide ((w.with p 0).has s x.w))) := by
  rw [growF, if_neg (by rw [hpe]; omega), hpe]
  rfl
theorem growF_len (s : Sc) (c : Int) (hc : 1 ≤ c) : ∀ (d a : Nat) (w : Wd) (l : List En), 1 ≤ (growF s c d a w l).length ∧ (growF s c d a w l).length ≤ 1 + 2 * (d * l.length)
  | 0, a, w, l => by simp [growF]
  | d + 1, a, w, l => by
    unfold growF
    split
    · exact ⟨by simp, by simp⟩
    · rename_i h
      simp only
      have h1 := growF_len s c hc d (a + 1) (w.with (fewestF w.b w.b.length).toNat 0) (l.filter fun x => decide ((w.with (fewestF w.b w.b.length).toNat 0).has s x.w))
      generalize growF s c d (a + 1) (w.with (fewestF w.b w.b.length).toNat 0) (l.filter fun x => decide ((w.with (fewestF w.b w.b.length).toNat 0).has s x.w)) = L at h1 ⊢
      have h2 := growF_len s c hc d (a + 1 + L.length) (w.with (fewestF w.b w.b.length).toNat 1) (l.filter fun x => !decide ((w.with (fewestF w.b w.b.length).toNat 0).has s x.w))
      have h3 : (l.filter fun x => decide ((w.with (fewestF w.b w.b.length).toNat 0).has s x.w)).length + (l.filter fun x => !decide ((w.with (fewestF w.b w.b.length).toNat 0).has s x.w)).length = l.length := by
        rw [← List.countP_eq_length_filter, ← List.countP_eq_length_filter]
        have := List.length_eq_countP_add_countP (fun x : En => decide ((w.with (fewestF w.b w.b.length).toNat 0).has s x.w)) (l := l)
        simp only [Bool.not_eq_true] at this
        rw [this]
        congr 1
        apply List.countP_congr
        intro x _
        simp
      have h4 : 2 ≤ l.length := by
        have := not_or.1 h
        omega
      generalize (l.filter fun x => decide ((w.with (fewestF w.b w.b.length).toNat 0).has s x.w)).length = m1 at *
      generalize (l.filter fun x => !decide ((w.with (fewestF w.b w.b.length).toNat 0).has s x.w)).length = m2 at *
      simp only [List.length_cons, List.length_append]
      have e : (d + 1) * l.length = d * m1 + d * m2 + l.length := by rw [Nat.add_mul, ← h3, Nat.mul_add]; omega
      rw [e]
      omega
/-- Nothing that has `p` is behind something that has not. -/
def pre {α : Type} (p : α → Bool) (l : List α) : Prop := ∀ (i j : Nat), i < j → ∀ x y, l[i]? = some x → l[j]? = some y → p y = true → p x = true
theorem pre_cut {α : Type} (p : α → Bool) : ∀ (l : List α) (n : Nat), n ≤ l.length → (∀ q x, q < n → l[q]? = some x → p x = true) → (∀ x, l[n]? = some x → p x = false) → pre p l →
    l.take n = l.filter p ∧ l.drop n = l.filter (fun x => !p x) ∧ ∀ x, x ∈ l.drop n → p x = false
  | l, n, hn, h1, h2, h3 => by
    have hd : ∀ x, x ∈ l.drop n → p x = false := by
      intro x hx
      obtain ⟨j, hj⟩ := List.getElem?_of_mem hx
      rw [List.getElem?_drop] at hj
      cases hp : p x with
      | false => rfl
      | true =>
        have hlt : n < l.length := by
          have := (List.getElem?_eq_some_iff.1 hj).1
          omega
        have hn' : l[n]? = some l[n] := List.getElem?_eq_getElem hlt
        have h4 := h2 _ hn'
        cases j with
        | zero =>
          rw [Nat.add_zero, hn'] at hj
          cases hj
          rw [h4] at hp
          cases hp
        | succ j =>
          have := h3 n (n + (j + 1)) (by omega) _ x hn' hj hp
          rw [h4] at this
          cases this
    have ht : ∀ x, x ∈ l.take n → p x = true := by
      intro x hx
      obtain ⟨q, hq⟩ := List.getElem?_of_mem hx
      rw [List.getElem?_take] at hq
      split at hq
      · exact h1 q x ‹_› hq
      · cases hq
    have e := List.take_append_drop n l
    refine ⟨?_, ?_, hd⟩
    · conv => rhs; rw [← e]
      rw [List.filter_append, List.filter_eq_self.2 ht, List.filter_eq_nil_iff.2 (fun x hx => by rw [hd x hx]; simp), List.append_nil]
    · conv => rhs; rw [← e]
      rw [List.filter_append, List.filter_eq_nil_iff.2 (fun x hx => by rw [ht x hx]; simp), List.filter_eq_self.2 (fun x hx => by rw [hd x hx]; rfl), List.nil_append]
/-- At each split those that belong to the left come first. -/
def Ord (s : Sc) : Nat → Wd → List En → Prop
  | 0, w, _ => fewestF w.b w.b.length < 0
  | d + 1, w, l => fewestF w.b w.b.length < 0 ∨ pre (fun x : En => decide ((w.with (fewestF w.b w.b.length).toNat 0).has s x.w)) l ∧
      Ord s d (w.with (fewestF w.b w.b.length).toNat 0) (l.filter fun x => decide ((w.with (fewestF w.b w.b.length).toNat 0).has s x.w)) ∧
      Ord s d (w.with (fewestF w.b w.b.length).toNat 1) (l.filter fun x => !decide ((w.with (fewestF w.b w.b.length).toNat 0).has s x.w))
theorem fewest_lt4 (b : List Int) : ∀ i, 0 ≤ fewestF b i → b.getD (fewestF b i).toNat 0 < 4
  | 0, h => by simp [fewestF] at h
  | i + 1, h => by
    simp only [fewestF, better] at h ⊢
    split
    · rename_i h1
      simpa using h1.1
    · rename_i h1
      rw [if_neg h1] at h
      exact fewest_lt4 b i h
theorem getD_set {l : List Int} {p q : Nat} {x : Int} (hp : p < l.length) : (l.set p x).getD q 0 = if q = p then x else l.getD q 0 := by
  simp only [List.getD, List.getElem?_set]
  by_cases e : p = q
  · subst e; simp [hp]
  · rw [if_neg e, if_neg (fun h => e h.symm)]
theorem with_ok {s : Sc} {w : Wd} {p : Nat} {bit : Int} (hw : w.ok s) (hp : p < w.b.length) (h4 : w.b.getD p 0 < 4) (h0 : 0 ≤ bit) (h1 : bit ≤ 1) : (w.with p bit).ok s := by
  obtain ⟨hs, e1, e2, h⟩ := hw
  have hps : p < w.s.length := by omega
  refine ⟨hs, by simpa [Wd.with] using e1, by simpa [Wd.with] using e2, fun q hq => ?_⟩
  have hq' : q < w.b.length := by simpa [Wd.with] using hq
  have hb := h q hq'
  unfold bitOK at hb ⊢
  simp only [Wd.with, getD_set hp, getD_set hps]
  by_cases e : q = p
  · subst e
    simp only [if_true]
    have e3 : (w.b.getD q 0 + 1).toNat = (w.b.getD q 0).toNat + 1 := by omega
    rw [e3, Int.pow_succ]
    omega
  · simp only [if_neg e]
    exact hb
end TR

/- The program's grow. -/
open Go Go.Proofs Go.AH
set_option linter.unusedSimpArgs false
set_option linter.unusedVariables false
namespace TR
theorem nods_last (ns : List Nd) (r : List D) : (nods ns ++ [r])[ns.length]? = some r := by
  rw [List.getElem?_append_right (by rw [nods_len]; exact Nat.le_refl _), nods_len, Nat.sub_self]
  rfl
theorem nods_set (ns : List Nd) (r r' : List D) : (nods ns ++ [r]).set ns.length r' = nods ns ++ [r'] := by
  rw [List.set_append_right _ _ (by rw [nods_len]; exact Nat.le_refl _), nods_len, Nat.sub_self]
  rfl
theorem nods_app (a b : List Nd) : nods (a ++ b) = nods a ++ nods b := by simp [nods]
theorem nods_at (ns : List Nd) (x : Nd) (L : List Nd) : (nods (ns ++ x :: L))[ns.length]? = some x.row := by
  rw [nods_app, List.getElem?_append_right (by rw [nods_len]; exact Nat.le_refl _), nods_len, Nat.sub_self]
  rfl
theorem nods_setat (ns : List Nd) (x : Nd) (L : List Nd) (a b : List Int) (i j k : Int) (e : List En) : (nods (ns ++ x :: L)).set ns.length [V a, V b, .int .i64 i, .int .i64 j, .int .i64 k, .vs (ents e)] = nods (ns ++ ⟨⟨a, b⟩, i, j, k, e⟩ :: L) := by
  rw [nods_app, List.set_append_right _ _ (by rw [nods_len]; exact Nat.le_refl _), nods_len, Nat.sub_self, nods_app]
  rfl
theorem nods_setat0 (ns : List Nd) (x : Nd) (L : List Nd) (a b : List Int) (i j k : Int) : (nods (ns ++ x :: L)).set ns.length [V a, V b, .int .i64 i, .int .i64 j, .int .i64 k, .vs []] = nods (ns ++ ⟨⟨a, b⟩, i, j, k, []⟩ :: L) := nods_setat ns x L a b i j k []
theorem nods_setw (ns : List Nd) (x : Nd) (L : List Nd) (w : Wd) (i j k : Int) : (nods (ns ++ x :: L)).set ns.length [V w.s, V w.b, .int .i64 i, .int .i64 j, .int .i64 k, .vs []] = nods (ns ++ ⟨w, i, j, k, []⟩ :: L) := nods_setat ns x L w.s w.b i j k []
theorem ents_take (l : List En) (n : Nat) : (ents l).take n = ents (l.take n) := by simp [ents]
theorem ents_drop (l : List En) (n : Nat) : (ents l).drop n = ents (l.drop n) := by simp [ents]
theorem lt_add1 (n k : Nat) : (n < n + 1 + k) = True := by simp only [eq_iff_iff, iff_true]; omega
theorem lt_add2 (n k m : Nat) : (n < n + 1 + k + m) = True := by simp only [eq_iff_iff, iff_true]; omega
theorem lt_succ' (n : Nat) : (n < n + 1) = True := by simp
set_option maxHeartbeats 4000000 in
set_option maxRecDepth 20000 in
theorem leaf (s : Sc) (c : Int) (w : Wd) (l : List En) (ns : List Nd) (hw : w.ok s) (hl : l.length ≤ 2000) (he : ∀ i, i < l.length → (l.getD i default).lens) (hb : ns.length + 1 ≤ 4294967296) (hleaf : (l.length : Int) ≤ c ∨ fewestF w.b w.b.length < 0) :
    FC Tryz.prog 76 [.ptr 0 1 0 0, .agg w.row, .vs (ents l)] [[trow s c 1 ns.length], nods ns] (.int .i64 ns.length) [[trow s c 1 (ns.length + 1)], nods (ns ++ [⟨w, 0, -1, -1, l⟩])] := by
  obtain ⟨h8, h8b, h8c⟩ := len8 hw
  clear h8c
  have hN : (ns.length + 1 ≤ ns.length) = False := by simp only [eq_iff_iff, iff_false]; omega
  have hC : ns.length + 1 ≤ capMax := hb
  have hl2 : l.length ≤ 4294967296 := by omega
  refine FC.of_run mix Tryz.func76 rfl rfl (by simp [Tryz.ntmps76]) ?_
  repeat' first
    | simp (maxSteps := 1000000) only [go_sem, Int.reduceLT, Int.reduceLE, Int.reduceToNat, Int.reduceEq, Nat.reduceMul, ↓reduceIte, Nat.reduceLT, Nat.reduceLeDiff, Nat.reduceEqDiff, Nat.reduceAdd, Nat.reduceSub, Nat.reduceBEq, reduceCtorEq, *, nods_last, nods_set, lt_succ', List.length_append, List.length_cons, List.length_nil, List.isEmpty_cons, List.all_append, List.all_cons, List.all_nil, nods_app, nods_cons, List.drop_zero, List.take_length]
    | contradiction
    | refine wT ?_ ?_ <;> intro _
    | refine wF ?_ ?_ <;> intro _
    | refine cD ?_ ?_ <;> intro _
    | refine dO (by kernel_rfl) ?_
    | refine kcwords ?_
    | refine kcfewest ?_
    | refine kceCopy ?_
    | refine Fin.q ?_ ?_
    | refine Fin.qn ?_ ?_
  exact absurd hleaf (by omega)
def GS (s : Sc) (c : Int) (d : Nat) : Prop := ∀ (w : Wd) (l : List En) (ns : List Nd), w.ok s → Ord s d w l → (∀ e, e ∈ l → e.lens) → l.length ≤ 2000 → ns.length + 2 * (d * l.length) + 1 ≤ 4294967296 →
  FC Tryz.prog 76 [.ptr 0 1 0 0, .agg w.row, .vs (ents l)] [[trow s c 1 ns.length], nods ns] (.int .i64 ns.length) [[trow s c 1 (ns.length + (growF s c d ns.length w l).length)], nods (ns ++ growF s c d ns.length w l)]
set_option maxHeartbeats 4000000 in
set_option maxRecDepth 20000 in
theorem gsplit (s : Sc) (c : Int) (hc : 1 ≤ c) (d : Nat) (ih : GS s c d) (w : Wd) (l : List En) (ns : List Nd) (p : Nat) (hpe : fewestF w.b w.b.length = p) (hcs : CanSplit s w p) (hL : ¬ (l.length : Int) ≤ c)
    (hpre : pre (fun x : En => decide ((w.with p 0).has s x.w)) l) (ho1 : Ord s d (w.with p 0) (l.filter fun x => decide ((w.with p 0).has s x.w))) (ho2 : Ord s d (w.with p 1) (l.filter fun x => !decide ((w.with p 0).has s x.w)))
    (he : ∀ e, e ∈ l → e.lens) (hl : l.length ≤ 2000) (hb : ns.length + 2 * ((d + 1) * l.length) + 1 ≤ 4294967296) :
    FC Tryz.prog 76 [.ptr 0 1 0 0, .agg w.row, .vs (ents l)] [[trow s c 1 ns.length], nods ns] (.int .i64 ns.length) [[trow s c 1 (ns.length + (growF s c (d + 1) ns.length w l).length)], nods (ns ++ growF s c (d + 1) ns.length w l)] := by
  have h8 := hcs.h8
  have h8b := hcs.hl
  have hN : (ns.length + 1 ≤ ns.length) = False := by simp only [eq_iff_iff, iff_false]; omega
  have hC : ns.length + 1 ≤ capMax := by unfold capMax; omega
  have hl2 : l.length ≤ 4294967296 := by omega
  refine FC.of_run mix Tryz.func76 rfl rfl (by simp [Tryz.ntmps76]) ?_
  rw [growF_split hL hpe]
  generalize hLd : growF s c d (ns.length + 1) (w.with p 0) (l.filter fun x : En => decide ((w.with p 0).has s x.w)) = L
  generalize hRd : growF s c d (ns.length + 1 + L.length) (w.with p 1) (l.filter fun x : En => !decide ((w.with p 0).has s x.w)) = R
  repeat' first
    | simp (maxSteps := 1000000) only [go_sem, Int.reduceLT, Int.reduceLE, Int.reduceToNat, Int.reduceEq, Nat.reduceMul, ↓reduceIte, Nat.reduceLT, Nat.reduceLeDiff, Nat.reduceEqDiff, Nat.reduceAdd, Nat.reduceSub, Nat.reduceBEq, reduceCtorEq, *, nods_last, nods_set, lt_succ', List.length_append, List.length_cons, List.length_nil, List.isEmpty_cons, List.all_append, List.all_cons, List.all_nil, List.drop_zero, List.take_length]
    | contradiction
    | refine wT ?_ ?_ <;> intro _
    | refine wF ?_ ?_ <;> intro _
    | refine cD ?_ ?_ <;> intro _
    | refine dO (by kernel_rfl) ?_
    | refine kcwords ?_
    | refine kcfewest ?_
    | refine kcSplit ?_
    | refine Fin.q ?_ ?_
    | refine Fin.qn ?_ ?_
  refine AW.loopx (σ := Nat) mix (fun n => ⟨149, [(12, .int .i64 n), (10, .ptr 30 1 0 0), (9, .ptr 29 1 0 0), (8, .int .i64 p), (7, .int .i64 ns.length), (3, .ptr 2 1 0 0), (2, .vs (ents l))], [some [trow s c 1 (ns.length + 1)], some (nods (ns ++ [⟨w, 0, -1, -1, []⟩])), some [[.ptr 0 1 0 0]], none, none, none, none, none, none, none, none, none, none, none, none, none, none, none, none, none, none, none, none, none, none, none, none, none, none, some [(w.with p 0).row], some [(w.with p 1).row]]⟩) (fun n => n ≤ l.length ∧ ∀ q, q < n → (w.with p 0).has s (l.getD q default).w) (fun n => l.length - n) 0 ⟨by omega, fun q h => by omega⟩ (Conv.trans (Conv.weak (H' := [some [trow s c 1 (ns.length + 1)], some (nods (ns ++ [⟨w, 0, -1, -1, []⟩])), some [[.ptr 0 1 0 0]], some [w.row], none, none, none, none, none, none, none, none, none, none, none, none, some [[V w.s, V w.b, .int .i64 0, .int .i64 (-1), .int .i64 (-1), .zs]], none, none, none, none, none, none, none, none, none, none, none, none, some [(w.with p 0).row], some [(w.with p 1).row]]) ?_) (Conv.mk ?_ ?_ ?_ ?_ ?_)) ?_
  · refine ⟨.inl rfl, .inr ?_, ?_⟩
    · rw [nods_app]
      exact weakB_append ⟨.inr ⟨.inl rfl, .inl rfl, .inl rfl, .inl rfl, .inl rfl, .inr ⟨.inl rfl, rfl⟩, trivial⟩, trivial⟩
    · repeat' (first | exact trivial | exact Or.inl rfl | apply And.intro)
  · simp (maxSteps := 1000000) only [go_sem, Int.reduceLT, Int.reduceLE, Int.reduceToNat, Int.reduceEq, Nat.reduceMul, ↓reduceIte, Nat.reduceLT, Nat.reduceLeDiff, Nat.reduceEqDiff, Nat.reduceAdd, Nat.reduceSub, Nat.reduceBEq, reduceCtorEq]
    rfl
  iterate 4 (· simp (maxSteps := 1000000) only [go_sem, Int.reduceLT, Int.reduceLE, Int.reduceToNat, Int.reduceEq, Nat.reduceMul, ↓reduceIte, Nat.reduceLT, Nat.reduceLeDiff, Nat.reduceEqDiff, Nat.reduceAdd, Nat.reduceSub, Nat.reduceBEq, reduceCtorEq])
  intro n ⟨hn, hq⟩
  have hv := wrap1 (i := n) (by omega)
  by_cases h : n < l.length
  · have hx := ents_get h
    by_cases g : (w.with p 0).has s (l.getD n default).w
    · clear ih hpre ho1 ho2 he
      repeat' first
        | simp (maxSteps := 1000000) only [go_sem, Int.reduceLT, Int.reduceLE, Int.reduceToNat, Int.reduceEq, Nat.reduceMul, ↓reduceIte, Nat.reduceLT, Nat.reduceLeDiff, Nat.reduceEqDiff, Nat.reduceAdd, Nat.reduceSub, Nat.reduceBEq, reduceCtorEq, *, eq_self, true_imp_iff, forall_const, nods_setw, nods_at, ents_take, ents_drop, take_ents, Nat.le_refl, lt_add1, lt_add2, lt_succ', List.length_append, List.length_cons, List.length_nil, List.isEmpty_cons, List.all_append, List.all_cons, List.all_nil, List.drop_zero, List.take_length]
        | contradiction
        | refine wT ?_ ?_ <;> intro _
        | refine wF ?_ ?_ <;> intro _
        | refine cD ?_ ?_ <;> intro _
        | refine dO (by kernel_rfl) ?_
        | refine kcHas ?_
        | (refine ⟨n + 1, ?_, ?_, Conv.mk ?_ ?_ ?_ ?_ ?_⟩; (· (first | omega | (simp only; omega) | (simp only [List.length_nil, List.length_cons]; omega))); (· (exact ⟨by omega, upto hq g⟩)))
        | refine Fin.q ?_ ?_
        | refine Fin.qn ?_ ?_
    · repeat' first
        | simp (maxSteps := 1000000) only [go_sem, Int.reduceLT, Int.reduceLE, Int.reduceToNat, Int.reduceEq, Nat.reduceMul, ↓reduceIte, Nat.reduceLT, Nat.reduceLeDiff, Nat.reduceEqDiff, Nat.reduceAdd, Nat.reduceSub, Nat.reduceBEq, reduceCtorEq, *, eq_self, true_imp_iff, forall_const, nods_setw, nods_at, ents_take, ents_drop, take_ents, Nat.le_refl, lt_add1, lt_add2, lt_succ', List.length_append, List.length_cons, List.length_nil, List.isEmpty_cons, List.all_append, List.all_cons, List.all_nil, List.drop_zero, List.take_length]
        | contradiction
        | refine wT ?_ ?_ <;> intro _
        | refine wF ?_ ?_ <;> intro _
        | refine cD ?_ ?_ <;> intro _
        | refine dO (by kernel_rfl) ?_
        | refine kcHas ?_
        | refine Fin.q ?_ ?_
        | refine Fin.qn ?_ ?_
      have hcut := pre_cut (fun x : En => decide ((w.with p 0).has s x.w)) l n hn (fun q x hlt hx => by have := hq q hlt; simp only [List.getD, hx, Option.getD_some] at this; exact decide_eq_true this) (fun x hx => by first | (have hg := g; simp only [List.getD, hx, Option.getD_some] at hg; exact decide_eq_false hg) | (have := (List.getElem?_eq_some_iff.1 hx).1; omega)) hpre
      obtain ⟨hc1, hc2, hc3⟩ := hcut
      have hne : (∃ x, x ∈ l.drop n ∧ (w.with p 0).has s x.w) = False := by
        simp only [eq_iff_iff, iff_false]
        rintro ⟨x, hx, hh⟩
        have := hc3 x hx
        simp [hh] at this
      have m1 : (l.filter fun x : En => decide ((w.with p 0).has s x.w)).length = n := by rw [← hc1, List.length_take]; omega
      have m2 : (l.filter fun x : En => !decide ((w.with p 0).has s x.w)).length = l.length - n := by rw [← hc2, List.length_drop]
      have hm : d * l.length = d * n + d * (l.length - n) := by rw [← Nat.mul_add]; congr 1; omega
      have hm2 : (d + 1) * l.length = d * l.length + l.length := by rw [Nat.add_mul, Nat.one_mul]
      have gl := growF_len s c hc d (ns.length + 1) (w.with p 0) (l.filter fun x : En => decide ((w.with p 0).has s x.w))
      rw [m1] at gl
      have h1 := ih (w.with p 0) (l.filter fun x : En => decide ((w.with p 0).has s x.w)) (ns ++ [⟨w, p, -1, -1, []⟩]) (with_ok hcs.ok hcs.hp hcs.h5 (by omega) (by omega)) ho1 (fun e hh => he e (List.mem_filter.1 hh).1) (by omega) (by rw [m1, List.length_append, List.length_singleton]; omega)
      rw [show (ns ++ [(⟨w, p, -1, -1, []⟩ : Nd)]).length = ns.length + 1 by simp, List.append_assoc, List.singleton_append] at h1
      rw [hLd] at h1 gl
      have h2 := ih (w.with p 1) (l.filter fun x : En => !decide ((w.with p 0).has s x.w)) (ns ++ ⟨w, p, ((ns.length + 1 : Nat) : Int), -1, []⟩ :: L) (with_ok hcs.ok hcs.hp hcs.h5 (by omega) (by omega)) ho2 (fun e hh => he e (List.mem_filter.1 hh).1) (by omega) (by rw [m2, List.length_append, List.length_cons]; omega)
      rw [show (ns ++ (⟨w, p, ((ns.length + 1 : Nat) : Int), -1, []⟩ : Nd) :: L).length = ns.length + 1 + L.length by simp only [List.length_append, List.length_cons]; omega, List.append_assoc, List.cons_append] at h2
      rw [hRd] at h2
      clear hLd hRd
      generalize (l.filter fun x : En => decide ((w.with p 0).has s x.w)) = F1 at h1 hc1
      generalize (l.filter fun x : En => !decide ((w.with p 0).has s x.w)) = F2 at h2 hc2
      rw [hc2] at hne
      have hE1 : ns.length + (L.length + 1) = ns.length + 1 + L.length := by omega
      have hE2 : ns.length + (L.length + R.length + 1) = ns.length + 1 + L.length + R.length := by omega
      clear ih hpre ho1 ho2 he hc3 hm hm2 gl hq hb hL
      refine callX2 [2, 0, 1, 29] (cCont4 s c (ns ++ [⟨w, 0, -1, -1, []⟩]) (w.with p 0) F2 (by rw [← hc2, List.length_drop]; omega)) (by decide) ?_ ?_ ⟨by simp, by simp⟩ (r' := .bool (decide (∃ x, x ∈ F2 ∧ (w.with p 0).has s x.w))) (outs' := [[[.ptr 0 1 0 0]], [trow s c 1 (ns.length + 1)], nods (ns ++ [⟨w, 0, -1, -1, []⟩]), [(w.with p 0).row]]) rfl ?_ ?_
      iterate 3 (· simp (maxSteps := 1000000) only [go_sem, Int.reduceLT, Int.reduceLE, Int.reduceToNat, Int.reduceEq, Nat.reduceMul, ↓reduceIte, Nat.reduceLT, Nat.reduceLeDiff, Nat.reduceEqDiff, Nat.reduceAdd, Nat.reduceSub, Nat.reduceBEq, reduceCtorEq, hc1, hc2, List.length_append, List.length_cons, List.length_nil])
      repeat' first
        | simp (maxSteps := 1000000) only [go_sem, Int.reduceLT, Int.reduceLE, Int.reduceToNat, Int.reduceEq, Nat.reduceMul, ↓reduceIte, Nat.reduceLT, Nat.reduceLeDiff, Nat.reduceEqDiff, Nat.reduceAdd, Nat.reduceSub, Nat.reduceBEq, reduceCtorEq, *, eq_self, true_imp_iff, forall_const, nods_setw, nods_at, ents_take, ents_drop, take_ents, Nat.le_refl, lt_add1, lt_add2, lt_succ', List.length_append, List.length_cons, List.length_nil, List.isEmpty_cons, List.all_append, List.all_cons, List.all_nil, List.drop_zero, List.take_length]
        | contradiction
        | refine wT ?_ ?_ <;> intro _
        | refine wF ?_ ?_ <;> intro _
        | refine cD ?_ ?_ <;> intro _
        | refine dO (by kernel_rfl) ?_
        | refine Fin.q ?_ ?_
        | refine Fin.qn ?_ ?_
      refine callX2 [0, 1] h1 (by decide) ?_ ?_ ⟨by simp, by simp⟩ (r' := .int .i64 ((ns.length + 1 : Nat) : Int)) (outs' := [[trow s c 1 (ns.length + 1 + L.length)], nods (ns ++ ⟨w, p, -1, -1, []⟩ :: L)]) rfl ?_ ?_
      iterate 3 (· simp (maxSteps := 1000000) only [go_sem, Int.reduceLT, Int.reduceLE, Int.reduceToNat, Int.reduceEq, Nat.reduceMul, ↓reduceIte, Nat.reduceLT, Nat.reduceLeDiff, Nat.reduceEqDiff, Nat.reduceAdd, Nat.reduceSub, Nat.reduceBEq, reduceCtorEq, hc1, hc2, List.length_append, List.length_cons, List.length_nil])
      repeat' first
        | simp (maxSteps := 1000000) only [go_sem, Int.reduceLT, Int.reduceLE, Int.reduceToNat, Int.reduceEq, Nat.reduceMul, ↓reduceIte, Nat.reduceLT, Nat.reduceLeDiff, Nat.reduceEqDiff, Nat.reduceAdd, Nat.reduceSub, Nat.reduceBEq, reduceCtorEq, *, eq_self, true_imp_iff, forall_const, nods_setw, nods_at, ents_take, ents_drop, take_ents, Nat.le_refl, lt_add1, lt_add2, lt_succ', List.length_append, List.length_cons, List.length_nil, List.isEmpty_cons, List.all_append, List.all_cons, List.all_nil, List.drop_zero, List.take_length]
        | contradiction
        | refine wT ?_ ?_ <;> intro _
        | refine wF ?_ ?_ <;> intro _
        | refine cD ?_ ?_ <;> intro _
        | refine dO (by kernel_rfl) ?_
        | refine Fin.q ?_ ?_
        | refine Fin.qn ?_ ?_
      refine callX2 [0, 1] h2 (by decide) ?_ ?_ ⟨by simp, by simp⟩ (r' := .int .i64 ((ns.length + 1 + L.length : Nat) : Int)) (outs' := [[trow s c 1 (ns.length + 1 + L.length + R.length)], nods (ns ++ ⟨w, p, ((ns.length + 1 : Nat) : Int), -1, []⟩ :: (L ++ R))]) rfl ?_ ?_
      iterate 3 (· simp (maxSteps := 1000000) only [go_sem, Int.reduceLT, Int.reduceLE, Int.reduceToNat, Int.reduceEq, Nat.reduceMul, ↓reduceIte, Nat.reduceLT, Nat.reduceLeDiff, Nat.reduceEqDiff, Nat.reduceAdd, Nat.reduceSub, Nat.reduceBEq, reduceCtorEq, hc1, hc2, List.length_append, List.length_cons, List.length_nil])
      repeat' first
        | simp (maxSteps := 1000000) only [go_sem, Int.reduceLT, Int.reduceLE, Int.reduceToNat, Int.reduceEq, Nat.reduceMul, ↓reduceIte, Nat.reduceLT, Nat.reduceLeDiff, Nat.reduceEqDiff, Nat.reduceAdd, Nat.reduceSub, Nat.reduceBEq, reduceCtorEq, *, eq_self, true_imp_iff, forall_const, nods_setw, nods_at, ents_take, ents_drop, take_ents, Nat.le_refl, lt_add1, lt_add2, lt_succ', List.length_append, List.length_cons, List.length_nil, List.isEmpty_cons, List.all_append, List.all_cons, List.all_nil, List.drop_zero, List.take_length]
        | contradiction
        | refine wT ?_ ?_ <;> intro _
        | refine wF ?_ ?_ <;> intro _
        | refine cD ?_ ?_ <;> intro _
        | refine dO (by kernel_rfl) ?_
        | refine Fin.q ?_ ?_
        | refine Fin.qn ?_ ?_
  · repeat' first
      | simp (maxSteps := 1000000) only [go_sem, Int.reduceLT, Int.reduceLE, Int.reduceToNat, Int.reduceEq, Nat.reduceMul, ↓reduceIte, Nat.reduceLT, Nat.reduceLeDiff, Nat.reduceEqDiff, Nat.reduceAdd, Nat.reduceSub, Nat.reduceBEq, reduceCtorEq, *, eq_self, true_imp_iff, forall_const, nods_setw, nods_at, ents_take, ents_drop, take_ents, Nat.le_refl, lt_add1, lt_add2, lt_succ', List.length_append, List.length_cons, List.length_nil, List.isEmpty_cons, List.all_append, List.all_cons, List.all_nil, List.drop_zero, List.take_length]
      | contradiction
      | refine wT ?_ ?_ <;> intro _
      | refine wF ?_ ?_ <;> intro _
      | refine cD ?_ ?_ <;> intro _
      | refine dO (by kernel_rfl) ?_
      | refine Fin.q ?_ ?_
      | refine Fin.qn ?_ ?_
    have hcut := pre_cut (fun x : En => decide ((w.with p 0).has s x.w)) l n hn (fun q x hlt hx => by have := hq q hlt; simp only [List.getD, hx, Option.getD_some] at this; exact decide_eq_true this) (fun x hx => by first | (have hg := g; simp only [List.getD, hx, Option.getD_some] at hg; exact decide_eq_false hg) | (have := (List.getElem?_eq_some_iff.1 hx).1; omega)) hpre
    obtain ⟨hc1, hc2, hc3⟩ := hcut
    have hne : (∃ x, x ∈ l.drop n ∧ (w.with p 0).has s x.w) = False := by
      simp only [eq_iff_iff, iff_false]
      rintro ⟨x, hx, hh⟩
      have := hc3 x hx
      simp [hh] at this
    have m1 : (l.filter fun x : En => decide ((w.with p 0).has s x.w)).length = n := by rw [← hc1, List.length_take]; omega
    have m2 : (l.filter fun x : En => !decide ((w.with p 0).has s x.w)).length = l.length - n := by rw [← hc2, List.length_drop]
    have hm : d * l.length = d * n + d * (l.length - n) := by rw [← Nat.mul_add]; congr 1; omega
    have hm2 : (d + 1) * l.length = d * l.length + l.length := by rw [Nat.add_mul, Nat.one_mul]
    have gl := growF_len s c hc d (ns.length + 1) (w.with p 0) (l.filter fun x : En => decide ((w.with p 0).has s x.w))
    rw [m1] at gl
    have h1 := ih (w.with p 0) (l.filter fun x : En => decide ((w.with p 0).has s x.w)) (ns ++ [⟨w, p, -1, -1, []⟩]) (with_ok hcs.ok hcs.hp hcs.h5 (by omega) (by omega)) ho1 (fun e hh => he e (List.mem_filter.1 hh).1) (by omega) (by rw [m1, List.length_append, List.length_singleton]; omega)
    rw [show (ns ++ [(⟨w, p, -1, -1, []⟩ : Nd)]).length = ns.length + 1 by simp, List.append_assoc, List.singleton_append] at h1
    rw [hLd] at h1 gl
    have h2 := ih (w.with p 1) (l.filter fun x : En => !decide ((w.with p 0).has s x.w)) (ns ++ ⟨w, p, ((ns.length + 1 : Nat) : Int), -1, []⟩ :: L) (with_ok hcs.ok hcs.hp hcs.h5 (by omega) (by omega)) ho2 (fun e hh => he e (List.mem_filter.1 hh).1) (by omega) (by rw [m2, List.length_append, List.length_cons]; omega)
    rw [show (ns ++ (⟨w, p, ((ns.length + 1 : Nat) : Int), -1, []⟩ : Nd) :: L).length = ns.length + 1 + L.length by simp only [List.length_append, List.length_cons]; omega, List.append_assoc, List.cons_append] at h2
    rw [hRd] at h2
    clear hLd hRd
    generalize (l.filter fun x : En => decide ((w.with p 0).has s x.w)) = F1 at h1 hc1
    generalize (l.filter fun x : En => !decide ((w.with p 0).has s x.w)) = F2 at h2 hc2
    rw [hc2] at hne
    have hE1 : ns.length + (L.length + 1) = ns.length + 1 + L.length := by omega
    have hE2 : ns.length + (L.length + R.length + 1) = ns.length + 1 + L.length + R.length := by omega
    clear ih hpre ho1 ho2 he hc3 hm hm2 gl hq hb hL
    refine callX2 [2, 0, 1, 29] (cCont4 s c (ns ++ [⟨w, 0, -1, -1, []⟩]) (w.with p 0) F2 (by rw [← hc2, List.length_drop]; omega)) (by decide) ?_ ?_ ⟨by simp, by simp⟩ (r' := .bool (decide (∃ x, x ∈ F2 ∧ (w.with p 0).has s x.w))) (outs' := [[[.ptr 0 1 0 0]], [trow s c 1 (ns.length + 1)], nods (ns ++ [⟨w, 0, -1, -1, []⟩]), [(w.with p 0).row]]) rfl ?_ ?_
    iterate 3 (· simp (maxSteps := 1000000) only [go_sem, Int.reduceLT, Int.reduceLE, Int.reduceToNat, Int.reduceEq, Nat.reduceMul, ↓reduceIte, Nat.reduceLT, Nat.reduceLeDiff, Nat.reduceEqDiff, Nat.reduceAdd, Nat.reduceSub, Nat.reduceBEq, reduceCtorEq, hc1, hc2, List.length_append, List.length_cons, List.length_nil])
    repeat' first
      | simp (maxSteps := 1000000) only [go_sem, Int.reduceLT, Int.reduceLE, Int.reduceToNat, Int.reduceEq, Nat.reduceMul, ↓reduceIte, Nat.reduceLT, Nat.reduceLeDiff, Nat.reduceEqDiff, Nat.reduceAdd, Nat.reduceSub, Nat.reduceBEq, reduceCtorEq, *, eq_self, true_imp_iff, forall_const, nods_setw, nods_at, ents_take, ents_drop, take_ents, Nat.le_refl, lt_add1, lt_add2, lt_succ', List.length_append, List.length_cons, List.length_nil, List.isEmpty_cons, List.all_append, List.all_cons, List.all_nil, List.drop_zero, List.take_length]
      | contradiction
      | refine wT ?_ ?_ <;> intro _
      | refine wF ?_ ?_ <;> intro _
      | refine cD ?_ ?_ <;> intro _
      | refine dO (by kernel_rfl) ?_
      | refine Fin.q ?_ ?_
      | refine Fin.qn ?_ ?_
    refine callX2 [0, 1] h1 (by decide) ?_ ?_ ⟨by simp, by simp⟩ (r' := .int .i64 ((ns.length + 1 : Nat) : Int)) (outs' := [[trow s c 1 (ns.length + 1 + L.length)], nods (ns ++ ⟨w, p, -1, -1, []⟩ :: L)]) rfl ?_ ?_
    iterate 3 (· simp (maxSteps := 1000000) only [go_sem, Int.reduceLT, Int.reduceLE, Int.reduceToNat, Int.reduceEq, Nat.reduceMul, ↓reduceIte, Nat.reduceLT, Nat.reduceLeDiff, Nat.reduceEqDiff, Nat.reduceAdd, Nat.reduceSub, Nat.reduceBEq, reduceCtorEq, hc1, hc2, List.length_append, List.length_cons, List.length_nil])
    repeat' first
      | simp (maxSteps := 1000000) only [go_sem, Int.reduceLT, Int.reduceLE, Int.reduceToNat, Int.reduceEq, Nat.reduceMul, ↓reduceIte, Nat.reduceLT, Nat.reduceLeDiff, Nat.reduceEqDiff, Nat.reduceAdd, Nat.reduceSub, Nat.reduceBEq, reduceCtorEq, *, eq_self, true_imp_iff, forall_const, nods_setw, nods_at, ents_take, ents_drop, take_ents, Nat.le_refl, lt_add1, lt_add2, lt_succ', List.length_append, List.length_cons, List.length_nil, List.isEmpty_cons, List.all_append, List.all_cons, List.all_nil, List.drop_zero, List.take_length]
      | contradiction
      | refine wT ?_ ?_ <;> intro _
      | refine wF ?_ ?_ <;> intro _
      | refine cD ?_ ?_ <;> intro _
      | refine dO (by kernel_rfl) ?_
      | refine Fin.q ?_ ?_
      | refine Fin.qn ?_ ?_
    refine callX2 [0, 1] h2 (by decide) ?_ ?_ ⟨by simp, by simp⟩ (r' := .int .i64 ((ns.length + 1 + L.length : Nat) : Int)) (outs' := [[trow s c 1 (ns.length + 1 + L.length + R.length)], nods (ns ++ ⟨w, p, ((ns.length + 1 : Nat) : Int), -1, []⟩ :: (L ++ R))]) rfl ?_ ?_
    iterate 3 (· simp (maxSteps := 1000000) only [go_sem, Int.reduceLT, Int.reduceLE, Int.reduceToNat, Int.reduceEq, Nat.reduceMul, ↓reduceIte, Nat.reduceLT, Nat.reduceLeDiff, Nat.reduceEqDiff, Nat.reduceAdd, Nat.reduceSub, Nat.reduceBEq, reduceCtorEq, hc1, hc2, List.length_append, List.length_cons, List.length_nil])
    repeat' first
      | simp (maxSteps := 1000000) only [go_sem, Int.reduceLT, Int.reduceLE, Int.reduceToNat, Int.reduceEq, Nat.reduceMul, ↓reduceIte, Nat.reduceLT, Nat.reduceLeDiff, Nat.reduceEqDiff, Nat.reduceAdd, Nat.reduceSub, Nat.reduceBEq, reduceCtorEq, *, eq_self, true_imp_iff, forall_const, nods_setw, nods_at, ents_take, ents_drop, take_ents, Nat.le_refl, lt_add1, lt_add2, lt_succ', List.length_append, List.length_cons, List.length_nil, List.isEmpty_cons, List.all_append, List.all_cons, List.all_nil, List.drop_zero, List.take_length]
      | contradiction
      | refine wT ?_ ?_ <;> intro _
      | refine wF ?_ ?_ <;> intro _
      | refine cD ?_ ?_ <;> intro _
      | refine dO (by kernel_rfl) ?_
      | refine Fin.q ?_ ?_
      | refine Fin.qn ?_ ?_
end TR

/- grow at any number of bits; and at a tree without nodes. -/
open Go Go.Proofs Go.AH
set_option linter.unusedSimpArgs false
set_option linter.unusedVariables false
namespace TR
theorem lens_at {l : List En} (he : ∀ e, e ∈ l → e.lens) : ∀ i, i < l.length → (l.getD i default).lens := fun i hi => he _ (by simp [List.getD, hi])
theorem cgrow (s : Sc) (c : Int) (hc : 1 ≤ c) : ∀ d, GS s c d
  | 0 => fun w l ns hw ho he hl hb => by
    have := leaf s c w l ns hw hl (lens_at he) (by omega) (.inr ho)
    simpa [growF] using this
  | d + 1 => fun w l ns hw ho he hl hb => by
    by_cases h : (l.length : Int) ≤ c ∨ fewestF w.b w.b.length < 0
    · have := leaf s c w l ns hw hl (lens_at he) (by omega) h
      rw [growF, if_pos h]
      simpa using this
    · have h2 := not_or.1 h
      obtain ⟨p, hp⟩ : ∃ p : Nat, fewestF w.b w.b.length = p := ⟨(fewestF w.b w.b.length).toNat, by omega⟩
      have h3 := fewest_lt4 w.b w.b.length (by omega)
      have h4 := fewestF_range w.b w.b.length
      rcases ho with ho | ⟨o1, o2, o3⟩
      · exact absurd ho h2.2
      · rw [hp] at h3 h4 o1 o2 o3
        exact gsplit s c hc d (cgrow s c hc d) w l ns p hp (canSplit hw (by omega) h3) h2.1 o1 o2 o3 he hl hb
def trow0 (s : Sc) (c : Int) : List D := [.int .i64 s.kind, .int .i64 s.band, .int .i64 s.gap, .int .i64 s.len, .int .i64 s.pcs, V s.cuts, .int .i64 c, .zs]
attribute [go_sem] trow0
set_option maxHeartbeats 4000000 in
set_option maxRecDepth 20000 in
theorem leaf0 (s : Sc) (c : Int) (w : Wd) (l : List En) (hw : w.ok s) (hl : l.length ≤ 2000) (he : ∀ i, i < l.length → (l.getD i default).lens) (hleaf : (l.length : Int) ≤ c ∨ fewestF w.b w.b.length < 0) :
    FC Tryz.prog 76 [.ptr 0 1 0 0, .agg w.row, .vs (ents l)] [[trow0 s c]] (.int .i64 0) [[trow s c 1 1], nods [⟨w, 0, -1, -1, l⟩]] := by
  obtain ⟨h8, h8b, h8c⟩ := len8 hw
  clear h8c
  have hC : 1 ≤ capMax := by decide
  have hl2 : l.length ≤ 4294967296 := by omega
  refine FC.of_run mix Tryz.func76 rfl rfl (by simp [Tryz.ntmps76]) ?_
  repeat' first
    | simp (maxSteps := 1000000) only [go_sem, Int.reduceLT, Int.reduceLE, Int.reduceToNat, Int.reduceEq, Nat.reduceMul, ↓reduceIte, Nat.reduceLT, Nat.reduceLeDiff, Nat.reduceEqDiff, Nat.reduceAdd, Nat.reduceSub, Nat.reduceBEq, reduceCtorEq, *, List.length_append, List.length_cons, List.length_nil, List.isEmpty_cons, List.all_append, List.all_cons, List.all_nil, nods_app, nods_cons, List.drop_zero, List.take_length]
    | contradiction
    | refine wT ?_ ?_ <;> intro _
    | refine wF ?_ ?_ <;> intro _
    | refine cD ?_ ?_ <;> intro _
    | refine dO (by kernel_rfl) ?_
    | refine kcwords ?_
    | refine kcfewest ?_
    | refine kceCopy ?_
    | refine Fin.qy [16] (by simp) (by simp) ?_ ?_
  all_goals exact absurd hleaf (by omega)
set_option maxHeartbeats 4000000 in
set_option maxRecDepth 20000 in
theorem gsplit0 (s : Sc) (c : Int) (hc : 1 ≤ c) (d : Nat) (ih : GS s c d) (w : Wd) (l : List En) (p : Nat) (hpe : fewestF w.b w.b.length = p) (hcs : CanSplit s w p) (hL : ¬ (l.length : Int) ≤ c)
    (hpre : pre (fun x : En => decide ((w.with p 0).has s x.w)) l) (ho1 : Ord s d (w.with p 0) (l.filter fun x => decide ((w.with p 0).has s x.w))) (ho2 : Ord s d (w.with p 1) (l.filter fun x => !decide ((w.with p 0).has s x.w)))
    (he : ∀ e, e ∈ l → e.lens) (hl : l.length ≤ 2000) (hb : 1 + 2 * (d * l.length + l.length) + 1 ≤ 4294967296) :
    FC Tryz.prog 76 [.ptr 0 1 0 0, .agg w.row, .vs (ents l)] [[trow0 s c]] (.int .i64 0) [[trow s c 1 (growF s c (d + 1) 0 w l).length], nods (growF s c (d + 1) 0 w l)] := by
  have h8 := hcs.h8
  have h8b := hcs.hl
  have hC : 1 ≤ capMax := by decide
  have hl2 : l.length ≤ 4294967296 := by omega
  rw [growF_split hL hpe]
  simp only [Nat.zero_add]
  generalize hLd : growF s c d 1 (w.with p 0) (l.filter fun x : En => decide ((w.with p 0).has s x.w)) = L
  generalize hRd : growF s c d (1 + L.length) (w.with p 1) (l.filter fun x : En => !decide ((w.with p 0).has s x.w)) = R
  refine FC.of_run mix Tryz.func76 rfl rfl (by simp [Tryz.ntmps76]) ?_
  repeat' first
    | simp (maxSteps := 1000000) only [go_sem, Int.reduceLT, Int.reduceLE, Int.reduceToNat, Int.reduceEq, Nat.reduceMul, ↓reduceIte, Nat.reduceLT, Nat.reduceLeDiff, Nat.reduceEqDiff, Nat.reduceAdd, Nat.reduceSub, Nat.reduceBEq, reduceCtorEq, *, lt_succ', List.length_append, List.length_cons, List.length_nil, List.isEmpty_cons, List.all_append, List.all_cons, List.all_nil, List.drop_zero, List.take_length]
    | contradiction
    | refine wT ?_ ?_ <;> intro _
    | refine wF ?_ ?_ <;> intro _
    | refine cD ?_ ?_ <;> intro _
    | refine dO (by kernel_rfl) ?_
    | refine kcwords ?_
    | refine kcfewest ?_
    | refine kcSplit ?_
    | refine Fin.q ?_ ?_
    | refine Fin.qn ?_ ?_
  refine AW.loopx (σ := Nat) mix (fun n => ⟨149, [(12, .int .i64 n), (10, .ptr 30 1 0 0), (9, .ptr 29 1 0 0), (8, .int .i64 p), (7, .int .i64 0), (3, .ptr 1 1 0 0), (2, .vs (ents l))], [some [trow s c 16 1], some [[.ptr 0 1 0 0]], none, none, none, none, none, none, none, none, none, none, none, none, none, none, some (nods [⟨w, 0, -1, -1, []⟩]), none, none, none, none, none, none, none, none, none, none, none, none, some [(w.with p 0).row], some [(w.with p 1).row]]⟩) (fun n => n ≤ l.length ∧ ∀ q, q < n → (w.with p 0).has s (l.getD q default).w) (fun n => l.length - n) 0 ⟨by omega, fun q h => by omega⟩ (Conv.trans (Conv.weak (H' := [some [trow s c 16 1], some [[.ptr 0 1 0 0]], some [w.row], none, none, none, none, none, none, none, none, none, none, none, none, some [[V w.s, V w.b, .int .i64 0, .int .i64 (-1), .int .i64 (-1), .zs]], some (nods [⟨w, 0, -1, -1, []⟩]), none, none, none, none, none, none, none, none, none, none, none, none, some [(w.with p 0).row], some [(w.with p 1).row]]) ?_) (Conv.mk ?_ ?_ ?_ ?_ ?_)) ?_
  · repeat' (first | exact trivial | exact Or.inl rfl | exact Or.inr ⟨.inr ⟨.inl rfl, .inl rfl, .inl rfl, .inl rfl, .inl rfl, .inr ⟨.inl rfl, rfl⟩, trivial⟩, trivial⟩ | apply And.intro)
  · simp (maxSteps := 1000000) only [go_sem, Int.reduceLT, Int.reduceLE, Int.reduceToNat, Int.reduceEq, Nat.reduceMul, ↓reduceIte, Nat.reduceLT, Nat.reduceLeDiff, Nat.reduceEqDiff, Nat.reduceAdd, Nat.reduceSub, Nat.reduceBEq, reduceCtorEq]
    rfl
  iterate 4 (· simp (maxSteps := 1000000) only [go_sem, Int.reduceLT, Int.reduceLE, Int.reduceToNat, Int.reduceEq, Nat.reduceMul, ↓reduceIte, Nat.reduceLT, Nat.reduceLeDiff, Nat.reduceEqDiff, Nat.reduceAdd, Nat.reduceSub, Nat.reduceBEq, reduceCtorEq])
  intro n ⟨hn, hq⟩
  have hv := wrap1 (i := n) (by omega)
  by_cases h : n < l.length
  · have hx := ents_get h
    by_cases g : (w.with p 0).has s (l.getD n default).w
    · clear ih hpre ho1 ho2 he
      repeat' first
        | simp (maxSteps := 1000000) only [go_sem, Int.reduceLT, Int.reduceLE, Int.reduceToNat, Int.reduceEq, Nat.reduceMul, ↓reduceIte, Nat.reduceLT, Nat.reduceLeDiff, Nat.reduceEqDiff, Nat.reduceAdd, Nat.reduceSub, Nat.reduceBEq, reduceCtorEq, *, eq_self, true_imp_iff, forall_const, nods_cons, nods_nil, ents_take, ents_drop, take_ents, Nat.le_refl, lt_succ', List.length_append, List.length_cons, List.length_nil, List.isEmpty_cons, List.all_append, List.all_cons, List.all_nil, List.drop_zero, List.take_length]
        | contradiction
        | refine wT ?_ ?_ <;> intro _
        | refine wF ?_ ?_ <;> intro _
        | refine cD ?_ ?_ <;> intro _
        | refine dO (by kernel_rfl) ?_
        | refine kcHas ?_
        | (refine ⟨n + 1, ?_, ?_, Conv.mk ?_ ?_ ?_ ?_ ?_⟩; (· (first | omega | (simp only; omega) | (simp only [List.length_nil, List.length_cons]; omega))); (· (exact ⟨by omega, upto hq g⟩)))
        | refine Fin.q ?_ ?_
        | refine Fin.qn ?_ ?_
    · repeat' first
        | simp (maxSteps := 1000000) only [go_sem, Int.reduceLT, Int.reduceLE, Int.reduceToNat, Int.reduceEq, Nat.reduceMul, ↓reduceIte, Nat.reduceLT, Nat.reduceLeDiff, Nat.reduceEqDiff, Nat.reduceAdd, Nat.reduceSub, Nat.reduceBEq, reduceCtorEq, *, eq_self, true_imp_iff, forall_const, nods_cons, nods_nil, ents_take, ents_drop, take_ents, Nat.le_refl, lt_succ', List.length_append, List.length_cons, List.length_nil, List.isEmpty_cons, List.all_append, List.all_cons, List.all_nil, List.drop_zero, List.take_length]
        | contradiction
        | refine wT ?_ ?_ <;> intro _
        | refine wF ?_ ?_ <;> intro _
        | refine cD ?_ ?_ <;> intro _
        | refine dO (by kernel_rfl) ?_
        | refine kcHas ?_
        | refine Fin.q ?_ ?_
        | refine Fin.qn ?_ ?_
      have hcut := pre_cut (fun x : En => decide ((w.with p 0).has s x.w)) l n hn (fun q x hlt hx => by have := hq q hlt; simp only [List.getD, hx, Option.getD_some] at this; exact decide_eq_true this) (fun x hx => by first | (have hg := g; simp only [List.getD, hx, Option.getD_some] at hg; exact decide_eq_false hg) | (have := (List.getElem?_eq_some_iff.1 hx).1; omega)) hpre
      obtain ⟨hc1, hc2, hc3⟩ := hcut
      have hne : (∃ x, x ∈ l.drop n ∧ (w.with p 0).has s x.w) = False := by
        simp only [eq_iff_iff, iff_false]
        rintro ⟨x, hx, hh⟩
        have := hc3 x hx
        simp [hh] at this
      have m1 : (l.filter fun x : En => decide ((w.with p 0).has s x.w)).length = n := by rw [← hc1, List.length_take]; omega
      have m2 : (l.filter fun x : En => !decide ((w.with p 0).has s x.w)).length = l.length - n := by rw [← hc2, List.length_drop]
      have hm : d * l.length = d * n + d * (l.length - n) := by rw [← Nat.mul_add]; congr 1; omega
      have gl := growF_len s c hc d 1 (w.with p 0) (l.filter fun x : En => decide ((w.with p 0).has s x.w))
      rw [m1] at gl
      have h1 := ih (w.with p 0) (l.filter fun x : En => decide ((w.with p 0).has s x.w)) [⟨w, p, -1, -1, []⟩] (with_ok hcs.ok hcs.hp hcs.h5 (by omega) (by omega)) ho1 (fun e hh => he e (List.mem_filter.1 hh).1) (by omega) (by rw [m1, List.length_singleton]; omega)
      rw [List.length_singleton, List.singleton_append] at h1
      rw [hLd] at h1 gl
      have h2 := ih (w.with p 1) (l.filter fun x : En => !decide ((w.with p 0).has s x.w)) (⟨w, p, ((1 : Nat) : Int), -1, []⟩ :: L) (with_ok hcs.ok hcs.hp hcs.h5 (by omega) (by omega)) ho2 (fun e hh => he e (List.mem_filter.1 hh).1) (by omega) (by rw [m2, List.length_cons]; omega)
      rw [show ((⟨w, p, ((1 : Nat) : Int), -1, []⟩ : Nd) :: L).length = 1 + L.length by simp only [List.length_cons]; omega, List.cons_append] at h2
      rw [hRd] at h2
      clear hLd hRd
      generalize (l.filter fun x : En => decide ((w.with p 0).has s x.w)) = F1 at h1 hc1
      generalize (l.filter fun x : En => !decide ((w.with p 0).has s x.w)) = F2 at h2 hc2
      rw [hc2] at hne
      have hE1 : L.length + 1 = 1 + L.length := by omega
      have hE2 : L.length + R.length + 1 = 1 + L.length + R.length := by omega
      have hP1 : 0 < 1 + L.length := by omega
      have hP2 : 0 < 1 + L.length + R.length := by omega
      clear ih hpre ho1 ho2 he hc3 hm gl hq hb hL
      refine callX2 [1, 0, 16, 29] (cCont4 s c [⟨w, 0, -1, -1, []⟩] (w.with p 0) F2 (by rw [← hc2, List.length_drop]; omega)) (by decide) ?_ ?_ ⟨by simp, by simp⟩ (r' := .bool (decide (∃ x, x ∈ F2 ∧ (w.with p 0).has s x.w))) (outs' := [[[.ptr 0 1 0 0]], [trow s c 16 1], nods [⟨w, 0, -1, -1, []⟩], [(w.with p 0).row]]) rfl ?_ ?_
      iterate 3 (· simp (maxSteps := 1000000) only [go_sem, Int.reduceLT, Int.reduceLE, Int.reduceToNat, Int.reduceEq, Nat.reduceMul, ↓reduceIte, Nat.reduceLT, Nat.reduceLeDiff, Nat.reduceEqDiff, Nat.reduceAdd, Nat.reduceSub, Nat.reduceBEq, reduceCtorEq, hc1, hc2, nods_cons, nods_nil, List.length_append, List.length_cons, List.length_nil])
      repeat' first
        | simp (maxSteps := 1000000) only [go_sem, Int.reduceLT, Int.reduceLE, Int.reduceToNat, Int.reduceEq, Nat.reduceMul, ↓reduceIte, Nat.reduceLT, Nat.reduceLeDiff, Nat.reduceEqDiff, Nat.reduceAdd, Nat.reduceSub, Nat.reduceBEq, reduceCtorEq, *, eq_self, true_imp_iff, forall_const, nods_cons, nods_nil, ents_take, ents_drop, take_ents, Nat.le_refl, lt_succ', List.length_append, List.length_cons, List.length_nil, List.isEmpty_cons, List.all_append, List.all_cons, List.all_nil, List.drop_zero, List.take_length]
        | contradiction
        | refine wT ?_ ?_ <;> intro _
        | refine wF ?_ ?_ <;> intro _
        | refine cD ?_ ?_ <;> intro _
        | refine dO (by kernel_rfl) ?_
        | refine Fin.q ?_ ?_
        | refine Fin.qn ?_ ?_
      refine callX2 [0, 16] h1 (by decide) ?_ ?_ ⟨by simp, by simp⟩ (r' := .int .i64 ((1 : Nat) : Int)) (outs' := [[trow s c 16 (1 + L.length)], nods (⟨w, p, -1, -1, []⟩ :: L)]) rfl ?_ ?_
      iterate 3 (· simp (maxSteps := 1000000) only [go_sem, Int.reduceLT, Int.reduceLE, Int.reduceToNat, Int.reduceEq, Nat.reduceMul, ↓reduceIte, Nat.reduceLT, Nat.reduceLeDiff, Nat.reduceEqDiff, Nat.reduceAdd, Nat.reduceSub, Nat.reduceBEq, reduceCtorEq, hc1, hc2, nods_cons, nods_nil, List.length_append, List.length_cons, List.length_nil])
      repeat' first
        | simp (maxSteps := 1000000) only [go_sem, Int.reduceLT, Int.reduceLE, Int.reduceToNat, Int.reduceEq, Nat.reduceMul, ↓reduceIte, Nat.reduceLT, Nat.reduceLeDiff, Nat.reduceEqDiff, Nat.reduceAdd, Nat.reduceSub, Nat.reduceBEq, reduceCtorEq, *, eq_self, true_imp_iff, forall_const, nods_cons, nods_nil, ents_take, ents_drop, take_ents, Nat.le_refl, lt_succ', List.length_append, List.length_cons, List.length_nil, List.isEmpty_cons, List.all_append, List.all_cons, List.all_nil, List.drop_zero, List.take_length]
        | contradiction
        | refine wT ?_ ?_ <;> intro _
        | refine wF ?_ ?_ <;> intro _
        | refine cD ?_ ?_ <;> intro _
        | refine dO (by kernel_rfl) ?_
        | refine Fin.q ?_ ?_
        | refine Fin.qn ?_ ?_
      refine callX2 [0, 16] h2 (by decide) ?_ ?_ ⟨by simp, by simp⟩ (r' := .int .i64 ((1 + L.length : Nat) : Int)) (outs' := [[trow s c 16 (1 + L.length + R.length)], nods (⟨w, p, ((1 : Nat) : Int), -1, []⟩ :: (L ++ R))]) rfl ?_ ?_
      iterate 3 (· simp (maxSteps := 1000000) only [go_sem, Int.reduceLT, Int.reduceLE, Int.reduceToNat, Int.reduceEq, Nat.reduceMul, ↓reduceIte, Nat.reduceLT, Nat.reduceLeDiff, Nat.reduceEqDiff, Nat.reduceAdd, Nat.reduceSub, Nat.reduceBEq, reduceCtorEq, hc1, hc2, nods_cons, nods_nil, List.length_append, List.length_cons, List.length_nil])
      repeat' first
        | simp (maxSteps := 1000000) only [go_sem, Int.reduceLT, Int.reduceLE, Int.reduceToNat, Int.reduceEq, Nat.reduceMul, ↓reduceIte, Nat.reduceLT, Nat.reduceLeDiff, Nat.reduceEqDiff, Nat.reduceAdd, Nat.reduceSub, Nat.reduceBEq, reduceCtorEq, *, eq_self, true_imp_iff, forall_const, nods_cons, nods_nil, ents_take, ents_drop, take_ents, Nat.le_refl, lt_succ', List.length_append, List.length_cons, List.length_nil, List.isEmpty_cons, List.all_append, List.all_cons, List.all_nil, List.drop_zero, List.take_length]
        | contradiction
        | refine wT ?_ ?_ <;> intro _
        | refine wF ?_ ?_ <;> intro _
        | refine cD ?_ ?_ <;> intro _
        | refine dO (by kernel_rfl) ?_
        | refine Fin.qy [16] (by simp) (by simp) ?_ ?_
  · repeat' first
      | simp (maxSteps := 1000000) only [go_sem, Int.reduceLT, Int.reduceLE, Int.reduceToNat, Int.reduceEq, Nat.reduceMul, ↓reduceIte, Nat.reduceLT, Nat.reduceLeDiff, Nat.reduceEqDiff, Nat.reduceAdd, Nat.reduceSub, Nat.reduceBEq, reduceCtorEq, *, eq_self, true_imp_iff, forall_const, nods_cons, nods_nil, ents_take, ents_drop, take_ents, Nat.le_refl, lt_succ', List.length_append, List.length_cons, List.length_nil, List.isEmpty_cons, List.all_append, List.all_cons, List.all_nil, List.drop_zero, List.take_length]
      | contradiction
      | refine wT ?_ ?_ <;> intro _
      | refine wF ?_ ?_ <;> intro _
      | refine cD ?_ ?_ <;> intro _
      | refine dO (by kernel_rfl) ?_
      | refine Fin.q ?_ ?_
      | refine Fin.qn ?_ ?_
    have hcut := pre_cut (fun x : En => decide ((w.with p 0).has s x.w)) l n hn (fun q x hlt hx => by have := hq q hlt; simp only [List.getD, hx, Option.getD_some] at this; exact decide_eq_true this) (fun x hx => by first | (have hg := g; simp only [List.getD, hx, Option.getD_some] at hg; exact decide_eq_false hg) | (have := (List.getElem?_eq_some_iff.1 hx).1; omega)) hpre
    obtain ⟨hc1, hc2, hc3⟩ := hcut
    have hne : (∃ x, x ∈ l.drop n ∧ (w.with p 0).has s x.w) = False := by
      simp only [eq_iff_iff, iff_false]
      rintro ⟨x, hx, hh⟩
      have := hc3 x hx
      simp [hh] at this
    have m1 : (l.filter fun x : En => decide ((w.with p 0).has s x.w)).length = n := by rw [← hc1, List.length_take]; omega
    have m2 : (l.filter fun x : En => !decide ((w.with p 0).has s x.w)).length = l.length - n := by rw [← hc2, List.length_drop]
    have hm : d * l.length = d * n + d * (l.length - n) := by rw [← Nat.mul_add]; congr 1; omega
    have gl := growF_len s c hc d 1 (w.with p 0) (l.filter fun x : En => decide ((w.with p 0).has s x.w))
    rw [m1] at gl
    have h1 := ih (w.with p 0) (l.filter fun x : En => decide ((w.with p 0).has s x.w)) [⟨w, p, -1, -1, []⟩] (with_ok hcs.ok hcs.hp hcs.h5 (by omega) (by omega)) ho1 (fun e hh => he e (List.mem_filter.1 hh).1) (by omega) (by rw [m1, List.length_singleton]; omega)
    rw [List.length_singleton, List.singleton_append] at h1
    rw [hLd] at h1 gl
    have h2 := ih (w.with p 1) (l.filter fun x : En => !decide ((w.with p 0).has s x.w)) (⟨w, p, ((1 : Nat) : Int), -1, []⟩ :: L) (with_ok hcs.ok hcs.hp hcs.h5 (by omega) (by omega)) ho2 (fun e hh => he e (List.mem_filter.1 hh).1) (by omega) (by rw [m2, List.length_cons]; omega)
    rw [show ((⟨w, p, ((1 : Nat) : Int), -1, []⟩ : Nd) :: L).length = 1 + L.length by simp only [List.length_cons]; omega, List.cons_append] at h2
    rw [hRd] at h2
    clear hLd hRd
    generalize (l.filter fun x : En => decide ((w.with p 0).has s x.w)) = F1 at h1 hc1
    generalize (l.filter fun x : En => !decide ((w.with p 0).has s x.w)) = F2 at h2 hc2
    rw [hc2] at hne
    have hE1 : L.length + 1 = 1 + L.length := by omega
    have hE2 : L.length + R.length + 1 = 1 + L.length + R.length := by omega
    have hP1 : 0 < 1 + L.length := by omega
    have hP2 : 0 < 1 + L.length + R.length := by omega
    clear ih hpre ho1 ho2 he hc3 hm gl hq hb hL
    refine callX2 [1, 0, 16, 29] (cCont4 s c [⟨w, 0, -1, -1, []⟩] (w.with p 0) F2 (by rw [← hc2, List.length_drop]; omega)) (by decide) ?_ ?_ ⟨by simp, by simp⟩ (r' := .bool (decide (∃ x, x ∈ F2 ∧ (w.with p 0).has s x.w))) (outs' := [[[.ptr 0 1 0 0]], [trow s c 16 1], nods [⟨w, 0, -1, -1, []⟩], [(w.with p 0).row]]) rfl ?_ ?_
    iterate 3 (· simp (maxSteps := 1000000) only [go_sem, Int.reduceLT, Int.reduceLE, Int.reduceToNat, Int.reduceEq, Nat.reduceMul, ↓reduceIte, Nat.reduceLT, Nat.reduceLeDiff, Nat.reduceEqDiff, Nat.reduceAdd, Nat.reduceSub, Nat.reduceBEq, reduceCtorEq, hc1, hc2, nods_cons, nods_nil, List.length_append, List.length_cons, List.length_nil])
    repeat' first
      | simp (maxSteps := 1000000) only [go_sem, Int.reduceLT, Int.reduceLE, Int.reduceToNat, Int.reduceEq, Nat.reduceMul, ↓reduceIte, Nat.reduceLT, Nat.reduceLeDiff, Nat.reduceEqDiff, Nat.reduceAdd, Nat.reduceSub, Nat.reduceBEq, reduceCtorEq, *, eq_self, true_imp_iff, forall_const, nods_cons, nods_nil, ents_take, ents_drop, take_ents, Nat.le_refl, lt_succ', List.length_append, List.length_cons, List.length_nil, List.isEmpty_cons, List.all_append, List.all_cons, List.all_nil, List.drop_zero, List.take_length]
      | contradiction
      | refine wT ?_ ?_ <;> intro _
      | refine wF ?_ ?_ <;> intro _
      | refine cD ?_ ?_ <;> intro _
      | refine dO (by kernel_rfl) ?_
      | refine Fin.q ?_ ?_
      | refine Fin.qn ?_ ?_
    refine callX2 [0, 16] h1 (by decide) ?_ ?_ ⟨by simp, by simp⟩ (r' := .int .i64 ((1 : Nat) : Int)) (outs' := [[trow s c 16 (1 + L.length)], nods (⟨w, p, -1, -1, []⟩ :: L)]) rfl ?_ ?_
    iterate 3 (· simp (maxSteps := 1000000) only [go_sem, Int.reduceLT, Int.reduceLE, Int.reduceToNat, Int.reduceEq, Nat.reduceMul, ↓reduceIte, Nat.reduceLT, Nat.reduceLeDiff, Nat.reduceEqDiff, Nat.reduceAdd, Nat.reduceSub, Nat.reduceBEq, reduceCtorEq, hc1, hc2, nods_cons, nods_nil, List.length_append, List.length_cons, List.length_nil])
    repeat' first
      | simp (maxSteps := 1000000) only [go_sem, Int.reduceLT, Int.reduceLE, Int.reduceToNat, Int.reduceEq, Nat.reduceMul, ↓reduceIte, Nat.reduceLT, Nat.reduceLeDiff, Nat.reduceEqDiff, Nat.reduceAdd, Nat.reduceSub, Nat.reduceBEq, reduceCtorEq, *, eq_self, true_imp_iff, forall_const, nods_cons, nods_nil, ents_take, ents_drop, take_ents, Nat.le_refl, lt_succ', List.length_append, List.length_cons, List.length_nil, List.isEmpty_cons, List.all_append, List.all_cons, List.all_nil, List.drop_zero, List.take_length]
      | contradiction
      | refine wT ?_ ?_ <;> intro _
      | refine wF ?_ ?_ <;> intro _
      | refine cD ?_ ?_ <;> intro _
      | refine dO (by kernel_rfl) ?_
      | refine Fin.q ?_ ?_
      | refine Fin.qn ?_ ?_
    refine callX2 [0, 16] h2 (by decide) ?_ ?_ ⟨by simp, by simp⟩ (r' := .int .i64 ((1 + L.length : Nat) : Int)) (outs' := [[trow s c 16 (1 + L.length + R.length)], nods (⟨w, p, ((1 : Nat) : Int), -1, []⟩ :: (L ++ R))]) rfl ?_ ?_
    iterate 3 (· simp (maxSteps := 1000000) only [go_sem, Int.reduceLT, Int.reduceLE, Int.reduceToNat, Int.reduceEq, Nat.reduceMul, ↓reduceIte, Nat.reduceLT, Nat.reduceLeDiff, Nat.reduceEqDiff, Nat.reduceAdd, Nat.reduceSub, Nat.reduceBEq, reduceCtorEq, hc1, hc2, nods_cons, nods_nil, List.length_append, List.length_cons, List.length_nil])
    repeat' first
      | simp (maxSteps := 1000000) only [go_sem, Int.reduceLT, Int.reduceLE, Int.reduceToNat, Int.reduceEq, Nat.reduceMul, ↓reduceIte, Nat.reduceLT, Nat.reduceLeDiff, Nat.reduceEqDiff, Nat.reduceAdd, Nat.reduceSub, Nat.reduceBEq, reduceCtorEq, *, eq_self, true_imp_iff, forall_const, nods_cons, nods_nil, ents_take, ents_drop, take_ents, Nat.le_refl, lt_succ', List.length_append, List.length_cons, List.length_nil, List.isEmpty_cons, List.all_append, List.all_cons, List.all_nil, List.drop_zero, List.take_length]
      | contradiction
      | refine wT ?_ ?_ <;> intro _
      | refine wF ?_ ?_ <;> intro _
      | refine cD ?_ ?_ <;> intro _
      | refine dO (by kernel_rfl) ?_
      | refine Fin.qy [16] (by simp) (by simp) ?_ ?_
theorem cgrow0 (s : Sc) (c : Int) (hc : 1 ≤ c) (d : Nat) (w : Wd) (l : List En) (hw : w.ok s) (ho : Ord s d w l) (he : ∀ e, e ∈ l → e.lens) (hl : l.length ≤ 2000) (hb : 2 + 2 * (d * l.length + l.length) ≤ 4294967296) :
    FC Tryz.prog 76 [.ptr 0 1 0 0, .agg w.row, .vs (ents l)] [[trow0 s c]] (.int .i64 0) [[trow s c 1 (growF s c d 0 w l).length], nods (growF s c d 0 w l)] := by
  cases d with
  | zero =>
    have := leaf0 s c w l hw hl (lens_at he) (.inr ho)
    simpa [growF] using this
  | succ d =>
    by_cases h : (l.length : Int) ≤ c ∨ fewestF w.b w.b.length < 0
    · have := leaf0 s c w l hw hl (lens_at he) h
      rw [growF, if_pos h]
      simpa using this
    · have h2 := not_or.1 h
      obtain ⟨p, hp⟩ : ∃ p : Nat, fewestF w.b w.b.length = p := ⟨(fewestF w.b w.b.length).toNat, by omega⟩
      have h3 := fewest_lt4 w.b w.b.length (by omega)
      have h4 := fewestF_range w.b w.b.length
      rcases ho with ho | ⟨o1, o2, o3⟩
      · exact absurd ho h2.2
      · rw [hp] at h3 h4 o1 o2 o3
        have : (d + 1) * l.length = d * l.length + l.length := Nat.succ_mul _ _
        exact gsplit0 s c hc d (cgrow s c hc d) w l p hp (canSplit hw (by omega) h3) h2.1 o1 o2 o3 he hl (by omega)
end TR

/- tree.empty and tree.Of. -/
open Go Go.Proofs Go.AH
set_option linter.unusedSimpArgs false
set_option linter.unusedVariables false
namespace TR
def zrow : List D := [.int .i64 0, .int .i64 0, .int .i64 0, .int .i64 0, .int .i64 0, .zs, .int .i64 0, .zs]
def emE (s : Sc) (c : Int) : Int := if s.ok then (if 1 ≤ c ∧ c ≤ 64 then 0 else 24) else 10
set_option maxHeartbeats 2000000 in
set_option maxRecDepth 20000 in
theorem cempty (s : Sc) (c : Int) : FC Tryz.prog 74 [.agg s.row, .int .i64 c] [] (.tup [.agg (if emE s c = 0 then trow0 s c else zrow), .int .i64 (emE s c)]) [] := by
  by_cases h1 : s.ok
  · have hl : s.cuts.length ≤ 4294967296 := by have := h1.1.2.2.2.2.2.2; omega
    by_cases h2 : 1 ≤ c ∧ c ≤ 64
    · have e : emE s c = 0 := by simp [emE, h1, h2]
      rw [e, if_pos rfl]
      refine FC.of_run mix Tryz.func74 rfl rfl (by simp [Tryz.ntmps74]) ?_
      repeat' first
        | simp (maxSteps := 1000000) only [go_sem, Int.reduceLT, Int.reduceLE, Int.reduceToNat, Int.reduceEq, Nat.reduceMul, ↓reduceIte, Nat.reduceLT, Nat.reduceLeDiff, Nat.reduceEqDiff, Nat.reduceAdd, Nat.reduceSub, Nat.reduceBEq, reduceCtorEq, *, true_and, and_true]
        | contradiction
        | refine wT ?_ ?_ <;> intro _
        | refine wF ?_ ?_ <;> intro _
        | refine cD ?_ ?_ <;> intro _
        | refine dO (by kernel_rfl) ?_
        | refine kcwCheck ?_
        | refine kccap ?_
        | refine kClone ?_
        | refine Fin.q0 ?_ ?_
    · have e : emE s c = 24 := by simp [emE, h1, h2]
      rw [e, if_neg (by decide)]
      refine FC.of_run mix Tryz.func74 rfl rfl (by simp [Tryz.ntmps74]) ?_
      repeat' first
        | simp (maxSteps := 1000000) only [go_sem, Int.reduceLT, Int.reduceLE, Int.reduceToNat, Int.reduceEq, Nat.reduceMul, ↓reduceIte, Nat.reduceLT, Nat.reduceLeDiff, Nat.reduceEqDiff, Nat.reduceAdd, Nat.reduceSub, Nat.reduceBEq, reduceCtorEq, *]
        | contradiction
        | refine wT ?_ ?_ <;> intro _
        | refine wF ?_ ?_ <;> intro _
        | refine cD ?_ ?_ <;> intro _
        | refine dO (by kernel_rfl) ?_
        | refine kcwCheck ?_
        | refine kccap ?_
        | ((first | refine Fin.q0 ?_ ?_ | refine Fin.qn ?_ ?_) <;> ((try simp (maxSteps := 1000000) only [go_sem, Int.reduceLT, Int.reduceLE, Int.reduceToNat, Int.reduceEq, Nat.reduceMul, ↓reduceIte, Nat.reduceLT, Nat.reduceLeDiff, Nat.reduceEqDiff, Nat.reduceAdd, Nat.reduceSub, Nat.reduceBEq, reduceCtorEq, *]) <;> (first | done | rfl)))
  · have e : emE s c = 10 := by simp [emE, h1]
    rw [e, if_neg (by decide)]
    refine FC.of_run mix Tryz.func74 rfl rfl (by simp [Tryz.ntmps74]) ?_
    repeat' first
      | simp (maxSteps := 1000000) only [go_sem, Int.reduceLT, Int.reduceLE, Int.reduceToNat, Int.reduceEq, Nat.reduceMul, ↓reduceIte, Nat.reduceLT, Nat.reduceLeDiff, Nat.reduceEqDiff, Nat.reduceAdd, Nat.reduceSub, Nat.reduceBEq, reduceCtorEq, *]
      | contradiction
      | refine wT ?_ ?_ <;> intro _
      | refine wF ?_ ?_ <;> intro _
      | refine cD ?_ ?_ <;> intro _
      | refine dO (by kernel_rfl) ?_
      | refine kcwCheck ?_
      | ((first | refine Fin.q0 ?_ ?_ | refine Fin.qn ?_ ?_) <;> ((try simp (maxSteps := 1000000) only [go_sem, Int.reduceLT, Int.reduceLE, Int.reduceToNat, Int.reduceEq, Nat.reduceMul, ↓reduceIte, Nat.reduceLT, Nat.reduceLeDiff, Nat.reduceEqDiff, Nat.reduceAdd, Nat.reduceSub, Nat.reduceBEq, reduceCtorEq, *]) <;> (first | done | rfl)))
theorem kempty {s : Sc} {c : Int} {H : Heap} {slot : Nat} {K : D → List (Nat × Blk) → List (Nat × Blk) → Prop} (hK : K (.tup [.agg (if emE s c = 0 then trow0 s c else zrow), .int .i64 (emE s c)]) [] []) : @callB ⟨callX Tryz.prog⟩ 74 [.agg s.row, .int .i64 c] H slot ⟨K⟩ := by
  refine call0 false (cempty s c) rfl ?_ (fun h => nomatch h) hK
  split <;> rfl
end TR

/- Entries that ascend are in order at each split. -/
open Go Go.Proofs Go.AH
set_option linter.unusedSimpArgs false
set_option linter.unusedVariables false
namespace TR
theorem pre_pairwise {α : Type} {p : α → Bool} {l : List α} (h : l.Pairwise fun x y => p y = true → p x = true) : pre p l := by
  intro i j hij x y hx hy hp
  obtain ⟨h1, rfl⟩ := List.getElem?_eq_some_iff.1 hx
  obtain ⟨h2, rfl⟩ := List.getElem?_eq_some_iff.1 hy
  exact List.pairwise_iff_getElem.1 h i j h1 h2 hij hp
theorem pow_split {x : Int} {b j : Nat} (hb : b ≤ 4) (hj : j < b) : x / 2 ^ (3 - j) = x / 2 ^ (4 - b) / 2 ^ (b - 1 - j) := by
  rw [Int.ediv_ediv_of_nonneg (Int.le_of_lt (Int.pow_pos (by decide))), ← Int.pow_add]
  congr 2
  omega
theorem bits_eq {x y : Int} {b : Nat} (hb : b ≤ 4) (h : x / 2 ^ (4 - b) = y / 2 ^ (4 - b)) {j : Nat} (hj : j < b) : bitAt x (3 - j) = bitAt y (3 - j) := by
  unfold bitAt
  rw [pow_split hb hj, pow_split hb hj, h]
theorem inn_eq {b : Nat} {x y : List Int} {n : Int} : ∀ (i : Nat), (∀ q, q < i → bitAt (x.getD q 0) b = bitAt (y.getD q 0) b) → inn b x i n = inn b y i n
  | 0, _ => rfl
  | i + 1, h => by
    simp only [inn]
    rw [inn_eq i (fun q hq => h q (by omega)), h i (by omega)]
theorem out_eq {x y : List Int} (hl : x.length = y.length) : ∀ (k : Nat), (∀ j q, j < k → q < x.length → bitAt (x.getD q 0) (3 - j) = bitAt (y.getD q 0) (3 - j)) → out x k = out y k
  | 0, _ => rfl
  | k + 1, h => by
    simp only [out]
    rw [out_eq hl k (fun j q hj hq => h j q (by omega) hq), ← hl]
    exact inn_eq _ (fun q hq => h k q (by omega) hq)
/-- The bits of a word are dealt out evenly: `k + 1` to the pieces before `p`, `k` to the others. -/
structure Bal (s : Sc) (w : Wd) (k p : Nat) : Prop where
  ok : w.ok s
  hp : p < w.b.length
  lo : ∀ q, q < p → w.b.getD q 0 = ((k + 1 : Nat) : Int)
  hi : ∀ q, p ≤ q → q < w.b.length → w.b.getD q 0 = (k : Int)
theorem bal_fewest {b : List Int} {k p : Nat} (hk : k < 4) (lo : ∀ q, q < p → b.getD q 0 = ((k + 1 : Nat) : Int)) (hi : ∀ q, p ≤ q → q < b.length → b.getD q 0 = (k : Int)) : ∀ i, i ≤ b.length → fewestF b i = if p < i then (p : Int) else if 0 < i ∧ k < 3 then 0 else -1
  | 0, _ => by simp [fewestF]
  | i + 1, hl => by
    have ih := bal_fewest hk lo hi i (by omega)
    simp only [fewestF]
    rw [ih]
    unfold better
    by_cases h1 : p < i
    · have e1 := hi i (by omega) (by omega)
      have e2 := hi p (by omega) (by omega)
      rw [if_pos h1, if_pos (by omega : p < i + 1), e1, Int.toNat_natCast, e2, if_neg (by omega)]
    · rw [if_neg h1]
      by_cases h2 : p = i
      · subst h2
        have e1 := hi p (by omega) (by omega)
        rw [if_pos (by omega : p < p + 1), e1]
        by_cases h3 : 0 < p ∧ k < 3
        · rw [if_pos h3]
          have e2 := lo 0 h3.1
          rw [show Int.toNat 0 = 0 from rfl, e2, if_pos (by omega)]
        · rw [if_neg h3, if_pos (by omega)]
      · have e1 := lo i (by omega)
        rw [if_neg (by omega : ¬ p < i + 1), e1]
        by_cases h3 : 0 < i ∧ k < 3
        · rw [if_pos h3, if_pos (by omega : 0 < i + 1 ∧ k < 3)]
          have e2 := lo 0 (by omega)
          rw [show Int.toNat 0 = 0 from rfl, e2, if_neg (by omega)]
        · rw [if_neg h3]
          by_cases h4 : k < 3
          · have : i = 0 := by omega
            subst this
            rw [if_pos (by omega), if_pos (by omega)]
            rfl
          · rw [if_neg (by omega), if_neg (by omega)]
theorem bal_full {b : List Int} (h : ∀ q, q < b.length → b.getD q 0 = 4) : ∀ i, i ≤ b.length → fewestF b i = -1
  | 0, _ => rfl
  | i + 1, hl => by
    simp only [fewestF]
    rw [bal_full h i (by omega)]
    unfold better
    rw [h i (by omega), if_neg (by omega)]
/-- What a word says of the words that belong to it. -/
theorem has_at {s : Sc} {w f : Wd} (h : w.has s f) {q : Nat} (hq : q < w.b.length) {k : Nat} (hk : k ≤ 4) (hb : w.b.getD q 0 = (k : Int)) : f.s.getD q 0 / 2 ^ (4 - k) = w.s.getD q 0 := by
  have := h.2.2.2 q hq
  unfold fits at this
  rw [hb, show (4 - (k : Int)).toNat = 4 - k by omega] at this
  exact this
theorem asc_left {s : Sc} {w x y : Wd} {k p : Nat} (hB : Bal s w k p) (hk : k < 4) (hx : w.has s x) (hy : w.has s y) (hle : shuf x.s ≤ shuf y.s) (hl : (w.with p 0).has s y) : (w.with p 0).has s x := by
  have lw := len8 hB.ok
  have lx := len8 hx.2.1
  have ly := len8 hy.2.1
  have hp := hB.hp
  have hps : p < w.s.length := by omega
  have bp := hB.hi p (Nat.le_refl _) hp
  have hbw : (w.with p 0).b.getD p 0 = ((k + 1 : Nat) : Int) := by simp only [Wd.with, getD_set hp, if_true, bp]; omega
  have y1 := has_at hl (q := p) (by simpa [Wd.with] using hp) (by omega) hbw
  have xb := has_at hx hp (by omega) bp
  have yb := has_at hy hp (by omega) bp
  have sw : (w.with p 0).s.getD p 0 = 2 * w.s.getD p 0 + 0 := by simp only [Wd.with, getD_set hps, if_true]
  have hbits : ∀ q, q < w.b.length → ∀ j : Nat, (j : Int) < w.b.getD q 0 → bitAt (x.s.getD q 0) (3 - j) = bitAt (y.s.getD q 0) (3 - j) := by
    intro q hq j hj
    by_cases h : q < p
    · have e := hB.lo q h
      rw [e] at hj
      exact bits_eq (b := k + 1) (by omega) ((has_at hx hq (k := k + 1) (by omega) e).trans (has_at hy hq (k := k + 1) (by omega) e).symm) (by omega)
    · have e := hB.hi q (by omega) hq
      rw [e] at hj
      exact bits_eq (b := k) (by omega) ((has_at hx hq (k := k) (by omega) e).trans (has_at hy hq (k := k) (by omega) e).symm) (by omega)
  have hxy : x.s.length = y.s.length := by omega
  have ho : out x.s k = out y.s k := out_eq hxy k (fun j q hj hq => hbits q (by omega) j (by
    by_cases h : q < p
    · rw [hB.lo q h]; omega
    · rw [hB.hi q (by omega) (by omega)]; omega))
  have hn : inn (3 - k) x.s p (out x.s k) = inn (3 - k) y.s p (out y.s k) := by
    rw [ho]
    exact inn_eq p (fun q hq => hbits q (by omega) k (by rw [hB.lo q hq]; omega))
  have d1 : ∀ z : Int, z / 2 ^ (4 - k) = z / 2 ^ (4 - (k + 1)) / 2 := fun z => by
    rw [Int.ediv_ediv_of_nonneg (Int.le_of_lt (Int.pow_pos (by decide))), show (4 - k) = (4 - (k + 1)) + 1 by omega, Int.pow_succ]
  have e3 : (3 - k) = 4 - (k + 1) := by omega
  have hbit : ¬ bitAt (y.s.getD p 0) (3 - k) < bitAt (x.s.getD p 0) (3 - k) := fun h => by
    have := shuf_lt hxy.symm hk (by omega) ho.symm hn.symm h
    omega
  unfold bitAt at hbit
  rw [e3] at hbit
  have dx := d1 (x.s.getD p 0)
  have dy := d1 (y.s.getD p 0)
  refine ⟨with_ok hB.ok hp (by rw [bp]; omega) (by omega) (by omega), hx.2.1, hx.2.2.1, fun q hq => ?_⟩
  have hq' : q < w.b.length := by simpa [Wd.with] using hq
  by_cases h : q = p
  · subst h
    unfold fits
    rw [hbw, show (4 - ((k + 1 : Nat) : Int)).toNat = 4 - (k + 1) by omega, sw]
    rw [sw] at y1
    omega
  · have := hx.2.2.2 q hq'
    unfold fits at this ⊢
    simp only [Wd.with, getD_set hp, getD_set hps, if_neg h]
    exact this
theorem has_right {s : Sc} {w x : Wd} {k p : Nat} (hB : Bal s w k p) (hk : k < 4) (hx : w.has s x) (hl : ¬ (w.with p 0).has s x) : (w.with p 1).has s x := by
  have lw := len8 hB.ok
  have hp := hB.hp
  have hps : p < w.s.length := by omega
  have bp := hB.hi p (Nat.le_refl _) hp
  have xb := has_at hx hp (by omega) bp
  have hbw : ∀ b, (w.with p b).b.getD p 0 = ((k + 1 : Nat) : Int) := fun b => by simp only [Wd.with, getD_set hp, if_true, bp]; omega
  have sw : ∀ b, (w.with p b).s.getD p 0 = 2 * w.s.getD p 0 + b := fun b => by simp only [Wd.with, getD_set hps, if_true]
  have d1 : ∀ z : Int, z / 2 ^ (4 - k) = z / 2 ^ (4 - (k + 1)) / 2 := fun z => by
    rw [Int.ediv_ediv_of_nonneg (Int.le_of_lt (Int.pow_pos (by decide))), show (4 - k) = (4 - (k + 1)) + 1 by omega, Int.pow_succ]
  have dx := d1 (x.s.getD p 0)
  have oth : ∀ b q, q < w.b.length → q ≠ p → fits (w.with p b) x q := fun b q hq h => by
    have := hx.2.2.2 q hq
    unfold fits at this ⊢
    simp only [Wd.with, getD_set hp, getD_set hps, if_neg h]
    exact this
  have at_p : ∀ b, fits (w.with p b) x p ↔ x.s.getD p 0 / 2 ^ (4 - (k + 1)) = 2 * w.s.getD p 0 + b := fun b => by
    unfold fits
    rw [hbw, show (4 - ((k + 1 : Nat) : Int)).toNat = 4 - (k + 1) by omega, sw]
  refine ⟨with_ok hB.ok hp (by rw [bp]; omega) (by omega) (by omega), hx.2.1, hx.2.2.1, fun q hq => ?_⟩
  have hq' : q < w.b.length := by simpa [Wd.with] using hq
  by_cases h : q = p
  · subst h
    rw [at_p]
    have h0 : ¬ x.s.getD q 0 / 2 ^ (4 - (k + 1)) = 2 * w.s.getD q 0 + 0 := fun h => hl ⟨with_ok hB.ok hp (by rw [bp]; omega) (by omega) (by omega), hx.2.1, hx.2.2.1, fun r hr => by
      have hr' : r < w.b.length := by simpa [Wd.with] using hr
      by_cases e : r = q
      · subst e; exact (at_p 0).2 h
      · exact oth 0 r hr' e⟩
    omega
  · exact oth 1 q hq' h
theorem bal_with {s : Sc} {w : Wd} {k p : Nat} (hB : Bal s w k p) (hk : k < 4) {b : Int} (h0 : 0 ≤ b) (h1 : b ≤ 1) : if p + 1 < w.b.length then Bal s (w.with p b) k (p + 1) else Bal s (w.with p b) (k + 1) 0 := by
  have hp := hB.hp
  have bp := hB.hi p (Nat.le_refl _) hp
  have ho := with_ok (bit := b) hB.ok hp (by rw [bp]; omega) h0 h1
  have hlen : (w.with p b).b.length = w.b.length := by simp [Wd.with]
  have hb : ∀ q, (w.with p b).b.getD q 0 = if q = p then ((k + 1 : Nat) : Int) else w.b.getD q 0 := fun q => by
    simp only [Wd.with, getD_set hp]
    split
    · rw [bp]; omega
    · rfl
  split
  · refine ⟨ho, by omega, fun q hq => ?_, fun q h1 h2 => ?_⟩
    · rw [hb]
      split
      · rfl
      · exact hB.lo q (by omega)
    · rw [hb, if_neg (by omega)]
      exact hB.hi q (by omega) (by omega)
  · refine ⟨ho, by omega, fun q hq => by omega, fun q h1 h2 => ?_⟩
    rw [hb]
    split
    · rfl
    · exact hB.lo q (by omega)
theorem ord_of (s : Sc) : ∀ (d : Nat) (w : Wd) (k p : Nat) (l : List En), Bal s w k p → k ≤ 4 → w.b.length * (4 - k) ≤ d + p → (∀ x, x ∈ l → w.has s x.w) → l.Pairwise (fun x y => shuf x.w.s ≤ shuf y.w.s) → Ord s d w l
  | d, w, k, p, l, hB, hk4, hd, hl, ha => by
    by_cases hk : k = 4
    · subst hk
      have hp0 : p = 0 := by
        cases p with
        | zero => rfl
        | succ p =>
          have h1 := hB.lo 0 (by omega)
          have h2 := hB.ok.2.2.2 0 (by have := hB.hp; omega)
          unfold bitOK at h2
          omega
      have hf : fewestF w.b w.b.length < 0 := by
        rw [bal_full (fun q hq => by have := hB.hi q (by omega) hq; simpa using this) _ (Nat.le_refl _)]
        decide
      cases d with
      | zero => exact hf
      | succ d => exact .inl hf
    · have hk' : k < 4 := by omega
      have hp := hB.hp
      have hf : fewestF w.b w.b.length = (p : Int) := by
        rw [bal_fewest hk' hB.lo hB.hi _ (Nat.le_refl _), if_pos hp]
      have hlen : ∀ b, (w.with p b).b.length = w.b.length := fun b => by simp [Wd.with]
      have hmul : w.b.length * (4 - k) = w.b.length * (4 - (k + 1)) + w.b.length := by
        rw [show 4 - k = (4 - (k + 1)) + 1 by omega, Nat.mul_add, Nat.mul_one]
      cases d with
      | zero =>
        have : w.b.length ≤ w.b.length * (4 - k) := Nat.le_mul_of_pos_right _ (by omega)
        omega
      | succ d =>
        have rcs : ∀ (b : Int) (l' : List En), 0 ≤ b → b ≤ 1 → (∀ x, x ∈ l' → (w.with p b).has s x.w) → l'.Pairwise (fun x y => shuf x.w.s ≤ shuf y.w.s) → Ord s d (w.with p b) l' := by
          intro b l' h0 h1 hl' ha'
          have := bal_with hB hk' h0 h1
          split at this
          · exact ord_of s d _ k (p + 1) l' this hk4 (by rw [hlen]; omega) hl' ha'
          · exact ord_of s d _ (k + 1) 0 l' this (by omega) (by rw [hlen]; omega) hl' ha'
        refine .inr ?_
        rw [hf, Int.toNat_natCast]
        refine ⟨pre_pairwise ?_, rcs 0 _ (by omega) (by omega) (fun x hx => by simpa using (List.mem_filter.1 hx).2) (ha.filter _), rcs 1 _ (by omega) (by omega) (fun x hx => ?_) (ha.filter _)⟩
        · refine (List.Pairwise.and_mem.1 ha).imp ?_
          rintro x y ⟨hx, hy, hxy⟩ h
          exact decide_eq_true (asc_left hB hk' (hl x hx) (hl y hy) hxy (of_decide_eq_true h))
        · obtain ⟨h1, h2⟩ := List.mem_filter.1 hx
          exact has_right hB hk' (hl x h1) (by simpa using h2)
end TR

/- Sorted entries: what is known of them; and tree.Of. -/
open Go Go.Proofs Go.AH
set_option linter.unusedSimpArgs false
set_option linter.unusedVariables false
namespace TR
theorem wcmp_of {s : Sc} {x y : En} (hx : x.ok s) (hy : y.ok s) : wcmp s x.w y.w = cmp3 (shuf x.w.s) (shuf y.w.s) := if_pos ⟨⟨hx.1, hx.2.1⟩, ⟨hy.1, hy.2.1⟩⟩
theorem ecmp_le {s : Sc} {x y : En} (hx : x.ok s) (hy : y.ok s) (h : ecmp s x y < 0) : shuf x.w.s ≤ shuf y.w.s := by
  rw [ecmp_lt, wcmp_of hx hy] at h
  unfold cmp3 at h
  (repeat' split at h) <;> omega
theorem sorted_at {s : Sc} {l : List En} (h : sorted s l) {e : En} (he : e ∈ l) : e.ok s := by
  obtain ⟨i, hi⟩ := List.getElem?_of_mem he
  obtain ⟨h1, rfl⟩ := List.getElem?_eq_some_iff.1 hi
  have := (h i h1).1
  simpa [List.getD, h1] using this
theorem sorted_shuf {s : Sc} {l : List En} (h : sorted s l) : l.Pairwise fun x y => shuf x.w.s ≤ shuf y.w.s := by
  rw [List.pairwise_iff_getElem]
  have : ∀ (d i : Nat) (h1 : i < l.length) (h2 : i + d < l.length), shuf l[i].w.s ≤ shuf l[i + d].w.s := by
    intro d
    induction d with
    | zero => intro i h1 h2; exact Int.le_refl _
    | succ d ih =>
      intro i h1 h2
      have e1 := ih i h1 (by omega)
      have e2 := (h (i + d + 1) (by omega)).2 (by omega)
      have e3 : (l.getD (i + d + 1 - 1) default) = l[i + d] := by simp [List.getD, show i + d < l.length by omega]
      have e4 : (l.getD (i + d + 1) default) = l[i + d + 1] := by simp [List.getD, show i + d + 1 < l.length by omega]
      rw [e3, e4] at e2
      have := ecmp_le (sorted_at h (List.getElem_mem _)) (sorted_at h (List.getElem_mem _)) e2
      exact Int.le_trans e1 this
  intro i j h1 h2 hij
  have := this (j - i) i h1 (by omega)
  simpa [show i + (j - i) = j by omega] using this
theorem root_ok {s : Sc} (hs : s.ok) : (rootW s).ok s := by
  have h1 := hs.1.2.2.2.1
  refine ⟨hs, by simp [rootW, zeros]; omega, by simp [rootW, zeros]; omega, fun p hp => ?_⟩
  have hp' : p < s.pcs.toNat := by simpa [rootW, zeros] using hp
  simp [bitOK, rootW, zeros, List.getD, hp']
theorem root_zero {s : Sc} {q : Nat} (hq : q < (rootW s).b.length) : (rootW s).b.getD q 0 = 0 ∧ (rootW s).s.getD q 0 = 0 := by
  have hp' : q < s.pcs.toNat := by simpa [rootW, zeros] using hq
  simp [rootW, zeros, List.getD, hp']
theorem root_has {s : Sc} {e : En} (he : e.ok s) : (rootW s).has s e.w := by
  have hs := he.1.1
  have l1 := len8 (root_ok hs)
  have l2 := len8 he.1
  refine ⟨root_ok hs, he.1, he.2.1, fun q hq => ?_⟩
  obtain ⟨e1, e2⟩ := root_zero hq
  have := (fok_syms he.1 he.2.1).2 q (by omega)
  unfold fits
  rw [e1, e2]
  show e.w.s.getD q 0 / 16 = 0
  omega
theorem sorted_ord {s : Sc} {l : List En} (hs : s.ok) (h : sorted s l) : Ord s 32 (rootW s) l := by
  have l1 := len8 (root_ok hs)
  have h1 := hs.1.2.2.2.1
  exact ord_of s 32 (rootW s) 0 0 l ⟨root_ok hs, by omega, fun q hq => by omega, fun q _ hq => (root_zero hq).1⟩ (by omega) (by omega) (fun x hx => root_has (sorted_at h hx)) (sorted_shuf h)
theorem ok_lens {s : Sc} {e : En} (he : e.ok s) : e.lens := by
  have := len8 he.1
  exact ⟨by omega, by omega⟩
/-- What Of answers. -/
def ofE (s : Sc) (c : Int) (l : List En) : Int := if emE s c = 0 then (if 2000 < l.length then 4 else if sorted s l then 0 else 6) else emE s c
def zeroT : Tr := ⟨⟨0, 0, 0, 0, 0, []⟩, 0, []⟩
def ofT (s : Sc) (c : Int) (l : List En) : Tr := if ofE s c l = 0 then ⟨s, c, growF s c 32 0 (rootW s) l⟩ else zeroT
theorem emE_0 {s : Sc} {c : Int} : emE s c = 0 ↔ s.ok ∧ 1 ≤ c ∧ c ≤ 64 := by
  unfold emE
  split
  · split
    · simp_all
    · simp_all
  · simp_all
set_option maxHeartbeats 2000000 in
set_option maxRecDepth 20000 in
theorem cOf (s : Sc) (c : Int) (l : List En) (hl : l.length < 1000000000000000) : FC Tryz.prog 34 [.agg s.row, .int .i64 c, .vs (ents l)] [] (.tup [.agg (ofT s c l).row, .int .i64 (ofE s c l)]) [] := by
  refine FC.of_run mix Tryz.func34 rfl rfl (by simp [Tryz.ntmps34]) ?_
  by_cases h1 : emE s c = 0
  · by_cases h2 : 2000 < l.length
    · have e : ofE s c l = 4 := by simp [ofE, h1, h2]
      rw [ofT, e, if_neg (by decide)]
      have h3 : (2000 : Int) < l.length := by omega
      repeat' first
        | simp (maxSteps := 1000000) only [go_sem, Int.reduceLT, Int.reduceLE, Int.reduceToNat, Int.reduceEq, Nat.reduceMul, ↓reduceIte, Nat.reduceLT, Nat.reduceLeDiff, Nat.reduceEqDiff, Nat.reduceAdd, Nat.reduceSub, Nat.reduceBEq, reduceCtorEq, *, if_pos]
        | contradiction
        | refine wT ?_ ?_ <;> intro _
        | refine wF ?_ ?_ <;> intro _
        | refine cD ?_ ?_ <;> intro _
        | refine dO (by kernel_rfl) ?_
        | refine kempty ?_
        | ((first | refine Fin.q ?_ ?_ | refine Fin.qn ?_ ?_) <;> ((try simp (maxSteps := 1000000) only [go_sem, Int.reduceLT, Int.reduceLE, Int.reduceToNat, Int.reduceEq, Nat.reduceMul, ↓reduceIte, Nat.reduceLT, Nat.reduceLeDiff, Nat.reduceEqDiff, Nat.reduceAdd, Nat.reduceSub, Nat.reduceBEq, reduceCtorEq, *, if_pos]) <;> (first | done | rfl)))
    · by_cases h3 : sorted s l
      · have e : ofE s c l = 0 := by simp [ofE, h1, h2, h3]
        rw [ofT, e, if_pos rfl]
        have h4 : ¬ (2000 : Int) < l.length := by omega
        have hs := (emE_0.1 h1).1
        have hg := cgrow0 s c (emE_0.1 h1).2.1 32 (rootW s) l (root_ok hs) (sorted_ord hs h3) (fun x hx => ok_lens (sorted_at h3 hx)) (by omega) (by omega)
        generalize growF s c 32 0 (rootW s) l = G at hg
        repeat' first
          | simp (maxSteps := 1000000) only [go_sem, Int.reduceLT, Int.reduceLE, Int.reduceToNat, Int.reduceEq, Nat.reduceMul, ↓reduceIte, Nat.reduceLT, Nat.reduceLeDiff, Nat.reduceEqDiff, Nat.reduceAdd, Nat.reduceSub, Nat.reduceBEq, reduceCtorEq, *]
          | contradiction
          | refine wT ?_ ?_ <;> intro _
          | refine wF ?_ ?_ <;> intro _
          | refine cD ?_ ?_ <;> intro _
          | refine dO (by kernel_rfl) ?_
          | refine kempty ?_
          | refine kcSorted ?_
          | refine kcRoot ?_
          | refine Fin.q ?_ ?_
          | refine Fin.qn ?_ ?_
        refine callX2 [14] hg (by decide) ?_ ?_ ⟨by simp, by simp⟩ (r' := .int .i64 0) (outs' := [[trow s c 28 G.length], nods G]) rfl ?_ ?_
        iterate 3 (· simp (maxSteps := 1000000) only [go_sem, Int.reduceLT, Int.reduceLE, Int.reduceToNat, Int.reduceEq, Nat.reduceMul, ↓reduceIte, Nat.reduceLT, Nat.reduceLeDiff, Nat.reduceEqDiff, Nat.reduceAdd, Nat.reduceSub, Nat.reduceBEq, reduceCtorEq])
        repeat' first
          | simp (maxSteps := 1000000) only [go_sem, Int.reduceLT, Int.reduceLE, Int.reduceToNat, Int.reduceEq, Nat.reduceMul, ↓reduceIte, Nat.reduceLT, Nat.reduceLeDiff, Nat.reduceEqDiff, Nat.reduceAdd, Nat.reduceSub, Nat.reduceBEq, reduceCtorEq, *, List.drop_zero, Nat.zero_add]
          | contradiction
          | refine wT ?_ ?_ <;> intro _
          | refine wF ?_ ?_ <;> intro _
          | refine cD ?_ ?_ <;> intro _
          | refine dO (by kernel_rfl) ?_
          | ((first | refine Fin.q ?_ ?_ | refine Fin.qn ?_ ?_) <;> ((try simp (maxSteps := 1000000) only [go_sem, Int.reduceLT, Int.reduceLE, Int.reduceToNat, Int.reduceEq, Nat.reduceMul, ↓reduceIte, Nat.reduceLT, Nat.reduceLeDiff, Nat.reduceEqDiff, Nat.reduceAdd, Nat.reduceSub, Nat.reduceBEq, reduceCtorEq, *, List.drop_zero, Nat.zero_add]) <;> (first | done | rfl)))
      · have e : ofE s c l = 6 := by simp [ofE, h1, h2, h3]
        rw [ofT, e, if_neg (by decide)]
        have h4 : ¬ (2000 : Int) < l.length := by omega
        repeat' first
          | simp (maxSteps := 1000000) only [go_sem, Int.reduceLT, Int.reduceLE, Int.reduceToNat, Int.reduceEq, Nat.reduceMul, ↓reduceIte, Nat.reduceLT, Nat.reduceLeDiff, Nat.reduceEqDiff, Nat.reduceAdd, Nat.reduceSub, Nat.reduceBEq, reduceCtorEq, *]
          | contradiction
          | refine wT ?_ ?_ <;> intro _
          | refine wF ?_ ?_ <;> intro _
          | refine cD ?_ ?_ <;> intro _
          | refine dO (by kernel_rfl) ?_
          | refine kempty ?_
          | refine kcSorted ?_
          | ((first | refine Fin.q ?_ ?_ | refine Fin.qn ?_ ?_) <;> ((try simp (maxSteps := 1000000) only [go_sem, Int.reduceLT, Int.reduceLE, Int.reduceToNat, Int.reduceEq, Nat.reduceMul, ↓reduceIte, Nat.reduceLT, Nat.reduceLeDiff, Nat.reduceEqDiff, Nat.reduceAdd, Nat.reduceSub, Nat.reduceBEq, reduceCtorEq, *]) <;> (first | done | rfl)))
  · have e : ofE s c l = emE s c := by simp [ofE, h1]
    rw [ofT, e, if_neg h1]
    repeat' first
      | simp (maxSteps := 1000000) only [go_sem, Int.reduceLT, Int.reduceLE, Int.reduceToNat, Int.reduceEq, Nat.reduceMul, ↓reduceIte, Nat.reduceLT, Nat.reduceLeDiff, Nat.reduceEqDiff, Nat.reduceAdd, Nat.reduceSub, Nat.reduceBEq, reduceCtorEq, *]
      | contradiction
      | refine wT ?_ ?_ <;> intro _
      | refine wF ?_ ?_ <;> intro _
      | refine cD ?_ ?_ <;> intro _
      | refine dO (by kernel_rfl) ?_
      | refine kempty ?_
      | ((first | refine Fin.q ?_ ?_ | refine Fin.qn ?_ ?_) <;> ((try simp (maxSteps := 1000000) only [go_sem, Int.reduceLT, Int.reduceLE, Int.reduceToNat, Int.reduceEq, Nat.reduceMul, ↓reduceIte, Nat.reduceLT, Nat.reduceLeDiff, Nat.reduceEqDiff, Nat.reduceAdd, Nat.reduceSub, Nat.reduceBEq, reduceCtorEq, *]) <;> (first | done | rfl)))
set_option maxRecDepth 20000 in
theorem kcOf {s : Sc} {c : Int} {l : List En} {H : Heap} {slot : Nat} {K : D → List (Nat × Blk) → List (Nat × Blk) → Prop} (hK : K (.tup [.agg (ofT s c l).row, .int .i64 (ofE s c l)]) [] []) (hl : l.length < 1000000000000000 := by first | assumption | omega) : @callB ⟨callX Tryz.prog⟩ 34 [.agg s.row, .int .i64 c, .vs (ents l)] H slot ⟨K⟩ := by
  have he0 : rdOf H (D.idsL [.agg s.row, .int .i64 c, .vs (ents l)]) = [] := by simp (maxSteps := 1000000) only [go_sem, Int.reduceLT, Int.reduceLE, Int.reduceToNat, Int.reduceEq, Nat.reduceMul, ↓reduceIte, Nat.reduceLT, Nat.reduceLeDiff, Nat.reduceEqDiff, Nat.reduceAdd, Nat.reduceSub, Nat.reduceBEq, reduceCtorEq]
  refine call0 false (cOf s c l hl) ?_ ?_ (fun h => nomatch h) (by rw [he0]; exact hK)
  iterate 2 (· simp (maxSteps := 1000000) only [go_sem, Int.reduceLT, Int.reduceLE, Int.reduceToNat, Int.reduceEq, Nat.reduceMul, ↓reduceIte, Nat.reduceLT, Nat.reduceLeDiff, Nat.reduceEqDiff, Nat.reduceAdd, Nat.reduceSub, Nat.reduceBEq, reduceCtorEq])
end TR


/- The tree walked: part e. -/
import Derived.Test.YtjfgnmicjhjofaaGreatTd
/- tree.New; the tree that awake begins with. -/
open Go Go.Proofs Go.AH
set_option linter.unusedSimpArgs false
set_option linter.unusedVariables false
namespace TR
set_option maxHeartbeats 2000000 in
set_option maxRecDepth 20000 in
theorem cTNew (s : Sc) (c : Int)  : FC Tryz.prog 22 [.agg s.row, .int .i64 c] [] (.tup [.agg (ofT s c []).row, .int .i64 (ofE s c [])]) [] := by
  refine FC.of_run mix Tryz.func22 rfl rfl (by simp [Tryz.ntmps22]) ?_
  have kO : ∀ {H : Heap} {slot : Nat} {K : D → List (Nat × Blk) → List (Nat × Blk) → Prop}, K (.tup [.agg (ofT s c []).row, .int .i64 (ofE s c [])]) [] [] → @callB ⟨callX Tryz.prog⟩ 15 [.agg s.row, .int .i64 c, .zs] H slot ⟨K⟩ := fun hK => call0 (args' := [.agg s.row, .int .i64 c, .vs (ents [])]) false (cOf s c [] (by simp)) rfl rfl (fun h => nomatch h) hK
  repeat' first
    | simp (maxSteps := 1000000) only [go_sem, Int.reduceLT, Int.reduceLE, Int.reduceToNat, Int.reduceEq, Nat.reduceMul, ↓reduceIte, Nat.reduceLT, Nat.reduceLeDiff, Nat.reduceEqDiff, Nat.reduceAdd, Nat.reduceSub, Nat.reduceBEq, reduceCtorEq, *]
    | contradiction
    | refine wT ?_ ?_ <;> intro _
    | refine wF ?_ ?_ <;> intro _
    | refine cD ?_ ?_ <;> intro _
    | refine dO (by kernel_rfl) ?_
    | refine kO ?_
    | refine Fin.q ?_ ?_
    | refine Fin.qn ?_ ?_
set_option maxRecDepth 20000 in
theorem kcTNew {s : Sc} {c : Int} {H : Heap} {slot : Nat} {K : D → List (Nat × Blk) → List (Nat × Blk) → Prop} (hK : K (.tup [.agg (ofT s c []).row, .int .i64 (ofE s c [])]) [] []) : @callB ⟨callX Tryz.prog⟩ 22 [.agg s.row, .int .i64 c] H slot ⟨K⟩ := by
  have he0 : rdOf H (D.idsL [.agg s.row, .int .i64 c]) = [] := by simp (maxSteps := 1000000) only [go_sem, Int.reduceLT, Int.reduceLE, Int.reduceToNat, Int.reduceEq, Nat.reduceMul, ↓reduceIte, Nat.reduceLT, Nat.reduceLeDiff, Nat.reduceEqDiff, Nat.reduceAdd, Nat.reduceSub, Nat.reduceBEq, reduceCtorEq]
  refine call0 false (cTNew s c ) ?_ ?_ (fun h => nomatch h) (by rw [he0]; exact hK)
  iterate 2 (· simp (maxSteps := 1000000) only [go_sem, Int.reduceLT, Int.reduceLE, Int.reduceToNat, Int.reduceEq, Nat.reduceMul, ↓reduceIte, Nat.reduceLT, Nat.reduceLeDiff, Nat.reduceEqDiff, Nat.reduceAdd, Nat.reduceSub, Nat.reduceBEq, reduceCtorEq])
def s0 : Sc := ⟨1, 0, 0, 2, 1, [-3, -2, -1, 0, 1, 2, 3, 4]⟩
theorem growF_leaf {s : Sc} {c : Int} {d a : Nat} {w : Wd} {l : List En} (h : (l.length : Int) ≤ c) : growF s c (d + 1) a w l = [⟨w, 0, -1, -1, l⟩] := by rw [growF, if_pos (.inl h)]
theorem s0_ok : s0.ok := by
  refine ⟨⟨by unfold mOK s0; decide, by decide, by decide, by decide, by decide, by decide, by decide⟩, ?_⟩
  unfold cutsOK s0
  decide
theorem ofE0 : ofE s0 2 [] = 0 := by
  have h : sorted s0 [] := fun i hi => by simp at hi
  unfold ofE
  rw [if_pos (emE_0.2 ⟨s0_ok, by decide, by decide⟩), if_neg (by decide), if_pos h]
theorem ofT0 : ofT s0 2 [] = ⟨s0, 2, [⟨⟨[0], [0]⟩, 0, -1, -1, []⟩]⟩ := by
  rw [(ofT_ok ofE0).2.2.2, growF_leaf (d := 31) (by simp)]
  rfl
theorem base1 : FC Tryz.prog 22 [.agg [.int .i64 1, .int .i64 0, .int .i64 0, .int .i64 2, .int .i64 1, .vs [[.int .i64 (-3)], [.int .i64 (-2)], [.int .i64 (-1)], [.int .i64 0], [.int .i64 1], [.int .i64 2], [.int .i64 3], [.int .i64 4]]], .int .i64 2] []
    (.tup [.agg [.int .i64 1, .int .i64 0, .int .i64 0, .int .i64 2, .int .i64 1, .vs [[.int .i64 (-3)], [.int .i64 (-2)], [.int .i64 (-1)], [.int .i64 0], [.int .i64 1], [.int .i64 2], [.int .i64 3], [.int .i64 4]], .int .i64 2, .vs [[.vs [[.int .i64 0]], .vs [[.int .i64 0]], .int .i64 0, .int .i64 (-1), .int .i64 (-1), .vs []]]], .int .i64 0]) [] := by
  have := cTNew s0 2
  rw [ofT0, ofE0] at this
  exact this
theorem base2 : FC Tryz.prog 33 [.agg [.int .i64 1, .int .i64 0, .int .i64 0, .int .i64 2, .int .i64 1, .vs [[.int .i64 (-3)], [.int .i64 (-2)], [.int .i64 (-1)], [.int .i64 0], [.int .i64 1], [.int .i64 2], [.int .i64 3], [.int .i64 4]], .int .i64 2, .vs [[.vs [[.int .i64 0]], .vs [[.int .i64 0]], .int .i64 0, .int .i64 (-1), .int .i64 (-1), .vs []]]]] [] (.int .i64 0) [] := by
  have := cChk s0 2 [] ofE0 (by simp)
  rw [ofT0] at this
  exact this
end TR


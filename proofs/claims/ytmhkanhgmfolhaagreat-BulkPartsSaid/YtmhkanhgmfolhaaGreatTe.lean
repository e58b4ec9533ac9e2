/- The tree walked: part e. -/
import Derived.Test.YtmhkanhgmfolhaaGreatTd
/- tree.New; the tree that awake begins with. -/
open Go Go.Proofs Go.AH
set_option linter.unusedSimpArgs false
set_option linter.unusedVariables false
namespace TR
set_option maxHeartbeats 2000000 in
set_option maxRecDepth 20000 in
theorem cTNew (s : Sc) (c : Int)  : FC Tryz.prog 32 [.agg s.row, .int .i64 c] [] (.tup [.agg (ofT s c []).row, .int .i64 (ofE s c [])]) [] := by
  refine FC.of_run mix Tryz.func32 rfl rfl (by simp [Tryz.ntmps32]) ?_
  have kO : ∀ {H : Heap} {slot : Nat} {K : D → List (Nat × Blk) → List (Nat × Blk) → Prop}, K (.tup [.agg (ofT s c []).row, .int .i64 (ofE s c [])]) [] [] → @callB ⟨callX Tryz.prog⟩ 34 [.agg s.row, .int .i64 c, .zs] H slot ⟨K⟩ := fun hK => call0 (args' := [.agg s.row, .int .i64 c, .vs (ents [])]) false (cOf s c [] (by simp)) rfl rfl (fun h => nomatch h) hK
  repeat' first
    | simp (maxSteps := 1000000) only [go_sem, Int.reduceLT, Int.reduceLE, Int.reduceToNat, Int.reduceEq, Nat.reduceMul, ↓reduceIte, Nat.reduceLT, Nat.reduceLeDiff, Nat.reduceEqDiff, Nat.reduceAdd, Nat.reduceSub, Nat.reduceBEq, reduceCtorEq, *]
    | contradiction
    | refine wT ?_ ?_ <;> intro _
    | refine wF ?_ ?_ <;> intro _
    | refine cD ?_ ?_ <;> intro _
    | refine dO (by kernel_rfl) ?_
    | refine kO ?_
    | refine Fin.q ?_ ?_
    | refine Fin.qn ?_ ?_
set_option maxRecDepth 20000 in
theorem kcTNew {s : Sc} {c : Int} {H : Heap} {slot : Nat} {K : D → List (Nat × Blk) → List (Nat × Blk) → Prop} (hK : K (.tup [.agg (ofT s c []).row, .int .i64 (ofE s c [])]) [] []) : @callB ⟨callX Tryz.prog⟩ 32 [.agg s.row, .int .i64 c] H slot ⟨K⟩ := by
  have he0 : rdOf H (D.idsL [.agg s.row, .int .i64 c]) = [] := by simp (maxSteps := 1000000) only [go_sem, Int.reduceLT, Int.reduceLE, Int.reduceToNat, Int.reduceEq, Nat.reduceMul, ↓reduceIte, Nat.reduceLT, Nat.reduceLeDiff, Nat.reduceEqDiff, Nat.reduceAdd, Nat.reduceSub, Nat.reduceBEq, reduceCtorEq]
  refine call0 false (cTNew s c ) ?_ ?_ (fun h => nomatch h) (by rw [he0]; exact hK)
  iterate 2 (· simp (maxSteps := 1000000) only [go_sem, Int.reduceLT, Int.reduceLE, Int.reduceToNat, Int.reduceEq, Nat.reduceMul, ↓reduceIte, Nat.reduceLT, Nat.reduceLeDiff, Nat.reduceEqDiff, Nat.reduceAdd, Nat.reduceSub, Nat.reduceBEq, reduceCtorEq])
def s0 : Sc := ⟨1, 0, 0, 2, 1, [-3, -2, -1, 0, 1, 2, 3, 4]⟩
theorem growF_leaf {s : Sc} {c : Int} {d a : Nat} {w : Wd} {l : List En} (h : (l.length : Int) ≤ c) : growF s c (d + 1) a w l = [⟨w, 0, -1, -1, l⟩] := by rw [growF, if_pos (.inl h)]
theorem s0_ok : s0.ok := by
  refine ⟨⟨by unfold mOK s0; decide, by decide, by decide, by decide, by decide, by decide, by decide⟩, ?_⟩
  unfold cutsOK s0
  decide
theorem ofE0 : ofE s0 2 [] = 0 := by
  have h : sorted s0 [] := fun i hi => by simp at hi
  unfold ofE
  rw [if_pos (emE_0.2 ⟨s0_ok, by decide, by decide⟩), if_neg (by decide), if_pos h]
theorem ofT0 : ofT s0 2 [] = ⟨s0, 2, [⟨⟨[0], [0]⟩, 0, -1, -1, []⟩]⟩ := by
  rw [(ofT_ok ofE0).2.2.2, growF_leaf (d := 31) (by simp)]
  rfl
end TR

/- The reference's Same; Entries. -/
open Go Go.Proofs Go.AH
set_option linter.unusedSimpArgs false
set_option linter.unusedVariables false
namespace TR
set_option maxHeartbeats 2000000 in
set_option maxRecDepth 20000 in
theorem cSI (a : List Int) (hl : a.length ≤ 4294967296) : FC Tryz.prog 84 [V a, V a] [] (.bool true) [] := by
  refine FC.of_run mix Tryz.func84 rfl rfl (by simp [Tryz.ntmps84]) ?_
  repeat' first
    | simp (maxSteps := 1000000) only [go_sem, Int.reduceLT, Int.reduceLE, Int.reduceToNat, Int.reduceEq, Nat.reduceMul, ↓reduceIte, Nat.reduceLT, Nat.reduceLeDiff, Nat.reduceEqDiff, Nat.reduceAdd, Nat.reduceSub, Nat.reduceBEq, reduceCtorEq, *, eq_self]
    | contradiction
    | refine wT ?_ ?_ <;> intro _
    | refine wF ?_ ?_ <;> intro _
    | refine cD ?_ ?_ <;> intro _
    | refine dO (by kernel_rfl) ?_
    | refine Fin.q ?_ ?_
    | refine Fin.qn ?_ ?_
  refine AW.loopx (σ := Nat) mix (fun i => ⟨26, [(5, .int .i64 i), (1, V a), (0, V a)], []⟩) (fun i => i ≤ a.length) (fun i => a.length - i) 0 (Nat.zero_le _) (Conv.mk ?_ ?_ ?_ ?_ ?_) ?_
  iterate 5 (· (simp (maxSteps := 1000000) only [go_sem, Int.reduceLT, Int.reduceLE, Int.reduceToNat, Int.reduceEq, Nat.reduceMul, ↓reduceIte, Nat.reduceLT, Nat.reduceLeDiff, Nat.reduceEqDiff, Nat.reduceAdd, Nat.reduceSub, Nat.reduceBEq, reduceCtorEq]) <;> (first | rfl | (simp [ints]; done) | (simp [*]; done) | ((repeat' (first | rfl | apply And.intro)); done)))
  intro i hi
  have hv := wrap1 (i := i) (by omega)
  by_cases h : i < a.length
  · have hx := ints_get h
    repeat' first
      | simp (maxSteps := 1000000) only [go_sem, Int.reduceLT, Int.reduceLE, Int.reduceToNat, Int.reduceEq, Nat.reduceMul, ↓reduceIte, Nat.reduceLT, Nat.reduceLeDiff, Nat.reduceEqDiff, Nat.reduceAdd, Nat.reduceSub, Nat.reduceBEq, reduceCtorEq, *, eq_self]
      | contradiction
      | refine wT ?_ ?_ <;> intro _
      | refine wF ?_ ?_ <;> intro _
      | refine cD ?_ ?_ <;> intro _
      | refine dO (by kernel_rfl) ?_
      | (refine ⟨i + 1, ?_, ?_, Conv.mk ?_ ?_ ?_ ?_ ?_⟩; (· (first | omega | (simp only; omega) | (simp only [List.length_nil, List.length_cons]; omega))); (· (omega)))
      | refine Fin.q ?_ ?_
      | refine Fin.qn ?_ ?_
  · repeat' first
      | simp (maxSteps := 1000000) only [go_sem, Int.reduceLT, Int.reduceLE, Int.reduceToNat, Int.reduceEq, Nat.reduceMul, ↓reduceIte, Nat.reduceLT, Nat.reduceLeDiff, Nat.reduceEqDiff, Nat.reduceAdd, Nat.reduceSub, Nat.reduceBEq, reduceCtorEq, *, eq_self]
      | contradiction
      | refine wT ?_ ?_ <;> intro _
      | refine wF ?_ ?_ <;> intro _
      | refine cD ?_ ?_ <;> intro _
      | refine dO (by kernel_rfl) ?_
      | refine Fin.q ?_ ?_
      | refine Fin.qn ?_ ?_
set_option maxRecDepth 20000 in
theorem kcSI {a : List Int} {H : Heap} {slot : Nat} {K : D → List (Nat × Blk) → List (Nat × Blk) → Prop} (hK : K (.bool true) [] []) (hl : a.length ≤ 4294967296 := by first | assumption | omega) : @callB ⟨callX Tryz.prog⟩ 84 [V a, V a] H slot ⟨K⟩ := by
  have he0 : rdOf H (D.idsL [V a, V a]) = [] := by simp (maxSteps := 1000000) only [go_sem, Int.reduceLT, Int.reduceLE, Int.reduceToNat, Int.reduceEq, Nat.reduceMul, ↓reduceIte, Nat.reduceLT, Nat.reduceLeDiff, Nat.reduceEqDiff, Nat.reduceAdd, Nat.reduceSub, Nat.reduceBEq, reduceCtorEq]
  refine call0 false (cSI a hl) ?_ ?_ (fun h => nomatch h) (by rw [he0]; exact hK)
  iterate 2 (· simp (maxSteps := 1000000) only [go_sem, Int.reduceLT, Int.reduceLE, Int.reduceToNat, Int.reduceEq, Nat.reduceMul, ↓reduceIte, Nat.reduceLT, Nat.reduceLeDiff, Nat.reduceEqDiff, Nat.reduceAdd, Nat.reduceSub, Nat.reduceBEq, reduceCtorEq])
set_option maxHeartbeats 2000000 in
set_option maxRecDepth 20000 in
theorem cSW (w : Wd) (h : w.lens) : FC Tryz.prog 80 [.agg w.row, .agg w.row] [] (.bool true) [] := by
  refine FC.of_run mix Tryz.func80 rfl rfl (by simp [Tryz.ntmps80]) ?_
  obtain ⟨h1, h2⟩ := h
  repeat' first
    | simp (maxSteps := 1000000) only [go_sem, Int.reduceLT, Int.reduceLE, Int.reduceToNat, Int.reduceEq, Nat.reduceMul, ↓reduceIte, Nat.reduceLT, Nat.reduceLeDiff, Nat.reduceEqDiff, Nat.reduceAdd, Nat.reduceSub, Nat.reduceBEq, reduceCtorEq, *]
    | contradiction
    | refine wT ?_ ?_ <;> intro _
    | refine wF ?_ ?_ <;> intro _
    | refine cD ?_ ?_ <;> intro _
    | refine dO (by kernel_rfl) ?_
    | refine kcSI ?_
    | refine Fin.q ?_ ?_
    | refine Fin.qn ?_ ?_
set_option maxRecDepth 20000 in
theorem kcSW {w : Wd} {H : Heap} {slot : Nat} {K : D → List (Nat × Blk) → List (Nat × Blk) → Prop} (hK : K (.bool true) [] []) (h : w.lens := by first | assumption | omega) : @callB ⟨callX Tryz.prog⟩ 80 [.agg w.row, .agg w.row] H slot ⟨K⟩ := by
  have he0 : rdOf H (D.idsL [.agg w.row, .agg w.row]) = [] := by simp (maxSteps := 1000000) only [go_sem, Int.reduceLT, Int.reduceLE, Int.reduceToNat, Int.reduceEq, Nat.reduceMul, ↓reduceIte, Nat.reduceLT, Nat.reduceLeDiff, Nat.reduceEqDiff, Nat.reduceAdd, Nat.reduceSub, Nat.reduceBEq, reduceCtorEq]
  refine call0 false (cSW w h) ?_ ?_ (fun h => nomatch h) (by rw [he0]; exact hK)
  iterate 2 (· simp (maxSteps := 1000000) only [go_sem, Int.reduceLT, Int.reduceLE, Int.reduceToNat, Int.reduceEq, Nat.reduceMul, ↓reduceIte, Nat.reduceLT, Nat.reduceLeDiff, Nat.reduceEqDiff, Nat.reduceAdd, Nat.reduceSub, Nat.reduceBEq, reduceCtorEq])
set_option maxHeartbeats 2000000 in
set_option maxRecDepth 20000 in
theorem cSame (l : List En) (hl : l.length ≤ 1000000) (hw : ∀ e, e ∈ l → e.lens) : FC Tryz.prog 85 [.vs (ents l), .vs (ents l)] [] (.bool true) [] := by
  refine FC.of_run mix Tryz.func85 rfl rfl (by simp [Tryz.ntmps85]) ?_
  repeat' first
    | simp (maxSteps := 1000000) only [go_sem, Int.reduceLT, Int.reduceLE, Int.reduceToNat, Int.reduceEq, Nat.reduceMul, ↓reduceIte, Nat.reduceLT, Nat.reduceLeDiff, Nat.reduceEqDiff, Nat.reduceAdd, Nat.reduceSub, Nat.reduceBEq, reduceCtorEq, *, eq_self]
    | contradiction
    | refine wT ?_ ?_ <;> intro _
    | refine wF ?_ ?_ <;> intro _
    | refine cD ?_ ?_ <;> intro _
    | refine dO (by kernel_rfl) ?_
    | refine Fin.q ?_ ?_
    | refine Fin.qn ?_ ?_
  refine AW.loopx (σ := Nat) mix (fun i => ⟨42, [(5, .int .i64 i), (1, .vs (ents l)), (0, .vs (ents l))], []⟩) (fun i => i ≤ l.length) (fun i => l.length - i) 0 (Nat.zero_le _) (Conv.mk ?_ ?_ ?_ ?_ ?_) ?_
  iterate 5 (· (simp (maxSteps := 1000000) only [go_sem, Int.reduceLT, Int.reduceLE, Int.reduceToNat, Int.reduceEq, Nat.reduceMul, ↓reduceIte, Nat.reduceLT, Nat.reduceLeDiff, Nat.reduceEqDiff, Nat.reduceAdd, Nat.reduceSub, Nat.reduceBEq, reduceCtorEq]) <;> (first | rfl | (simp [ints]; done) | (simp [*]; done) | ((repeat' (first | rfl | apply And.intro)); done)))
  intro i hi
  have hv := wrap1 (i := i) (by omega)
  by_cases h : i < l.length
  · have hx := ents_get h
    have e1 : (l.getD i default).w.lens := hw _ (getD_mem' h)
    clear hw
    repeat' first
      | simp (maxSteps := 1000000) only [go_sem, Int.reduceLT, Int.reduceLE, Int.reduceToNat, Int.reduceEq, Nat.reduceMul, ↓reduceIte, Nat.reduceLT, Nat.reduceLeDiff, Nat.reduceEqDiff, Nat.reduceAdd, Nat.reduceSub, Nat.reduceBEq, reduceCtorEq, *, eq_self, En.row]
      | contradiction
      | refine wT ?_ ?_ <;> intro _
      | refine wF ?_ ?_ <;> intro _
      | refine cD ?_ ?_ <;> intro _
      | refine dO (by kernel_rfl) ?_
      | refine kcSW ?_
      | (refine ⟨i + 1, ?_, ?_, Conv.mk ?_ ?_ ?_ ?_ ?_⟩; (· (first | omega | (simp only; omega) | (simp only [List.length_nil, List.length_cons]; omega))); (· (omega)))
      | refine Fin.q ?_ ?_
      | refine Fin.qn ?_ ?_
  · repeat' first
      | simp (maxSteps := 1000000) only [go_sem, Int.reduceLT, Int.reduceLE, Int.reduceToNat, Int.reduceEq, Nat.reduceMul, ↓reduceIte, Nat.reduceLT, Nat.reduceLeDiff, Nat.reduceEqDiff, Nat.reduceAdd, Nat.reduceSub, Nat.reduceBEq, reduceCtorEq, *, eq_self]
      | contradiction
      | refine wT ?_ ?_ <;> intro _
      | refine wF ?_ ?_ <;> intro _
      | refine cD ?_ ?_ <;> intro _
      | refine dO (by kernel_rfl) ?_
      | refine Fin.q ?_ ?_
      | refine Fin.qn ?_ ?_
end TR

/- The contract that the sanity check of law28 begins with. -/
open Go Go.Proofs Go.AH
set_option linter.unusedSimpArgs false
set_option linter.unusedVariables false
namespace TR
def s1 : Sc := ⟨1, 0, 0, 2, 1, [0]⟩
theorem s1_ok : s1.ok := by
  refine ⟨⟨by unfold mOK s1; decide, by decide, by decide, by decide, by decide, by decide, by decide⟩, ?_⟩
  unfold cutsOK s1
  decide
theorem ofE1 : ofE s1 4 [] = 0 := by
  have h : sorted s1 [] := fun i hi => by simp at hi
  unfold ofE
  rw [if_pos (emE_0.2 ⟨s1_ok, by decide, by decide⟩), if_neg (by decide), if_pos h]
theorem ofT1 : ofT s1 4 [] = ⟨s1, 4, [⟨⟨[0], [0]⟩, 0, -1, -1, []⟩]⟩ := by
  rw [(ofT_ok ofE1).2.2.2, growF_leaf (d := 31) (by simp)]
  rfl
set_option maxRecDepth 20000 in
theorem base3 : FC Tryz.prog 32 [.agg [.int .i64 1, .int .i64 0, .int .i64 0, .int .i64 2, .int .i64 1, .vs [[.int .i64 0]]], .int .i64 4] [] (.tup [.agg [.int .i64 1, .int .i64 0, .int .i64 0, .int .i64 2, .int .i64 1, .vs [[.int .i64 0]], .int .i64 4, .vs [[.vs [[.int .i64 0]], .vs [[.int .i64 0]], .int .i64 0, .int .i64 (-1), .int .i64 (-1), .vs []]]], .int .i64 0]) [] := by
  have := cTNew s1 4
  rw [ofT1, ofE1] at this
  exact this
end TR

/- tree.Entries (as in T52). -/
open Go Go.Proofs Go.AH
set_option linter.unusedSimpArgs false
set_option linter.unusedVariables false
namespace TR
set_option maxHeartbeats 2000000 in
set_option maxRecDepth 20000 in
theorem cEntries (s : Sc) (c : Int) (l : List En) (h : ofE s c l = 0) (h64 : l.length ≤ 64) : FC Tryz.prog 56 [.agg (ofT s c l).row] [] (.vs (ents l)) [] := by
  obtain ⟨h1, h2, h3, h4⟩ := ofT_ok h
  have hf := flatE_growF s c 32 0 (rootW s) l (sorted_ord (emE_0.1 h1).1 h3)
  have hgl := growF_len s c (emE_0.1 h1).2.1 32 0 (rootW s) l
  have kC : ∀ {H : Heap} {slot : Nat} {K : D → List (Nat × Blk) → List (Nat × Blk) → Prop}, K (.int .i64 0) [] [] → @callB ⟨callX Tryz.prog⟩ 50 [.agg (ofT s c l).row] H slot ⟨K⟩ := fun hK => kChk h h64 hK
  rw [h4] at kC ⊢
  generalize growF s c 32 0 (rootW s) l = ns at *
  have g2 : ns.length ≤ 1000000 := by omega
  have g3 : (flatE ns).length ≤ 1000000 := by rw [hf]; omega
  have g4 : l.length ≤ 4294967296 := by omega
  have hw : ∀ i, i < l.length → (l.getD i default).lens := fun i hi => ok_lens (h3 i hi).1
  clear hgl h4 h h3
  refine FC.of_run mix Tryz.func56 rfl rfl (by simp [Tryz.ntmps56]) ?_
  repeat' first
    | simp (maxSteps := 1000000) only [go_sem, Int.reduceLT, Int.reduceLE, Int.reduceToNat, Int.reduceEq, Nat.reduceMul, ↓reduceIte, Nat.reduceLT, Nat.reduceLeDiff, Nat.reduceEqDiff, Nat.reduceAdd, Nat.reduceSub, Nat.reduceBEq, reduceCtorEq, *]
    | contradiction
    | refine wT ?_ ?_ <;> intro _
    | refine wF ?_ ?_ <;> intro _
    | refine cD ?_ ?_ <;> intro _
    | refine dO (by kernel_rfl) ?_
    | refine kC ?_
    | refine (kcEntr (t := ⟨s, c, ns⟩)) ?_
    | refine kceCopy ?_
    | refine Fin.q ?_ ?_
    | refine Fin.qn ?_ ?_
theorem kEntries {s : Sc} {c : Int} {l : List En} {H : Heap} {slot : Nat} {K : D → List (Nat × Blk) → List (Nat × Blk) → Prop} (h : ofE s c l = 0) (h64 : l.length ≤ 64) (hK : K (.vs (ents l)) [] []) : @callB ⟨callX Tryz.prog⟩ 56 [.agg (ofT s c l).row] H slot ⟨K⟩ := call0 false (cEntries s c l h h64) rfl rfl (fun h => nomatch h) hK
end TR

/- Entries that are drawn are valid. -/
open Go Go.Proofs Go.AH
set_option linter.unusedSimpArgs false
set_option linter.unusedVariables false
namespace TR
theorem rdS_len (L : List Int) (s : Sc) (a m n : Nat) : (rdS L s a m n).length = n := by
  unfold rdS; split <;> exact rangeF_len _ _
theorem rdS_in (L : List Int) (s : Sc) (a m n : Nat) (hs : s.ok) {p : Nat} (hp : p < n) : 0 ≤ (rdS L s a m n).getD p 0 ∧ (rdS L s a m n).getD p 0 < 16 := by
  unfold rdS
  split
  · rw [rangeF_get _ hp]
    have := dv_lt L (nN L 16 (da L (sN L a m) 6) p) (n := 16) (by decide)
    exact this
  · rw [rangeF_get _ hp]
    unfold symV
    have h1 := cntV_le s.cuts (coordV s (rdX L a m) n p) s.cuts.length
    have h2 := hs.1.2.2.2.2.2.2
    omega
theorem rdE_ok (L : List Int) (s : Sc) (a m n : Nat) (t : Int) (hs : s.ok) (hn : s.pcs = n) (h0 : 0 ≤ t) (h1 : t ≤ 2000) : (rdE L s a m n t).ok s := by
  have hb := dv_lt L (rdA L a m n) (n := 3) (by decide)
  have hlen : (rangeF fourV n).length = n := rangeF_len _ _
  refine ⟨⟨hs, by rw [hn]; exact congrArg _ (rdS_len L s a m n), by rw [hn]; exact congrArg _ hlen, fun p hp => ?_⟩, fun p hp => ?_, hb.1, by show dv L (rdA L a m n) 3 ≤ 2000; omega, h0, h1⟩
  · have hp' : p < n := by have : p < (rangeF fourV n).length := hp; omega
    have e : (rangeF fourV n).getD p 0 = 4 := rangeF_get _ hp'
    have := rdS_in L s a m n hs hp'
    show 0 ≤ (rangeF fourV n).getD p 0 ∧ (rangeF fourV n).getD p 0 ≤ 4 ∧ 0 ≤ (rdS L s a m n).getD p 0 ∧ (rdS L s a m n).getD p 0 < 2 ^ ((rangeF fourV n).getD p 0).toNat
    rw [e]
    exact ⟨by decide, by decide, this.1, this.2⟩
  · have hp' : p < n := by have : p < (rangeF fourV n).length := hp; omega
    exact rangeF_get _ hp'
end TR

/- Sorting entries whose keys differ. -/
open Go Go.Proofs Go.AH
set_option linter.unusedSimpArgs false
set_option linter.unusedVariables false
namespace TR
theorem sorted_pw {s : Sc} {l : List En} (h : sorted s l) : l.Pairwise kle := by
  rw [List.pairwise_iff_getElem]
  intro i j h1 h2 hij
  obtain ⟨k, rfl⟩ : ∃ k, j = i + (k + 1) := ⟨j - i - 1, by omega⟩
  have := sorted_kle h i k h2
  simpa [List.getD, h1, h2] using this
theorem pw_sorted {s : Sc} {l : List En} (hok : ∀ e, e ∈ l → e.ok s) (hp : l.Pairwise kle) : sorted s l := by
  intro i hi
  refine ⟨hok _ (getD_mem' hi), fun h0 => ?_⟩
  have h1 : i - 1 < l.length := by omega
  refine (ecmp_kle (hok _ (getD_mem' h1)) (hok _ (getD_mem' hi))).2 ?_
  have := List.pairwise_iff_getElem.1 hp (i - 1) i h1 hi (by omega)
  simpa [List.getD, h1, hi] using this
theorem mem_mrg {s : Sc} {x y : List En} {z : En} : z ∈ mrg s x y ↔ z ∈ x ∨ z ∈ y := by
  unfold mrg; exact List.mem_merge
theorem mrg_pw (s : Sc) : ∀ (x y : List En), (∀ e, e ∈ x → e.ok s) → (∀ e, e ∈ y → e.ok s) → x.Pairwise kle → y.Pairwise kle → (∀ a, a ∈ x → ∀ b, b ∈ y → kle a b ∨ kle b a) → (mrg s x y).Pairwise kle
  | [], y, _, _, _, hy, _ => by rw [mrg_nl]; exact hy
  | a :: x, [], _, _, hx, _, _ => by rw [mrg_nr]; exact hx
  | a :: x, b :: y, ox, oy, hx, hy, hd => by
    have oa := ox a (by simp)
    have ob := oy b (by simp)
    obtain ⟨xa, xp⟩ := List.pairwise_cons.1 hx
    obtain ⟨yb, yp⟩ := List.pairwise_cons.1 hy
    by_cases h : ecmp s a b < 0
    · have e : mrg s (a :: x) (b :: y) = a :: mrg s x (b :: y) := by unfold mrg; rw [List.cons_merge_cons]; simp [lt, h]
      have hab := (ecmp_kle oa ob).1 h
      rw [e]
      refine List.pairwise_cons.2 ⟨fun z hz => ?_, mrg_pw s x (b :: y) (fun e he => ox e (by simp [he])) oy xp hy (fun a' ha => hd a' (by simp [ha]))⟩
      rcases mem_mrg.1 hz with hz | hz
      · exact xa z hz
      · rcases List.mem_cons.1 hz with rfl | hz
        · exact hab
        · exact kle_trans hab (yb z hz)
    · have e : mrg s (a :: x) (b :: y) = b :: mrg s (a :: x) y := by unfold mrg; rw [List.cons_merge_cons]; simp [lt, h]
      have hba : kle b a := (hd a (by simp) b (by simp)).resolve_left (fun hk => h ((ecmp_kle oa ob).2 hk))
      rw [e]
      refine List.pairwise_cons.2 ⟨fun z hz => ?_, mrg_pw s (a :: x) y ox (fun e he => oy e (by simp [he])) hx yp (fun a' ha b' hb => hd a' ha b' (by simp [hb]))⟩
      rcases mem_mrg.1 hz with hz | hz
      · rcases List.mem_cons.1 hz with rfl | hz
        · exact hba
        · exact kle_trans hba (xa z hz)
      · exact yb z hz
theorem mrg_perm (s : Sc) (x y : List En) : (mrg s x y).Perm (x ++ y) := by
  unfold mrg; exact List.merge_perm_append (lt s)
theorem allF_perm (s : Sc) : ∀ (d : Nat) (L : List (List En)), L.length ≤ d + 1 → (allF s (d + 1) L).Perm L.flatten
  | d, L, hd => by
    unfold allF
    split
    · rcases L with _ | ⟨e, _ | ⟨f, L⟩⟩
      · simp
      · simp
      · rename_i h; simp at h
    · rcases d with _ | d
      · omega
      · have h1 := allF_perm s d (L.take (L.length / 2)) (by simp; omega)
        have h2 := allF_perm s d (L.drop (L.length / 2)) (by simp; omega)
        refine (mrg_perm s _ _).trans ((h1.append h2).trans ?_)
        rw [← List.flatten_append, List.take_append_drop]
theorem kle_uniq : ∀ {x y : List En}, x.Perm y → x.Pairwise kle → y.Pairwise kle → x = y
  | [], y, h, _, _ => by simpa using h
  | a :: x, [], h, _, _ => by simp at h
  | a :: x, b :: y, h, hx, hy => by
    obtain ⟨xa, xp⟩ := List.pairwise_cons.1 hx
    obtain ⟨yb, yp⟩ := List.pairwise_cons.1 hy
    have hab : a = b := by
      rcases List.mem_cons.1 (h.subset (by simp : a ∈ a :: x)) with e | ha
      · exact e
      · rcases List.mem_cons.1 (h.symm.subset (by simp : b ∈ b :: y)) with e | hb
        · exact e.symm
        · exact absurd (yb a ha) (kle_irr (xa b hb))
    subst hab
    rw [kle_uniq (List.Perm.cons_inv h) xp yp]
/-- Keys differ, place by place. -/
def apart (l : List En) : Prop := l.Pairwise fun a b => kle a b ∨ kle b a
theorem apart_cross {x y : List En} (h : apart (x ++ y)) : ∀ a, a ∈ x → ∀ b, b ∈ y → kle a b ∨ kle b a := (List.pairwise_append.1 h).2.2
theorem apart_perm {x y : List En} (h : x.Perm y) (hx : apart x) : apart y := by
  unfold apart at *
  exact (List.Perm.pairwise_iff (fun h => h.symm) h).1 hx
theorem allF_pw (s : Sc) : ∀ (d : Nat) (L : List (List En)), L.length ≤ d + 1 → ones L → (∀ e, e ∈ L.flatten → e.ok s) → apart L.flatten → (allF s (d + 1) L).Pairwise kle
  | d, L, hd, ho, hok, ha => by
    unfold allF
    split
    · rcases L with _ | ⟨e, L⟩
      · simp
      · have := ho e (by simp)
        rcases e with _ | ⟨x, _ | ⟨y, e⟩⟩ <;> simp at this ⊢
    · rcases d with _ | d
      · omega
      · have hf : (L.take (L.length / 2)).flatten ++ (L.drop (L.length / 2)).flatten = L.flatten := by rw [← List.flatten_append, List.take_append_drop]
        rw [← hf] at hok ha
        have p1 := allF_perm s d (L.take (L.length / 2)) (by simp; omega)
        have p2 := allF_perm s d (L.drop (L.length / 2)) (by simp; omega)
        obtain ⟨a1, a2, a3⟩ := List.pairwise_append.1 ha
        have q1 := allF_pw s d (L.take (L.length / 2)) (by simp; omega) (ones_take ho _) (fun e he => hok e (List.mem_append.2 (.inl he))) a1
        have q2 := allF_pw s d (L.drop (L.length / 2)) (by simp; omega) (ones_drop ho _) (fun e he => hok e (List.mem_append.2 (.inr he))) a2
        exact mrg_pw s _ _ (fun e he => hok e (List.mem_append.2 (.inl (p1.subset he)))) (fun e he => hok e (List.mem_append.2 (.inr (p2.subset he)))) q1 q2 (fun a ha b hb => a3 a (p1.subset ha) b (p2.subset hb))
theorem sing_flat (l : List En) : (sing l).flatten = l := by
  induction l with
  | nil => rfl
  | cons a l ih => simp only [sing, List.map_cons, List.flatten_cons] at ih ⊢; rw [ih]; rfl
/-- Entries that are valid and whose keys differ are sorted. -/
theorem srtO_is {s : Sc} {l : List En} (hok : ∀ e, e ∈ l → e.ok s) (ha : apart l) : (srtO s l).Perm l ∧ (srtO s l).Pairwise kle := by
  have h1 : (allS s l).Perm l := by
    have := allF_perm s (sing l).length (sing l) (by omega)
    rw [sing_flat] at this
    exact this
  have h2 : (allS s l).Pairwise kle := allF_pw s (sing l).length (sing l) (by omega) (sing_ones l) (by rw [sing_flat]; exact hok) (by rw [sing_flat]; exact ha)
  have h3 : sorted s (allS s l) := pw_sorted (fun e he => hok e (h1.subset he)) h2
  have h4 : okAll s l := fun q hq => hok _ (getD_mem' hq)
  unfold srtO
  rw [if_pos h4, if_pos h3]
  exact ⟨h1, h2⟩
end TR

/- An entry laid into sorted ones. -/
open Go Go.Proofs Go.AH
set_option linter.unusedSimpArgs false
set_option linter.unusedVariables false
namespace TR
def insE (s : Sc) (e : En) : List En → List En
  | [] => [e]
  | x :: l => if ecmp s x e < 0 then x :: insE s e l else e :: x :: l
def posE (s : Sc) (e : En) : List En → Nat
  | [] => 0
  | x :: l => if ecmp s x e < 0 then posE s e l + 1 else 0
theorem posE_le (s : Sc) (e : En) : ∀ l, posE s e l ≤ l.length
  | [] => Nat.le_refl _
  | x :: l => by
    have := posE_le s e l
    simp only [posE, List.length_cons]
    split <;> omega
theorem insE_cut (s : Sc) (e : En) : ∀ l, insE s e l = l.take (posE s e l) ++ e :: l.drop (posE s e l)
  | [] => rfl
  | x :: l => by
    simp only [insE, posE]
    split
    · rw [insE_cut s e l]; simp
    · simp
theorem insE_perm (s : Sc) (e : En) (l : List En) : (insE s e l).Perm (e :: l) := by
  induction l with
  | nil => exact List.Perm.refl _
  | cons x l ih =>
    simp only [insE]
    split
    · exact (ih.cons x).trans (List.Perm.swap e x l)
    · exact List.Perm.refl _
theorem insE_pw (s : Sc) (e : En) (he : e.ok s) : ∀ l : List En, (∀ x, x ∈ l → x.ok s) → l.Pairwise kle → (∀ x, x ∈ l → kle x e ∨ kle e x) → (insE s e l).Pairwise kle
  | [], _, _, _ => by simp [insE]
  | x :: l, ho, hp, hd => by
    obtain ⟨h1, h2⟩ := List.pairwise_cons.1 hp
    have ox := ho x (by simp)
    simp only [insE]
    split
    · rename_i h
      refine List.pairwise_cons.2 ⟨fun z hz => ?_, insE_pw s e he l (fun y hy => ho y (by simp [hy])) h2 (fun y hy => hd y (by simp [hy]))⟩
      rcases List.mem_cons.1 ((insE_perm s e l).subset hz) with rfl | hz
      · exact (ecmp_kle ox he).1 h
      · exact h1 z hz
    · rename_i h
      have hex : kle e x := (hd x (by simp)).resolve_left (fun hk => h ((ecmp_kle ox he).2 hk))
      refine List.pairwise_cons.2 ⟨fun z hz => ?_, hp⟩
      rcases List.mem_cons.1 hz with rfl | hz
      · exact hex
      · exact kle_trans hex (h1 z hz)
/-- What lies ahead of the place is less, what lies at it and behind is not. -/
theorem posE_spec (s : Sc) (e : En) : ∀ (l : List En), l.Pairwise kle → (∀ x, x ∈ l → x.ok s) → e.ok s → ∀ i, i < l.length → (ecmp s (l.getD i default) e < 0 ↔ i < posE s e l)
  | [], _, _, _, i, hi => by simp at hi
  | x :: l, hp, ho, he, i, hi => by
    obtain ⟨h1, h2⟩ := List.pairwise_cons.1 hp
    have ox := ho x (by simp)
    simp only [posE]
    split
    · rename_i h
      cases i with
      | zero => simp [List.getD, h]
      | succ i =>
        have := posE_spec s e l h2 (fun y hy => ho y (by simp [hy])) he i (by simpa using hi)
        simp only [List.getD_cons_succ]
        omega
    · rename_i h
      cases i with
      | zero => simp [List.getD, h]
      | succ i =>
        simp only [List.getD_cons_succ]
        have hi' : i < l.length := by simpa using hi
        have hm := getD_mem' hi'
        refine ⟨fun hlt => absurd ((ecmp_kle ox he).2 (kle_trans (h1 _ hm) ((ecmp_kle (ho _ (List.mem_cons_of_mem _ hm)) he).1 hlt))) h, fun hlt => by omega⟩
end TR

/- The reference's Same of trees. -/
open Go Go.Proofs Go.AH
set_option linter.unusedSimpArgs false
set_option linter.unusedVariables false
namespace TR
theorem kSameE {l : List En} {H : Heap} {slot : Nat} {K : D → List (Nat × Blk) → List (Nat × Blk) → Prop} (hl : l.length ≤ 1000000) (hw : ∀ e, e ∈ l → e.lens) (hK : K (.bool true) [] []) : @callB ⟨callX Tryz.prog⟩ 85 [.vs (ents l), .vs (ents l)] H slot ⟨K⟩ := call0 true (cSame l hl hw) rfl rfl (fun _ => rfl) hK
set_option maxHeartbeats 2000000 in
set_option maxRecDepth 20000 in
theorem cSSc (s : Sc) (h : s.cuts.length ≤ 4294967296) : FC Tryz.prog 46 [.agg s.row, .agg s.row] [] (.bool true) [] := by
  refine FC.of_run mix Tryz.func46 rfl rfl (by simp [Tryz.ntmps46]) ?_
  repeat' first
    | simp (maxSteps := 1000000) only [go_sem, Int.reduceLT, Int.reduceLE, Int.reduceToNat, Int.reduceEq, Nat.reduceMul, ↓reduceIte, Nat.reduceLT, Nat.reduceLeDiff, Nat.reduceEqDiff, Nat.reduceAdd, Nat.reduceSub, Nat.reduceBEq, reduceCtorEq, *, eq_self, and_self]
    | contradiction
    | refine wT ?_ ?_ <;> intro _
    | refine wF ?_ ?_ <;> intro _
    | refine cD ?_ ?_ <;> intro _
    | refine dO (by kernel_rfl) ?_
    | refine kcSI ?_
    | refine Fin.q ?_ ?_
    | refine Fin.qn ?_ ?_
set_option maxRecDepth 20000 in
theorem kcSSc {s : Sc} {H : Heap} {slot : Nat} {K : D → List (Nat × Blk) → List (Nat × Blk) → Prop} (hK : K (.bool true) [] []) (h : s.cuts.length ≤ 4294967296 := by first | assumption | omega) : @callB ⟨callX Tryz.prog⟩ 46 [.agg s.row, .agg s.row] H slot ⟨K⟩ := by
  have he0 : rdOf H (D.idsL [.agg s.row, .agg s.row]) = [] := by simp (maxSteps := 1000000) only [go_sem, Int.reduceLT, Int.reduceLE, Int.reduceToNat, Int.reduceEq, Nat.reduceMul, ↓reduceIte, Nat.reduceLT, Nat.reduceLeDiff, Nat.reduceEqDiff, Nat.reduceAdd, Nat.reduceSub, Nat.reduceBEq, reduceCtorEq]
  refine call0 false (cSSc s h) ?_ ?_ (fun h => nomatch h) (by rw [he0]; exact hK)
  iterate 2 (· simp (maxSteps := 1000000) only [go_sem, Int.reduceLT, Int.reduceLE, Int.reduceToNat, Int.reduceEq, Nat.reduceMul, ↓reduceIte, Nat.reduceLT, Nat.reduceLeDiff, Nat.reduceEqDiff, Nat.reduceAdd, Nat.reduceSub, Nat.reduceBEq, reduceCtorEq])
set_option maxHeartbeats 2000000 in
set_option maxRecDepth 20000 in
theorem cSNd (ns : List Nd) (hn : ns.length ≤ 1000000) (hw : ∀ x, x ∈ ns → x.lens ∧ x.es.length ≤ 1000000) : FC Tryz.prog 47 [.vs (nods ns), .vs (nods ns)] [] (.bool true) [] := by
  refine FC.of_run mix Tryz.func47 rfl rfl (by simp [Tryz.ntmps47]) ?_
  repeat' first
    | simp (maxSteps := 1000000) only [go_sem, Int.reduceLT, Int.reduceLE, Int.reduceToNat, Int.reduceEq, Nat.reduceMul, ↓reduceIte, Nat.reduceLT, Nat.reduceLeDiff, Nat.reduceEqDiff, Nat.reduceAdd, Nat.reduceSub, Nat.reduceBEq, reduceCtorEq, *, eq_self, nods_len]
    | contradiction
    | refine wT ?_ ?_ <;> intro _
    | refine wF ?_ ?_ <;> intro _
    | refine cD ?_ ?_ <;> intro _
    | refine dO (by kernel_rfl) ?_
    | refine Fin.q ?_ ?_
    | refine Fin.qn ?_ ?_
  refine AW.loopx (σ := Nat) mix (fun i => ⟨62, [(5, .int .i64 i), (1, .vs (nods ns)), (0, .vs (nods ns))], []⟩) (fun i => i ≤ ns.length) (fun i => ns.length - i) 0 (Nat.zero_le _) (Conv.mk ?_ ?_ ?_ ?_ ?_) ?_
  iterate 5 (· (simp (maxSteps := 1000000) only [go_sem, Int.reduceLT, Int.reduceLE, Int.reduceToNat, Int.reduceEq, Nat.reduceMul, ↓reduceIte, Nat.reduceLT, Nat.reduceLeDiff, Nat.reduceEqDiff, Nat.reduceAdd, Nat.reduceSub, Nat.reduceBEq, reduceCtorEq]) <;> (first | rfl | (simp [ints]; done) | (simp [*]; done) | ((repeat' (first | rfl | apply And.intro)); done)))
  intro i hi
  have hv := wrap1 (i := i) (by omega)
  by_cases h : i < ns.length
  · have hx := nods_get h
    have hm : ns.getD i default ∈ ns := by simp [List.getD, h]
    obtain ⟨⟨e1, e2, e3, e4⟩, e5⟩ := hw _ hm
    have e6 : (ns.getD i default).w.lens := ⟨e1, e2⟩
    clear hw e1 e2 e3
    repeat' first
      | simp (maxSteps := 1000000) only [go_sem, Int.reduceLT, Int.reduceLE, Int.reduceToNat, Int.reduceEq, Nat.reduceMul, ↓reduceIte, Nat.reduceLT, Nat.reduceLeDiff, Nat.reduceEqDiff, Nat.reduceAdd, Nat.reduceSub, Nat.reduceBEq, reduceCtorEq, *, eq_self, Nd.row, nods_len]
      | contradiction
      | refine wT ?_ ?_ <;> intro _
      | refine wF ?_ ?_ <;> intro _
      | refine cD ?_ ?_ <;> intro _
      | refine dO (by kernel_rfl) ?_
      | refine kcSW ?_
      | refine (kSameE e5 e4) ?_
      | (refine ⟨i + 1, ?_, ?_, Conv.mk ?_ ?_ ?_ ?_ ?_⟩; (· (first | omega | (simp only; omega) | (simp only [List.length_nil, List.length_cons]; omega))); (· (omega)))
      | refine Fin.q ?_ ?_
      | refine Fin.qn ?_ ?_
  · repeat' first
      | simp (maxSteps := 1000000) only [go_sem, Int.reduceLT, Int.reduceLE, Int.reduceToNat, Int.reduceEq, Nat.reduceMul, ↓reduceIte, Nat.reduceLT, Nat.reduceLeDiff, Nat.reduceEqDiff, Nat.reduceAdd, Nat.reduceSub, Nat.reduceBEq, reduceCtorEq, *, eq_self, nods_len]
      | contradiction
      | refine wT ?_ ?_ <;> intro _
      | refine wF ?_ ?_ <;> intro _
      | refine cD ?_ ?_ <;> intro _
      | refine dO (by kernel_rfl) ?_
      | refine Fin.q ?_ ?_
      | refine Fin.qn ?_ ?_
set_option maxRecDepth 20000 in
theorem kcSNd {ns : List Nd} {H : Heap} {slot : Nat} {K : D → List (Nat × Blk) → List (Nat × Blk) → Prop} (hK : K (.bool true) [] []) (hn : ns.length ≤ 1000000 := by first | assumption | omega) (hw : ∀ x, x ∈ ns → x.lens ∧ x.es.length ≤ 1000000 := by first | assumption | omega) : @callB ⟨callX Tryz.prog⟩ 47 [.vs (nods ns), .vs (nods ns)] H slot ⟨K⟩ := by
  have he0 : rdOf H (D.idsL [.vs (nods ns), .vs (nods ns)]) = [] := by simp (maxSteps := 1000000) only [go_sem, Int.reduceLT, Int.reduceLE, Int.reduceToNat, Int.reduceEq, Nat.reduceMul, ↓reduceIte, Nat.reduceLT, Nat.reduceLeDiff, Nat.reduceEqDiff, Nat.reduceAdd, Nat.reduceSub, Nat.reduceBEq, reduceCtorEq]
  refine call0 false (cSNd ns hn hw) ?_ ?_ (fun h => nomatch h) (by rw [he0]; exact hK)
  iterate 2 (· simp (maxSteps := 1000000) only [go_sem, Int.reduceLT, Int.reduceLE, Int.reduceToNat, Int.reduceEq, Nat.reduceMul, ↓reduceIte, Nat.reduceLT, Nat.reduceLeDiff, Nat.reduceEqDiff, Nat.reduceAdd, Nat.reduceSub, Nat.reduceBEq, reduceCtorEq])
set_option maxHeartbeats 2000000 in
set_option maxRecDepth 20000 in
theorem cSTr (t : Tr) (hc : t.sc.cuts.length ≤ 4294967296) (hn : t.ns.length ≤ 1000000) (hw : ∀ x, x ∈ t.ns → x.lens ∧ x.es.length ≤ 1000000) : FC Tryz.prog 18 [.agg t.row, .agg t.row] [] (.bool true) [] := by
  refine FC.of_run mix Tryz.func18 rfl rfl (by simp [Tryz.ntmps18]) ?_
  repeat' first
    | simp (maxSteps := 1000000) only [go_sem, Int.reduceLT, Int.reduceLE, Int.reduceToNat, Int.reduceEq, Nat.reduceMul, ↓reduceIte, Nat.reduceLT, Nat.reduceLeDiff, Nat.reduceEqDiff, Nat.reduceAdd, Nat.reduceSub, Nat.reduceBEq, reduceCtorEq, *, eq_self]
    | contradiction
    | refine wT ?_ ?_ <;> intro _
    | refine wF ?_ ?_ <;> intro _
    | refine cD ?_ ?_ <;> intro _
    | refine dO (by kernel_rfl) ?_
    | refine (kcSSc (s := t.sc)) ?_
    | refine (kcSNd (ns := t.ns)) ?_
    | refine Fin.q ?_ ?_
    | refine Fin.qn ?_ ?_
end TR

/- Entries that are drawn differ. -/
open Go Go.Proofs Go.AH
set_option linter.unusedSimpArgs false
set_option linter.unusedVariables false
namespace TR
theorem kle_q {x y : En} (h : x.q ≠ y.q) : kle x y ∨ kle y x := by
  unfold kle
  omega
theorem rangeE_mem {f : Nat → En} {n : Nat} {e : En} (h : e ∈ rangeE f n) : ∃ j, j < n ∧ e = f j := by
  simp only [rangeE, List.mem_map, List.mem_range] at h
  obtain ⟨j, h1, h2⟩ := h
  exact ⟨j, h1, h2.symm⟩
theorem enE_apart (L : List Int) (s : Sc) (m n b c : Nat) : apart (rangeE (enE L s m n b c) c) := by
  unfold apart
  rw [List.pairwise_iff_getElem]
  intro i j h1 h2 hij
  rw [rangeE_len] at h1 h2
  simp only [rangeE, List.getElem_map, List.getElem_range]
  refine kle_q ?_
  show (c : Int) - (i : Int) ≠ (c : Int) - (j : Int)
  omega
theorem enE_ok (L : List Int) (s : Sc) (m n b c : Nat) (hs : s.ok) (hn : s.pcs = n) (hc : c ≤ 2000) : ∀ e, e ∈ rangeE (enE L s m n b c) c → e.ok s := fun e he => by
  obtain ⟨j, h1, rfl⟩ := rangeE_mem he
  exact rdE_ok L s _ m n _ hs hn (by omega) (by omega)
end TR

/- What the laws of bulk take from those of tree (out of T49, T69, T70). -/
open Go Go.Proofs Go.AH
set_option linter.unusedSimpArgs false
set_option linter.unusedVariables false
namespace TR
theorem ecmp_0 {s : Sc} {x y : En} (hx : x.ok s) (hy : y.ok s) : ecmp s x y = 0 ↔ shuf x.w.s = shuf y.w.s ∧ x.p = y.p ∧ x.q = y.q := by
  unfold ecmp
  rw [wcmp_of hx hy]
  unfold or2 cmp3
  repeat' split
  all_goals omega
theorem ecmp_ne {s : Sc} {x y : En} (hx : x.ok s) (hy : y.ok s) (h : kle x y ∨ kle y x) : ecmp s x y ≠ 0 := fun h0 => by
  obtain ⟨h1, h2, h3⟩ := (ecmp_0 hx hy).1 h0
  unfold kle at h
  omega
theorem ecmp_same {s : Sc} {x : En} (hx : x.ok s) : ecmp s x x = 0 := (ecmp_0 hx hx).2 ⟨rfl, rfl, rfl⟩
/-- Valid, and ascending. -/
def okL (s : Sc) (l : List En) : Prop := (∀ e, e ∈ l → e.ok s) ∧ l.Pairwise kle
theorem okL_nil (s : Sc) : okL s [] := ⟨fun e h => by simp at h, List.Pairwise.nil⟩
theorem ofE_0 {s : Sc} {c : Int} {l : List En} (hs : s.ok) (h1 : 1 ≤ c) (h2 : c ≤ 64) (h : okL s l) (hl : l.length ≤ 2000) : ofE s c l = 0 := by
  unfold ofE
  rw [if_pos (emE_0.2 ⟨hs, h1, h2⟩), if_neg (by omega), if_pos (pw_sorted h.1 h.2)]
theorem kLength {L : List Int} {a q : Nat} {H : Heap} (hH : hget H q = some [[V L, .int .i64 a]]) {slot : Nat} {K : D → List (Nat × Blk) → List (Nat × Blk) → Prop} (hK : K (.int .i64 (2 + dv L a 5)) [(q, [[V L, .int .i64 (da L a 5)]])] [(q, [[V L, .int .i64 a]]), (q, [[V L, .int .i64 a]])]) (hL : L.length ≤ 1000 := by assumption) (ha : a ≤ 1000 := by first | assumption | (repeat' first | assumption | apply da_le)) : @callB ⟨callX Tryz.prog⟩ 12 [.ptr q 1 0 0] H slot ⟨K⟩ := by
  have e : rdOf H ([q] ++ D.idsL [.ptr q 1 0 0]) = [(q, [[V L, .int .i64 a]]), (q, [[V L, .int .i64 a]])] := by simp [D.idsL, D.ids, rdOf, hH]
  refine callX2 [q] (cLength L a hL ha) (by simp) ?_ ?_ ⟨by simp, by simp⟩ (r' := .int .i64 (2 + dv L a 5)) (outs' := [[[V L, .int .i64 (da L a 5)]]]) rfl ?_ ?_
  · simp [trL, tr, pos]
  · rw [e]; simp [insA, AH.look, trB, pureB, D.isPur]
  · simp [backB, trB, pureB, D.isPur]
  · rw [e]; exact hK
theorem kEnts2 {L : List Int} {a q : Nat} {s : Sc} {most : Int} {H : Heap} (hH : hget H q = some [[V L, .int .i64 a]]) {slot : Nat} {K : D → List (Nat × Blk) → List (Nat × Blk) → Prop} (hs : s.ok) (hL : L.length ≤ 1000) (ha : a ≤ 1000) (hm : 0 ≤ most) (hm2 : most ≤ 1000) (hK : ∀ (l : List En) (b : Nat), (l.length : Int) ≤ most → (∀ e, e ∈ l → e.ok s) → apart l → b ≤ 1000 → K (.vs (ents l)) [(q, [[V L, .int .i64 b]])] [(q, [[V L, .int .i64 a]]), (q, [[V L, .int .i64 a]])]) : @callB ⟨callX Tryz.prog⟩ 22 [.ptr q 1 0 0, .agg s.row, .int .i64 most] H slot ⟨K⟩ := by
  have e : rdOf H ([q] ++ D.idsL [.ptr q 1 0 0, .agg s.row, .int .i64 most]) = [(q, [[V L, .int .i64 a]]), (q, [[V L, .int .i64 a]])] := by simp [D.idsL, D.ids, rdOf, hH, Sc.row]
  have h1 := hs.1.2.1
  have h2 := hs.1.2.2.2.1
  have hd := dv_lt L a (n := most + 1) (by omega)
  obtain ⟨m, hm'⟩ : ∃ m : Nat, s.len = m := ⟨s.len.toNat, by omega⟩
  obtain ⟨n, hn'⟩ : ∃ n : Nat, s.pcs = n := ⟨s.pcs.toNat, by omega⟩
  obtain ⟨c, hc'⟩ : ∃ c : Nat, dv L a (most + 1) = c := ⟨(dv L a (most + 1)).toNat, by omega⟩
  have hf := cEnts L a s m n c most hs hm' hn' hL ha hm hm2 hc'
  have hb := enA_le L m n (da L a (most + 1)) (da_le _ _ _ ha hL) hL c
  have hl : ((rangeE (enE L s m n (da L a (most + 1)) c) c).length : Int) ≤ most := by rw [rangeE_len]; omega
  have hk := hK _ _ hl (enE_ok L s m n _ c hs hn' (by omega)) (enE_apart L s m n _ c) hb
  generalize rangeE (enE L s m n (da L a (most + 1)) c) c = x at *
  generalize enA L m n (da L a (most + 1)) c = y at *
  refine callX2 [q] hf (by simp) ?_ ?_ ⟨by simp, by simp⟩ (r' := .vs (ents x)) (outs' := [[[V L, .int .i64 y]]]) rfl ?_ ?_
  · simp [trL, tr, pos, Sc.row]
  · rw [e]; simp [insA, AH.look, trB, pureB, D.isPur]
  · simp [backB, trB, pureB, D.isPur]
  · rw [e]; exact hk
theorem es_flat {ns : List Nd} {x : Nd} (h : x ∈ ns) : x.es.length ≤ (flatE ns).length := by
  induction ns with
  | nil => simp at h
  | cons n ns ih =>
    simp only [flatE, List.length_append]
    rcases List.mem_cons.1 h with rfl | h
    · omega
    · have := ih h; omega
theorem sameT {s : Sc} {c : Int} {l : List En} (hs : s.ok) (h : ofE s c l = 0) (h64 : l.length ≤ 64) : FC Tryz.prog 18 [.agg (ofT s c l).row, .agg (ofT s c l).row] [] (.bool true) [] := by
  obtain ⟨h1, h2, h3, h4⟩ := ofT_ok h
  have hf := flatE_growF s c 32 0 (rootW s) l (sorted_ord hs h3)
  have hgl := growF_len s c (emE_0.1 h1).2.1 32 0 (rootW s) l
  have hrw := len8 (root_ok hs)
  have hln := growF_lens s c 32 0 (rootW s) l (by omega) (by omega) (by omega) (fun x hx => ok_lens (sorted_at h3 hx))
  have hcu := hs.1.2.2.2.2.2.2
  rw [h4]
  refine cSTr ⟨s, c, growF s c 32 0 (rootW s) l⟩ (by show s.cuts.length ≤ 4294967296; omega) (by show (growF s c 32 0 (rootW s) l).length ≤ 1000000; omega) (fun x hx => ⟨hln x hx, ?_⟩)
  have := es_flat hx
  simp only [hf] at this
  omega
end TR


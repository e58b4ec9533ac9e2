/- The tree walked: part f. -/
import Derived.Test.YtmhkanhgmfolhaaGreatTe
import Derived.Test.YtmhkanhgmfolhaaGreatAhFence
import Derived.Test.YtmhkanhgmfolhaaGreatAhSort
import Derived.Shelf.SlSortCmp.WholeK
import Derived.Test.YtmhkanhgmfolhaaGreatProg
import Derived.Test.YtmhkanhgmfolhaaGreatRows
import Derived.Test.YtmhkanhgmfolhaaGreatAhRow
import Derived.Test.YtmhkanhgmfolhaaGreatAhRowV
import Derived.WalkKit
import Derived.ProofKit
import Derived.OpenShut
import Derived.Carry
import Derived.ChangeArms
/- The reference's New. -/
open Go Go.Proofs Go.AH
set_option linter.unusedSimpArgs false
set_option linter.unusedVariables false
namespace TR
theorem kCopyR0 {H : Heap} {slot : Nat} {K : D → List (Nat × Blk) → List (Nat × Blk) → Prop} (hK : K (.vs (ents [])) [] []) : @callB ⟨callX Tryz.prog⟩ 87 [.zs] H slot ⟨K⟩ := call0 (args' := [.vs (ents [])]) false (cCopyR [] (by simp) (fun i hi => by simp at hi)) rfl rfl (fun h => nomatch h) hK
theorem kSortedR0 {s : Sc} {H : Heap} {slot : Nat} {K : D → List (Nat × Blk) → List (Nat × Blk) → Prop} (hK : K (.bool true) [] []) : @callB ⟨callX Tryz.prog⟩ 58 [.agg s.row, .zs] H slot ⟨K⟩ := by
  have h : decide (sorted s []) = true := decide_eq_true (fun i hi => by simp at hi)
  have := cSortedR s [] (by simp)
  rw [h] at this
  exact call0 (args' := [.agg s.row, .vs (ents [])]) false this rfl rfl (fun h => nomatch h) hK
set_option maxHeartbeats 2000000 in
set_option maxRecDepth 20000 in
theorem cGrowR0 (s : Sc) (c : Int) (w : Wd) (hc : 0 ≤ c) (h8 : w.b.length ≤ 8) : FC Tryz.prog 82 [.agg s.row, .int .i64 c, .zs, .agg w.row, .zs] [] (.vs (nods [⟨w, 0, -1, -1, []⟩])) [] := by
  refine FC.of_run mix Tryz.func82 rfl rfl (by simp [Tryz.ntmps82]) ?_
  have h8b : w.b.length < 1000000000000000 := by omega
  repeat' first
    | simp (maxSteps := 1000000) only [go_sem, Int.reduceLT, Int.reduceLE, Int.reduceToNat, Int.reduceEq, Nat.reduceMul, ↓reduceIte, Nat.reduceLT, Nat.reduceLeDiff, Nat.reduceEqDiff, Nat.reduceAdd, Nat.reduceSub, Nat.reduceBEq, reduceCtorEq, *]
    | contradiction
    | refine wT ?_ ?_ <;> intro _
    | refine wF ?_ ?_ <;> intro _
    | refine cD ?_ ?_ <;> intro _
    | refine dO (by kernel_rfl) ?_
    | refine kcfewestR ?_
    | refine kCopyR0 ?_
    | ((first | refine Fin.q ?_ ?_ | refine Fin.qn ?_ ?_) <;> ((try simp (maxSteps := 1000000) only [go_sem, Int.reduceLT, Int.reduceLE, Int.reduceToNat, Int.reduceEq, Nat.reduceMul, ↓reduceIte, Nat.reduceLT, Nat.reduceLeDiff, Nat.reduceEqDiff, Nat.reduceAdd, Nat.reduceSub, Nat.reduceBEq, reduceCtorEq, *]) <;> (first | done | rfl)))
theorem kGrowR0 {s : Sc} {c : Int} {w : Wd} {H : Heap} {slot : Nat} {K : D → List (Nat × Blk) → List (Nat × Blk) → Prop} (hc : 0 ≤ c) (h8 : w.b.length ≤ 8) (hK : K (.vs (nods [⟨w, 0, -1, -1, []⟩])) [] []) : @callB ⟨callX Tryz.prog⟩ 82 [.agg s.row, .int .i64 c, .zs, .agg w.row, .zs] H slot ⟨K⟩ := by
  have he : rdOf H ([] ++ D.idsL [.agg s.row, .int .i64 c, .zs, .agg w.row, .zs]) = [] := by simp [D.idsL, D.ids, rdOf, Sc.row, Wd.row]
  refine .inl ⟨[], false, false, [.agg s.row, .int .i64 c, .zs, .agg w.row, .zs], [], _, _, [], [], by simp, ?_, rfl, cGrowR0 s c w hc h8, by simp, rfl, rfl, fun h => (nomatch h), ?_⟩
  · simp [trL, tr, Sc.row, Wd.row]
  · rw [he]; exact hK
set_option maxHeartbeats 4000000 in
set_option maxRecDepth 20000 in
theorem cMadeR0 (s : Sc) (c : Int) (hs : s.ok) (hc : 1 ≤ c) : FC Tryz.prog 44 [.agg s.row, .int .i64 c, .zs] [] (.agg (⟨s, c, [⟨rootW s, 0, -1, -1, []⟩]⟩ : Tr).row) [] := by
  have hcu := hs.1.2.2.2.2.2.2
  have h8 := (len8 (root_ok hs)).1
  have h8b := (len8 (root_ok hs)).2.1
  have hc0 : 0 ≤ c := by omega
  have hC : s.cuts.length ≤ capMax := by unfold capMax; omega
  have h2 : s.cuts = [] ∨ s.cuts ≠ [] := by by_cases h : s.cuts = [] <;> simp [h]
  refine FC.of_body Tryz.func44 rfl rfl (by simp [Tryz.ntmps44]) ?_
  refine AW.seqG (fun y hy => AW.of_run (callX_sound _) mix ?_)
  repeat' first
    | simp (maxSteps := 1000000) only [go_sem, Int.reduceLT, Int.reduceLE, Int.reduceToNat, Int.reduceEq, Nat.reduceMul, ↓reduceIte, Nat.reduceLT, Nat.reduceLeDiff, Nat.reduceEqDiff, Nat.reduceAdd, Nat.reduceSub, Nat.reduceBEq, reduceCtorEq, *]
    | contradiction
    | refine wT ?_ ?_ <;> intro _
    | refine wF ?_ ?_ <;> intro _
    | refine cD ?_ ?_ <;> intro _
    | refine dO (by kernel_rfl) ?_
    | refine Fin.q ?_ ?_
    | refine Fin.qn ?_ ?_
  obtain ⟨rfl⟩ := hy
  refine AW.seqG (fun y hy => AW.of_run (callX_sound _) mix ?_)
  rcases h2 with hcuts | hcuts
  · have hE : (ints s.cuts).isEmpty = true := by rw [hcuts]; rfl
    have er : s.row = [.int .i64 s.kind, .int .i64 s.band, .int .i64 s.gap, .int .i64 s.len, .int .i64 s.pcs, .vs []] := by simp [Sc.row, hcuts, ints]
    clear hcuts
    repeat' first
      | simp (maxSteps := 1000000) only [go_sem, Int.reduceLT, Int.reduceLE, Int.reduceToNat, Int.reduceEq, Nat.reduceMul, ↓reduceIte, Nat.reduceLT, Nat.reduceLeDiff, Nat.reduceEqDiff, Nat.reduceAdd, Nat.reduceSub, Nat.reduceBEq, reduceCtorEq, *, ints_len]
      | contradiction
      | refine wT ?_ ?_ <;> intro _
      | refine wF ?_ ?_ <;> intro _
      | refine cD ?_ ?_ <;> intro _
      | refine dO (by kernel_rfl) ?_
      | refine Fin.q ?_ ?_
      | refine Fin.qn ?_ ?_
    refine AW.conv (s' := ⟨27, [(6, .ptr 1 1 0 0), (3, .ptr 0 1 0 0), (1, .int .i64 c), (2, .zs)], [some [s.row], some [zrow]]⟩) (Conv.trans (s1 := ⟨27, [(6, .ptr 1 1 0 0), (3, .ptr 0 1 0 0), (1, .int .i64 c), (2, .zs)], [some [[.int .i64 s.kind, .int .i64 s.band, .int .i64 s.gap, .int .i64 s.len, .int .i64 s.pcs, .nils]], some [zrow]]⟩) (Conv.mk ?_ ?_ ?_ ?_ ?_) (by rw [er]; exact Conv.weak ⟨.inr ⟨.inr ⟨.inl rfl, .inl rfl, .inl rfl, .inl rfl, .inl rfl, .inr ⟨.inr rfl, rfl⟩, trivial⟩, trivial⟩, .inl rfl, trivial⟩)) ?_
    iterate 5 (· simp (maxSteps := 1000000) only [go_sem, Int.reduceLT, Int.reduceLE, Int.reduceToNat, Int.reduceEq, Nat.reduceMul, ↓reduceIte, Nat.reduceLT, Nat.reduceLeDiff, Nat.reduceEqDiff, Nat.reduceAdd, Nat.reduceSub, Nat.reduceBEq, reduceCtorEq, zrow])
    obtain ⟨rfl⟩ := hy
    clear hE er
    refine AW.of_run (callX_sound _) mix ?_
    repeat' first
      | simp (maxSteps := 1000000) only [go_sem, Int.reduceLT, Int.reduceLE, Int.reduceToNat, Int.reduceEq, Nat.reduceMul, ↓reduceIte, Nat.reduceLT, Nat.reduceLeDiff, Nat.reduceEqDiff, Nat.reduceAdd, Nat.reduceSub, Nat.reduceBEq, reduceCtorEq, *, zrow]
      | contradiction
      | refine wT ?_ ?_ <;> intro _
      | refine wF ?_ ?_ <;> intro _
      | refine cD ?_ ?_ <;> intro _
      | refine dO (by kernel_rfl) ?_
      | refine kcRootR ?_
      | refine (kGrowR0 hc0 h8) ?_
      | ((first | refine Fin.q ?_ ?_ | refine Fin.qn ?_ ?_) <;> ((try simp (maxSteps := 1000000) only [go_sem, Int.reduceLT, Int.reduceLE, Int.reduceToNat, Int.reduceEq, Nat.reduceMul, ↓reduceIte, Nat.reduceLT, Nat.reduceLeDiff, Nat.reduceEqDiff, Nat.reduceAdd, Nat.reduceSub, Nat.reduceBEq, reduceCtorEq, *, zrow]) <;> (first | done | rfl)))
  · have hE : (ints s.cuts).isEmpty = false := by
      cases h : s.cuts with
      | nil => exact absurd h hcuts
      | cons a l => rfl
    have er : s.row = [.int .i64 s.kind, .int .i64 s.band, .int .i64 s.gap, .int .i64 s.len, .int .i64 s.pcs, V s.cuts] := rfl
    repeat' first
      | simp (maxSteps := 1000000) only [go_sem, Int.reduceLT, Int.reduceLE, Int.reduceToNat, Int.reduceEq, Nat.reduceMul, ↓reduceIte, Nat.reduceLT, Nat.reduceLeDiff, Nat.reduceEqDiff, Nat.reduceAdd, Nat.reduceSub, Nat.reduceBEq, reduceCtorEq, *, ints_len]
      | contradiction
      | refine wT ?_ ?_ <;> intro _
      | refine wF ?_ ?_ <;> intro _
      | refine cD ?_ ?_ <;> intro _
      | refine dO (by kernel_rfl) ?_
      | refine Fin.q ?_ ?_
      | refine Fin.qn ?_ ?_
    refine AW.conv (s' := ⟨27, [(6, .ptr 1 1 0 0), (3, .ptr 0 1 0 0), (1, .int .i64 c), (2, .zs)], [some [s.row], some [zrow], none, none]⟩) (Conv.trans (s1 := ⟨27, [(6, .ptr 1 1 0 0), (3, .ptr 0 1 0 0), (1, .int .i64 c), (2, .zs)], [some [[.int .i64 s.kind, .int .i64 s.band, .int .i64 s.gap, .int .i64 s.len, .int .i64 s.pcs, .rs 1 3 0 s.cuts.length s.cuts.length]], some [zrow], none, some (ints s.cuts)]⟩) (Conv.mk ?_ ?_ ?_ ?_ ?_) (Conv.freeze (b := 3) (by decide) ?_)) ?_
    iterate 5 (· simp (maxSteps := 1000000) only [go_sem, Int.reduceLT, Int.reduceLE, Int.reduceToNat, Int.reduceEq, Nat.reduceMul, ↓reduceIte, Nat.reduceLT, Nat.reduceLeDiff, Nat.reduceEqDiff, Nat.reduceAdd, Nat.reduceSub, Nat.reduceBEq, reduceCtorEq, zrow])
    · have zz : pureB [zrow] = true := rfl
      have zp : pureB (ints s.cuts) = true := ints_pure _
      have zr : pureB [[.int .i64 s.kind, .int .i64 s.band, .int .i64 s.gap, .int .i64 s.len, .int .i64 s.pcs, .rs 1 3 0 s.cuts.length s.cuts.length]] = false := rfl
      have zt : (ints s.cuts).take s.cuts.length = ints s.cuts := by rw [List.take_of_length_le]; simp [ints]
      have zl : (ints s.cuts).length = s.cuts.length := by simp [ints]
      simp [AH.freeze, frzH, frzTm, trB, trRow, trL, tr, unb, hget, zz, zp, zt, zl, zr, Sc.row]
    obtain ⟨rfl⟩ := hy
    clear hcuts hE er
    refine AW.of_run (callX_sound _) mix ?_
    repeat' first
      | simp (maxSteps := 1000000) only [go_sem, Int.reduceLT, Int.reduceLE, Int.reduceToNat, Int.reduceEq, Nat.reduceMul, ↓reduceIte, Nat.reduceLT, Nat.reduceLeDiff, Nat.reduceEqDiff, Nat.reduceAdd, Nat.reduceSub, Nat.reduceBEq, reduceCtorEq, *, zrow]
      | contradiction
      | refine wT ?_ ?_ <;> intro _
      | refine wF ?_ ?_ <;> intro _
      | refine cD ?_ ?_ <;> intro _
      | refine dO (by kernel_rfl) ?_
      | refine kcRootR ?_
      | refine (kGrowR0 hc0 h8) ?_
      | ((first | refine Fin.q ?_ ?_ | refine Fin.qn ?_ ?_) <;> ((try simp (maxSteps := 1000000) only [go_sem, Int.reduceLT, Int.reduceLE, Int.reduceToNat, Int.reduceEq, Nat.reduceMul, ↓reduceIte, Nat.reduceLT, Nat.reduceLeDiff, Nat.reduceEqDiff, Nat.reduceAdd, Nat.reduceSub, Nat.reduceBEq, reduceCtorEq, *, zrow]) <;> (first | done | rfl)))
set_option maxHeartbeats 2000000 in
set_option maxRecDepth 20000 in
theorem cOfR0 (s : Sc) (c : Int) (hs : s.ok) (h1 : 1 ≤ c) (h2 : c ≤ 64) : FC Tryz.prog 35 [.agg s.row, .int .i64 c, .zs] [] (.tup [.agg (ofT s c []).row, .int .i64 0]) [] := by
  refine FC.of_run mix Tryz.func35 rfl rfl (by simp [Tryz.ntmps35]) ?_
  have h0 : ofE s c [] = 0 := by
    have h : sorted s [] := fun i hi => by simp at hi
    unfold ofE
    rw [if_pos (emE_0.2 ⟨hs, h1, h2⟩), if_neg (by decide), if_pos h]
  have e1 : ofT s c [] = ⟨s, c, [⟨rootW s, 0, -1, -1, []⟩]⟩ := by rw [(ofT_ok h0).2.2.2, growF_leaf (d := 31) (by simp; omega)]
  have kM : ∀ {H : Heap} {slot : Nat} {K : D → List (Nat × Blk) → List (Nat × Blk) → Prop}, K (.agg (⟨s, c, [⟨rootW s, 0, -1, -1, []⟩]⟩ : Tr).row) [] [] → @callB ⟨callX Tryz.prog⟩ 44 [.agg s.row, .int .i64 c, .zs] H slot ⟨K⟩ := fun {H slot K} hK => by
    have he : rdOf H ([] ++ D.idsL [.agg s.row, .int .i64 c, .zs]) = [] := by simp [D.idsL, D.ids, rdOf, Sc.row]
    refine .inl ⟨[], false, false, [.agg s.row, .int .i64 c, .zs], [], _, _, [], [], by simp, ?_, rfl, cMadeR0 s c hs h1, by simp, rfl, rfl, fun h => (nomatch h), ?_⟩
    · simp [trL, tr, Sc.row]
    · rw [he]; exact hK
  have kCk : ∀ {H : Heap} {slot : Nat} {K : D → List (Nat × Blk) → List (Nat × Blk) → Prop}, K (.int .i64 0) [] [] → @callB ⟨callX Tryz.prog⟩ 36 [.agg s.row] H slot ⟨K⟩ := fun hK => kcwCheckR (by rw [if_pos hs]; exact hK)
  have g1 : (c < 1) = False := by simp only [eq_iff_iff, iff_false]; omega
  have g2 : (64 < c) = False := by simp only [eq_iff_iff, iff_false]; omega
  rw [e1]
  clear e1 h0 h1 h2
  repeat' first
    | simp (maxSteps := 1000000) only [go_sem, Int.reduceLT, Int.reduceLE, Int.reduceToNat, Int.reduceEq, Nat.reduceMul, ↓reduceIte, Nat.reduceLT, Nat.reduceLeDiff, Nat.reduceEqDiff, Nat.reduceAdd, Nat.reduceSub, Nat.reduceBEq, reduceCtorEq, *]
    | contradiction
    | refine wT ?_ ?_ <;> intro _
    | refine wF ?_ ?_ <;> intro _
    | refine cD ?_ ?_ <;> intro _
    | refine dO (by kernel_rfl) ?_
    | refine kCk ?_
    | refine kSortedR0 ?_
    | refine kM ?_
    | ((first | refine Fin.q ?_ ?_ | refine Fin.qn ?_ ?_) <;> ((try simp (maxSteps := 1000000) only [go_sem, Int.reduceLT, Int.reduceLE, Int.reduceToNat, Int.reduceEq, Nat.reduceMul, ↓reduceIte, Nat.reduceLT, Nat.reduceLeDiff, Nat.reduceEqDiff, Nat.reduceAdd, Nat.reduceSub, Nat.reduceBEq, reduceCtorEq, *]) <;> (first | done | rfl)))
theorem kOfR0 {s : Sc} {c : Int} {H : Heap} {slot : Nat} {K : D → List (Nat × Blk) → List (Nat × Blk) → Prop} (hs : s.ok) (h1 : 1 ≤ c) (h2 : c ≤ 64) (hK : K (.tup [.agg (ofT s c []).row, .int .i64 0]) [] []) : @callB ⟨callX Tryz.prog⟩ 35 [.agg s.row, .int .i64 c, .zs] H slot ⟨K⟩ := by
  have he : rdOf H ([] ++ D.idsL [.agg s.row, .int .i64 c, .zs]) = [] := by simp [D.idsL, D.ids, rdOf, Sc.row]
  refine .inl ⟨[], false, false, [.agg s.row, .int .i64 c, .zs], [], _, _, [], [], by simp, ?_, rfl, cOfR0 s c hs h1 h2, by simp, rfl, rfl, fun h => (nomatch h), ?_⟩
  · simp [trL, tr, Sc.row]
  · rw [he]; exact hK
set_option maxHeartbeats 2000000 in
set_option maxRecDepth 20000 in
theorem cNewR (s : Sc) (c : Int) (hs : s.ok) (h1 : 1 ≤ c) (h2 : c ≤ 64) : FC Tryz.prog 15 [.agg s.row, .int .i64 c] [] (.tup [.agg (ofT s c []).row, .int .i64 0]) [] := by
  refine FC.of_run mix Tryz.func15 rfl rfl (by simp [Tryz.ntmps15]) ?_
  repeat' first
    | simp (maxSteps := 1000000) only [go_sem, Int.reduceLT, Int.reduceLE, Int.reduceToNat, Int.reduceEq, Nat.reduceMul, ↓reduceIte, Nat.reduceLT, Nat.reduceLeDiff, Nat.reduceEqDiff, Nat.reduceAdd, Nat.reduceSub, Nat.reduceBEq, reduceCtorEq, *]
    | contradiction
    | refine wT ?_ ?_ <;> intro _
    | refine wF ?_ ?_ <;> intro _
    | refine cD ?_ ?_ <;> intro _
    | refine dO (by kernel_rfl) ?_
    | refine (kOfR0 hs h1 h2) ?_
    | ((first | refine Fin.q ?_ ?_ | refine Fin.qn ?_ ?_) <;> ((try simp (maxSteps := 1000000) only [go_sem, Int.reduceLT, Int.reduceLE, Int.reduceToNat, Int.reduceEq, Nat.reduceMul, ↓reduceIte, Nat.reduceLT, Nat.reduceLeDiff, Nat.reduceEqDiff, Nat.reduceAdd, Nat.reduceSub, Nat.reduceBEq, reduceCtorEq, *]) <;> (first | done | rfl)))
set_option maxRecDepth 20000 in
theorem kcNewR {s : Sc} {c : Int} {H : Heap} {slot : Nat} {K : D → List (Nat × Blk) → List (Nat × Blk) → Prop} (hK : K (.tup [.agg (ofT s c []).row, .int .i64 0]) [] []) (hs : s.ok := by first | assumption | omega) (h1 : 1 ≤ c := by first | assumption | omega) (h2 : c ≤ 64 := by first | assumption | omega) : @callB ⟨callX Tryz.prog⟩ 15 [.agg s.row, .int .i64 c] H slot ⟨K⟩ := by
  have he0 : rdOf H (D.idsL [.agg s.row, .int .i64 c]) = [] := by simp (maxSteps := 1000000) only [go_sem, Int.reduceLT, Int.reduceLE, Int.reduceToNat, Int.reduceEq, Nat.reduceMul, ↓reduceIte, Nat.reduceLT, Nat.reduceLeDiff, Nat.reduceEqDiff, Nat.reduceAdd, Nat.reduceSub, Nat.reduceBEq, reduceCtorEq]
  refine call0 false (cNewR s c hs h1 h2) ?_ ?_ (fun h => nomatch h) (by rw [he0]; exact hK)
  iterate 2 (· simp (maxSteps := 1000000) only [go_sem, Int.reduceLT, Int.reduceLE, Int.reduceToNat, Int.reduceEq, Nat.reduceMul, ↓reduceIte, Nat.reduceLT, Nat.reduceLeDiff, Nat.reduceEqDiff, Nat.reduceAdd, Nat.reduceSub, Nat.reduceBEq, reduceCtorEq])
end TR

/- tree.Copy. -/
open Go Go.Proofs Go.AH
set_option linter.unusedSimpArgs false
set_option linter.unusedVariables false
namespace TR
set_option maxRecDepth 20000 in
theorem cCloneO_nd (l : List Nd) (hn : l ≠ []) (hl : l.length ≤ 4294967296) : FC Tryz.prog 95 [.vs (nods l)] [] (.rs 6 0 0 l.length l.length) [nods l] := by
  refine FC.of_run mix Tryz.func95 rfl rfl (by simp [Tryz.ntmps95]) ?_
  rcases l with _ | ⟨a, l⟩
  · exact absurd rfl hn
  · simp only [List.length_cons] at hl
    have hc : l.length + 1 ≤ capMax := hl
    simp (maxSteps := 1000000) only [go_sem, Int.reduceLT, Int.reduceLE, Int.reduceToNat, Int.reduceEq, Nat.reduceMul, ↓reduceIte, Nat.reduceLT, Nat.reduceLeDiff, Nat.reduceEqDiff, Nat.reduceAdd, Nat.reduceSub, Nat.reduceBEq, reduceCtorEq, nods_cons, Nd.row]
    repeat' first
      | simp (maxSteps := 1000000) only [go_sem, Int.reduceLT, Int.reduceLE, Int.reduceToNat, Int.reduceEq, Nat.reduceMul, ↓reduceIte, Nat.reduceLT, Nat.reduceLeDiff, Nat.reduceEqDiff, Nat.reduceAdd, Nat.reduceSub, Nat.reduceBEq, reduceCtorEq, *, List.isEmpty_cons, nods_cons, Nd.row, hc, List.take_length, List.drop_zero]
      | contradiction
      | refine wT ?_ ?_ <;> intro _
      | refine wF ?_ ?_ <;> intro _
      | refine cD ?_ ?_ <;> intro _
      | refine dO (by kernel_rfl) ?_
      | refine Fin.qy [1] (by simp) (by simp) ?_ ?_
theorem kCloneNO {l : List Nd} {H : Heap} {slot : Nat} {K : D → List (Nat × Blk) → List (Nat × Blk) → Prop} (hn : l ≠ []) (hl : l.length ≤ 4294967296) (hK : K (.rs 6 slot 0 l.length l.length) [(slot, nods l)] []) : @callB ⟨callX Tryz.prog⟩ 95 [.vs (nods l)] H slot ⟨K⟩ := by
  refine callO (cCloneO_nd l hn hl) rfl (r' := .rs 6 slot 0 l.length l.length) (outs' := [nods l]) rfl ?_ (by simp) hK
  simp [backB, trB, pureB, nods_pure]
theorem nset_self {l : List Nd} {i : Nat} (h : i < l.length) : (nods l).set i [V (l.getD i default).w.s, V (l.getD i default).w.b, .int .i64 (l.getD i default).piece, .int .i64 (l.getD i default).left, .int .i64 (l.getD i default).right, .vs (ents (l.getD i default).es)] = nods l := by
  have := nods_get h
  apply List.ext_getElem?
  intro j
  rw [List.getElem?_set]
  split
  · rename_i e
    subst e
    rw [if_pos (by rw [nods_len]; exact h), this]
    rfl
  · rfl
set_option maxHeartbeats 2000000 in
set_option maxRecDepth 20000 in
theorem cTCopy (t : Tr) (h0 : t.ns ≠ []) (hc : t.sc.cuts.length ≤ 4294967296) (hn : t.ns.length ≤ 1000000) (hw : ∀ x, x ∈ t.ns → x.lens ∧ x.es.length ≤ 1000000) : FC Tryz.prog 51 [.agg t.row] [] (.agg t.row) [] := by
  refine FC.of_run mix Tryz.func51 rfl rfl (by simp [Tryz.ntmps51]) ?_
  have hn2 : t.ns.length ≤ 4294967296 := by omega
  repeat' first
    | simp (maxSteps := 1000000) only [go_sem, Int.reduceLT, Int.reduceLE, Int.reduceToNat, Int.reduceEq, Nat.reduceMul, ↓reduceIte, Nat.reduceLT, Nat.reduceLeDiff, Nat.reduceEqDiff, Nat.reduceAdd, Nat.reduceSub, Nat.reduceBEq, reduceCtorEq, *, nods_len]
    | contradiction
    | refine wT ?_ ?_ <;> intro _
    | refine wF ?_ ?_ <;> intro _
    | refine cD ?_ ?_ <;> intro _
    | refine dO (by kernel_rfl) ?_
    | refine (kClone (l := t.sc.cuts)) ?_
    | refine (kCloneNO h0 hn2) ?_
    | refine Fin.q ?_ ?_
    | refine Fin.qn ?_ ?_
  refine AW.loopx (σ := Nat) mix (fun i => ⟨41, [(18, .int .i64 i), (17, .int .i64 t.ns.length), (16, .rs 6 14 0 t.ns.length t.ns.length), (2, .ptr 1 1 0 0), (1, .ptr 0 1 0 0)], [some [trow t.sc t.cap 14 t.ns.length], some [zrow], none, none, none, none, none, none, none, none, none, none, none, none, some (nods t.ns)]⟩) (fun i => i ≤ t.ns.length) (fun i => t.ns.length - i) 0 (Nat.zero_le _) (Conv.mk ?_ ?_ ?_ ?_ ?_) ?_
  iterate 5 (· (simp (maxSteps := 1000000) only [go_sem, Int.reduceLT, Int.reduceLE, Int.reduceToNat, Int.reduceEq, Nat.reduceMul, ↓reduceIte, Nat.reduceLT, Nat.reduceLeDiff, Nat.reduceEqDiff, Nat.reduceAdd, Nat.reduceSub, Nat.reduceBEq, reduceCtorEq, zrow]) <;> (first | rfl | (simp [ints]; done) | (simp [*]; done) | ((repeat' (first | rfl | apply And.intro)); done)))
  intro i hi
  have hv := wrap1 (i := i) (by omega)
  by_cases h : i < t.ns.length
  · have hx := nods_get h
    have hy := nset_self h
    have hm : t.ns.getD i default ∈ t.ns := by simp [List.getD, h]
    obtain ⟨⟨e1, e2, e3, e4⟩, e5⟩ := hw _ hm
    have e6 : ∀ k, k < (t.ns.getD i default).es.length → ((t.ns.getD i default).es.getD k default).lens := fun k hk => e4 _ (getD_mem' hk)
    clear hw hm e4
    generalize t.ns.getD i default = x at *
    repeat' first
      | simp (maxSteps := 1000000) only [go_sem, Int.reduceLT, Int.reduceLE, Int.reduceToNat, Int.reduceEq, Nat.reduceMul, ↓reduceIte, Nat.reduceLT, Nat.reduceLeDiff, Nat.reduceEqDiff, Nat.reduceAdd, Nat.reduceSub, Nat.reduceBEq, reduceCtorEq, *, Nd.row, nods_len, zrow, List.drop_zero]
      | contradiction
      | refine wT ?_ ?_ <;> intro _
      | refine wF ?_ ?_ <;> intro _
      | refine cD ?_ ?_ <;> intro _
      | refine dO (by kernel_rfl) ?_
      | refine (kcwords (w := x.w) (h1 := e1) (h2 := e2)) ?_
      | refine (kceCopy (l := x.es) (hl := e3) (hw := e6)) ?_
      | (refine ⟨i + 1, ?_, ?_, Conv.mk ?_ ?_ ?_ ?_ ?_⟩; (· (first | omega | (simp only; omega) | (simp only [List.length_nil, List.length_cons]; omega))); (· (omega)))
      | refine Fin.q ?_ ?_
      | refine Fin.qn ?_ ?_
  · have hz : ((i : Int) < (t.ns.length : Int)) = False := by simp only [eq_iff_iff, iff_false]; omega
    have hp : List.take t.ns.length (nods t.ns) = nods t.ns := by rw [List.take_of_length_le]; rw [nods_len]; exact Nat.le_refl _
    clear hw
    repeat' first
      | simp (maxSteps := 1000000) only [go_sem, Int.reduceLT, Int.reduceLE, Int.reduceToNat, Int.reduceEq, Nat.reduceMul, ↓reduceIte, Nat.reduceLT, Nat.reduceLeDiff, Nat.reduceEqDiff, Nat.reduceAdd, Nat.reduceSub, Nat.reduceBEq, reduceCtorEq, *, nods_len, zrow, List.drop_zero, eq_self, Nat.zero_add]
      | contradiction
      | refine wT ?_ ?_ <;> intro _
      | refine wF ?_ ?_ <;> intro _
      | refine cD ?_ ?_ <;> intro _
      | refine dO (by kernel_rfl) ?_
      | ((first | refine Fin.q ?_ ?_ | refine Fin.qn ?_ ?_) <;> ((try simp (maxSteps := 1000000) only [go_sem, Int.reduceLT, Int.reduceLE, Int.reduceToNat, Int.reduceEq, Nat.reduceMul, ↓reduceIte, Nat.reduceLT, Nat.reduceLeDiff, Nat.reduceEqDiff, Nat.reduceAdd, Nat.reduceSub, Nat.reduceBEq, reduceCtorEq, *, nods_len, zrow, List.drop_zero, eq_self, Nat.zero_add]) <;> (first | done | rfl)))
set_option maxRecDepth 20000 in
theorem kcTCopy {t : Tr} {H : Heap} {slot : Nat} {K : D → List (Nat × Blk) → List (Nat × Blk) → Prop} (hK : K (.agg t.row) [] []) (h0 : t.ns ≠ [] := by first | assumption | omega) (hc : t.sc.cuts.length ≤ 4294967296 := by first | assumption | omega) (hn : t.ns.length ≤ 1000000 := by first | assumption | omega) (hw : ∀ x, x ∈ t.ns → x.lens ∧ x.es.length ≤ 1000000 := by first | assumption | omega) : @callB ⟨callX Tryz.prog⟩ 51 [.agg t.row] H slot ⟨K⟩ := by
  have he0 : rdOf H (D.idsL [.agg t.row]) = [] := by simp (maxSteps := 1000000) only [go_sem, Int.reduceLT, Int.reduceLE, Int.reduceToNat, Int.reduceEq, Nat.reduceMul, ↓reduceIte, Nat.reduceLT, Nat.reduceLeDiff, Nat.reduceEqDiff, Nat.reduceAdd, Nat.reduceSub, Nat.reduceBEq, reduceCtorEq]
  refine call0 false (cTCopy t h0 hc hn hw) ?_ ?_ (fun h => nomatch h) (by rw [he0]; exact hK)
  iterate 2 (· simp (maxSteps := 1000000) only [go_sem, Int.reduceLT, Int.reduceLE, Int.reduceToNat, Int.reduceEq, Nat.reduceMul, ↓reduceIte, Nat.reduceLT, Nat.reduceLeDiff, Nat.reduceEqDiff, Nat.reduceAdd, Nat.reduceSub, Nat.reduceBEq, reduceCtorEq])
end TR

/- Sorting entries that may be there twice. -/
open Go Go.Proofs Go.AH
set_option linter.unusedSimpArgs false
set_option linter.unusedVariables false
namespace TR
theorem kle_neg {x y z : En} (h : kle z y) : kle z x ∨ kle x y := by
  unfold kle at *
  omega
/-- Sorted by laying in, one after the other. -/
def srtI (s : Sc) : List En → List En
  | [] => []
  | e :: l => insE s e (srtI s l)
theorem srtI_perm (s : Sc) : ∀ l, (srtI s l).Perm l
  | [] => List.Perm.refl _
  | e :: l => (insE_perm s e _).trans ((srtI_perm s l).cons e)
theorem insE_pw' (s : Sc) (e : En) (he : e.ok s) : ∀ l : List En, (∀ x, x ∈ l → x.ok s) → l.Pairwise (fun a b => ¬ kle b a) → (insE s e l).Pairwise (fun a b => ¬ kle b a)
  | [], _, _ => by simp [insE]
  | x :: l, ho, hp => by
    obtain ⟨h1, h2⟩ := List.pairwise_cons.1 hp
    have ox := ho x (by simp)
    simp only [insE]
    split
    · rename_i h
      have hxe := (ecmp_kle ox he).1 h
      refine List.pairwise_cons.2 ⟨fun z hz => ?_, insE_pw' s e he l (fun y hy => ho y (by simp [hy])) h2⟩
      rcases List.mem_cons.1 ((insE_perm s e l).subset hz) with rfl | hz
      · exact kle_irr hxe
      · exact h1 z hz
    · rename_i h
      have hxe : ¬ kle x e := fun hk => h ((ecmp_kle ox he).2 hk)
      refine List.pairwise_cons.2 ⟨fun z hz => ?_, hp⟩
      rcases List.mem_cons.1 hz with rfl | hz
      · exact hxe
      · intro hk
        rcases kle_neg (x := x) hk with q | q
        · exact h1 z hz q
        · exact hxe q
theorem srtI_pw (s : Sc) : ∀ l : List En, (∀ x, x ∈ l → x.ok s) → (srtI s l).Pairwise (fun a b => ¬ kle b a)
  | [], _ => List.Pairwise.nil
  | e :: l, ho => insE_pw' s e (ho e (by simp)) _ (fun x hx => ho x (by simp [(srtI_perm s l).subset hx])) (srtI_pw s l (fun x hx => ho x (by simp [hx])))
/-- There is one sorted order where those that are not apart are the same. -/
theorem kle_uniq' : ∀ {x y : List En}, x.Perm y → x.Pairwise (fun a b => ¬ kle b a) → y.Pairwise (fun a b => ¬ kle b a) → (∀ a, a ∈ x → ∀ b, b ∈ x → a = b ∨ kle a b ∨ kle b a) → x = y
  | [], y, h, _, _, _ => by simpa using h
  | a :: x, [], h, _, _, _ => by simp at h
  | a :: x, b :: y, h, hx, hy, hd => by
    obtain ⟨xa, xp⟩ := List.pairwise_cons.1 hx
    obtain ⟨yb, yp⟩ := List.pairwise_cons.1 hy
    have hb : b ∈ a :: x := h.symm.subset (by simp)
    have hab : a = b := by
      rcases List.mem_cons.1 (h.subset (by simp : a ∈ a :: x)) with e | ha
      · exact e
      · rcases List.mem_cons.1 hb with e | hb'
        · exact e.symm
        · rcases hd a (by simp) b hb with e | e | e
          · exact e
          · exact absurd e (yb a ha)
          · exact absurd e (xa b hb')
    subst hab
    rw [kle_uniq' (List.Perm.cons_inv h) xp yp (fun p hp q hq => hd p (by simp [hp]) q (by simp [hq]))]
end TR

/- Entries that are there twice, in plain; sorting entries by the library's contract. -/
open Go Go.Proofs Go.AH
set_option linter.unusedSimpArgs false
set_option linter.unusedVariables false
namespace TR
theorem adj_pw : ∀ {M : List En}, (∀ j, 0 < j → j < M.length → kle (M.getD (j - 1) default) (M.getD j default)) → M.Pairwise kle
  | [], _ => List.Pairwise.nil
  | [a], _ => by simp
  | a :: b :: M, h => by
    have h1 : (b :: M).Pairwise kle := adj_pw fun j h0 hj => by
      have := h (j + 1) (by omega) (by simp at hj ⊢; omega)
      obtain ⟨k, rfl⟩ : ∃ k, j = k + 1 := ⟨j - 1, by omega⟩
      simpa [List.getD] using this
    have hab : kle a b := by
      have := h 1 (by omega) (by simp)
      simpa [List.getD] using this
    refine List.pairwise_cons.2 ⟨fun z hz => ?_, h1⟩
    rcases List.mem_cons.1 hz with rfl | hz
    · exact hab
    · exact kle_trans hab ((List.pairwise_cons.1 h1).1 z hz)
theorem pw_apart {M : List En} (h : M.Pairwise kle) : apart M := h.imp fun h => .inl h
theorem dup_pw {M L l : List En} {e : En} (hp : M.Perm (L ++ l)) (h1 : e ∈ L) (h2 : e ∈ l) : ¬ M.Pairwise kle := fun hM => by
  have ha : apart (L ++ l) := apart_perm hp (pw_apart hM)
  rcases apart_cross ha e h1 e h2 with h | h <;> exact kle_irr h h
/-- An entry follows one that is the same, in a sorted list. -/
theorem adj_eq {s : Sc} {a b : En} (ha : a.ok s) (hb : b.ok s) (h1 : ¬ kle b a) (h2 : ¬ kle a b) : ecmp s a b = 0 := by
  rw [ecmp_0 ha hb]
  unfold kle at h1 h2
  omega
theorem pw_get {M : List En} {R : En → En → Prop} (h : M.Pairwise R) {i j : Nat} (hij : i < j) (hj : j < M.length) : R (M.getD i default) (M.getD j default) := by
  have := List.pairwise_iff_getElem.1 h i j (by omega) hj hij
  simpa [List.getD, show i < M.length from by omega, hj] using this
/-- Entries of which any two are the same or apart. -/
def eqAp (l : List En) : Prop := ∀ a, a ∈ l → ∀ b, b ∈ l → a = b ∨ kle a b ∨ kle b a
theorem apart_eqAp {l : List En} (h : apart l) : eqAp l := fun a ha b hb => by
  obtain ⟨i, hi, rfl⟩ := List.getElem_of_mem ha
  obtain ⟨j, hj, rfl⟩ := List.getElem_of_mem hb
  rcases Nat.lt_trichotomy i j with h1 | h1 | h1
  · exact .inr (List.pairwise_iff_getElem.1 h i j hi hj h1)
  · subst h1; exact .inl rfl
  · exact .inr (List.pairwise_iff_getElem.1 h j i hj hi h1).symm
theorem eqAp_sub {l l' : List En} (h : eqAp l) (hs : ∀ a, a ∈ l' → a ∈ l) : eqAp l' := fun a ha b hb => h a (hs a ha) b (hs b hb)
/-- What the library's sort makes of entries. -/
theorem sort_is {s : Sc} {l : List En} (hok : ∀ e, e ∈ l → e.ok s) (he : eqAp l) (p : List Nat) (hp : p.Perm (List.range l.length)) (hs : ∀ i j, i < j → j < l.length → ¬ ecmp s (l.getD (p.getD j 0) default) (l.getD (p.getD i 0) default) < 0) :
    p.map (fun i => (ents l).getD i []) = ents (srtI s l) := by
  have hlen : p.length = l.length := by simpa using hp.length_eq
  have hlt : ∀ i, i ∈ p → i < l.length := fun i hi => by simpa using hp.subset hi
  have e1 : p.map (fun i => (ents l).getD i []) = ents (p.map fun i => l.getD i default) := by
    unfold ents
    rw [List.map_map]
    apply List.map_congr_left
    intro i hi
    have := hlt i hi
    simp [List.getD, this]
  have hrange : (List.range l.length).map (fun i => l.getD i default) = l := by
    apply List.ext_getElem
    · simp
    · intro i h1 h2
      simp [List.getD, h2]
  have hperm : (p.map fun i => l.getD i default).Perm l := by
    have := hp.map (fun i => l.getD i default)
    rwa [hrange] at this
  have hpw : (p.map fun i => l.getD i default).Pairwise (fun a b => ¬ kle b a) := by
    rw [List.pairwise_iff_getElem]
    intro i j h1 h2 hij
    simp only [List.length_map] at h1 h2
    simp only [List.getElem_map]
    have := hs i j hij (by omega)
    simp only [List.getD, List.getElem?_eq_getElem h1, List.getElem?_eq_getElem h2, Option.getD_some] at this ⊢
    have o1 := hlt _ (List.getElem_mem h1)
    have o2 := hlt _ (List.getElem_mem h2)
    simp only [List.getElem?_eq_getElem o1, List.getElem?_eq_getElem o2, Option.getD_some] at this ⊢
    exact fun hk => this ((ecmp_kle (hok _ (List.getElem_mem _)) (hok _ (List.getElem_mem _))).2 hk)
  rw [e1, kle_uniq' (hperm.trans (srtI_perm s l).symm) hpw (srtI_pw s l hok) (eqAp_sub he fun a ha => hperm.subset ha)]
theorem swo_of {s : Sc} {l : List En} (hok : ∀ e, e ∈ l → e.ok s) (hn : 0 < l.length) : Go.Sort.SWO (ltOf fun i j => ecmp s (l.getD (min i (l.length - 1)) default) (l.getD (min j (l.length - 1)) default)) := by
  have ho : ∀ i, (l.getD (min i (l.length - 1)) default).ok s := fun i => hok _ (getD_mem' (by omega))
  have hlt : ∀ i j, ltOf (fun i j => ecmp s (l.getD (min i (l.length - 1)) default) (l.getD (min j (l.length - 1)) default)) i j = true ↔ kle (l.getD (min i (l.length - 1)) default) (l.getD (min j (l.length - 1)) default) := fun i j => by
    unfold ltOf
    rw [decide_eq_true_iff]
    exact ecmp_kle (ho i) (ho j)
  refine ⟨fun x => ?_, fun x y z h1 h2 => ?_, fun x y z h1 h2 => ?_⟩
  · cases h : ltOf (fun i j => ecmp s (l.getD (min i (l.length - 1)) default) (l.getD (min j (l.length - 1)) default)) x x with
    | false => rfl
    | true => exact absurd ((hlt x x).1 h) (fun hk => kle_irr hk hk)
  · exact (hlt x z).2 (kle_trans ((hlt x y).1 h1) ((hlt y z).1 h2))
  · cases h : ltOf (fun i j => ecmp s (l.getD (min i (l.length - 1)) default) (l.getD (min j (l.length - 1)) default)) x z with
    | false => rfl
    | true =>
      rcases kle_neg (x := l.getD (min y (l.length - 1)) default) ((hlt x z).1 h) with q | q
      · rw [(hlt x y).2 q] at h1; cases h1
      · rw [(hlt y z).2 q] at h2; cases h2
/-- slices.SortFunc at entries, by a comparison that orders them. -/
theorem cSortE {f g : Nat} {caps : List D} (hc : Callable Tryz.prog f) (hS : SortsAt Tryz.prog f g 4) (hcaps : D.refsL (fun _ => false) caps = true) {s : Sc} (hg : ∀ x y : En, FC Tryz.prog g (.agg x.row :: .agg y.row :: caps) [] (.int .i64 (ecmp s x y)) []) {l : List En} (hok : ∀ e, e ∈ l → e.ok s) (he : eqAp l) (h0 : 0 < l.length) (hl : l.length ≤ 100000) :
    FC Tryz.prog f [.rs 4 0 0 l.length l.length, .fn g caps] [ents l] (.tup []) [ents (srtI s l)] :=
  FC.sort (q := fun i j => ecmp s (l.getD i default) (l.getD j default)) hc (ents_len _) h0 (by decide) (by omega) (ents_pure _) hcaps (fun i j hi hj => by
    have e1 : (ents l).getD i [] = (l.getD i default).row := by simp [ents, List.getD, hi]
    have e2 : (ents l).getD j [] = (l.getD j default).row := by simp [ents, List.getD, hj]
    rw [e1, e2]
    exact hg _ _) (swo_of hok h0) hS (fun p hp hs => sort_is hok he p hp hs)
end TR

namespace Go.Proofs
open Go.Shelf
def tzSort_ren : Go.Shelf.Ren := ⟨fun | 6 => 57 | 15 => 103 | 14 => 102 | 28 => 153 | 29 => 154 | 20 => 145 | 21 => 146 | 22 => 147 | 23 => 148 | 24 => 149 | 25 => 150 | 26 => 151 | 27 => 152 | 46 => 181 | 47 => 182 | 48 => 183 | 49 => 184 | 50 => 185 | 57 => 196 | n => n, fun | 22 => 48 | 24 => 57 | 25 => 95 | 3 => 3 | 39 => 135 | 0 => 0 | 53 => 167 | 55 => 169 | 4 => 4 | 46 => 161 | 45 => 160 | 50 => 139 | 5 => 5 | 9 => 9 | 66 => 183 | 70 => 187 | 76 => 195 | 77 => 65 | n => n, fun | n => n⟩
theorem tzSort : Go.Proofs.SlLaysF0.n6 Tryz.prog tzSort_ren := {
  mixed := by kernel_rfl
  f6 := ⟨Tryz.f57.name, by decide, Tryz.func57.trans (congrArg some (by kernel_rfl))⟩
  f14 := ⟨Tryz.f102.name, by decide, Tryz.func102.trans (congrArg some (by kernel_rfl))⟩
  f15 := Tryz.func103.trans (congrArg some (by kernel_rfl))
  f20 := ⟨Tryz.f145.name, by decide, Tryz.func145.trans (congrArg some (by kernel_rfl))⟩
  f21 := ⟨Tryz.f146.name, by decide, Tryz.func146.trans (congrArg some (by kernel_rfl))⟩
  f22 := ⟨Tryz.f147.name, by decide, Tryz.func147.trans (congrArg some (by kernel_rfl))⟩
  f23 := ⟨Tryz.f148.name, by decide, Tryz.func148.trans (congrArg some (by kernel_rfl))⟩
  f24 := ⟨Tryz.f149.name, by decide, Tryz.func149.trans (congrArg some (by kernel_rfl))⟩
  f25 := ⟨Tryz.f150.name, by decide, Tryz.func150.trans (congrArg some (by kernel_rfl))⟩
  f26 := ⟨Tryz.f151.name, by decide, Tryz.func151.trans (congrArg some (by kernel_rfl))⟩
  f27 := ⟨Tryz.f152.name, by decide, Tryz.func152.trans (congrArg some (by kernel_rfl))⟩
  f28 := Tryz.func153.trans (congrArg some (by kernel_rfl))
  f29 := Tryz.func154.trans (congrArg some (by kernel_rfl))
  f46 := ⟨Tryz.f181.name, by decide, Tryz.func181.trans (congrArg some (by kernel_rfl))⟩
  f47 := Tryz.func182.trans (congrArg some (by kernel_rfl))
  f48 := Tryz.func183.trans (congrArg some (by kernel_rfl))
  f49 := ⟨Tryz.f184.name, by decide, Tryz.func184.trans (congrArg some (by kernel_rfl))⟩
  f50 := ⟨Tryz.f185.name, by decide, Tryz.func185.trans (congrArg some (by kernel_rfl))⟩
  f57 := ⟨Tryz.f196.name, by decide, Tryz.func196.trans (congrArg some (by kernel_rfl))⟩
  t0 := Tryz.underlying0
  a0 := Tryz.isAgg0
  z0 := Tryz.sizeOf0
  v0 := Tryz.zeroValue0
  t3 := Tryz.underlying3
  a3 := Tryz.isAgg3
  z3 := Tryz.sizeOf3
  v3 := Tryz.zeroValue3
  t4 := Tryz.underlying4
  a4 := Tryz.isAgg4
  z4 := Tryz.sizeOf4
  v4 := Tryz.zeroValue4
  t5 := Tryz.underlying5
  a5 := Tryz.isAgg5
  z5 := Tryz.sizeOf5
  v5 := Tryz.zeroValue5
  t9 := Tryz.underlying9
  a9 := Tryz.isAgg9
  z9 := Tryz.sizeOf9
  v9 := Tryz.zeroValue9
  t22 := Tryz.underlying48
  a22 := Tryz.isAgg48
  z22 := Tryz.sizeOf48
  v22 := Tryz.zeroValue48
  t25 := Tryz.underlying95
  a25 := Tryz.isAgg95
  z25 := Tryz.sizeOf95
  v25 := Tryz.zeroValue95
  t39 := Tryz.underlying135
  a39 := Tryz.isAgg135
  z39 := Tryz.sizeOf135
  v39 := Tryz.zeroValue135
  t45 := Tryz.underlying160
  a45 := Tryz.isAgg160
  z45 := Tryz.sizeOf160
  v45 := Tryz.zeroValue160
  t46 := Tryz.underlying161
  a46 := Tryz.isAgg161
  z46 := Tryz.sizeOf161
  v46 := Tryz.zeroValue161
  t50 := Tryz.underlying139
  a50 := Tryz.isAgg139
  z50 := Tryz.sizeOf139
  v50 := Tryz.zeroValue139
  t53 := Tryz.underlying167
  a53 := Tryz.isAgg167
  z53 := Tryz.sizeOf167
  v53 := Tryz.zeroValue167
  t55 := Tryz.underlying169
  a55 := Tryz.isAgg169
  z55 := Tryz.sizeOf169
  v55 := Tryz.zeroValue169
  t66 := Tryz.underlying183
  a66 := Tryz.isAgg183
  z66 := Tryz.sizeOf183
  v66 := Tryz.zeroValue183
  t70 := Tryz.underlying187
  a70 := Tryz.isAgg187
  z70 := Tryz.sizeOf187
  v70 := Tryz.zeroValue187
  t76 := Tryz.underlying195
  a76 := Tryz.isAgg195
  z76 := Tryz.sizeOf195
  v76 := Tryz.zeroValue195
  t77 := Tryz.underlying65
  a77 := Tryz.isAgg65
  z77 := Tryz.sizeOf65
  v77 := Tryz.zeroValue65 }
end Go.Proofs
open Go Go.Proofs Go.AH
namespace TR
/-- slices.SortFunc at entries, by bulk.Add$1. -/
theorem sortsAdd : SortsAt Tryz.prog 57 53 4 := fun enc hk h1 cf hO cb blk off cap d w hcmp hH hblk hsz =>
  AnyQ.slices_SortFunc tzSort 4 Tryz.isAgg57 Tryz.sizeOf57 enc hk h1 cf hO 53 cb blk off cap d w (enters_of Tryz.func53 (by kernel_rfl) rfl) hcmp hH hblk hsz
end TR

/- slices.Grow, slices.Concat at two lists of entries. -/
open Go Go.Proofs Go.AH
set_option linter.unusedSimpArgs false
set_option linter.unusedVariables false
namespace TR
/-- An entry of nothing. -/
def zE : List D := [.zs, .zs, .int .i64 0, .int .i64 0]
theorem zE_pure (n : Nat) : pureB (List.replicate n zE) = true := by
  unfold pureB
  rw [List.all_replicate]
  split <;> rfl
set_option maxHeartbeats 4000000 in
set_option maxRecDepth 20000 in
theorem cGrw (n : Nat) (h0 : 0 < n) (hn : n ≤ 1000000) : FC Tryz.prog 101 [.zs, .int .i64 n] [] (.rs 4 0 0 0 n) [List.replicate n zE] := by
  have w1 : IntKind.i64.wrap ((0 : Int) - 0) = 0 := by decide
  have w2 : IntKind.i64.wrap ((n : Int) - 0) = (n : Int) := by rw [wrapS] <;> omega
  have h1 : ((n : Int) ≤ (capMax : Int)) = True := by unfold capMax; simp only [eq_iff_iff, iff_true]; omega
  have h2 : (0 < (n : Int)) = True := by simp only [eq_iff_iff, iff_true]; omega
  have h3 : ((n : Int) < 0) = False := by simp only [eq_iff_iff, iff_false]; omega
  have hz : ((List.replicate n [.zs, .zs, .int .i64 0, .int .i64 0]).all fun r => r.all D.isPur) = true := zE_pure n
  refine FC.of_run mix Tryz.func101 rfl rfl (by simp [Tryz.ntmps101]) ?_
  repeat' first
    | simp (maxSteps := 1000000) only [go_sem, Int.reduceLT, Int.reduceLE, Int.reduceToNat, Int.reduceEq, Nat.reduceMul, ↓reduceIte, Nat.reduceLT, Nat.reduceLeDiff, Nat.reduceEqDiff, Nat.reduceAdd, Nat.reduceSub, Nat.reduceBEq, reduceCtorEq, *, aappendZ, zE, hz, Int.toNat_natCast, Nat.le_refl, true_and, and_true, and_self, List.length_replicate, Nat.sub_zero]
    | contradiction
    | refine wT ?_ ?_ <;> intro _
    | refine wF ?_ ?_ <;> intro _
    | refine cD ?_ ?_ <;> intro _
    | refine dO (by kernel_rfl) ?_
    | refine Fin.qy [0] (by simp) (by simp) ?_ ?_
set_option maxHeartbeats 4000000 in
set_option maxRecDepth 20000 in
theorem cGrw0 : FC Tryz.prog 101 [.zs, .int .i64 0] [] (.vs []) [] := by
  have w1 : IntKind.i64.wrap ((0 : Int) - 0) = 0 := by decide
  refine FC.of_run mix Tryz.func101 rfl rfl (by simp [Tryz.ntmps101]) ?_
  repeat' first
    | simp (maxSteps := 1000000) only [go_sem, Int.reduceLT, Int.reduceLE, Int.reduceToNat, Int.reduceEq, Nat.reduceMul, ↓reduceIte, Nat.reduceLT, Nat.reduceLeDiff, Nat.reduceEqDiff, Nat.reduceAdd, Nat.reduceSub, Nat.reduceBEq, reduceCtorEq, *]
    | contradiction
    | refine wT ?_ ?_ <;> intro _
    | refine wF ?_ ?_ <;> intro _
    | refine cD ?_ ?_ <;> intro _
    | refine dO (by kernel_rfl) ?_
    | refine Fin.q ?_ ?_
    | refine Fin.qn ?_ ?_
theorem kGrw {n : Nat} {H : Heap} {slot : Nat} {K : D → List (Nat × Blk) → List (Nat × Blk) → Prop} (h0 : 0 < n) (hn : n ≤ 1000000) (hK : K (.rs 4 slot 0 0 n) [(slot, List.replicate n zE)] []) : @callB ⟨callX Tryz.prog⟩ 101 [.zs, .int .i64 n] H slot ⟨K⟩ := by
  have he : rdOf H (D.idsL [.zs, .int .i64 n]) = [] := by simp [D.idsL, D.ids, rdOf]
  refine .inl ⟨[], false, false, [.zs, .int .i64 n], [], .rs 4 0 0 0 n, .rs 4 slot 0 0 n, [List.replicate n zE], [List.replicate n zE], by simp, ?_, rfl, cGrw n h0 hn, by simp, rfl, ?_, fun h => (nomatch h), ?_⟩
  · simp [trL, tr]
  · simp [backB, trB, zE_pure]
  · rw [List.nil_append, List.nil_append, he]; exact hK
theorem kGrw0 {H : Heap} {slot : Nat} {K : D → List (Nat × Blk) → List (Nat × Blk) → Prop} (hK : K (.vs []) [] []) : @callB ⟨callX Tryz.prog⟩ 101 [.zs, .int .i64 0] H slot ⟨K⟩ := by
  have he : rdOf H ([] ++ D.idsL [.zs, .int .i64 0]) = [] := by simp [D.idsL, D.ids, rdOf]
  refine .inl ⟨[], false, false, [.zs, .int .i64 0], [], .vs [], .vs [], [], [], by simp, ?_, rfl, cGrw0, by simp, rfl, rfl, fun h => (nomatch h), ?_⟩
  · simp [trL, tr]
  · rw [he]; exact hK
theorem zE_refs (ok : Nat → Bool) (n : Nat) : ((List.replicate n zE).all (D.refsL ok)) = true := by
  rw [List.all_replicate]
  split <;> rfl
theorem zE_refs1 (ok : Nat → Bool) (l : List En) (n : Nat) : ((ents l ++ List.replicate n zE).all (D.refsL ok)) = true := by rw [List.all_append, ents_refs, zE_refs]; rfl
theorem ents_refs2 (ok : Nat → Bool) (l l' : List En) : ((ents l ++ ents l').all (D.refsL ok)) = true := by rw [List.all_append, ents_refs, ents_refs]; rfl
/-- The sum of the lengths of the first lists. -/
def cumE (a b : Nat) : Nat → Int
  | 0 => 0
  | 1 => a
  | _ + 2 => ((a + b : Nat) : Int)
set_option maxHeartbeats 4000000 in
set_option maxRecDepth 20000 in
theorem cCat0 : FC Tryz.prog 55 [.bs [[.vs []], [.vs []]]] [] (.vs []) [] := by
  have e0 : ((0 : Nat) : Int) = 0 := rfl
  have e1 : ((1 : Nat) : Int) = 1 := rfl
  have e2 : ((2 : Nat) : Int) = 2 := rfl
  have hw0 : IntKind.i64.wrap ((0 : Int) + 1) = 1 := by decide
  have hw1 : IntKind.i64.wrap ((1 : Int) + 1) = 2 := by decide
  have hw2 : IntKind.i64.wrap ((0 : Int) + 0) = 0 := by decide
  refine FC.of_run mix Tryz.func55 rfl rfl (by simp [Tryz.ntmps55]) ?_
  repeat' first
    | simp (maxSteps := 1000000) only [go_sem, Int.reduceLT, Int.reduceLE, Int.reduceToNat, Int.reduceEq, Nat.reduceMul, ↓reduceIte, Nat.reduceLT, Nat.reduceLeDiff, Nat.reduceEqDiff, Nat.reduceAdd, Nat.reduceSub, Nat.reduceBEq, reduceCtorEq, *]
    | contradiction
    | refine wT ?_ ?_ <;> intro _
    | refine wF ?_ ?_ <;> intro _
    | refine cD ?_ ?_ <;> intro _
    | refine dO (by kernel_rfl) ?_
    | refine Fin.q ?_ ?_
    | refine Fin.qn ?_ ?_
  refine AW.loopx (σ := Nat) mix (fun i => ⟨36, [(11, .int .i64 i), (10, .int .i64 2), (9, .bs [[.vs []], [.vs []]]), (3, .int .i64 0), (0, .bs [[.vs []], [.vs []]]), (2, .zs)], []⟩) (fun i => i ≤ 2) (fun i => 2 - i) 0 (by omega) (Conv.mk ?_ ?_ ?_ ?_ ?_) ?_
  iterate 5 (· (simp (maxSteps := 1000000) only [go_sem, Int.reduceLT, Int.reduceLE, Int.reduceToNat, Int.reduceEq, Nat.reduceMul, ↓reduceIte, Nat.reduceLT, Nat.reduceLeDiff, Nat.reduceEqDiff, Nat.reduceAdd, Nat.reduceSub, Nat.reduceBEq, reduceCtorEq]) <;> (first | rfl | (simp [ints]; done) | (simp [*]; done) | ((repeat' (first | rfl | apply And.intro)); done)))
  intro i hi
  rcases (by omega : i = 0 ∨ i = 1 ∨ i = 2) with rfl | rfl | rfl
  · repeat' first
      | simp (maxSteps := 1000000) only [go_sem, Int.reduceLT, Int.reduceLE, Int.reduceToNat, Int.reduceEq, Nat.reduceMul, ↓reduceIte, Nat.reduceLT, Nat.reduceLeDiff, Nat.reduceEqDiff, Nat.reduceAdd, Nat.reduceSub, Nat.reduceBEq, reduceCtorEq, *]
      | contradiction
      | refine wT ?_ ?_ <;> intro _
      | refine wF ?_ ?_ <;> intro _
      | refine cD ?_ ?_ <;> intro _
      | refine dO (by kernel_rfl) ?_
      | (refine ⟨1, ?_, ?_, Conv.mk ?_ ?_ ?_ ?_ ?_⟩; (· (first | omega | (simp only; omega) | (simp only [List.length_nil, List.length_cons]; omega))); (· (omega)))
      | ((first | refine Fin.q ?_ ?_ | refine Fin.qn ?_ ?_) <;> ((try simp (maxSteps := 1000000) only [go_sem, Int.reduceLT, Int.reduceLE, Int.reduceToNat, Int.reduceEq, Nat.reduceMul, ↓reduceIte, Nat.reduceLT, Nat.reduceLeDiff, Nat.reduceEqDiff, Nat.reduceAdd, Nat.reduceSub, Nat.reduceBEq, reduceCtorEq, *]) <;> (first | done | rfl)))
  · repeat' first
      | simp (maxSteps := 1000000) only [go_sem, Int.reduceLT, Int.reduceLE, Int.reduceToNat, Int.reduceEq, Nat.reduceMul, ↓reduceIte, Nat.reduceLT, Nat.reduceLeDiff, Nat.reduceEqDiff, Nat.reduceAdd, Nat.reduceSub, Nat.reduceBEq, reduceCtorEq, *]
      | contradiction
      | refine wT ?_ ?_ <;> intro _
      | refine wF ?_ ?_ <;> intro _
      | refine cD ?_ ?_ <;> intro _
      | refine dO (by kernel_rfl) ?_
      | (refine ⟨2, ?_, ?_, Conv.mk ?_ ?_ ?_ ?_ ?_⟩; (· (first | omega | (simp only; omega) | (simp only [List.length_nil, List.length_cons]; omega))); (· (omega)))
      | ((first | refine Fin.q ?_ ?_ | refine Fin.qn ?_ ?_) <;> ((try simp (maxSteps := 1000000) only [go_sem, Int.reduceLT, Int.reduceLE, Int.reduceToNat, Int.reduceEq, Nat.reduceMul, ↓reduceIte, Nat.reduceLT, Nat.reduceLeDiff, Nat.reduceEqDiff, Nat.reduceAdd, Nat.reduceSub, Nat.reduceBEq, reduceCtorEq, *]) <;> (first | done | rfl)))
  repeat' first
    | simp (maxSteps := 1000000) only [go_sem, Int.reduceLT, Int.reduceLE, Int.reduceToNat, Int.reduceEq, Nat.reduceMul, ↓reduceIte, Nat.reduceLT, Nat.reduceLeDiff, Nat.reduceEqDiff, Nat.reduceAdd, Nat.reduceSub, Nat.reduceBEq, reduceCtorEq, *]
    | contradiction
    | refine wT ?_ ?_ <;> intro _
    | refine wF ?_ ?_ <;> intro _
    | refine cD ?_ ?_ <;> intro _
    | refine dO (by kernel_rfl) ?_
    | refine kGrw0 ?_
    | refine Fin.q ?_ ?_
    | refine Fin.qn ?_ ?_
  refine AW.loopx (σ := Nat) mix (fun i => ⟨36, [(27, .int .i64 i), (26, .int .i64 2), (25, .bs [[.vs []], [.vs []]]), (6, .vs []), (2, .zs)], []⟩) (fun i => i ≤ 2) (fun i => 2 - i) 0 (by omega) (Conv.mk ?_ ?_ ?_ ?_ ?_) ?_
  iterate 5 (· (simp (maxSteps := 1000000) only [go_sem, Int.reduceLT, Int.reduceLE, Int.reduceToNat, Int.reduceEq, Nat.reduceMul, ↓reduceIte, Nat.reduceLT, Nat.reduceLeDiff, Nat.reduceEqDiff, Nat.reduceAdd, Nat.reduceSub, Nat.reduceBEq, reduceCtorEq]) <;> (first | rfl | (simp [ints]; done) | (simp [*]; done) | ((repeat' (first | rfl | apply And.intro)); done)))
  intro i hi
  rcases (by omega : i = 0 ∨ i = 1 ∨ i = 2) with rfl | rfl | rfl
  · repeat' first
      | simp (maxSteps := 1000000) only [go_sem, Int.reduceLT, Int.reduceLE, Int.reduceToNat, Int.reduceEq, Nat.reduceMul, ↓reduceIte, Nat.reduceLT, Nat.reduceLeDiff, Nat.reduceEqDiff, Nat.reduceAdd, Nat.reduceSub, Nat.reduceBEq, reduceCtorEq, *]
      | contradiction
      | refine wT ?_ ?_ <;> intro _
      | refine wF ?_ ?_ <;> intro _
      | refine cD ?_ ?_ <;> intro _
      | refine dO (by kernel_rfl) ?_
      | (refine ⟨1, ?_, ?_, Conv.mk ?_ ?_ ?_ ?_ ?_⟩; (· (first | omega | (simp only; omega) | (simp only [List.length_nil, List.length_cons]; omega))); (· (omega)))
      | ((first | refine Fin.q ?_ ?_ | refine Fin.qn ?_ ?_) <;> ((try simp (maxSteps := 1000000) only [go_sem, Int.reduceLT, Int.reduceLE, Int.reduceToNat, Int.reduceEq, Nat.reduceMul, ↓reduceIte, Nat.reduceLT, Nat.reduceLeDiff, Nat.reduceEqDiff, Nat.reduceAdd, Nat.reduceSub, Nat.reduceBEq, reduceCtorEq, *]) <;> (first | done | rfl)))
  · repeat' first
      | simp (maxSteps := 1000000) only [go_sem, Int.reduceLT, Int.reduceLE, Int.reduceToNat, Int.reduceEq, Nat.reduceMul, ↓reduceIte, Nat.reduceLT, Nat.reduceLeDiff, Nat.reduceEqDiff, Nat.reduceAdd, Nat.reduceSub, Nat.reduceBEq, reduceCtorEq, *]
      | contradiction
      | refine wT ?_ ?_ <;> intro _
      | refine wF ?_ ?_ <;> intro _
      | refine cD ?_ ?_ <;> intro _
      | refine dO (by kernel_rfl) ?_
      | (refine ⟨2, ?_, ?_, Conv.mk ?_ ?_ ?_ ?_ ?_⟩; (· (first | omega | (simp only; omega) | (simp only [List.length_nil, List.length_cons]; omega))); (· (omega)))
      | ((first | refine Fin.q ?_ ?_ | refine Fin.qn ?_ ?_) <;> ((try simp (maxSteps := 1000000) only [go_sem, Int.reduceLT, Int.reduceLE, Int.reduceToNat, Int.reduceEq, Nat.reduceMul, ↓reduceIte, Nat.reduceLT, Nat.reduceLeDiff, Nat.reduceEqDiff, Nat.reduceAdd, Nat.reduceSub, Nat.reduceBEq, reduceCtorEq, *]) <;> (first | done | rfl)))
  · repeat' first
      | simp (maxSteps := 1000000) only [go_sem, Int.reduceLT, Int.reduceLE, Int.reduceToNat, Int.reduceEq, Nat.reduceMul, ↓reduceIte, Nat.reduceLT, Nat.reduceLeDiff, Nat.reduceEqDiff, Nat.reduceAdd, Nat.reduceSub, Nat.reduceBEq, reduceCtorEq, *]
      | contradiction
      | refine wT ?_ ?_ <;> intro _
      | refine wF ?_ ?_ <;> intro _
      | refine cD ?_ ?_ <;> intro _
      | refine dO (by kernel_rfl) ?_
      | refine Fin.q ?_ ?_
      | refine Fin.qn ?_ ?_
def lenE (a b : Nat) : Nat → Nat
  | 0 => 0
  | 1 => a
  | _ + 2 => a + b
def blkE (A B : List En) : Nat → Blk
  | 0 => List.replicate (A.length + B.length) zE
  | 1 => ents A ++ List.replicate B.length zE
  | _ + 2 => ents A ++ ents B
set_option maxHeartbeats 8000000 in
set_option maxRecDepth 20000 in
theorem cCat (A B : List En) (hA : A ≠ []) (hB : B ≠ []) (hl : A.length + B.length ≤ 100000) : FC Tryz.prog 55 [.bs [[.vs (ents A)], [.vs (ents B)]]] [] (.rs 4 0 0 (A.length + B.length) (A.length + B.length)) [ents (A ++ B)] := by
  have e0 : ((0 : Nat) : Int) = 0 := rfl
  have e1 : ((1 : Nat) : Int) = 1 := rfl
  have e2 : ((2 : Nat) : Int) = 2 := rfl
  have hw0 : IntKind.i64.wrap ((0 : Int) + 1) = 1 := by decide
  have hw1 : IntKind.i64.wrap ((1 : Int) + 1) = 2 := by decide
  have hA0 : 0 < A.length := List.length_pos_iff.2 hA
  have hB0 : 0 < B.length := List.length_pos_iff.2 hB
  have hw2 : IntKind.i64.wrap ((0 : Int) + (A.length : Int)) = (A.length : Int) := by rw [wrapS] <;> omega
  have hw3 : IntKind.i64.wrap ((A.length : Int) + (B.length : Int)) = ((A.length + B.length : Nat) : Int) := by rw [wrapS] <;> omega
  have hn1 : ((A.length : Int) < 0) = False := by simp only [eq_iff_iff, iff_false]; omega
  have hn2 : (((A.length + B.length : Nat) : Int) < 0) = False := by simp only [eq_iff_iff, iff_false]; omega
  have hc0 : cumE A.length B.length 0 = 0 := rfl
  have hc1 : cumE A.length B.length 1 = (A.length : Int) := rfl
  have hc2 : cumE A.length B.length 2 = ((A.length + B.length : Nat) : Int) := rfl
  have z1 : (ents A).isEmpty = false := by cases A with | nil => exact absurd rfl hA | cons a l => rfl
  have z2 : (ents B).isEmpty = false := by cases B with | nil => exact absurd rfl hB | cons a l => rfl
  have kG := @kGrw (A.length + B.length)
  refine FC.of_run mix Tryz.func55 rfl rfl (by simp [Tryz.ntmps55]) ?_
  repeat' first
    | simp (maxSteps := 1000000) only [go_sem, Int.reduceLT, Int.reduceLE, Int.reduceToNat, Int.reduceEq, Nat.reduceMul, ↓reduceIte, Nat.reduceLT, Nat.reduceLeDiff, Nat.reduceEqDiff, Nat.reduceAdd, Nat.reduceSub, Nat.reduceBEq, reduceCtorEq, *]
    | contradiction
    | refine wT ?_ ?_ <;> intro _
    | refine wF ?_ ?_ <;> intro _
    | refine cD ?_ ?_ <;> intro _
    | refine dO (by kernel_rfl) ?_
    | refine Fin.q ?_ ?_
    | refine Fin.qn ?_ ?_
  refine AW.loopx (σ := Nat) mix (fun i => ⟨36, [(11, .int .i64 i), (10, .int .i64 2), (9, .bs [[.vs (ents A)], [.vs (ents B)]]), (3, .int .i64 (cumE A.length B.length i)), (0, .bs [[.vs (ents A)], [.vs (ents B)]]), (2, .zs)], []⟩) (fun i => i ≤ 2) (fun i => 2 - i) 0 (by omega) (Conv.mk ?_ ?_ ?_ ?_ ?_) ?_
  iterate 5 (· (simp (maxSteps := 1000000) only [go_sem, Int.reduceLT, Int.reduceLE, Int.reduceToNat, Int.reduceEq, Nat.reduceMul, ↓reduceIte, Nat.reduceLT, Nat.reduceLeDiff, Nat.reduceEqDiff, Nat.reduceAdd, Nat.reduceSub, Nat.reduceBEq, reduceCtorEq]) <;> (first | rfl | (simp [ints]; done) | (simp [*]; done) | ((repeat' (first | rfl | apply And.intro)); done)))
  intro i hi
  rcases (by omega : i = 0 ∨ i = 1 ∨ i = 2) with rfl | rfl | rfl
  · repeat' first
      | simp (maxSteps := 1000000) only [go_sem, Int.reduceLT, Int.reduceLE, Int.reduceToNat, Int.reduceEq, Nat.reduceMul, ↓reduceIte, Nat.reduceLT, Nat.reduceLeDiff, Nat.reduceEqDiff, Nat.reduceAdd, Nat.reduceSub, Nat.reduceBEq, reduceCtorEq, *, hc0, hc1, hc2, ents_len]
      | contradiction
      | refine wT ?_ ?_ <;> intro _
      | refine wF ?_ ?_ <;> intro _
      | refine cD ?_ ?_ <;> intro _
      | refine dO (by kernel_rfl) ?_
      | (refine ⟨1, ?_, ?_, Conv.mk ?_ ?_ ?_ ?_ ?_⟩; (· (first | omega | (simp only; omega) | (simp only [List.length_nil, List.length_cons]; omega))); (· (omega)))
      | ((first | refine Fin.q ?_ ?_ | refine Fin.qn ?_ ?_) <;> ((try simp (maxSteps := 1000000) only [go_sem, Int.reduceLT, Int.reduceLE, Int.reduceToNat, Int.reduceEq, Nat.reduceMul, ↓reduceIte, Nat.reduceLT, Nat.reduceLeDiff, Nat.reduceEqDiff, Nat.reduceAdd, Nat.reduceSub, Nat.reduceBEq, reduceCtorEq, *, hc0, hc1, hc2, ents_len]) <;> (first | done | rfl)))
  · repeat' first
      | simp (maxSteps := 1000000) only [go_sem, Int.reduceLT, Int.reduceLE, Int.reduceToNat, Int.reduceEq, Nat.reduceMul, ↓reduceIte, Nat.reduceLT, Nat.reduceLeDiff, Nat.reduceEqDiff, Nat.reduceAdd, Nat.reduceSub, Nat.reduceBEq, reduceCtorEq, *, hc0, hc1, hc2, ents_len]
      | contradiction
      | refine wT ?_ ?_ <;> intro _
      | refine wF ?_ ?_ <;> intro _
      | refine cD ?_ ?_ <;> intro _
      | refine dO (by kernel_rfl) ?_
      | (refine ⟨2, ?_, ?_, Conv.mk ?_ ?_ ?_ ?_ ?_⟩; (· (first | omega | (simp only; omega) | (simp only [List.length_nil, List.length_cons]; omega))); (· (omega)))
      | ((first | refine Fin.q ?_ ?_ | refine Fin.qn ?_ ?_) <;> ((try simp (maxSteps := 1000000) only [go_sem, Int.reduceLT, Int.reduceLE, Int.reduceToNat, Int.reduceEq, Nat.reduceMul, ↓reduceIte, Nat.reduceLT, Nat.reduceLeDiff, Nat.reduceEqDiff, Nat.reduceAdd, Nat.reduceSub, Nat.reduceBEq, reduceCtorEq, *, hc0, hc1, hc2, ents_len]) <;> (first | done | rfl)))
  repeat' first
    | simp (maxSteps := 1000000) only [go_sem, Int.reduceLT, Int.reduceLE, Int.reduceToNat, Int.reduceEq, Nat.reduceMul, ↓reduceIte, Nat.reduceLT, Nat.reduceLeDiff, Nat.reduceEqDiff, Nat.reduceAdd, Nat.reduceSub, Nat.reduceBEq, reduceCtorEq, *, hc2]
    | contradiction
    | refine wT ?_ ?_ <;> intro _
    | refine wF ?_ ?_ <;> intro _
    | refine cD ?_ ?_ <;> intro _
    | refine dO (by kernel_rfl) ?_
    | refine (kGrw (by omega) (by omega)) ?_
    | refine Fin.q ?_ ?_
    | refine Fin.qn ?_ ?_
  have l0 : lenE A.length B.length 0 = 0 := rfl
  have l1 : lenE A.length B.length 1 = A.length := rfl
  have l2 : lenE A.length B.length 2 = A.length + B.length := rfl
  have b0 : blkE A B 0 = List.replicate (A.length + B.length) zE := rfl
  have b1 : blkE A B 1 = ents A ++ List.replicate B.length zE := rfl
  have b2 : blkE A B 2 = ents A ++ ents B := rfl
  have q1 : List.drop A.length (List.replicate (A.length + B.length) zE) = List.replicate B.length zE := by rw [List.drop_replicate]; congr 1; omega
  have q2 : List.take A.length (ents A ++ List.replicate B.length zE) = ents A := by rw [List.take_append_of_le_length (by simp [ents]), ents_take_all _ _ (Nat.le_refl _)]
  have q3 : List.drop (A.length + B.length) (ents A ++ List.replicate B.length zE) = [] := by rw [List.drop_eq_nil_iff]; simp [ents]
  have q4 : ents A ++ ents B = ents (A ++ B) := by simp [ents]
  have q5 : A.length ≤ A.length + B.length := by omega
  have q6 : ((ents (A ++ B)).all fun r => r.all D.isPur) = true := ents_pure _
  refine AW.loopx (σ := Nat) mix (fun i => ⟨36, [(27, .int .i64 i), (26, .int .i64 2), (25, .bs [[.vs (ents A)], [.vs (ents B)]]), (6, .rs 4 0 0 (lenE A.length B.length i) (A.length + B.length)), (2, .zs)], [some (blkE A B i)]⟩) (fun i => i ≤ 2) (fun i => 2 - i) 0 (by omega) (Conv.mk ?_ ?_ ?_ ?_ ?_) ?_
  iterate 5 (· (simp (maxSteps := 1000000) only [go_sem, Int.reduceLT, Int.reduceLE, Int.reduceToNat, Int.reduceEq, Nat.reduceMul, ↓reduceIte, Nat.reduceLT, Nat.reduceLeDiff, Nat.reduceEqDiff, Nat.reduceAdd, Nat.reduceSub, Nat.reduceBEq, reduceCtorEq, b0, l0, zE_refs]) <;> (first | rfl | (simp [ints]; done) | (simp [*]; done) | ((repeat' (first | rfl | apply And.intro)); done)))
  clear hi
  intro i hi
  rcases (by omega : i = 0 ∨ i = 1 ∨ i = 2) with rfl | rfl | rfl
  · rw [b0]
    repeat' first
      | simp (maxSteps := 1000000) only [go_sem, Int.reduceLT, Int.reduceLE, Int.reduceToNat, Int.reduceEq, Nat.reduceMul, ↓reduceIte, Nat.reduceLT, Nat.reduceLeDiff, Nat.reduceEqDiff, Nat.reduceAdd, Nat.reduceSub, Nat.reduceBEq, reduceCtorEq, *, l0, l1, b1, q1, zE_refs1, ents_len, List.take_zero, List.nil_append, List.length_replicate, Nat.zero_add, eq_self, true_and]
      | contradiction
      | refine wT ?_ ?_ <;> intro _
      | refine wF ?_ ?_ <;> intro _
      | refine cD ?_ ?_ <;> intro _
      | refine dO (by kernel_rfl) ?_
      | (refine ⟨1, ?_, ?_, Conv.mk ?_ ?_ ?_ ?_ ?_⟩; (· (first | omega | (simp only; omega) | (simp only [List.length_nil, List.length_cons]; omega))); (· (omega)))
      | ((first | refine Fin.q ?_ ?_ | refine Fin.qn ?_ ?_) <;> ((try simp (maxSteps := 1000000) only [go_sem, Int.reduceLT, Int.reduceLE, Int.reduceToNat, Int.reduceEq, Nat.reduceMul, ↓reduceIte, Nat.reduceLT, Nat.reduceLeDiff, Nat.reduceEqDiff, Nat.reduceAdd, Nat.reduceSub, Nat.reduceBEq, reduceCtorEq, *, l0, l1, b1, q1, zE_refs1, ents_len, List.take_zero, List.nil_append, List.length_replicate, Nat.zero_add, eq_self, true_and]) <;> (first | done | rfl)))
  · rw [b1]
    repeat' first
      | simp (maxSteps := 1000000) only [go_sem, Int.reduceLT, Int.reduceLE, Int.reduceToNat, Int.reduceEq, Nat.reduceMul, ↓reduceIte, Nat.reduceLT, Nat.reduceLeDiff, Nat.reduceEqDiff, Nat.reduceAdd, Nat.reduceSub, Nat.reduceBEq, reduceCtorEq, *, l1, l2, b2, q2, q3, ents_refs2, ents_len, List.append_nil, List.length_append, List.length_replicate, Nat.zero_add, Nat.le_refl, eq_self, true_and]
      | contradiction
      | refine wT ?_ ?_ <;> intro _
      | refine wF ?_ ?_ <;> intro _
      | refine cD ?_ ?_ <;> intro _
      | refine dO (by kernel_rfl) ?_
      | (refine ⟨2, ?_, ?_, Conv.mk ?_ ?_ ?_ ?_ ?_⟩; (· (first | omega | (simp only; omega) | (simp only [List.length_nil, List.length_cons]; omega))); (· (omega)))
      | ((first | refine Fin.q ?_ ?_ | refine Fin.qn ?_ ?_) <;> ((try simp (maxSteps := 1000000) only [go_sem, Int.reduceLT, Int.reduceLE, Int.reduceToNat, Int.reduceEq, Nat.reduceMul, ↓reduceIte, Nat.reduceLT, Nat.reduceLeDiff, Nat.reduceEqDiff, Nat.reduceAdd, Nat.reduceSub, Nat.reduceBEq, reduceCtorEq, *, l1, l2, b2, q2, q3, ents_refs2, ents_len, List.append_nil, List.length_append, List.length_replicate, Nat.zero_add, Nat.le_refl, eq_self, true_and]) <;> (first | done | rfl)))
  · rw [b2, q4]
    repeat' first
      | simp (maxSteps := 1000000) only [go_sem, Int.reduceLT, Int.reduceLE, Int.reduceToNat, Int.reduceEq, Nat.reduceMul, ↓reduceIte, Nat.reduceLT, Nat.reduceLeDiff, Nat.reduceEqDiff, Nat.reduceAdd, Nat.reduceSub, Nat.reduceBEq, reduceCtorEq, *, l2, q6, List.length_append]
      | contradiction
      | refine wT ?_ ?_ <;> intro _
      | refine wF ?_ ?_ <;> intro _
      | refine cD ?_ ?_ <;> intro _
      | refine dO (by kernel_rfl) ?_
      | ((first | refine Fin.qy [0] (by simp) (by simp) ?_ ?_ | refine Fin.qn ?_ ?_) <;> ((try simp (maxSteps := 1000000) only [go_sem, Int.reduceLT, Int.reduceLE, Int.reduceToNat, Int.reduceEq, Nat.reduceMul, ↓reduceIte, Nat.reduceLT, Nat.reduceLeDiff, Nat.reduceEqDiff, Nat.reduceAdd, Nat.reduceSub, Nat.reduceBEq, reduceCtorEq, *, l2, q6, List.length_append]) <;> (first | done | rfl)))
def selE {α : Type} (x y z : α) : Nat → α
  | 0 => x
  | 1 => y
  | _ + 2 => z
set_option maxHeartbeats 8000000 in
set_option maxRecDepth 20000 in
theorem cCatR (A : List En) (hA : A ≠ []) (hl : A.length ≤ 100000) : FC Tryz.prog 55 [.bs [[.vs []], [.vs (ents A)]]] [] (.rs 4 0 0 A.length A.length) [ents A] := by
  have e0 : ((0 : Nat) : Int) = 0 := rfl
  have e1 : ((1 : Nat) : Int) = 1 := rfl
  have e2 : ((2 : Nat) : Int) = 2 := rfl
  have hw0 : IntKind.i64.wrap ((0 : Int) + 1) = 1 := by decide
  have hw1 : IntKind.i64.wrap ((1 : Int) + 1) = 2 := by decide
  have hA0 : 0 < A.length := List.length_pos_iff.2 hA
  have hw2 : IntKind.i64.wrap ((0 : Int) + 0) = 0 := by decide
  have hw3 : IntKind.i64.wrap ((0 : Int) + (A.length : Int)) = (A.length : Int) := by rw [wrapS] <;> omega
  have hw4 : IntKind.i64.wrap (A.length : Int) = (A.length : Int) := by rw [wrapS] <;> omega
  have hw5 : IntKind.i64.wrap (0 : Int) = 0 := by decide
  have hn1 : ((A.length : Int) < 0) = False := by simp only [eq_iff_iff, iff_false]; omega
  have z1 : (ents A).isEmpty = false := by cases A with | nil => exact absurd rfl hA | cons a l => rfl
  have kG := @kGrw A.length
  have hc0 : selE (0 : Int) (0 : Int) (A.length : Int) 0 = 0 := rfl
  have hc1 : selE (0 : Int) (0 : Int) (A.length : Int) 1 = (0 : Int) := rfl
  have hc2 : selE (0 : Int) (0 : Int) (A.length : Int) 2 = (A.length : Int) := rfl
  refine FC.of_run mix Tryz.func55 rfl rfl (by simp [Tryz.ntmps55]) ?_
  repeat' first
    | simp (maxSteps := 1000000) only [go_sem, Int.reduceLT, Int.reduceLE, Int.reduceToNat, Int.reduceEq, Nat.reduceMul, ↓reduceIte, Nat.reduceLT, Nat.reduceLeDiff, Nat.reduceEqDiff, Nat.reduceAdd, Nat.reduceSub, Nat.reduceBEq, reduceCtorEq, *]
    | contradiction
    | refine wT ?_ ?_ <;> intro _
    | refine wF ?_ ?_ <;> intro _
    | refine cD ?_ ?_ <;> intro _
    | refine dO (by kernel_rfl) ?_
    | refine Fin.q ?_ ?_
    | refine Fin.qn ?_ ?_
  refine AW.loopx (σ := Nat) mix (fun i => ⟨36, [(11, .int .i64 i), (10, .int .i64 2), (9, .bs [[.vs []], [.vs (ents A)]]), (3, .int .i64 (selE (0 : Int) (0 : Int) (A.length : Int) i)), (0, .bs [[.vs []], [.vs (ents A)]]), (2, .zs)], []⟩) (fun i => i ≤ 2) (fun i => 2 - i) 0 (by omega) (Conv.mk ?_ ?_ ?_ ?_ ?_) ?_
  iterate 5 (· (simp (maxSteps := 1000000) only [go_sem, Int.reduceLT, Int.reduceLE, Int.reduceToNat, Int.reduceEq, Nat.reduceMul, ↓reduceIte, Nat.reduceLT, Nat.reduceLeDiff, Nat.reduceEqDiff, Nat.reduceAdd, Nat.reduceSub, Nat.reduceBEq, reduceCtorEq]) <;> (first | rfl | (simp [ints]; done) | (simp [*]; done) | ((repeat' (first | rfl | apply And.intro)); done)))
  intro i hi
  rcases (by omega : i = 0 ∨ i = 1 ∨ i = 2) with rfl | rfl | rfl
  · repeat' first
      | simp (maxSteps := 1000000) only [go_sem, Int.reduceLT, Int.reduceLE, Int.reduceToNat, Int.reduceEq, Nat.reduceMul, ↓reduceIte, Nat.reduceLT, Nat.reduceLeDiff, Nat.reduceEqDiff, Nat.reduceAdd, Nat.reduceSub, Nat.reduceBEq, reduceCtorEq, *, hc0, hc1, hc2, ents_len, Int.add_zero]
      | contradiction
      | refine wT ?_ ?_ <;> intro _
      | refine wF ?_ ?_ <;> intro _
      | refine cD ?_ ?_ <;> intro _
      | refine dO (by kernel_rfl) ?_
      | (refine ⟨1, ?_, ?_, Conv.mk ?_ ?_ ?_ ?_ ?_⟩; (· (first | omega | (simp only; omega) | (simp only [List.length_nil, List.length_cons]; omega))); (· (omega)))
      | ((first | refine Fin.q ?_ ?_ | refine Fin.qn ?_ ?_) <;> ((try simp (maxSteps := 1000000) only [go_sem, Int.reduceLT, Int.reduceLE, Int.reduceToNat, Int.reduceEq, Nat.reduceMul, ↓reduceIte, Nat.reduceLT, Nat.reduceLeDiff, Nat.reduceEqDiff, Nat.reduceAdd, Nat.reduceSub, Nat.reduceBEq, reduceCtorEq, *, hc0, hc1, hc2, ents_len, Int.add_zero]) <;> (first | done | rfl)))
  · repeat' first
      | simp (maxSteps := 1000000) only [go_sem, Int.reduceLT, Int.reduceLE, Int.reduceToNat, Int.reduceEq, Nat.reduceMul, ↓reduceIte, Nat.reduceLT, Nat.reduceLeDiff, Nat.reduceEqDiff, Nat.reduceAdd, Nat.reduceSub, Nat.reduceBEq, reduceCtorEq, *, hc0, hc1, hc2, ents_len, Int.add_zero]
      | contradiction
      | refine wT ?_ ?_ <;> intro _
      | refine wF ?_ ?_ <;> intro _
      | refine cD ?_ ?_ <;> intro _
      | refine dO (by kernel_rfl) ?_
      | (refine ⟨2, ?_, ?_, Conv.mk ?_ ?_ ?_ ?_ ?_⟩; (· (first | omega | (simp only; omega) | (simp only [List.length_nil, List.length_cons]; omega))); (· (omega)))
      | ((first | refine Fin.q ?_ ?_ | refine Fin.qn ?_ ?_) <;> ((try simp (maxSteps := 1000000) only [go_sem, Int.reduceLT, Int.reduceLE, Int.reduceToNat, Int.reduceEq, Nat.reduceMul, ↓reduceIte, Nat.reduceLT, Nat.reduceLeDiff, Nat.reduceEqDiff, Nat.reduceAdd, Nat.reduceSub, Nat.reduceBEq, reduceCtorEq, *, hc0, hc1, hc2, ents_len, Int.add_zero]) <;> (first | done | rfl)))
  repeat' first
    | simp (maxSteps := 1000000) only [go_sem, Int.reduceLT, Int.reduceLE, Int.reduceToNat, Int.reduceEq, Nat.reduceMul, ↓reduceIte, Nat.reduceLT, Nat.reduceLeDiff, Nat.reduceEqDiff, Nat.reduceAdd, Nat.reduceSub, Nat.reduceBEq, reduceCtorEq, *, hc2]
    | contradiction
    | refine wT ?_ ?_ <;> intro _
    | refine wF ?_ ?_ <;> intro _
    | refine cD ?_ ?_ <;> intro _
    | refine dO (by kernel_rfl) ?_
    | refine (kGrw (by omega) (by omega)) ?_
    | refine Fin.q ?_ ?_
    | refine Fin.qn ?_ ?_
  have l0 : selE (0 : Nat) (0 : Nat) A.length 0 = 0 := rfl
  have l1 : selE (0 : Nat) (0 : Nat) A.length 1 = (0 : Nat) := rfl
  have l2 : selE (0 : Nat) (0 : Nat) A.length 2 = A.length := rfl
  have b0 : selE (List.replicate A.length zE) (List.replicate A.length zE) (ents A) 0 = List.replicate A.length zE := rfl
  have b1 : selE (List.replicate A.length zE) (List.replicate A.length zE) (ents A) 1 = (List.replicate A.length zE) := rfl
  have b2 : selE (List.replicate A.length zE) (List.replicate A.length zE) (ents A) 2 = ents A := rfl
  have q1 : List.drop A.length (List.replicate A.length zE) = [] := by rw [List.drop_replicate]; simp
  have q6 : ((ents A).all fun r => r.all D.isPur) = true := ents_pure _
  refine AW.loopx (σ := Nat) mix (fun i => ⟨36, [(27, .int .i64 i), (26, .int .i64 2), (25, .bs [[.vs []], [.vs (ents A)]]), (6, .rs 4 0 0 (selE (0 : Nat) (0 : Nat) A.length i) A.length), (2, .zs)], [some (selE (List.replicate A.length zE) (List.replicate A.length zE) (ents A) i)]⟩) (fun i => i ≤ 2) (fun i => 2 - i) 0 (by omega) (Conv.mk ?_ ?_ ?_ ?_ ?_) ?_
  iterate 5 (· (simp (maxSteps := 1000000) only [go_sem, Int.reduceLT, Int.reduceLE, Int.reduceToNat, Int.reduceEq, Nat.reduceMul, ↓reduceIte, Nat.reduceLT, Nat.reduceLeDiff, Nat.reduceEqDiff, Nat.reduceAdd, Nat.reduceSub, Nat.reduceBEq, reduceCtorEq, b0, l0, zE_refs]) <;> (first | rfl | (simp [ints]; done) | (simp [*]; done) | ((repeat' (first | rfl | apply And.intro)); done)))
  clear hi
  intro i hi
  rcases (by omega : i = 0 ∨ i = 1 ∨ i = 2) with rfl | rfl | rfl
  · rw [b0]
    repeat' first
      | simp (maxSteps := 1000000) only [go_sem, Int.reduceLT, Int.reduceLE, Int.reduceToNat, Int.reduceEq, Nat.reduceMul, ↓reduceIte, Nat.reduceLT, Nat.reduceLeDiff, Nat.reduceEqDiff, Nat.reduceAdd, Nat.reduceSub, Nat.reduceBEq, reduceCtorEq, *, l0, l1, b1, q1, zE_refs, ents_refs, ents_len, List.take_zero, List.nil_append, List.append_nil, List.isEmpty_nil, List.length_replicate, Nat.zero_add, Nat.le_refl, eq_self, true_and]
      | contradiction
      | refine wT ?_ ?_ <;> intro _
      | refine wF ?_ ?_ <;> intro _
      | refine cD ?_ ?_ <;> intro _
      | refine dO (by kernel_rfl) ?_
      | (refine ⟨1, ?_, ?_, Conv.mk ?_ ?_ ?_ ?_ ?_⟩; (· (first | omega | (simp only; omega) | (simp only [List.length_nil, List.length_cons]; omega))); (· (omega)))
      | ((first | refine Fin.q ?_ ?_ | refine Fin.qn ?_ ?_) <;> ((try simp (maxSteps := 1000000) only [go_sem, Int.reduceLT, Int.reduceLE, Int.reduceToNat, Int.reduceEq, Nat.reduceMul, ↓reduceIte, Nat.reduceLT, Nat.reduceLeDiff, Nat.reduceEqDiff, Nat.reduceAdd, Nat.reduceSub, Nat.reduceBEq, reduceCtorEq, *, l0, l1, b1, q1, zE_refs, ents_refs, ents_len, List.take_zero, List.nil_append, List.append_nil, List.isEmpty_nil, List.length_replicate, Nat.zero_add, Nat.le_refl, eq_self, true_and]) <;> (first | done | rfl)))
  · rw [b1]
    repeat' first
      | simp (maxSteps := 1000000) only [go_sem, Int.reduceLT, Int.reduceLE, Int.reduceToNat, Int.reduceEq, Nat.reduceMul, ↓reduceIte, Nat.reduceLT, Nat.reduceLeDiff, Nat.reduceEqDiff, Nat.reduceAdd, Nat.reduceSub, Nat.reduceBEq, reduceCtorEq, *, l1, l2, b2, q1, zE_refs, ents_refs, ents_len, List.take_zero, List.nil_append, List.append_nil, List.isEmpty_nil, List.length_replicate, Nat.zero_add, Nat.le_refl, eq_self, true_and]
      | contradiction
      | refine wT ?_ ?_ <;> intro _
      | refine wF ?_ ?_ <;> intro _
      | refine cD ?_ ?_ <;> intro _
      | refine dO (by kernel_rfl) ?_
      | (refine ⟨2, ?_, ?_, Conv.mk ?_ ?_ ?_ ?_ ?_⟩; (· (first | omega | (simp only; omega) | (simp only [List.length_nil, List.length_cons]; omega))); (· (omega)))
      | ((first | refine Fin.q ?_ ?_ | refine Fin.qn ?_ ?_) <;> ((try simp (maxSteps := 1000000) only [go_sem, Int.reduceLT, Int.reduceLE, Int.reduceToNat, Int.reduceEq, Nat.reduceMul, ↓reduceIte, Nat.reduceLT, Nat.reduceLeDiff, Nat.reduceEqDiff, Nat.reduceAdd, Nat.reduceSub, Nat.reduceBEq, reduceCtorEq, *, l1, l2, b2, q1, zE_refs, ents_refs, ents_len, List.take_zero, List.nil_append, List.append_nil, List.isEmpty_nil, List.length_replicate, Nat.zero_add, Nat.le_refl, eq_self, true_and]) <;> (first | done | rfl)))
  · rw [b2]
    repeat' first
      | simp (maxSteps := 1000000) only [go_sem, Int.reduceLT, Int.reduceLE, Int.reduceToNat, Int.reduceEq, Nat.reduceMul, ↓reduceIte, Nat.reduceLT, Nat.reduceLeDiff, Nat.reduceEqDiff, Nat.reduceAdd, Nat.reduceSub, Nat.reduceBEq, reduceCtorEq, *, l2, q6]
      | contradiction
      | refine wT ?_ ?_ <;> intro _
      | refine wF ?_ ?_ <;> intro _
      | refine cD ?_ ?_ <;> intro _
      | refine dO (by kernel_rfl) ?_
      | ((first | refine Fin.qy [0] (by simp) (by simp) ?_ ?_ | refine Fin.qn ?_ ?_) <;> ((try simp (maxSteps := 1000000) only [go_sem, Int.reduceLT, Int.reduceLE, Int.reduceToNat, Int.reduceEq, Nat.reduceMul, ↓reduceIte, Nat.reduceLT, Nat.reduceLeDiff, Nat.reduceEqDiff, Nat.reduceAdd, Nat.reduceSub, Nat.reduceBEq, reduceCtorEq, *, l2, q6]) <;> (first | done | rfl)))
set_option maxHeartbeats 8000000 in
set_option maxRecDepth 20000 in
theorem cCatL (A : List En) (hA : A ≠ []) (hl : A.length ≤ 100000) : FC Tryz.prog 55 [.bs [[.vs (ents A)], [.vs []]]] [] (.rs 4 0 0 A.length A.length) [ents A] := by
  have e0 : ((0 : Nat) : Int) = 0 := rfl
  have e1 : ((1 : Nat) : Int) = 1 := rfl
  have e2 : ((2 : Nat) : Int) = 2 := rfl
  have hw0 : IntKind.i64.wrap ((0 : Int) + 1) = 1 := by decide
  have hw1 : IntKind.i64.wrap ((1 : Int) + 1) = 2 := by decide
  have hA0 : 0 < A.length := List.length_pos_iff.2 hA
  have hw2 : IntKind.i64.wrap ((0 : Int) + 0) = 0 := by decide
  have hw3 : IntKind.i64.wrap ((0 : Int) + (A.length : Int)) = (A.length : Int) := by rw [wrapS] <;> omega
  have hw4 : IntKind.i64.wrap (A.length : Int) = (A.length : Int) := by rw [wrapS] <;> omega
  have hw5 : IntKind.i64.wrap (0 : Int) = 0 := by decide
  have hn1 : ((A.length : Int) < 0) = False := by simp only [eq_iff_iff, iff_false]; omega
  have z1 : (ents A).isEmpty = false := by cases A with | nil => exact absurd rfl hA | cons a l => rfl
  have kG := @kGrw A.length
  have hc0 : selE (0 : Int) (A.length : Int) (A.length : Int) 0 = 0 := rfl
  have hc1 : selE (0 : Int) (A.length : Int) (A.length : Int) 1 = (A.length : Int) := rfl
  have hc2 : selE (0 : Int) (A.length : Int) (A.length : Int) 2 = (A.length : Int) := rfl
  refine FC.of_run mix Tryz.func55 rfl rfl (by simp [Tryz.ntmps55]) ?_
  repeat' first
    | simp (maxSteps := 1000000) only [go_sem, Int.reduceLT, Int.reduceLE, Int.reduceToNat, Int.reduceEq, Nat.reduceMul, ↓reduceIte, Nat.reduceLT, Nat.reduceLeDiff, Nat.reduceEqDiff, Nat.reduceAdd, Nat.reduceSub, Nat.reduceBEq, reduceCtorEq, *]
    | contradiction
    | refine wT ?_ ?_ <;> intro _
    | refine wF ?_ ?_ <;> intro _
    | refine cD ?_ ?_ <;> intro _
    | refine dO (by kernel_rfl) ?_
    | refine Fin.q ?_ ?_
    | refine Fin.qn ?_ ?_
  refine AW.loopx (σ := Nat) mix (fun i => ⟨36, [(11, .int .i64 i), (10, .int .i64 2), (9, .bs [[.vs (ents A)], [.vs []]]), (3, .int .i64 (selE (0 : Int) (A.length : Int) (A.length : Int) i)), (0, .bs [[.vs (ents A)], [.vs []]]), (2, .zs)], []⟩) (fun i => i ≤ 2) (fun i => 2 - i) 0 (by omega) (Conv.mk ?_ ?_ ?_ ?_ ?_) ?_
  iterate 5 (· (simp (maxSteps := 1000000) only [go_sem, Int.reduceLT, Int.reduceLE, Int.reduceToNat, Int.reduceEq, Nat.reduceMul, ↓reduceIte, Nat.reduceLT, Nat.reduceLeDiff, Nat.reduceEqDiff, Nat.reduceAdd, Nat.reduceSub, Nat.reduceBEq, reduceCtorEq]) <;> (first | rfl | (simp [ints]; done) | (simp [*]; done) | ((repeat' (first | rfl | apply And.intro)); done)))
  intro i hi
  rcases (by omega : i = 0 ∨ i = 1 ∨ i = 2) with rfl | rfl | rfl
  · repeat' first
      | simp (maxSteps := 1000000) only [go_sem, Int.reduceLT, Int.reduceLE, Int.reduceToNat, Int.reduceEq, Nat.reduceMul, ↓reduceIte, Nat.reduceLT, Nat.reduceLeDiff, Nat.reduceEqDiff, Nat.reduceAdd, Nat.reduceSub, Nat.reduceBEq, reduceCtorEq, *, hc0, hc1, hc2, ents_len, Int.add_zero]
      | contradiction
      | refine wT ?_ ?_ <;> intro _
      | refine wF ?_ ?_ <;> intro _
      | refine cD ?_ ?_ <;> intro _
      | refine dO (by kernel_rfl) ?_
      | (refine ⟨1, ?_, ?_, Conv.mk ?_ ?_ ?_ ?_ ?_⟩; (· (first | omega | (simp only; omega) | (simp only [List.length_nil, List.length_cons]; omega))); (· (omega)))
      | ((first | refine Fin.q ?_ ?_ | refine Fin.qn ?_ ?_) <;> ((try simp (maxSteps := 1000000) only [go_sem, Int.reduceLT, Int.reduceLE, Int.reduceToNat, Int.reduceEq, Nat.reduceMul, ↓reduceIte, Nat.reduceLT, Nat.reduceLeDiff, Nat.reduceEqDiff, Nat.reduceAdd, Nat.reduceSub, Nat.reduceBEq, reduceCtorEq, *, hc0, hc1, hc2, ents_len, Int.add_zero]) <;> (first | done | rfl)))
  · repeat' first
      | simp (maxSteps := 1000000) only [go_sem, Int.reduceLT, Int.reduceLE, Int.reduceToNat, Int.reduceEq, Nat.reduceMul, ↓reduceIte, Nat.reduceLT, Nat.reduceLeDiff, Nat.reduceEqDiff, Nat.reduceAdd, Nat.reduceSub, Nat.reduceBEq, reduceCtorEq, *, hc0, hc1, hc2, ents_len, Int.add_zero]
      | contradiction
      | refine wT ?_ ?_ <;> intro _
      | refine wF ?_ ?_ <;> intro _
      | refine cD ?_ ?_ <;> intro _
      | refine dO (by kernel_rfl) ?_
      | (refine ⟨2, ?_, ?_, Conv.mk ?_ ?_ ?_ ?_ ?_⟩; (· (first | omega | (simp only; omega) | (simp only [List.length_nil, List.length_cons]; omega))); (· (omega)))
      | ((first | refine Fin.q ?_ ?_ | refine Fin.qn ?_ ?_) <;> ((try simp (maxSteps := 1000000) only [go_sem, Int.reduceLT, Int.reduceLE, Int.reduceToNat, Int.reduceEq, Nat.reduceMul, ↓reduceIte, Nat.reduceLT, Nat.reduceLeDiff, Nat.reduceEqDiff, Nat.reduceAdd, Nat.reduceSub, Nat.reduceBEq, reduceCtorEq, *, hc0, hc1, hc2, ents_len, Int.add_zero]) <;> (first | done | rfl)))
  repeat' first
    | simp (maxSteps := 1000000) only [go_sem, Int.reduceLT, Int.reduceLE, Int.reduceToNat, Int.reduceEq, Nat.reduceMul, ↓reduceIte, Nat.reduceLT, Nat.reduceLeDiff, Nat.reduceEqDiff, Nat.reduceAdd, Nat.reduceSub, Nat.reduceBEq, reduceCtorEq, *, hc2]
    | contradiction
    | refine wT ?_ ?_ <;> intro _
    | refine wF ?_ ?_ <;> intro _
    | refine cD ?_ ?_ <;> intro _
    | refine dO (by kernel_rfl) ?_
    | refine (kGrw (by omega) (by omega)) ?_
    | refine Fin.q ?_ ?_
    | refine Fin.qn ?_ ?_
  have l0 : selE (0 : Nat) A.length A.length 0 = 0 := rfl
  have l1 : selE (0 : Nat) A.length A.length 1 = A.length := rfl
  have l2 : selE (0 : Nat) A.length A.length 2 = A.length := rfl
  have b0 : selE (List.replicate A.length zE) (ents A) (ents A) 0 = List.replicate A.length zE := rfl
  have b1 : selE (List.replicate A.length zE) (ents A) (ents A) 1 = (ents A) := rfl
  have b2 : selE (List.replicate A.length zE) (ents A) (ents A) 2 = ents A := rfl
  have q1 : List.drop A.length (List.replicate A.length zE) = [] := by rw [List.drop_replicate]; simp
  have q6 : ((ents A).all fun r => r.all D.isPur) = true := ents_pure _
  refine AW.loopx (σ := Nat) mix (fun i => ⟨36, [(27, .int .i64 i), (26, .int .i64 2), (25, .bs [[.vs (ents A)], [.vs []]]), (6, .rs 4 0 0 (selE (0 : Nat) A.length A.length i) A.length), (2, .zs)], [some (selE (List.replicate A.length zE) (ents A) (ents A) i)]⟩) (fun i => i ≤ 2) (fun i => 2 - i) 0 (by omega) (Conv.mk ?_ ?_ ?_ ?_ ?_) ?_
  iterate 5 (· (simp (maxSteps := 1000000) only [go_sem, Int.reduceLT, Int.reduceLE, Int.reduceToNat, Int.reduceEq, Nat.reduceMul, ↓reduceIte, Nat.reduceLT, Nat.reduceLeDiff, Nat.reduceEqDiff, Nat.reduceAdd, Nat.reduceSub, Nat.reduceBEq, reduceCtorEq, b0, l0, zE_refs]) <;> (first | rfl | (simp [ints]; done) | (simp [*]; done) | ((repeat' (first | rfl | apply And.intro)); done)))
  clear hi
  intro i hi
  rcases (by omega : i = 0 ∨ i = 1 ∨ i = 2) with rfl | rfl | rfl
  · rw [b0]
    repeat' first
      | simp (maxSteps := 1000000) only [go_sem, Int.reduceLT, Int.reduceLE, Int.reduceToNat, Int.reduceEq, Nat.reduceMul, ↓reduceIte, Nat.reduceLT, Nat.reduceLeDiff, Nat.reduceEqDiff, Nat.reduceAdd, Nat.reduceSub, Nat.reduceBEq, reduceCtorEq, *, l0, l1, b1, q1, zE_refs, ents_refs, ents_len, List.take_zero, List.nil_append, List.append_nil, List.isEmpty_nil, List.length_replicate, Nat.zero_add, Nat.le_refl, eq_self, true_and]
      | contradiction
      | refine wT ?_ ?_ <;> intro _
      | refine wF ?_ ?_ <;> intro _
      | refine cD ?_ ?_ <;> intro _
      | refine dO (by kernel_rfl) ?_
      | (refine ⟨1, ?_, ?_, Conv.mk ?_ ?_ ?_ ?_ ?_⟩; (· (first | omega | (simp only; omega) | (simp only [List.length_nil, List.length_cons]; omega))); (· (omega)))
      | ((first | refine Fin.q ?_ ?_ | refine Fin.qn ?_ ?_) <;> ((try simp (maxSteps := 1000000) only [go_sem, Int.reduceLT, Int.reduceLE, Int.reduceToNat, Int.reduceEq, Nat.reduceMul, ↓reduceIte, Nat.reduceLT, Nat.reduceLeDiff, Nat.reduceEqDiff, Nat.reduceAdd, Nat.reduceSub, Nat.reduceBEq, reduceCtorEq, *, l0, l1, b1, q1, zE_refs, ents_refs, ents_len, List.take_zero, List.nil_append, List.append_nil, List.isEmpty_nil, List.length_replicate, Nat.zero_add, Nat.le_refl, eq_self, true_and]) <;> (first | done | rfl)))
  · rw [b1]
    repeat' first
      | simp (maxSteps := 1000000) only [go_sem, Int.reduceLT, Int.reduceLE, Int.reduceToNat, Int.reduceEq, Nat.reduceMul, ↓reduceIte, Nat.reduceLT, Nat.reduceLeDiff, Nat.reduceEqDiff, Nat.reduceAdd, Nat.reduceSub, Nat.reduceBEq, reduceCtorEq, *, l1, l2, b2, q1, zE_refs, ents_refs, ents_len, List.take_zero, List.nil_append, List.append_nil, List.isEmpty_nil, List.length_replicate, Nat.zero_add, Nat.le_refl, eq_self, true_and]
      | contradiction
      | refine wT ?_ ?_ <;> intro _
      | refine wF ?_ ?_ <;> intro _
      | refine cD ?_ ?_ <;> intro _
      | refine dO (by kernel_rfl) ?_
      | (refine ⟨2, ?_, ?_, Conv.mk ?_ ?_ ?_ ?_ ?_⟩; (· (first | omega | (simp only; omega) | (simp only [List.length_nil, List.length_cons]; omega))); (· (omega)))
      | ((first | refine Fin.q ?_ ?_ | refine Fin.qn ?_ ?_) <;> ((try simp (maxSteps := 1000000) only [go_sem, Int.reduceLT, Int.reduceLE, Int.reduceToNat, Int.reduceEq, Nat.reduceMul, ↓reduceIte, Nat.reduceLT, Nat.reduceLeDiff, Nat.reduceEqDiff, Nat.reduceAdd, Nat.reduceSub, Nat.reduceBEq, reduceCtorEq, *, l1, l2, b2, q1, zE_refs, ents_refs, ents_len, List.take_zero, List.nil_append, List.append_nil, List.isEmpty_nil, List.length_replicate, Nat.zero_add, Nat.le_refl, eq_self, true_and]) <;> (first | done | rfl)))
  · rw [b2]
    repeat' first
      | simp (maxSteps := 1000000) only [go_sem, Int.reduceLT, Int.reduceLE, Int.reduceToNat, Int.reduceEq, Nat.reduceMul, ↓reduceIte, Nat.reduceLT, Nat.reduceLeDiff, Nat.reduceEqDiff, Nat.reduceAdd, Nat.reduceSub, Nat.reduceBEq, reduceCtorEq, *, l2, q6]
      | contradiction
      | refine wT ?_ ?_ <;> intro _
      | refine wF ?_ ?_ <;> intro _
      | refine cD ?_ ?_ <;> intro _
      | refine dO (by kernel_rfl) ?_
      | ((first | refine Fin.qy [0] (by simp) (by simp) ?_ ?_ | refine Fin.qn ?_ ?_) <;> ((try simp (maxSteps := 1000000) only [go_sem, Int.reduceLT, Int.reduceLE, Int.reduceToNat, Int.reduceEq, Nat.reduceMul, ↓reduceIte, Nat.reduceLT, Nat.reduceLeDiff, Nat.reduceEqDiff, Nat.reduceAdd, Nat.reduceSub, Nat.reduceBEq, reduceCtorEq, *, l2, q6]) <;> (first | done | rfl)))
end TR

/- bulk.Add. -/
open Go Go.Proofs Go.AH
set_option linter.unusedSimpArgs false
set_option linter.unusedVariables false
namespace TR
set_option maxRecDepth 20000 in
theorem cAd1 (t : Tr) (x y : En) : FC Tryz.prog 53 [.agg x.row, .agg y.row, .ip t.row] [] (.int .i64 (ecmp t.sc x y)) [] := by
  refine FC.of_run mix Tryz.func53 rfl rfl (by simp [Tryz.ntmps53]) ?_
  repeat' first
    | simp (maxSteps := 1000000) only [go_sem, Int.reduceLT, Int.reduceLE, Int.reduceToNat, Int.reduceEq, Nat.reduceMul, ↓reduceIte, Nat.reduceLT, Nat.reduceLeDiff, Nat.reduceEqDiff, Nat.reduceAdd, Nat.reduceSub, Nat.reduceBEq, reduceCtorEq, *]
    | contradiction
    | refine wT ?_ ?_ <;> intro _
    | refine wF ?_ ?_ <;> intro _
    | refine cD ?_ ?_ <;> intro _
    | refine dO (by kernel_rfl) ?_
    | refine (kceCmp (s := t.sc)) ?_
    | refine Fin.q ?_ ?_
    | refine Fin.qn ?_ ?_
theorem kAd1 {t : Tr} {x y : En} {q : Nat} {H : Heap} (hH : hget H q = some [t.row]) {slot : Nat} {K : D → List (Nat × Blk) → List (Nat × Blk) → Prop} (hK : K (.int .i64 (ecmp t.sc x y)) [] [(q, [t.row])]) : @callB ⟨callX Tryz.prog⟩ 53 [.agg x.row, .agg y.row, .ptr q 1 0 0] H slot ⟨K⟩ := by
  have e : rdOf H (D.idsL [.agg x.row, .agg y.row, .ptr q 1 0 0]) = [(q, [t.row])] := by simp [D.idsL, D.ids, rdOf, hH, En.row]
  refine call0 true (cAd1 t x y) ?_ rfl (fun _ => rfl) ?_
  · rw [e]
    simp [trL, tr, pos, AH.look, nods_pure1, En.row]
  · rw [e]; exact hK
theorem kCat {A B : List En} {n b : Nat} {H : Heap} (hB : hget H b = some [[.vs (ents A)], [.vs (ents B)]]) {slot : Nat} {K : D → List (Nat × Blk) → List (Nat × Blk) → Prop} (hn : (A ++ B).length = n) (h0 : 0 < n) (hl : n ≤ 100000) (hK : K (.rs 4 slot 0 n n) [(slot, ents (A ++ B))] [(b, [[.vs (ents A)], [.vs (ents B)]])]) : @callB ⟨callX Tryz.prog⟩ 55 [.rs 1 b 0 2 2] H slot ⟨K⟩ := by
  have e : rdOf H (D.idsL [.rs 1 b 0 2 2]) = [(b, [[.vs (ents A)], [.vs (ents B)]])] := by simp [D.idsL, D.ids, rdOf, hB]
  have hf : FC Tryz.prog 55 [.bs [[.vs (ents A)], [.vs (ents B)]]] [] (.rs 4 0 0 n n) [ents (A ++ B)] := by
    rcases A with _ | ⟨x, xs⟩
    · rcases B with _ | ⟨y, ys⟩
      · simp at hn; omega
      · have := cCatR (y :: ys) (by simp) (by simp at hn ⊢; omega)
        rw [show (y :: ys).length = n from by simpa using hn] at this
        exact this
    · rcases B with _ | ⟨y, ys⟩
      · have := cCatL (x :: xs) (by simp) (by simp at hn ⊢; omega)
        rw [show (x :: xs).length = n from by simpa using hn] at this
        rw [List.append_nil]
        exact this
      · have := cCat (x :: xs) (y :: ys) (by simp) (by simp) (by simp at hn ⊢; omega)
        rw [show (x :: xs).length + (y :: ys).length = n from by rw [← List.length_append]; exact hn] at this
        exact this
  refine callO hf ?_ (r' := .rs 4 slot 0 n n) (outs' := [ents (A ++ B)]) rfl ?_ (by simp) ?_
  · rw [e]
    simp [trL, tr, pos, AH.look, pureB, D.isPur]
  · have zp : pureB (ents (A ++ B)) = true := ents_pure _
    simp [backB, trB, zp]
  · rw [e]; exact hK
theorem kSrtE {t : Tr} {l : List En} {n q p : Nat} {H : Heap} (hP : hget H p = some [t.row]) (hQ : hget H q = some (ents l)) (hqp : q ≠ p) (hok : ∀ e, e ∈ l → e.ok t.sc) (he : eqAp l) (hn : l.length = n) (h0 : 0 < n) (hl : n ≤ 100000) {slot : Nat} {K : D → List (Nat × Blk) → List (Nat × Blk) → Prop}
    (hK : K (.tup []) [(q, ents (srtI t.sc l))] [(q, ents l), (q, ents l), (p, [t.row])]) : @callB ⟨callX Tryz.prog⟩ 57 [.rs 4 q 0 n n, .fn 53 [.ptr p 1 0 0]] H slot ⟨K⟩ := by
  subst hn
  have e : rdOf H ([q] ++ D.idsL [.rs 4 q 0 l.length l.length, .fn 53 [.ptr p 1 0 0]]) = [(q, ents l), (q, ents l), (p, [t.row])] := by simp [D.idsL, D.ids, rdOf, hP, hQ]
  have hc : Callable Tryz.prog 57 := (cSort 53 t.row (ecmp t.sc) [] ⟨fun x y => cAd1 t x y, sorted_asc (by simp [sorted]), by simp⟩ (by simp)).1
  refine callX2 [q] (cSortE (s := t.sc) (caps := [.ip t.row]) hc sortsAdd (by simp [D.refsL, D.refs]) (fun x y => cAd1 t x y) hok he h0 hl) (by simp) ?_ ?_ ⟨by simp, by simp⟩ (r' := .tup []) (outs' := [ents (srtI t.sc l)]) rfl ?_ ?_
  · rw [e]
    simp [trL, tr, pos, AH.look, nods_pure1, hqp, Ne.symm hqp]
  · rw [e]
    have zp : pureB (ents l) = true := ents_pure _
    simp [insA, AH.look, trB, zp]
  · have zp : pureB (ents (srtI t.sc l)) = true := ents_pure _
    simp [backB, trB, zp]
  · rw [e]; exact hK
theorem copyT {s : Sc} {c : Int} {l : List En} (hs : s.ok) (h : ofE s c l = 0) (h64 : l.length ≤ 64) {H : Heap} {slot : Nat} {K : D → List (Nat × Blk) → List (Nat × Blk) → Prop} (hK : K (.agg (ofT s c l).row) [] []) : @callB ⟨callX Tryz.prog⟩ 51 [.agg (ofT s c l).row] H slot ⟨K⟩ := by
  obtain ⟨h1, h2, h3, h4⟩ := ofT_ok h
  have hf := flatE_growF s c 32 0 (rootW s) l (sorted_ord hs h3)
  have hgl := growF_len s c (emE_0.1 h1).2.1 32 0 (rootW s) l
  have hrw := len8 (root_ok hs)
  have hln := growF_lens s c 32 0 (rootW s) l (by omega) (by omega) (by omega) (fun x hx => ok_lens (sorted_at h3 hx))
  have hcu := hs.1.2.2.2.2.2.2
  rw [h4] at hK ⊢
  refine kcTCopy (t := ⟨s, c, growF s c 32 0 (rootW s) l⟩) hK ?_ (by show s.cuts.length ≤ 4294967296; omega) (by show (growF s c 32 0 (rootW s) l).length ≤ 1000000; omega) (fun x hx => ⟨hln x hx, ?_⟩)
  · show growF s c 32 0 (rootW s) l ≠ []
    intro h0
    rw [h0] at hgl
    simp at hgl
  · have := es_flat hx
    simp only [hf] at this
    omega
set_option maxHeartbeats 8000000 in
set_option maxRecDepth 20000 in
theorem cAddOK (s : Sc) (c : Int) (L l : List En) (hs : s.ok) (h1 : 1 ≤ c) (h2 : c ≤ 64) (oL : okL s L) (ol : okL s l) (n : Nat) (hn : (L ++ l).length = n) (h0 : 0 < n) (h60 : n ≤ 60) (heq : eqAp (L ++ l)) (hP : (srtI s (L ++ l)).Pairwise kle) : FC Tryz.prog 24 [.agg (ofT s c L).row, .vs (ents l)] [] (.tup [.agg (ofT s c (srtI s (L ++ l))).row, .int .i64 0]) [] := by
  have hLn : L.length + l.length = n := by rw [← hn, List.length_append]
  have hofL := ofE_0 hs h1 h2 oL (by omega)
  have hokW : ∀ e, e ∈ L ++ l → e.ok s := fun e he => by
    rcases List.mem_append.1 he with h | h
    · exact oL.1 e h
    · exact ol.1 e h
  have hSn : (srtI s (L ++ l)).length = n := by rw [(srtI_perm s _).length_eq, hn]
  have hokS : ∀ e, e ∈ srtI s (L ++ l) → e.ok s := fun e he => hokW e ((srtI_perm s _).subset he)
  have hofS : ofE s c (srtI s (L ++ l)) = 0 := ofE_0 hs h1 h2 ⟨hokS, hP⟩ (by omega)
  have hn3 : (2000 < (n : Int)) = False := by simp only [eq_iff_iff, iff_false]; omega
  have hsd : decide (sorted s l) = true := decide_eq_true (pw_sorted ol.1 ol.2)
  have kC : ∀ {H : Heap} {slot : Nat} {K : D → List (Nat × Blk) → List (Nat × Blk) → Prop}, K (.int .i64 0) [] [] → @callB ⟨callX Tryz.prog⟩ 50 [.agg (ofT s c L).row] H slot ⟨K⟩ := fun hK => kChk hofL (by omega) hK
  have kE : ∀ {H : Heap} {slot : Nat} {K : D → List (Nat × Blk) → List (Nat × Blk) → Prop}, K (.vs (ents L)) [] [] → @callB ⟨callX Tryz.prog⟩ 56 [.agg (ofT s c L).row] H slot ⟨K⟩ := fun hK => kEntries hofL (by omega) hK
  have kSd : ∀ {H : Heap} {slot : Nat} {K : D → List (Nat × Blk) → List (Nat × Blk) → Prop}, K (.bool true) [] [] → @callB ⟨callX Tryz.prog⟩ 52 [.agg s.row, .vs (ents l)] H slot ⟨K⟩ := fun hK => kcSorted (by rw [hsd]; exact hK) (by omega)
  obtain ⟨g1, g2, g3, g4⟩ := ofT_ok hofL
  rw [g4] at kC kE ⊢
  generalize growF s c 32 0 (rootW s) L = ns at *
  clear g1 g2 g3 g4
  refine FC.of_run mix Tryz.func24 rfl rfl (by simp [Tryz.ntmps24]) ?_
  repeat' first
    | simp (maxSteps := 1000000) only [go_sem, Int.reduceLT, Int.reduceLE, Int.reduceToNat, Int.reduceEq, Nat.reduceMul, ↓reduceIte, Nat.reduceLT, Nat.reduceLeDiff, Nat.reduceEqDiff, Nat.reduceAdd, Nat.reduceSub, Nat.reduceBEq, reduceCtorEq, *]
    | contradiction
    | refine wT ?_ ?_ <;> intro _
    | refine wF ?_ ?_ <;> intro _
    | refine cD ?_ ?_ <;> intro _
    | refine dO (by kernel_rfl) ?_
    | refine kC ?_
    | refine kE ?_
    | refine kSd ?_
    | refine (kCat rfl hn h0 (by omega)) ?_
    | refine (kSrtE (t := ⟨s, c, ns⟩) rfl rfl (by decide) hokW heq hn h0 (by omega)) ?_
    | refine Fin.q ?_ ?_
    | refine Fin.qn ?_ ?_
  generalize hS : srtI s (L ++ l) = S at *
  have zz : pureB [zrow] = true := rfl
  have zp : pureB (ents S) = true := ents_pure _
  have zl : (ents S).length = n := by rw [ents_len, hSn]
  have zt : (ents S).take n = ents S := ents_take_all _ _ (by omega)
  have zr : pureB [(⟨s, c, ns⟩ : Tr).row] = true := nods_pure1 _
  refine AW.conv (s' := ⟨66, [(9, .int .i64 1), (8, .vs (ents S)), (7, .fn 53 [.ptr 0 1 0 0]), (5, .int .i64 0), (4, .ptr 1 1 0 0), (2, .ptr 0 1 0 0)], [some [(⟨s, c, ns⟩ : Tr).row], some [zrow], none, none, none, none, none, none, none, none, none, none, none, none, none, none]⟩) (Conv.trans (s1 := ⟨66, [(9, .int .i64 1), (8, .rs 4 15 0 n n), (7, .fn 53 [.ptr 0 1 0 0]), (5, .int .i64 0), (4, .ptr 1 1 0 0), (2, .ptr 0 1 0 0)], [some [(⟨s, c, ns⟩ : Tr).row], some [zrow], none, none, none, none, none, none, none, none, none, none, none, none, none, some (ents S)]⟩) (Conv.mk ?_ ?_ ?_ ?_ ?_) (Conv.freeze (b := 15) (by decide) ?_)) ?_
  iterate 5 (· simp (maxSteps := 1000000) only [go_sem, Int.reduceLT, Int.reduceLE, Int.reduceToNat, Int.reduceEq, Nat.reduceMul, ↓reduceIte, Nat.reduceLT, Nat.reduceLeDiff, Nat.reduceEqDiff, Nat.reduceAdd, Nat.reduceSub, Nat.reduceBEq, reduceCtorEq, zrow])
  · simp [AH.freeze, frzH, frzTm, trB, trL, tr, unb, hget, zz, zp, zl, zt, zr]
  refine AW.loopx (σ := Nat) mix (fun i => ⟨66, [(9, .int .i64 i), (8, .vs (ents S)), (7, .fn 53 [.ptr 0 1 0 0]), (5, .int .i64 0), (4, .ptr 1 1 0 0), (2, .ptr 0 1 0 0)], [some [(⟨s, c, ns⟩ : Tr).row], some [zrow], none, none, none, none, none, none, none, none, none, none, none, none, none, none]⟩) (fun i => 1 ≤ i ∧ i ≤ n) (fun i => n - i) 1 ⟨by omega, by omega⟩ (Conv.mk ?_ ?_ ?_ ?_ ?_) ?_
  iterate 5 (· (simp (maxSteps := 1000000) only [go_sem, Int.reduceLT, Int.reduceLE, Int.reduceToNat, Int.reduceEq, Nat.reduceMul, ↓reduceIte, Nat.reduceLT, Nat.reduceLeDiff, Nat.reduceEqDiff, Nat.reduceAdd, Nat.reduceSub, Nat.reduceBEq, reduceCtorEq, zrow]) <;> (first | rfl | (simp [ints]; done) | (simp [*]; done) | ((repeat' (first | rfl | apply And.intro)); done)))
  clear hofL zl zt zp
  intro i ⟨hi1, hi⟩
  have hw := wrap1 (i := i) (by omega)
  by_cases h : i < n
  · have hx := ents_get (l := S) (i := i) (by omega)
    have hy := ents_get1 (l := S) (i := i) (by omega)
    have hw2 : IntKind.i64.wrap ((i : Int) - 1) = ((i - 1 : Nat) : Int) := wrapm1 (by omega) (by omega)
    have hne : (ecmp s (S.getD (i - 1) default) (S.getD i default) = 0) = False := by
      simp only [eq_iff_iff, iff_false]
      exact ecmp_ne (hokS _ (getD_mem' (by omega))) (hokS _ (getD_mem' (by omega))) (.inl (pw_get hP (by omega) (by omega)))
    repeat' first
      | simp (maxSteps := 1000000) only [go_sem, Int.reduceLT, Int.reduceLE, Int.reduceToNat, Int.reduceEq, Nat.reduceMul, ↓reduceIte, Nat.reduceLT, Nat.reduceLeDiff, Nat.reduceEqDiff, Nat.reduceAdd, Nat.reduceSub, Nat.reduceBEq, reduceCtorEq, *, zrow, ents_len]
      | contradiction
      | refine wT ?_ ?_ <;> intro _
      | refine wF ?_ ?_ <;> intro _
      | refine cD ?_ ?_ <;> intro _
      | refine dO (by kernel_rfl) ?_
      | refine (kAd1 (t := ⟨s, c, ns⟩) rfl) ?_
      | (refine ⟨i + 1, ?_, ?_, Conv.mk ?_ ?_ ?_ ?_ ?_⟩; (· (first | omega | (simp only; omega) | (simp only [List.length_nil, List.length_cons]; omega))); (· (exact ⟨by omega, by omega⟩)))
      | refine Fin.q ?_ ?_
      | refine Fin.qn ?_ ?_
  · repeat' first
      | simp (maxSteps := 1000000) only [go_sem, Int.reduceLT, Int.reduceLE, Int.reduceToNat, Int.reduceEq, Nat.reduceMul, ↓reduceIte, Nat.reduceLT, Nat.reduceLeDiff, Nat.reduceEqDiff, Nat.reduceAdd, Nat.reduceSub, Nat.reduceBEq, reduceCtorEq, *, zrow, ents_len]
      | contradiction
      | refine wT ?_ ?_ <;> intro _
      | refine wF ?_ ?_ <;> intro _
      | refine cD ?_ ?_ <;> intro _
      | refine dO (by kernel_rfl) ?_
      | refine (kcOf (s := s) (l := S)) ?_
      | ((first | refine Fin.q ?_ ?_ | refine Fin.qn ?_ ?_) <;> ((try simp (maxSteps := 1000000) only [go_sem, Int.reduceLT, Int.reduceLE, Int.reduceToNat, Int.reduceEq, Nat.reduceMul, ↓reduceIte, Nat.reduceLT, Nat.reduceLeDiff, Nat.reduceEqDiff, Nat.reduceAdd, Nat.reduceSub, Nat.reduceBEq, reduceCtorEq, *, zrow, ents_len]) <;> (first | done | rfl)))
set_option maxHeartbeats 8000000 in
set_option maxRecDepth 20000 in
theorem cAddTw (s : Sc) (c : Int) (L l : List En) (hs : s.ok) (h1 : 1 ≤ c) (h2 : c ≤ 64) (oL : okL s L) (ol : okL s l) (n : Nat) (hn : (L ++ l).length = n) (h0 : 0 < n) (h60 : n ≤ 60) (heq : eqAp (L ++ l)) (hP : ¬ (srtI s (L ++ l)).Pairwise kle) : FC Tryz.prog 24 [.agg (ofT s c L).row, .vs (ents l)] [] (.tup [.agg (ofT s c L).row, .int .i64 14]) [] := by
  have hLn : L.length + l.length = n := by rw [← hn, List.length_append]
  have hofL := ofE_0 hs h1 h2 oL (by omega)
  have hokW : ∀ e, e ∈ L ++ l → e.ok s := fun e he => by
    rcases List.mem_append.1 he with h | h
    · exact oL.1 e h
    · exact ol.1 e h
  have hSn : (srtI s (L ++ l)).length = n := by rw [(srtI_perm s _).length_eq, hn]
  have hokS : ∀ e, e ∈ srtI s (L ++ l) → e.ok s := fun e he => hokW e ((srtI_perm s _).subset he)
  have hSp := srtI_pw s (L ++ l) hokW
  have hn3 : (2000 < (n : Int)) = False := by simp only [eq_iff_iff, iff_false]; omega
  have hsd : decide (sorted s l) = true := decide_eq_true (pw_sorted ol.1 ol.2)
  have kC : ∀ {H : Heap} {slot : Nat} {K : D → List (Nat × Blk) → List (Nat × Blk) → Prop}, K (.int .i64 0) [] [] → @callB ⟨callX Tryz.prog⟩ 50 [.agg (ofT s c L).row] H slot ⟨K⟩ := fun hK => kChk hofL (by omega) hK
  have kE : ∀ {H : Heap} {slot : Nat} {K : D → List (Nat × Blk) → List (Nat × Blk) → Prop}, K (.vs (ents L)) [] [] → @callB ⟨callX Tryz.prog⟩ 56 [.agg (ofT s c L).row] H slot ⟨K⟩ := fun hK => kEntries hofL (by omega) hK
  have kSd : ∀ {H : Heap} {slot : Nat} {K : D → List (Nat × Blk) → List (Nat × Blk) → Prop}, K (.bool true) [] [] → @callB ⟨callX Tryz.prog⟩ 52 [.agg s.row, .vs (ents l)] H slot ⟨K⟩ := fun hK => kcSorted (by rw [hsd]; exact hK) (by omega)
  have kT : ∀ {H : Heap} {slot : Nat} {K : D → List (Nat × Blk) → List (Nat × Blk) → Prop}, K (.agg (ofT s c L).row) [] [] → @callB ⟨callX Tryz.prog⟩ 51 [.agg (ofT s c L).row] H slot ⟨K⟩ := fun hK => copyT hs hofL (by omega) hK
  obtain ⟨g1, g2, g3, g4⟩ := ofT_ok hofL
  rw [g4] at kC kE kT ⊢
  generalize growF s c 32 0 (rootW s) L = ns at *
  clear g1 g2 g3 g4
  refine FC.of_run mix Tryz.func24 rfl rfl (by simp [Tryz.ntmps24]) ?_
  repeat' first
    | simp (maxSteps := 1000000) only [go_sem, Int.reduceLT, Int.reduceLE, Int.reduceToNat, Int.reduceEq, Nat.reduceMul, ↓reduceIte, Nat.reduceLT, Nat.reduceLeDiff, Nat.reduceEqDiff, Nat.reduceAdd, Nat.reduceSub, Nat.reduceBEq, reduceCtorEq, *]
    | contradiction
    | refine wT ?_ ?_ <;> intro _
    | refine wF ?_ ?_ <;> intro _
    | refine cD ?_ ?_ <;> intro _
    | refine dO (by kernel_rfl) ?_
    | refine kC ?_
    | refine kE ?_
    | refine kSd ?_
    | refine (kCat rfl hn h0 (by omega)) ?_
    | refine (kSrtE (t := ⟨s, c, ns⟩) rfl rfl (by decide) hokW heq hn h0 (by omega)) ?_
    | refine Fin.q ?_ ?_
    | refine Fin.qn ?_ ?_
  generalize hS : srtI s (L ++ l) = S at *
  have zz : pureB [zrow] = true := rfl
  have zp : pureB (ents S) = true := ents_pure _
  have zl : (ents S).length = n := by rw [ents_len, hSn]
  have zt : (ents S).take n = ents S := ents_take_all _ _ (by omega)
  have zr : pureB [(⟨s, c, ns⟩ : Tr).row] = true := nods_pure1 _
  refine AW.conv (s' := ⟨66, [(9, .int .i64 1), (8, .vs (ents S)), (7, .fn 53 [.ptr 0 1 0 0]), (5, .int .i64 0), (4, .ptr 1 1 0 0), (2, .ptr 0 1 0 0)], [some [(⟨s, c, ns⟩ : Tr).row], some [zrow], none, none, none, none, none, none, none, none, none, none, none, none, none, none]⟩) (Conv.trans (s1 := ⟨66, [(9, .int .i64 1), (8, .rs 4 15 0 n n), (7, .fn 53 [.ptr 0 1 0 0]), (5, .int .i64 0), (4, .ptr 1 1 0 0), (2, .ptr 0 1 0 0)], [some [(⟨s, c, ns⟩ : Tr).row], some [zrow], none, none, none, none, none, none, none, none, none, none, none, none, none, some (ents S)]⟩) (Conv.mk ?_ ?_ ?_ ?_ ?_) (Conv.freeze (b := 15) (by decide) ?_)) ?_
  iterate 5 (· simp (maxSteps := 1000000) only [go_sem, Int.reduceLT, Int.reduceLE, Int.reduceToNat, Int.reduceEq, Nat.reduceMul, ↓reduceIte, Nat.reduceLT, Nat.reduceLeDiff, Nat.reduceEqDiff, Nat.reduceAdd, Nat.reduceSub, Nat.reduceBEq, reduceCtorEq, zrow])
  · simp [AH.freeze, frzH, frzTm, trB, trL, tr, unb, hget, zz, zp, zl, zt, zr]
  refine AW.loopx (σ := Nat) mix (fun i => ⟨66, [(9, .int .i64 i), (8, .vs (ents S)), (7, .fn 53 [.ptr 0 1 0 0]), (5, .int .i64 0), (4, .ptr 1 1 0 0), (2, .ptr 0 1 0 0)], [some [(⟨s, c, ns⟩ : Tr).row], some [zrow], none, none, none, none, none, none, none, none, none, none, none, none, none, none]⟩) (fun i => (1 ≤ i ∧ i ≤ n) ∧ ∀ j, 0 < j → j < i → kle (S.getD (j - 1) default) (S.getD j default)) (fun i => n - i) 1 ⟨⟨by omega, by omega⟩, fun j h1 h2 => by omega⟩ (Conv.mk ?_ ?_ ?_ ?_ ?_) ?_
  iterate 5 (· (simp (maxSteps := 1000000) only [go_sem, Int.reduceLT, Int.reduceLE, Int.reduceToNat, Int.reduceEq, Nat.reduceMul, ↓reduceIte, Nat.reduceLT, Nat.reduceLeDiff, Nat.reduceEqDiff, Nat.reduceAdd, Nat.reduceSub, Nat.reduceBEq, reduceCtorEq, zrow]) <;> (first | rfl | (simp [ints]; done) | (simp [*]; done) | ((repeat' (first | rfl | apply And.intro)); done)))
  clear hofL zl zt zp
  intro i ⟨⟨hi1, hi⟩, hadj⟩
  have hw := wrap1 (i := i) (by omega)
  by_cases h : i < n
  · have hx := ents_get (l := S) (i := i) (by omega)
    have hy := ents_get1 (l := S) (i := i) (by omega)
    have hw2 : IntKind.i64.wrap ((i : Int) - 1) = ((i - 1 : Nat) : Int) := wrapm1 (by omega) (by omega)
    have hnx : ¬ ecmp s (S.getD (i - 1) default) (S.getD i default) = 0 → kle (S.getD (i - 1) default) (S.getD i default) := fun h0 => by
      refine Classical.byContradiction fun hk => h0 (adj_eq (hokS _ (getD_mem' (by omega))) (hokS _ (getD_mem' (by omega))) (pw_get hSp (by omega) (by omega)) hk)
    repeat' first
      | simp (maxSteps := 1000000) only [go_sem, Int.reduceLT, Int.reduceLE, Int.reduceToNat, Int.reduceEq, Nat.reduceMul, ↓reduceIte, Nat.reduceLT, Nat.reduceLeDiff, Nat.reduceEqDiff, Nat.reduceAdd, Nat.reduceSub, Nat.reduceBEq, reduceCtorEq, *, zrow, ents_len]
      | contradiction
      | refine wT ?_ ?_ <;> intro _
      | refine wF ?_ ?_ <;> intro _
      | refine cD ?_ ?_ <;> intro _
      | refine dO (by kernel_rfl) ?_
      | refine (kAd1 (t := ⟨s, c, ns⟩) rfl) ?_
      | refine kT ?_
      | (refine ⟨i + 1, ?_, ?_, Conv.mk ?_ ?_ ?_ ?_ ?_⟩; (· (first | omega | (simp only; omega) | (simp only [List.length_nil, List.length_cons]; omega))); (· (exact ⟨⟨by omega, by omega⟩, fun j h1 h2 => by rcases Nat.lt_or_ge j i with h3 | h3; exact hadj j h1 h3; (obtain rfl : j = i := by omega); exact hnx ‹_›⟩)))
      | ((first | refine Fin.q ?_ ?_ | refine Fin.qn ?_ ?_) <;> ((try simp (maxSteps := 1000000) only [go_sem, Int.reduceLT, Int.reduceLE, Int.reduceToNat, Int.reduceEq, Nat.reduceMul, ↓reduceIte, Nat.reduceLT, Nat.reduceLeDiff, Nat.reduceEqDiff, Nat.reduceAdd, Nat.reduceSub, Nat.reduceBEq, reduceCtorEq, *, zrow, ents_len]) <;> (first | done | rfl)))
  · exact absurd (adj_pw fun j h1 h2 => hadj j h1 (by omega)) hP
theorem kCat0 {b : Nat} {H : Heap} (hB : hget H b = some [[.vs []], [.vs []]]) {slot : Nat} {K : D → List (Nat × Blk) → List (Nat × Blk) → Prop} (hK : K (.vs []) [] [(b, [[.vs []], [.vs []]])]) : @callB ⟨callX Tryz.prog⟩ 55 [.rs 1 b 0 2 2] H slot ⟨K⟩ := by
  have e : rdOf H (D.idsL [.rs 1 b 0 2 2]) = [(b, [[.vs []], [.vs []]])] := by simp [D.idsL, D.ids, rdOf, hB]
  refine call0 false cCat0 ?_ rfl (fun h => nomatch h) ?_
  · rw [e]
    simp [trL, tr, pos, AH.look, pureB, D.isPur]
  · rw [e]; exact hK
theorem kSrt0 {t : Tr} {q : Nat} {H : Heap} (hH : hget H q = some [t.row]) {slot : Nat} {K : D → List (Nat × Blk) → List (Nat × Blk) → Prop} (hK : K (.tup []) [] [(q, [t.row])]) : @callB ⟨callX Tryz.prog⟩ 57 [.vs [], .fn 53 [.ptr q 1 0 0]] H slot ⟨K⟩ := by
  have e : rdOf H (D.idsL [.vs [], .fn 53 [.ptr q 1 0 0]]) = [(q, [t.row])] := by simp [D.idsL, D.ids, rdOf, hH]
  refine call0 true (cSort 53 t.row (ecmp t.sc) [] ⟨fun x y => cAd1 t x y, sorted_asc (by simp [sorted]), by simp⟩ (by simp)) ?_ rfl (fun _ => rfl) ?_
  · rw [e]
    simp [trL, tr, pos, AH.look, nods_pure1, ents]
  · rw [e]; exact hK
set_option maxHeartbeats 8000000 in
set_option maxRecDepth 20000 in
theorem cAdd0 (s : Sc) (c : Int) (hs : s.ok) (h1 : 1 ≤ c) (h2 : c ≤ 64) : FC Tryz.prog 24 [.agg (ofT s c []).row, .vs []] [] (.tup [.agg (ofT s c []).row, .int .i64 0]) [] := by
  have hofL := ofE_0 hs h1 h2 (okL_nil s) (by simp)
  have hsd : decide (sorted s []) = true := decide_eq_true (fun i hi => by simp at hi)
  have kC : ∀ {H : Heap} {slot : Nat} {K : D → List (Nat × Blk) → List (Nat × Blk) → Prop}, K (.int .i64 0) [] [] → @callB ⟨callX Tryz.prog⟩ 50 [.agg (ofT s c []).row] H slot ⟨K⟩ := fun hK => kChk hofL (by simp) hK
  have kE : ∀ {H : Heap} {slot : Nat} {K : D → List (Nat × Blk) → List (Nat × Blk) → Prop}, K (.vs []) [] [] → @callB ⟨callX Tryz.prog⟩ 56 [.agg (ofT s c []).row] H slot ⟨K⟩ := fun hK => kEntries hofL (by simp) hK
  have kSd : ∀ {H : Heap} {slot : Nat} {K : D → List (Nat × Blk) → List (Nat × Blk) → Prop}, K (.bool true) [] [] → @callB ⟨callX Tryz.prog⟩ 52 [.agg s.row, .vs []] H slot ⟨K⟩ := fun hK => kcSorted (l := []) (by rw [hsd]; exact hK) (by simp)
  have kO : ∀ {H : Heap} {slot : Nat} {K : D → List (Nat × Blk) → List (Nat × Blk) → Prop}, K (.tup [.agg (ofT s c []).row, .int .i64 0]) [] [] → @callB ⟨callX Tryz.prog⟩ 34 [.agg s.row, .int .i64 c, .vs []] H slot ⟨K⟩ := fun hK => kcOf (l := []) (by rw [hofL]; exact hK) (by simp)
  obtain ⟨g1, g2, g3, g4⟩ := ofT_ok hofL
  rw [g4] at kC kE kO ⊢
  generalize growF s c 32 0 (rootW s) [] = ns at *
  clear g1 g2 g3 g4
  refine FC.of_run mix Tryz.func24 rfl rfl (by simp [Tryz.ntmps24]) ?_
  repeat' first
    | simp (maxSteps := 1000000) only [go_sem, Int.reduceLT, Int.reduceLE, Int.reduceToNat, Int.reduceEq, Nat.reduceMul, ↓reduceIte, Nat.reduceLT, Nat.reduceLeDiff, Nat.reduceEqDiff, Nat.reduceAdd, Nat.reduceSub, Nat.reduceBEq, reduceCtorEq, *]
    | contradiction
    | refine wT ?_ ?_ <;> intro _
    | refine wF ?_ ?_ <;> intro _
    | refine cD ?_ ?_ <;> intro _
    | refine dO (by kernel_rfl) ?_
    | refine kC ?_
    | refine kE ?_
    | refine kSd ?_
    | refine kO ?_
    | refine (kCat0 rfl) ?_
    | refine (kSrt0 (t := ⟨s, c, ns⟩) rfl) ?_
    | refine Fin.q ?_ ?_
    | refine Fin.qn ?_ ?_
  refine AW.loopx (σ := Unit) mix (fun _u => ⟨66, [(9, .int .i64 1), (8, .vs []), (7, .fn 53 [.ptr 0 1 0 0]), (5, .int .i64 0), (4, .ptr 1 1 0 0), (2, .ptr 0 1 0 0)], [some [(⟨s, c, ns⟩ : Tr).row], some [zrow], none, none, none, none, none, none, none, none, none, none, none, none, none, none]⟩) (fun _u => True) (fun _u => 0) () trivial (Conv.mk ?_ ?_ ?_ ?_ ?_) ?_
  iterate 5 (· (simp (maxSteps := 1000000) only [go_sem, Int.reduceLT, Int.reduceLE, Int.reduceToNat, Int.reduceEq, Nat.reduceMul, ↓reduceIte, Nat.reduceLT, Nat.reduceLeDiff, Nat.reduceEqDiff, Nat.reduceAdd, Nat.reduceSub, Nat.reduceBEq, reduceCtorEq, zrow]) <;> (first | rfl | (simp [ints]; done) | (simp [*]; done) | ((repeat' (first | rfl | apply And.intro)); done)))
  intro _ _
  repeat' first
    | simp (maxSteps := 1000000) only [go_sem, Int.reduceLT, Int.reduceLE, Int.reduceToNat, Int.reduceEq, Nat.reduceMul, ↓reduceIte, Nat.reduceLT, Nat.reduceLeDiff, Nat.reduceEqDiff, Nat.reduceAdd, Nat.reduceSub, Nat.reduceBEq, reduceCtorEq, *, zrow]
    | contradiction
    | refine wT ?_ ?_ <;> intro _
    | refine wF ?_ ?_ <;> intro _
    | refine cD ?_ ?_ <;> intro _
    | refine dO (by kernel_rfl) ?_
    | refine kO ?_
    | ((first | refine Fin.q ?_ ?_ | refine Fin.qn ?_ ?_) <;> ((try simp (maxSteps := 1000000) only [go_sem, Int.reduceLT, Int.reduceLE, Int.reduceToNat, Int.reduceEq, Nat.reduceMul, ↓reduceIte, Nat.reduceLT, Nat.reduceLeDiff, Nat.reduceEqDiff, Nat.reduceAdd, Nat.reduceSub, Nat.reduceBEq, reduceCtorEq, *, zrow]) <;> (first | done | rfl)))
theorem kAddOK {s : Sc} {c : Int} {L l M : List En} {H : Heap} {slot : Nat} {K : D → List (Nat × Blk) → List (Nat × Blk) → Prop} (hs : s.ok) (h1 : 1 ≤ c) (h2 : c ≤ 64) (oL : okL s L) (ol : okL s l) (oM : okL s M) (hp : M.Perm (L ++ l)) (hl : M.length ≤ 60) (hK : K (.tup [.agg (ofT s c M).row, .int .i64 0]) [] []) : @callB ⟨callX Tryz.prog⟩ 24 [.agg (ofT s c L).row, .vs (ents l)] H slot ⟨K⟩ := by
  have hlen : (L ++ l).length = M.length := hp.length_eq.symm
  have hap : eqAp (L ++ l) := eqAp_sub (apart_eqAp (pw_apart oM.2)) fun a ha => hp.symm.subset ha
  rcases Nat.eq_zero_or_pos M.length with h0 | h0
  · obtain rfl : M = [] := List.eq_nil_of_length_eq_zero h0
    rw [h0, List.length_append] at hlen
    obtain rfl : L = [] := List.eq_nil_of_length_eq_zero (by omega)
    obtain rfl : l = [] := List.eq_nil_of_length_eq_zero (by omega)
    exact call0 false (cAdd0 s c hs h1 h2) rfl rfl (fun h => nomatch h) hK
  · have hokW : ∀ e, e ∈ L ++ l → e.ok s := fun e he => oM.1 e (hp.symm.subset he)
    have hS : srtI s (L ++ l) = M := by
      refine kle_uniq' ((srtI_perm s _).trans hp.symm) (srtI_pw s _ hokW) (oM.2.imp fun h => kle_irr h) ?_
      exact eqAp_sub hap fun a ha => (srtI_perm s _).subset ha
    have := cAddOK s c L l hs h1 h2 oL ol M.length hlen h0 hl hap (by rw [hS]; exact oM.2)
    rw [hS] at this
    exact call0 false this rfl rfl (fun h => nomatch h) hK
theorem kAddTw {s : Sc} {c : Int} {L l : List En} {e : En} {H : Heap} {slot : Nat} {K : D → List (Nat × Blk) → List (Nat × Blk) → Prop} (hs : s.ok) (h1 : 1 ≤ c) (h2 : c ≤ 64) (oL : okL s L) (ol : okL s l) (hap : eqAp (L ++ l)) (he1 : e ∈ L) (he2 : e ∈ l) (hl : L.length + l.length ≤ 60) (hK : K (.tup [.agg (ofT s c L).row, .int .i64 14]) [] []) : @callB ⟨callX Tryz.prog⟩ 24 [.agg (ofT s c L).row, .vs (ents l)] H slot ⟨K⟩ := by
  have h0 : 0 < L.length := List.length_pos_of_mem he1
  refine call0 false (cAddTw s c L l hs h1 h2 oL ol (L.length + l.length) (by simp) (by omega) hl hap (fun hP => dup_pw (srtI_perm s _) he1 he2 hP)) rfl rfl (fun h => nomatch h) hK
end TR

/- BulkParts. -/
open Go Go.Proofs Go.AH
set_option linter.unusedSimpArgs false
set_option linter.unusedVariables false
namespace TR
theorem okL_srt {s : Sc} {l : List En} (hok : ∀ e, e ∈ l → e.ok s) (ha : apart l) : okL s (srtO s l) := by
  obtain ⟨h1, h2⟩ := srtO_is hok ha
  exact ⟨fun e he => hok e (h1.subset he), h2⟩
set_option maxHeartbeats 8000000 in
set_option maxRecDepth 20000 in
theorem cPLaw (h9 : FC Tryz.prog 8 [] [] (.bool true) []) (L : List Int) (b1 : Nat) (hb1 : b1 ≤ 255) : FC Tryz.prog 6 [V L, .int .u8 b1] [] (.bool true) [] := by
  have kAw : ∀ {H : Heap} {slot : Nat} {K : D → List (Nat × Blk) → List (Nat × Blk) → Prop}, K (.bool true) [] [] → @callB ⟨callX Tryz.prog⟩ 8 [] H slot ⟨K⟩ := fun hK => call0 true h9 rfl rfl (fun _ => rfl) hK
  clear h9
  by_cases hF : L.length ≤ 400
  · have hL : L.length ≤ 1000 := by omega
    have d0 := dv_lt L 0 (n := 5) (by decide)
    have a0 : da L 0 5 ≤ 1000 := da_le _ _ _ (by omega) hL
    obtain ⟨len, hlen⟩ : ∃ len, 2 + dv L 0 5 = len := ⟨_, rfl⟩
    obtain ⟨p, hp⟩ : ∃ p, preS L (da L 0 5) len = p := ⟨_, rfl⟩
    have hpo := pre_ok L (da L 0 5) len (by omega) hL a0
    rw [hp] at hpo
    have hso := scOf_ok (L := L) hpo (by omega) (by omega)
    have hap := posC_le L p.step p.a hpo.ha hL p.cnt.toNat
    have hl2 : 2 ≤ len := by omega
    have hl32 : len ≤ 32 := by omega
    have kS : ∀ {q : Nat} {H : Heap} (hH : hget H q = some [[V L, .int .i64 (da L 0 5)]]) {slot : Nat} {K : D → List (Nat × Blk) → List (Nat × Blk) → Prop}, K (.agg (scOf L p len).row) [(q, [[V L, .int .i64 (posC L p.step p.a p.cnt.toNat)]])] [(q, [[V L, .int .i64 (da L 0 5)]]), (q, [[V L, .int .i64 (da L 0 5)]])] → @callB ⟨callX Tryz.prog⟩ 11 [.ptr q 1 0 0, .int .i64 len] H slot ⟨K⟩ := fun hH _ _ hK => kSch hH p hp hK hL a0 hl2 hl32
    generalize scOf L p len = s at *
    generalize posC L p.step p.a p.cnt.toNat = a at *
    clear hp hpo
    refine FC.of_run mix Tryz.func6 rfl rfl (by simp [Tryz.ntmps6]) ?_
    repeat' first
      | simp (maxSteps := 1000000) only [go_sem, Int.reduceLT, Int.reduceLE, Int.reduceToNat, Int.reduceEq, Nat.reduceMul, ↓reduceIte, Nat.reduceLT, Nat.reduceLeDiff, Nat.reduceEqDiff, Nat.reduceAdd, Nat.reduceSub, Nat.reduceBEq, reduceCtorEq, *]
      | contradiction
      | refine wT ?_ ?_ <;> intro _
      | refine wF ?_ ?_ <;> intro _
      | refine cD ?_ ?_ <;> intro _
      | refine dO (by kernel_rfl) ?_
      | refine kcFew ?_
      | refine kNew ?_
      | refine (kLength (a := 0) rfl (ha := Nat.zero_le 1000)) ?_
      | refine (kS rfl) ?_
      | refine Fin.q ?_ ?_
      | refine Fin.qn ?_ ?_
    refine kEnts2 (s := s) rfl hso hL hap (by decide) (by decide) fun l b hl hok hapart hb => ?_
    have hl30 : l.length ≤ 30 := by omega
    have d5 := dv_lt L b (n := 5) (by decide)
    obtain ⟨c, hc⟩ : ∃ c, 1 + dv L b 5 = c := ⟨_, rfl⟩
    have u0 : IntKind.i64.wrap (b1 : Int) = (b1 : Int) := by rw [wrapS] <;> omega
    have z1 : IntKind.i64.wrap ((l.length : Int) + 1) = ((l.length + 1 : Nat) : Int) := wrap1 (by omega)
    have z2 : ((b1 : Int)).tmod ((l.length + 1 : Nat) : Int) = ((b1 % (l.length + 1) : Nat) : Int) := rfl
    have hk : b1 % (l.length + 1) ≤ l.length := by have := Nat.mod_lt b1 (show 0 < l.length + 1 by omega); omega
    have z3 : IntKind.i64.wrap (((b1 % (l.length + 1) : Nat)) : Int) = ((b1 % (l.length + 1) : Nat) : Int) := by rw [wrapS] <;> omega
    have z4 : (((l.length + 1 : Nat) : Int) = 0) = False := by simp only [eq_iff_iff, iff_false]; omega
    have z5 : (((l.length + 1 : Nat) : Int) = -1) = False := by simp only [eq_iff_iff, iff_false]; omega
    have z6 : IntKind.i64.wrap c = c := by rw [wrapS] <;> omega
    have c1 : 1 ≤ c := by omega
    have c2 : c ≤ 64 := by omega
    generalize b1 % (l.length + 1) = k at *
    have u5 : (Tryz.prog.underlying 5).isSome = true := by kernel_rfl
    have hkA : apart (l.take k) := List.Pairwise.sublist (List.take_sublist _ _) hapart
    have hkB : apart (l.drop k) := List.Pairwise.sublist (List.drop_sublist _ _) hapart
    have hoA : ∀ e, e ∈ l.take k → e.ok s := fun e he => hok e (List.mem_of_mem_take he)
    have hoB : ∀ e, e ∈ l.drop k → e.ok s := fun e he => hok e (List.mem_of_mem_drop he)
    have oA := okL_srt hoA hkA
    have oB := okL_srt hoB hkB
    have oX := okL_srt hok hapart
    have pA := (srtO_is hoA hkA).1
    have pB := (srtO_is hoB hkB).1
    have pX := (srtO_is hok hapart).1
    have kR1 : ∀ {H : Heap} {slot : Nat} {K : D → List (Nat × Blk) → List (Nat × Blk) → Prop}, K (.vs (ents (srtO s (l.take k)))) [] [] → @callB ⟨callX Tryz.prog⟩ 23 [.agg s.row, .vs (ents (l.take k))] H slot ⟨K⟩ := fun hK => kcSrt hK hso (by rw [List.length_take]; omega)
    have kR2 : ∀ {H : Heap} {slot : Nat} {K : D → List (Nat × Blk) → List (Nat × Blk) → Prop}, K (.vs (ents (srtO s (l.drop k)))) [] [] → @callB ⟨callX Tryz.prog⟩ 23 [.agg s.row, .vs (ents (l.drop k))] H slot ⟨K⟩ := fun hK => kcSrt hK hso (by rw [List.length_drop]; omega)
    have kR3 : ∀ {H : Heap} {slot : Nat} {K : D → List (Nat × Blk) → List (Nat × Blk) → Prop}, K (.vs (ents (srtO s l))) [] [] → @callB ⟨callX Tryz.prog⟩ 23 [.agg s.row, .vs (ents l)] H slot ⟨K⟩ := fun hK => kcSrt hK hso (by omega)
    have lA : (srtO s (l.take k)).length = k := by rw [pA.length_eq, List.length_take]; omega
    have lX : (srtO s l).length = l.length := pX.length_eq
    have hp1 : (srtO s (l.take k)).Perm ([] ++ srtO s (l.take k)) := List.Perm.refl _
    have hp2 : (srtO s l).Perm (srtO s (l.take k) ++ srtO s (l.drop k)) := by
      refine pX.trans (List.Perm.trans ?_ (pA.append pB).symm)
      rw [List.take_append_drop]
    have hp3 : (srtO s l).Perm ([] ++ srtO s l) := List.Perm.refl _
    have hzero : k = 0 → (srtO s l).Perm (srtO s l ++ srtO s (l.take k)) := fun h => by
      have : srtO s (l.take k) = [] := List.eq_nil_of_length_eq_zero (by omega)
      rw [this, List.append_nil]
    have hpos : 0 < k → ∃ e, e ∈ srtO s l ∧ e ∈ srtO s (l.take k) := fun h => by
      have hne : srtO s (l.take k) ≠ [] := fun h0 => by rw [h0] at lA; simp at lA; omega
      obtain ⟨e, he⟩ := List.exists_mem_of_ne_nil _ hne
      exact ⟨e, pX.symm.subset (List.mem_of_mem_take (pA.subset he)), he⟩
    have heq : eqAp (srtO s l ++ srtO s (l.take k)) := eqAp_sub (apart_eqAp hapart) fun a ha => by
      rcases List.mem_append.1 ha with h | h
      · exact pX.subset h
      · exact List.mem_of_mem_take (pA.subset h)
    have hof := ofE_0 hso c1 c2 oX (by omega)
    have kSm : ∀ {H : Heap} {slot : Nat} {K : D → List (Nat × Blk) → List (Nat × Blk) → Prop}, K (.bool true) [] [] → @callB ⟨callX Tryz.prog⟩ 18 [.agg (ofT s c (srtO s l)).row, .agg (ofT s c (srtO s l)).row] H slot ⟨K⟩ := fun hK => call0 true (sameT hso hof (by omega)) rfl rfl (fun _ => rfl) hK
    generalize srtO s (l.take k) = A at *
    generalize srtO s (l.drop k) = B at *
    generalize srtO s l = X at *
    have h60a : A.length ≤ 60 := by omega
    have h60x : X.length ≤ 60 := by omega
    have hd : List.drop k (ents l) = ents (l.drop k) := by simp [ents]
    have ht : List.take k (ents l) = ents (l.take k) := by simp [ents]
    have htl : List.take l.length (ents l) = ents l := ents_take_all _ _ (Nat.le_refl _)
    have hkk : k ≤ l.length := hk
    clear hoA hoB hkA hkB hok hapart pA pB pX hlen d0 a0 hF hl hb1
    rcases Nat.eq_zero_or_pos k with h0 | h0
    · have hp4 := hzero h0
      have hk0 : (0 < k) = False := by simp only [eq_iff_iff, iff_false]; omega
      have hk1 : ((0 : Int) < (k : Int)) = False := by simp only [eq_iff_iff, iff_false]; omega
      clear hzero hpos heq h0
      repeat' first
        | simp (maxSteps := 1000000) only [go_sem, Int.reduceLT, Int.reduceLE, Int.reduceToNat, Int.reduceEq, Nat.reduceMul, ↓reduceIte, Nat.reduceLT, Nat.reduceLeDiff, Nat.reduceEqDiff, Nat.reduceAdd, Nat.reduceSub, Nat.reduceBEq, reduceCtorEq, *, ents_len, List.drop_zero, Nat.le_refl, true_and, and_true, imp_self, and_self]
        | contradiction
        | refine wT ?_ ?_ <;> intro _
        | refine wF ?_ ?_ <;> intro _
        | refine cD ?_ ?_ <;> intro _
        | refine dO (by kernel_rfl) ?_
        | refine (kNext rfl) ?_
        | refine kcNewR ?_
        | refine kR1 ?_
        | refine kR2 ?_
        | refine kR3 ?_
        | refine (kAddOK hso c1 c2 (okL_nil s) oA oA hp1 h60a) ?_
        | refine (kAddOK hso c1 c2 oA oB oX hp2 h60x) ?_
        | refine (kAddOK hso c1 c2 (okL_nil s) oX oX hp3 h60x) ?_
        | refine (kAddOK hso c1 c2 oX oA oX hp4 h60x) ?_
        | refine kSm ?_
        | refine kAw ?_
        | refine Fin.q ?_ ?_
        | refine Fin.qn ?_ ?_
    · obtain ⟨e, he1, he2⟩ := hpos h0
      have hk0 : (0 < k) = True := by simp only [eq_iff_iff, iff_true]; omega
      have hk1 : ((0 : Int) < (k : Int)) = True := by simp only [eq_iff_iff, iff_true]; omega
      clear hzero hpos
      repeat' first
        | simp (maxSteps := 1000000) only [go_sem, Int.reduceLT, Int.reduceLE, Int.reduceToNat, Int.reduceEq, Nat.reduceMul, ↓reduceIte, Nat.reduceLT, Nat.reduceLeDiff, Nat.reduceEqDiff, Nat.reduceAdd, Nat.reduceSub, Nat.reduceBEq, reduceCtorEq, *, ents_len, List.drop_zero, Nat.le_refl, true_and, and_true, imp_self, and_self]
        | contradiction
        | refine wT ?_ ?_ <;> intro _
        | refine wF ?_ ?_ <;> intro _
        | refine cD ?_ ?_ <;> intro _
        | refine dO (by kernel_rfl) ?_
        | refine (kNext rfl) ?_
        | refine kcNewR ?_
        | refine kR1 ?_
        | refine kR2 ?_
        | refine kR3 ?_
        | refine (kAddOK hso c1 c2 (okL_nil s) oA oA hp1 h60a) ?_
        | refine (kAddOK hso c1 c2 oA oB oX hp2 h60x) ?_
        | refine (kAddOK hso c1 c2 (okL_nil s) oX oX hp3 h60x) ?_
        | refine (kAddTw hso c1 c2 oX oA heq he1 he2 (by omega)) ?_
        | refine kSm ?_
        | refine kAw ?_
        | refine Fin.q ?_ ?_
        | refine Fin.qn ?_ ?_
  · have hF2 : ¬ L.length ≤ 400 := hF
    refine FC.of_run mix Tryz.func6 rfl rfl (by simp [Tryz.ntmps6]) ?_
    repeat' first
      | simp (maxSteps := 1000000) only [go_sem, Int.reduceLT, Int.reduceLE, Int.reduceToNat, Int.reduceEq, Nat.reduceMul, ↓reduceIte, Nat.reduceLT, Nat.reduceLeDiff, Nat.reduceEqDiff, Nat.reduceAdd, Nat.reduceSub, Nat.reduceBEq, reduceCtorEq, *]
      | contradiction
      | refine wT ?_ ?_ <;> intro _
      | refine wF ?_ ?_ <;> intro _
      | refine cD ?_ ?_ <;> intro _
      | refine dO (by kernel_rfl) ?_
      | refine kcFew ?_
      | refine kAw ?_
      | refine Fin.q ?_ ?_
      | refine Fin.qn ?_ ?_
end TR

/- The row of BulkParts. -/
open Go Go.Proofs Go.Proofs.YtmhkanhgmfolhaaGreat Go.AH Go.ChangeShapes Go.WideShapes Go.ChangeAt Go.RowKit
set_option linter.unusedVariables false
namespace TR
theorem own : ownKnob Tryz.prog.godebug = none := by kernel_rfl
theorem laidOut : laidOutB Tryz.prog = true := by kernel_rfl
theorem uq4 : Tryz.prog.underlying 4 = some .bool := by kernel_rfl
theorem uq5 : Tryz.prog.underlying 5 = some (.int .u8) := by kernel_rfl
theorem uq22 : Tryz.prog.underlying 22 = some (.slice 3) := by kernel_rfl
theorem fq3 : flatI Tryz.prog 5 3 = some 1 := by kernel_rfl
theorem cq3 : Tryz.prog.cellsOf 3 = 1 := by kernel_rfl
theorem ones_rows : ∀ (rows : List (List Int)), (∀ r, r ∈ rows → r.length = 1) → ∃ L : List Int, (rows.map fun r => r.map (D.int .i64)) = ints L
  | [], _ => ⟨[], rfl⟩
  | r :: rs, h => by
    obtain ⟨L, h2⟩ := ones_rows rs (fun s hs => h s (by simp [hs]))
    have := h r (by simp)
    match r, this with
    | [a], _ => exact ⟨a :: L, by simp only [List.map_cons, h2]; rfl⟩
/-- A list of numbers that is handed in. -/
theorem in_ints {H : Type} {enc : TypeId × Value → H} {w : World} {spare : Nat → Bool} {held : Bool} {m : Nat} {v : Value} {x : DataW H × List MemPlace} (h : DataW.trod enc Tryz.prog w 0 spare held m 22 [v] = some x) : ∃ L : List Int, RelE (fun _ => True) (fun _ => none) w (V L) v := by
  obtain ⟨rows, _, h2, h3⟩ := slice_trod 5 uq22 fq3 cq3 (by decide) h
  obtain ⟨L, hL⟩ := ones_rows rows h2
  rw [hL] at h3
  exact ⟨L, h3⟩
theorem in_u8 {H : Type} {enc : TypeId × Value → H} {w : World} {spare : Nat → Bool} {held : Bool} {m : Nat} {v : Value} {x : DataW H × List MemPlace} (h : DataW.trod enc Tryz.prog w 0 spare held m 5 [v] = some x) : ∃ n : Nat, n ≤ 255 ∧ v = .int .u8 (n : Int) := by
  obtain ⟨n, h1, _, h3⟩ := DataW.trod_int uq5 h
  simp only [List.cons.injEq, and_true] at h1
  obtain ⟨h4, h5⟩ : IntKind.min .u8 ≤ n ∧ n ≤ IntKind.max .u8 := by simpa [Lit.wf] using h3
  have h4' : (0 : Int) ≤ n := h4
  have h5' : n ≤ (255 : Int) := h5
  exact ⟨n.toNat, by omega, by rw [h1, Int.toNat_of_nonneg h4']⟩
set_option maxRecDepth 100000 in
theorem liftedP (h9 : FC Tryz.prog 8 [] [] (.bool true) []) (os : Os) (started : os.Started) (H : Type) (enc : TypeId × Value → H) :
    ReturnsInHanded {} Tryz.checked os 6 .any (Rows.bulkPartsSpec.pre6 enc Tryz.prog Tryz.f6 Rows.bulkPartsRow.domain false) (Rows.bulkPartsSpec.post enc Tryz.prog Tryz.f6 false true false false) := by
  refine returnsInHanded_of_change (C := Tryz.checked) own started (by kernel_rfl) Tryz.func6
    (ChangeSpec.witness6 (enc := enc) (C := Tryz.checked) false ⟨#[], #[.slice none 0 0, .int .u8 0], []⟩ 8 (by kernel_rfl) (by kernel_rfl) (by kernel_rfl) (by kernel_rfl)) ?_
  intro W base args ds gs before hval0 hW hcnd _
  have hval : ∀ (j : Nat) t v, Tryz.f6.params[j]? = some t → args[j]? = some v → Value.okWide Tryz.prog W .any base t v := hval0
  have hW' := hW
  obtain ⟨p, q, hA0, hV, rfl, hfz, hnd⟩ := hW
  have hA : DataW.TrodAll enc Tryz.prog W 0 (fun _ => true) true Tryz.f6.params.toList args.toList ds p := hA0
  rw [Tryz.params6] at hA hval
  obtain ⟨v0, vs0, d0, ds0, p0, q0, hargs, rfl, rfl, h0, r0⟩ := trodAll_cons hA
  obtain ⟨v1, vs1, d1, ds1, p1, q1, rfl, rfl, rfl, h1, r1⟩ := trodAll_cons r0
  obtain ⟨rfl, rfl, rfl⟩ := trodAll_nil r1
  obtain rfl : args = #[v0, v1] := by cases args; simp_all
  obtain ⟨rfl, rfl⟩ := trodVars_none hV
  have k0 := h0
  have k1 := h1
  have lt0 : ∀ x ∈ p0, x.block < W.heap.size := by obtain ⟨m, hm⟩ := k0; exact DataW.trod_lt m _ _ _ hm
  have lt1 : ∀ x ∈ p1, x.block < W.heap.size := by obtain ⟨m, hm⟩ := k1; exact DataW.trod_lt m _ _ _ hm
  obtain ⟨sa, sl, sc, rfl⟩ := okWide_slice uq22 (hval 0 22 v0 rfl rfl)
  obtain ⟨n1, rfl⟩ := okWide_int uq5 (hval 1 5 v1 rfl rfl)
  obtain ⟨fuel0, hf0⟩ := h0
  obtain ⟨fuel1, hf1⟩ := h1
  obtain ⟨L, hrel⟩ := in_ints hf0
  obtain ⟨b1, hb1, e1⟩ := in_u8 hf1
  cases e1
  clear hA0 hval0
  refine (law_below (cPLaw h9 L b1 hb1) (vs := #[.slice sa sl sc, .int .u8 (b1 : Int)]) ⟨rfl, fun i x v hx hv => ?_⟩).mono fun e' W' ⟨he, bel⟩ => ?_
  · match i, hx, hv with
    | 0, hx, hv => cases hx; cases hv; exact hrel
    | 1, hx, hv => cases hx; cases hv; exact .pur _ _ (.int _ _)
    | i + 2, hx, hv => cases hx
  subst he
  exact ⟨_, rfl, _, _, _, [], _, [], hW', trodAll_mk1 (shut_bool uq4 _), (trodAll_cons_mk (Below.trod laidOut (by kernel_rfl) (of_decide_eq_true (by kernel_rfl)) k0 bel lt0) (trodAll_cons_mk (Below.trod laidOut (by kernel_rfl) (of_decide_eq_true (by kernel_rfl)) k1 bel lt1) trodAll_mk0)), rfl, bel.frame _, fun h => by cases h⟩
set_option maxRecDepth 100000 in
theorem overP (h9 : FC Tryz.prog 8 [] [] (.bool true) []) : Rows.bulkPartsRow.holds Tryz.pinned (OpenSpec.ofChange Rows.bulkPartsSpec) :=
  OpenClaim.holds_of_wide 6 Tryz.f6 rfl rfl rfl rfl rfl rfl rfl ⟨rfl, rfl, rfl, rfl, rfl⟩ rfl rfl rfl rfl rfl (by kernel_rfl) Tryz.func6 (by kernel_rfl)
    (of_decide_eq_true (by kernel_rfl)) (by unfold Func.isWrapper; first | (rw [if_pos (by decide +kernel)]; kernel_rfl) | (rw [if_neg (by decide +kernel)]; exact ⟨rfl, rfl⟩))
    (fun os started H enc _ => liftedP h9 os started H enc)
end TR


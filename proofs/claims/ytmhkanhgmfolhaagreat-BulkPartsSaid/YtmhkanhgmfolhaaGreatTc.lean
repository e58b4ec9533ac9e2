/- The tree walked: part c. -/
import Derived.Test.YtmhkanhgmfolhaaGreatTb
import Derived.Test.YtmhkanhgmfolhaaGreatAhZ
/- slices.SortFunc at entries that are sorted. -/
open Go Go.Proofs Go.AH
set_option linter.unusedSimpArgs false
set_option linter.unusedVariables false
namespace TR
theorem kcmp {g : Nat} {cells : List D} {cf : En → En → Int} (hg : ∀ x y : En, FC Tryz.prog g [.agg x.row, .agg y.row, .ip cells] [] (.int .i64 (cf x y)) []) (x y : En) {H : Heap} {slot : Nat} {K : D → List (Nat × Blk) → List (Nat × Blk) → Prop} (hK : K (.int .i64 (cf x y)) [] []) : @callB ⟨callX Tryz.prog⟩ g [.agg x.row, .agg y.row, .ip cells] H slot ⟨K⟩ :=
  call0 true (hg x y) rfl rfl (fun _ => rfl) hK
/-- No later entry is less than an earlier one. -/
def ascBy (cf : En → En → Int) (l : List En) : Prop := ∀ i j, i < j → j < l.length → ¬ cf (l.getD j default) (l.getD i default) < 0
structure Srt (g : Nat) (cells : List D) (cf : En → En → Int) (l : List En) : Prop where
  hg : ∀ x y : En, FC Tryz.prog g [.agg x.row, .agg y.row, .ip cells] [] (.int .i64 (cf x y)) []
  ha : ascBy cf l
  hl : l.length < 1000000
set_option maxHeartbeats 2000000 in
set_option maxRecDepth 20000 in
theorem cins (g : Nat) (cells : List D) (cf : En → En → Int) (l : List En) (hS : Srt g cells cf l) : FC Tryz.prog 145 [.vs (ents l), .int .i64 0, .int .i64 l.length, .fn g [.ip cells]] [] (.tup []) [] := by
  refine FC.of_run mix Tryz.func145 rfl rfl (by simp [Tryz.ntmps145]) ?_
  obtain ⟨hg, ha, hl⟩ := hS
  have hw0 : IntKind.i64.wrap ((0 : Int) + 1) = 1 := by decide
  repeat' first
    | simp (maxSteps := 1000000) only [go_sem, Int.reduceLT, Int.reduceLE, Int.reduceToNat, Int.reduceEq, Nat.reduceMul, ↓reduceIte, Nat.reduceLT, Nat.reduceLeDiff, Nat.reduceEqDiff, Nat.reduceAdd, Nat.reduceSub, Nat.reduceBEq, reduceCtorEq, *]
    | contradiction
    | refine wT ?_ ?_ <;> intro _
    | refine wF ?_ ?_ <;> intro _
    | refine cD ?_ ?_ <;> intro _
    | refine dO (by kernel_rfl) ?_
    | refine Fin.q ?_ ?_
    | refine Fin.qn ?_ ?_
  refine AW.loopx (σ := Nat) mix (fun i => ⟨53, [(8, .int .i64 ((i + 1 : Nat) : Int)), (3, .fn g [.ip cells]), (2, .int .i64 l.length), (1, .int .i64 0), (0, .vs (ents l))], []⟩) (fun i => i ≤ l.length) (fun i => l.length - i) 0 (by omega) (Conv.mk ?_ ?_ ?_ ?_ ?_) ?_
  iterate 5 (· (simp (maxSteps := 1000000) only [go_sem, Int.reduceLT, Int.reduceLE, Int.reduceToNat, Int.reduceEq, Nat.reduceMul, ↓reduceIte, Nat.reduceLT, Nat.reduceLeDiff, Nat.reduceEqDiff, Nat.reduceAdd, Nat.reduceSub, Nat.reduceBEq, reduceCtorEq, Nat.zero_add]) <;> (first | rfl | (simp [ints]; done) | (simp [*]; done) | ((repeat' (first | rfl | apply And.intro)); done)))
  intro i hi
  by_cases h : i + 1 < l.length
  · repeat' first
      | simp (maxSteps := 1000000) only [go_sem, Int.reduceLT, Int.reduceLE, Int.reduceToNat, Int.reduceEq, Nat.reduceMul, ↓reduceIte, Nat.reduceLT, Nat.reduceLeDiff, Nat.reduceEqDiff, Nat.reduceAdd, Nat.reduceSub, Nat.reduceBEq, reduceCtorEq, *]
      | contradiction
      | refine wT ?_ ?_ <;> intro _
      | refine wF ?_ ?_ <;> intro _
      | refine cD ?_ ?_ <;> intro _
      | refine dO (by kernel_rfl) ?_
      | refine Fin.q ?_ ?_
      | refine Fin.qn ?_ ?_
    refine AW.loopx (σ := Unit) mix (fun _u => ⟨53, [(9, .int .i64 ((i + 1 : Nat) : Int)), (8, .int .i64 ((i + 1 : Nat) : Int)), (3, .fn g [.ip cells]), (2, .int .i64 l.length), (1, .int .i64 0), (0, .vs (ents l))], []⟩) (fun _u => True) (fun _u => 0) () trivial (Conv.mk ?_ ?_ ?_ ?_ ?_) ?_
    iterate 5 (· (simp (maxSteps := 1000000) only [go_sem, Int.reduceLT, Int.reduceLE, Int.reduceToNat, Int.reduceEq, Nat.reduceMul, ↓reduceIte, Nat.reduceLT, Nat.reduceLeDiff, Nat.reduceEqDiff, Nat.reduceAdd, Nat.reduceSub, Nat.reduceBEq, reduceCtorEq]) <;> (first | rfl | (simp [ints]; done) | (simp [*]; done) | ((repeat' (first | rfl | apply And.intro)); done)))
    intro _ _
    have hx := ents_get h
    have hy := ents_get (l := l) (i := i) (by omega)
    have hc := ha i (i + 1) (by omega) h
    have hp : 0 < i + 1 := by omega
    have hw1 : IntKind.i64.wrap (((i + 1 : Nat) : Int) - 1) = (i : Int) := by rw [wrapS] <;> omega
    have hw2 : IntKind.i64.wrap (((i + 1 : Nat) : Int) + 1) = ((i + 1 + 1 : Nat) : Int) := wrap1 (by omega)
    repeat' first
      | simp (maxSteps := 1000000) only [go_sem, Int.reduceLT, Int.reduceLE, Int.reduceToNat, Int.reduceEq, Nat.reduceMul, ↓reduceIte, Nat.reduceLT, Nat.reduceLeDiff, Nat.reduceEqDiff, Nat.reduceAdd, Nat.reduceSub, Nat.reduceBEq, reduceCtorEq, *]
      | contradiction
      | refine wT ?_ ?_ <;> intro _
      | refine wF ?_ ?_ <;> intro _
      | refine cD ?_ ?_ <;> intro _
      | refine dO (by kernel_rfl) ?_
      | refine (kcmp hg _ _) ?_
      | (refine ⟨i + 1, ?_, ?_, Conv.mk ?_ ?_ ?_ ?_ ?_⟩; (· (first | omega | (simp only; omega) | (simp only [List.length_nil, List.length_cons]; omega))); (· (omega)))
      | refine Fin.q ?_ ?_
      | refine Fin.qn ?_ ?_
  · repeat' first
      | simp (maxSteps := 1000000) only [go_sem, Int.reduceLT, Int.reduceLE, Int.reduceToNat, Int.reduceEq, Nat.reduceMul, ↓reduceIte, Nat.reduceLT, Nat.reduceLeDiff, Nat.reduceEqDiff, Nat.reduceAdd, Nat.reduceSub, Nat.reduceBEq, reduceCtorEq, *]
      | contradiction
      | refine wT ?_ ?_ <;> intro _
      | refine wF ?_ ?_ <;> intro _
      | refine cD ?_ ?_ <;> intro _
      | refine dO (by kernel_rfl) ?_
      | refine Fin.q ?_ ?_
      | refine Fin.qn ?_ ?_
theorem kins {g : Nat} {cells : List D} {cf : En → En → Int} {l : List En} (hS : Srt g cells cf l) {H : Heap} {slot : Nat} {K : D → List (Nat × Blk) → List (Nat × Blk) → Prop} (hK : K (.tup []) [] []) : @callB ⟨callX Tryz.prog⟩ 145 [.vs (ents l), .int .i64 0, .int .i64 l.length, .fn g [.ip cells]] H slot ⟨K⟩ := call0 true (cins g cells cf l hS) rfl rfl (fun _ => rfl) hK
set_option maxHeartbeats 2000000 in
set_option maxRecDepth 20000 in
theorem cord2 (g : Nat) (cells : List D) (cf : En → En → Int) (l : List En) (a b : Nat) (hS : Srt g cells cf l) (hab : a < b) (hb : b < l.length) : FC Tryz.prog 196 [.vs (ents l), .int .i64 a, .int .i64 b, .ip [.int .i64 0], .fn g [.ip cells]] [] (.tup [.int .i64 a, .int .i64 b]) [] := by
  refine FC.of_run mix Tryz.func196 rfl rfl (by simp [Tryz.ntmps196]) ?_
  obtain ⟨hg, ha, hl⟩ := hS
  have hx := ents_get hb
  have hy := ents_get (l := l) (i := a) (by omega)
  have hc := ha a b hab hb
  have ha2 : a < l.length := by omega
  repeat' first
    | simp (maxSteps := 1000000) only [go_sem, Int.reduceLT, Int.reduceLE, Int.reduceToNat, Int.reduceEq, Nat.reduceMul, ↓reduceIte, Nat.reduceLT, Nat.reduceLeDiff, Nat.reduceEqDiff, Nat.reduceAdd, Nat.reduceSub, Nat.reduceBEq, reduceCtorEq, *]
    | contradiction
    | refine wT ?_ ?_ <;> intro _
    | refine wF ?_ ?_ <;> intro _
    | refine cD ?_ ?_ <;> intro _
    | refine dO (by kernel_rfl) ?_
    | refine (kcmp hg _ _) ?_
    | refine Fin.q ?_ ?_
    | refine Fin.qn ?_ ?_
theorem kord2 {g : Nat} {cells : List D} {cf : En → En → Int} {l : List En} (hS : Srt g cells cf l) {a b : Nat} {H : Heap} {slot : Nat} {K : D → List (Nat × Blk) → List (Nat × Blk) → Prop} (hK : K (.tup [.int .i64 a, .int .i64 b]) [] []) (hab : a < b := by omega) (hb : b < l.length := by omega) : @callB ⟨callX Tryz.prog⟩ 196 [.vs (ents l), .int .i64 a, .int .i64 b, .ip [.int .i64 0], .fn g [.ip cells]] H slot ⟨K⟩ := call0 true (cord2 g cells cf l a b hS hab hb) rfl rfl (fun _ => rfl) hK
set_option maxHeartbeats 2000000 in
set_option maxRecDepth 20000 in
theorem cmed (g : Nat) (cells : List D) (cf : En → En → Int) (l : List En) (a b c : Nat) (hS : Srt g cells cf l) (hab : a < b) (hbc : b < c) (hc : c < l.length) : FC Tryz.prog 185 [.vs (ents l), .int .i64 a, .int .i64 b, .int .i64 c, .ip [.int .i64 0], .fn g [.ip cells]] [] (.int .i64 b) [] := by
  refine FC.of_run mix Tryz.func185 rfl rfl (by simp [Tryz.ntmps185]) ?_
  repeat' first
    | simp (maxSteps := 1000000) only [go_sem, Int.reduceLT, Int.reduceLE, Int.reduceToNat, Int.reduceEq, Nat.reduceMul, ↓reduceIte, Nat.reduceLT, Nat.reduceLeDiff, Nat.reduceEqDiff, Nat.reduceAdd, Nat.reduceSub, Nat.reduceBEq, reduceCtorEq, *]
    | contradiction
    | refine wT ?_ ?_ <;> intro _
    | refine wF ?_ ?_ <;> intro _
    | refine cD ?_ ?_ <;> intro _
    | refine dO (by kernel_rfl) ?_
    | refine (kord2 hS) ?_
    | refine Fin.q ?_ ?_
    | refine Fin.qn ?_ ?_
theorem kmed {g : Nat} {cells : List D} {cf : En → En → Int} {l : List En} (hS : Srt g cells cf l) {a b c : Nat} {H : Heap} {slot : Nat} {K : D → List (Nat × Blk) → List (Nat × Blk) → Prop} (hK : K (.int .i64 b) [] []) (hab : a < b := by omega) (hbc : b < c := by omega) (hc : c < l.length := by omega) : @callB ⟨callX Tryz.prog⟩ 185 [.vs (ents l), .int .i64 a, .int .i64 b, .int .i64 c, .ip [.int .i64 0], .fn g [.ip cells]] H slot ⟨K⟩ := call0 true (cmed g cells cf l a b c hS hab hbc hc) rfl rfl (fun _ => rfl) hK
set_option maxHeartbeats 2000000 in
set_option maxRecDepth 20000 in
theorem cmadj (g : Nat) (cells : List D) (cf : En → En → Int) (l : List En) (a : Nat) (hS : Srt g cells cf l) (h0 : 0 < a) (h1 : a + 1 < l.length) : FC Tryz.prog 184 [.vs (ents l), .int .i64 a, .ip [.int .i64 0], .fn g [.ip cells]] [] (.int .i64 a) [] := by
  refine FC.of_run mix Tryz.func184 rfl rfl (by simp [Tryz.ntmps184]) ?_
  have hl := hS.hl
  have w1 : IntKind.i64.wrap ((a : Int) - 1) = ((a - 1 : Nat) : Int) := wrapm1 h0 (by omega)
  have w2 := wrap1 (i := a) (by omega)
  repeat' first
    | simp (maxSteps := 1000000) only [go_sem, Int.reduceLT, Int.reduceLE, Int.reduceToNat, Int.reduceEq, Nat.reduceMul, ↓reduceIte, Nat.reduceLT, Nat.reduceLeDiff, Nat.reduceEqDiff, Nat.reduceAdd, Nat.reduceSub, Nat.reduceBEq, reduceCtorEq, *]
    | contradiction
    | refine wT ?_ ?_ <;> intro _
    | refine wF ?_ ?_ <;> intro _
    | refine cD ?_ ?_ <;> intro _
    | refine dO (by kernel_rfl) ?_
    | refine (kmed hS) ?_
    | refine Fin.q ?_ ?_
    | refine Fin.qn ?_ ?_
theorem kmadj {g : Nat} {cells : List D} {cf : En → En → Int} {l : List En} (hS : Srt g cells cf l) {a : Nat} {H : Heap} {slot : Nat} {K : D → List (Nat × Blk) → List (Nat × Blk) → Prop} (hK : K (.int .i64 a) [] []) (h0 : 0 < a := by omega) (h1 : a + 1 < l.length := by omega) : @callB ⟨callX Tryz.prog⟩ 184 [.vs (ents l), .int .i64 a, .ip [.int .i64 0], .fn g [.ip cells]] H slot ⟨K⟩ := call0 true (cmadj g cells cf l a hS h0 h1) rfl rfl (fun _ => rfl) hK
end TR

/- slices.SortFunc at entries that are sorted: the pivot, the scan, the whole. -/
open Go Go.Proofs Go.AH
set_option linter.unusedSimpArgs false
set_option linter.unusedVariables false
namespace TR
theorem kmedP {g : Nat} {cells : List D} {cf : En → En → Int} {l : List En} (hS : Srt g cells cf l) {a b c q : Nat} {H : Heap} (hH : hget H q = some [[.int .i64 0]]) {slot : Nat} {K : D → List (Nat × Blk) → List (Nat × Blk) → Prop} (hK : K (.int .i64 b) [] [(q, [[.int .i64 0]])]) (hab : a < b := by omega) (hbc : b < c := by omega) (hc : c < l.length := by omega) : @callB ⟨callX Tryz.prog⟩ 185 [.vs (ents l), .int .i64 a, .int .i64 b, .int .i64 c, .ptr q 1 0 0, .fn g [.ip cells]] H slot ⟨K⟩ := by
  have e : rdOf H (D.idsL [.vs (ents l), .int .i64 a, .int .i64 b, .int .i64 c, .ptr q 1 0 0, .fn g [.ip cells]]) = [(q, [[.int .i64 0]])] := by simp [D.idsL, D.ids, rdOf, hH]
  refine call0 true (cmed g cells cf l a b c hS hab hbc hc) ?_ rfl (fun _ => rfl) (by rw [e]; exact hK)
  rw [e]
  simp [trL, tr, pos, AH.look, pureB, D.isPur]
theorem kmadjP {g : Nat} {cells : List D} {cf : En → En → Int} {l : List En} (hS : Srt g cells cf l) {a q : Nat} {H : Heap} (hH : hget H q = some [[.int .i64 0]]) {slot : Nat} {K : D → List (Nat × Blk) → List (Nat × Blk) → Prop} (hK : K (.int .i64 a) [] [(q, [[.int .i64 0]])]) (h0 : 0 < a := by omega) (h1 : a + 1 < l.length := by omega) : @callB ⟨callX Tryz.prog⟩ 184 [.vs (ents l), .int .i64 a, .ptr q 1 0 0, .fn g [.ip cells]] H slot ⟨K⟩ := by
  have e : rdOf H (D.idsL [.vs (ents l), .int .i64 a, .ptr q 1 0 0, .fn g [.ip cells]]) = [(q, [[.int .i64 0]])] := by simp [D.idsL, D.ids, rdOf, hH]
  refine call0 true (cmadj g cells cf l a hS h0 h1) ?_ rfl (fun _ => rfl) (by rw [e]; exact hK)
  rw [e]
  simp [trL, tr, pos, AH.look, pureB, D.isPur]
theorem natdiv4 (n : Nat) : (n : Int).tdiv 4 = ((n / 4 : Nat) : Int) := by rw [Int.tdiv_eq_ediv_of_nonneg (by omega)]; omega
set_option maxHeartbeats 2000000 in
set_option maxRecDepth 20000 in
theorem cpivot (g : Nat) (cells : List D) (cf : En → En → Int) (l : List En) (hS : Srt g cells cf l) (h12 : 12 < l.length) : FC Tryz.prog 148 [.vs (ents l), .int .i64 0, .int .i64 l.length, .fn g [.ip cells]] [] (.tup [.int .i64 ((l.length / 4 * 2 : Nat) : Int), .int .i64 1]) [] := by
  refine FC.of_run mix Tryz.func148 rfl rfl (by simp [Tryz.ntmps148]) ?_
  have hl := hS.hl
  have w0 : IntKind.i64.wrap ((l.length : Int) - 0) = (l.length : Int) := by rw [wrapS] <;> omega
  have w4 : IntKind.i64.wrap ((l.length / 4 : Nat) : Int) = ((l.length / 4 : Nat) : Int) := wrapN (by omega)
  have m1 : IntKind.i64.wrap (((l.length / 4 : Nat) : Int) * 1) = ((l.length / 4 * 1 : Nat) : Int) := by rw [wrapS] <;> omega
  have m2 : IntKind.i64.wrap (((l.length / 4 : Nat) : Int) * 2) = ((l.length / 4 * 2 : Nat) : Int) := by rw [wrapS] <;> omega
  have m3 : IntKind.i64.wrap (((l.length / 4 : Nat) : Int) * 3) = ((l.length / 4 * 3 : Nat) : Int) := by rw [wrapS] <;> omega
  have a1 : IntKind.i64.wrap (0 + ((l.length / 4 * 1 : Nat) : Int)) = ((l.length / 4 * 1 : Nat) : Int) := by rw [wrapS] <;> omega
  have a2 : IntKind.i64.wrap (0 + ((l.length / 4 * 2 : Nat) : Int)) = ((l.length / 4 * 2 : Nat) : Int) := by rw [wrapS] <;> omega
  have a3 : IntKind.i64.wrap (0 + ((l.length / 4 * 3 : Nat) : Int)) = ((l.length / 4 * 3 : Nat) : Int) := by rw [wrapS] <;> omega
  have h8 : (8 : Int) ≤ l.length := by omega
  repeat' first
    | simp (maxSteps := 1000000) only [go_sem, Int.reduceLT, Int.reduceLE, Int.reduceToNat, Int.reduceEq, Nat.reduceMul, ↓reduceIte, Nat.reduceLT, Nat.reduceLeDiff, Nat.reduceEqDiff, Nat.reduceAdd, Nat.reduceSub, Nat.reduceBEq, reduceCtorEq, *, natdiv4]
    | contradiction
    | refine wT ?_ ?_ <;> intro _
    | refine wF ?_ ?_ <;> intro _
    | refine cD ?_ ?_ <;> intro _
    | refine dO (by kernel_rfl) ?_
    | refine (kmadjP hS rfl) ?_
    | refine (kmedP hS rfl) ?_
    | refine Fin.q ?_ ?_
    | refine Fin.qn ?_ ?_
theorem kpivot {g : Nat} {cells : List D} {cf : En → En → Int} {l : List En} (hS : Srt g cells cf l) (h12 : 12 < l.length) {H : Heap} {slot : Nat} {K : D → List (Nat × Blk) → List (Nat × Blk) → Prop} (hK : K (.tup [.int .i64 ((l.length / 4 * 2 : Nat) : Int), .int .i64 1]) [] []) : @callB ⟨callX Tryz.prog⟩ 148 [.vs (ents l), .int .i64 0, .int .i64 l.length, .fn g [.ip cells]] H slot ⟨K⟩ := call0 true (cpivot g cells cf l hS h12) rfl rfl (fun _ => rfl) hK
set_option maxHeartbeats 2000000 in
set_option maxRecDepth 20000 in
theorem cpart (g : Nat) (cells : List D) (cf : En → En → Int) (l : List En) (hS : Srt g cells cf l) (h12 : 12 < l.length) : FC Tryz.prog 150 [.vs (ents l), .int .i64 0, .int .i64 l.length, .fn g [.ip cells]] [] (.bool true) [] := by
  refine FC.of_run mix Tryz.func150 rfl rfl (by simp [Tryz.ntmps150]) ?_
  obtain ⟨hg, ha, hl⟩ := hS
  have hw0 : IntKind.i64.wrap ((0 : Int) + 1) = 1 := by decide
  repeat' first
    | simp (maxSteps := 1000000) only [go_sem, Int.reduceLT, Int.reduceLE, Int.reduceToNat, Int.reduceEq, Nat.reduceMul, ↓reduceIte, Nat.reduceLT, Nat.reduceLeDiff, Nat.reduceEqDiff, Nat.reduceAdd, Nat.reduceSub, Nat.reduceBEq, reduceCtorEq, *]
    | contradiction
    | refine wT ?_ ?_ <;> intro _
    | refine wF ?_ ?_ <;> intro _
    | refine cD ?_ ?_ <;> intro _
    | refine dO (by kernel_rfl) ?_
    | refine Fin.q ?_ ?_
    | refine Fin.qn ?_ ?_
  refine AW.loopx (σ := Unit) mix (fun _u => ⟨141, [(10, .int .i64 0), (9, .int .i64 1), (3, .fn g [.ip cells]), (2, .int .i64 l.length), (1, .int .i64 0), (0, .vs (ents l))], []⟩) (fun _u => True) (fun _u => 0) () trivial (Conv.mk ?_ ?_ ?_ ?_ ?_) ?_
  iterate 5 (· (simp (maxSteps := 1000000) only [go_sem, Int.reduceLT, Int.reduceLE, Int.reduceToNat, Int.reduceEq, Nat.reduceMul, ↓reduceIte, Nat.reduceLT, Nat.reduceLeDiff, Nat.reduceEqDiff, Nat.reduceAdd, Nat.reduceSub, Nat.reduceBEq, reduceCtorEq]) <;> (first | rfl | (simp [ints]; done) | (simp [*]; done) | ((repeat' (first | rfl | apply And.intro)); done)))
  intro _ _
  repeat' first
    | simp (maxSteps := 1000000) only [go_sem, Int.reduceLT, Int.reduceLE, Int.reduceToNat, Int.reduceEq, Nat.reduceMul, ↓reduceIte, Nat.reduceLT, Nat.reduceLeDiff, Nat.reduceEqDiff, Nat.reduceAdd, Nat.reduceSub, Nat.reduceBEq, reduceCtorEq, *]
    | contradiction
    | refine wT ?_ ?_ <;> intro _
    | refine wF ?_ ?_ <;> intro _
    | refine cD ?_ ?_ <;> intro _
    | refine dO (by kernel_rfl) ?_
    | refine Fin.q ?_ ?_
    | refine Fin.qn ?_ ?_
  refine AW.loopx (σ := Nat) mix (fun i => ⟨141, [(9, .int .i64 ((i + 1 : Nat) : Int)), (10, .int .i64 0), (3, .fn g [.ip cells]), (2, .int .i64 l.length), (1, .int .i64 0), (0, .vs (ents l))], []⟩) (fun i => i + 1 ≤ l.length) (fun i => l.length - i) 0 (by omega) (Conv.mk ?_ ?_ ?_ ?_ ?_) ?_
  iterate 5 (· (simp (maxSteps := 1000000) only [go_sem, Int.reduceLT, Int.reduceLE, Int.reduceToNat, Int.reduceEq, Nat.reduceMul, ↓reduceIte, Nat.reduceLT, Nat.reduceLeDiff, Nat.reduceEqDiff, Nat.reduceAdd, Nat.reduceSub, Nat.reduceBEq, reduceCtorEq, Nat.zero_add]) <;> (first | rfl | (simp [ints]; done) | (simp [*]; done) | ((repeat' (first | rfl | apply And.intro)); done)))
  intro i hi
  by_cases h : i + 1 < l.length
  · have hx := ents_get h
    have hy := ents_get (l := l) (i := i) (by omega)
    have hc := ha i (i + 1) (by omega) h
    have hw1 : IntKind.i64.wrap (((i + 1 : Nat) : Int) - 1) = (i : Int) := by rw [wrapS] <;> omega
    have hw2 : IntKind.i64.wrap (((i + 1 : Nat) : Int) + 1) = ((i + 1 + 1 : Nat) : Int) := wrap1 (by omega)
    repeat' first
      | simp (maxSteps := 1000000) only [go_sem, Int.reduceLT, Int.reduceLE, Int.reduceToNat, Int.reduceEq, Nat.reduceMul, ↓reduceIte, Nat.reduceLT, Nat.reduceLeDiff, Nat.reduceEqDiff, Nat.reduceAdd, Nat.reduceSub, Nat.reduceBEq, reduceCtorEq, *]
      | contradiction
      | refine wT ?_ ?_ <;> intro _
      | refine wF ?_ ?_ <;> intro _
      | refine cD ?_ ?_ <;> intro _
      | refine dO (by kernel_rfl) ?_
      | refine (kcmp hg _ _) ?_
      | (refine ⟨i + 1, ?_, ?_, Conv.mk ?_ ?_ ?_ ?_ ?_⟩; (· (first | omega | (simp only; omega) | (simp only [List.length_nil, List.length_cons]; omega))); (· (omega)))
      | refine Fin.q ?_ ?_
      | refine Fin.qn ?_ ?_
  · have he : i + 1 = l.length := by omega
    repeat' first
      | simp (maxSteps := 1000000) only [go_sem, Int.reduceLT, Int.reduceLE, Int.reduceToNat, Int.reduceEq, Nat.reduceMul, ↓reduceIte, Nat.reduceLT, Nat.reduceLeDiff, Nat.reduceEqDiff, Nat.reduceAdd, Nat.reduceSub, Nat.reduceBEq, reduceCtorEq, *, eqN]
      | contradiction
      | refine wT ?_ ?_ <;> intro _
      | refine wF ?_ ?_ <;> intro _
      | refine cD ?_ ?_ <;> intro _
      | refine dO (by kernel_rfl) ?_
      | refine Fin.q ?_ ?_
      | refine Fin.qn ?_ ?_
theorem kpart {g : Nat} {cells : List D} {cf : En → En → Int} {l : List En} (hS : Srt g cells cf l) (h12 : 12 < l.length) {H : Heap} {slot : Nat} {K : D → List (Nat × Blk) → List (Nat × Blk) → Prop} (hK : K (.bool true) [] []) : @callB ⟨callX Tryz.prog⟩ 150 [.vs (ents l), .int .i64 0, .int .i64 l.length, .fn g [.ip cells]] H slot ⟨K⟩ := call0 true (cpart g cells cf l hS h12) rfl rfl (fun _ => rfl) hK
set_option maxHeartbeats 2000000 in
set_option maxRecDepth 20000 in
theorem cpdq (g : Nat) (cells : List D) (cf : En → En → Int) (l : List En) (lim : Int) (hS : Srt g cells cf l) (hlim : l.length = 0 ∨ lim ≠ 0) : FC Tryz.prog 102 [.vs (ents l), .int .i64 0, .int .i64 l.length, .int .i64 lim, .fn g [.ip cells]] [] (.tup []) [] := by
  refine FC.of_run mix Tryz.func102 rfl rfl (by simp [Tryz.ntmps102]) ?_
  have hl := hS.hl
  have w0 : IntKind.i64.wrap ((l.length : Int) - 0) = (l.length : Int) := by rw [wrapS] <;> omega
  repeat' first
    | simp (maxSteps := 1000000) only [go_sem, Int.reduceLT, Int.reduceLE, Int.reduceToNat, Int.reduceEq, Nat.reduceMul, ↓reduceIte, Nat.reduceLT, Nat.reduceLeDiff, Nat.reduceEqDiff, Nat.reduceAdd, Nat.reduceSub, Nat.reduceBEq, reduceCtorEq, *]
    | contradiction
    | refine wT ?_ ?_ <;> intro _
    | refine wF ?_ ?_ <;> intro _
    | refine cD ?_ ?_ <;> intro _
    | refine dO (by kernel_rfl) ?_
    | refine Fin.q ?_ ?_
    | refine Fin.qn ?_ ?_
  refine AW.loopx (σ := Unit) mix (fun _u => ⟨148, [(11, .bool true), (10, .bool true), (4, .fn g [.ip cells]), (3, .int .i64 lim), (2, .int .i64 l.length), (1, .int .i64 0), (0, .vs (ents l))], []⟩) (fun _u => True) (fun _u => 0) () trivial (Conv.mk ?_ ?_ ?_ ?_ ?_) ?_
  iterate 5 (· (simp (maxSteps := 1000000) only [go_sem, Int.reduceLT, Int.reduceLE, Int.reduceToNat, Int.reduceEq, Nat.reduceMul, ↓reduceIte, Nat.reduceLT, Nat.reduceLeDiff, Nat.reduceEqDiff, Nat.reduceAdd, Nat.reduceSub, Nat.reduceBEq, reduceCtorEq]) <;> (first | rfl | (simp [ints]; done) | (simp [*]; done) | ((repeat' (first | rfl | apply And.intro)); done)))
  intro _ _
  by_cases h : l.length ≤ 12
  · have h2 : ((l.length : Int) ≤ 12) := by omega
    repeat' first
      | simp (maxSteps := 1000000) only [go_sem, Int.reduceLT, Int.reduceLE, Int.reduceToNat, Int.reduceEq, Nat.reduceMul, ↓reduceIte, Nat.reduceLT, Nat.reduceLeDiff, Nat.reduceEqDiff, Nat.reduceAdd, Nat.reduceSub, Nat.reduceBEq, reduceCtorEq, *]
      | contradiction
      | refine wT ?_ ?_ <;> intro _
      | refine wF ?_ ?_ <;> intro _
      | refine cD ?_ ?_ <;> intro _
      | refine dO (by kernel_rfl) ?_
      | refine (kins hS) ?_
      | refine Fin.q ?_ ?_
      | refine Fin.qn ?_ ?_
  · have h2 : ¬ ((l.length : Int) ≤ 12) := by omega
    have h3 : ¬ lim = 0 := by omega
    have h4 : 12 < l.length := by omega
    repeat' first
      | simp (maxSteps := 1000000) only [go_sem, Int.reduceLT, Int.reduceLE, Int.reduceToNat, Int.reduceEq, Nat.reduceMul, ↓reduceIte, Nat.reduceLT, Nat.reduceLeDiff, Nat.reduceEqDiff, Nat.reduceAdd, Nat.reduceSub, Nat.reduceBEq, reduceCtorEq, *]
      | contradiction
      | refine wT ?_ ?_ <;> intro _
      | refine wF ?_ ?_ <;> intro _
      | refine cD ?_ ?_ <;> intro _
      | refine dO (by kernel_rfl) ?_
      | refine (kpivot hS h4) ?_
      | refine (kpart hS h4) ?_
      | refine Fin.q ?_ ?_
      | refine Fin.qn ?_ ?_
theorem kpdq {g : Nat} {cells : List D} {cf : En → En → Int} {l : List En} {lim : Int} (hS : Srt g cells cf l) (hlim : l.length = 0 ∨ lim ≠ 0) {H : Heap} {slot : Nat} {K : D → List (Nat × Blk) → List (Nat × Blk) → Prop} (hK : K (.tup []) [] []) : @callB ⟨callX Tryz.prog⟩ 102 [.vs (ents l), .int .i64 0, .int .i64 l.length, .int .i64 lim, .fn g [.ip cells]] H slot ⟨K⟩ := call0 true (cpdq g cells cf l lim hS hlim) rfl rfl (fun _ => rfl) hK
end TR

/- math/bits.Len at small numbers, slices.SortFunc at sorted entries. -/
open Go Go.Proofs Go.AH
set_option linter.unusedSimpArgs false
set_option linter.unusedVariables false
namespace TR
def W0 : FuncId → AH.Way := fun _ => ⟨[], false, fun _ => false⟩
noncomputable def lenOK (n : Nat) : Bool := match funX Tryz.prog (fun _ _ _ => none) W0 100 10 103 [.int .u64 (n : Int)] [] with
  | some (.int .i64 r, []) => decide (r ≠ 0) || n == 0
  | _ => false
set_option maxRecDepth 100000 in
theorem lenAll : ((List.range 65).all lenOK) = true := by kernel_rfl
theorem cLen {n : Nat} (h : n ≤ 64) : ∃ r : Int, FC Tryz.prog 103 [.int .u64 (n : Int)] [] (.int .i64 r) [] ∧ (n = 0 ∨ r ≠ 0) := by
  have := List.all_eq_true.1 lenAll n (List.mem_range.2 (by omega))
  unfold lenOK at this
  split at this
  · rename_i r he
    refine ⟨r, funX_sound mix (fun f args Hin r outs h => by cases h) 10 _ _ _ _ _ he, ?_⟩
    simp at this
    omega
  · cases this
theorem wrapU {n : Nat} (h : n ≤ 64) : IntKind.u64.wrap (n : Int) = (n : Int) := by
  simp [IntKind.wrap, IntKind.bits, IntKind.signed]; omega
set_option maxHeartbeats 2000000 in
set_option maxRecDepth 20000 in
theorem cSort (g : Nat) (cells : List D) (cf : En → En → Int) (l : List En) (hS : Srt g cells cf l) (h64 : l.length ≤ 64) : FC Tryz.prog 57 [.vs (ents l), .fn g [.ip cells]] [] (.tup []) [] := by
  refine FC.of_run mix Tryz.func57 rfl rfl (by simp [Tryz.ntmps57]) ?_
  obtain ⟨r, hr, hn⟩ := cLen h64
  have hu := wrapU h64
  have kl : ∀ {H : Heap} {slot : Nat} {K : D → List (Nat × Blk) → List (Nat × Blk) → Prop}, K (.int .i64 r) [] [] → @callB ⟨callX Tryz.prog⟩ 103 [.int .u64 (l.length : Int)] H slot ⟨K⟩ := fun hK => call0 true hr rfl rfl (fun _ => rfl) hK
  repeat' first
    | simp (maxSteps := 1000000) only [go_sem, Int.reduceLT, Int.reduceLE, Int.reduceToNat, Int.reduceEq, Nat.reduceMul, ↓reduceIte, Nat.reduceLT, Nat.reduceLeDiff, Nat.reduceEqDiff, Nat.reduceAdd, Nat.reduceSub, Nat.reduceBEq, reduceCtorEq, *]
    | contradiction
    | refine wT ?_ ?_ <;> intro _
    | refine wF ?_ ?_ <;> intro _
    | refine cD ?_ ?_ <;> intro _
    | refine dO (by kernel_rfl) ?_
    | refine kl ?_
    | refine (kpdq hS hn) ?_
    | refine Fin.q ?_ ?_
    | refine Fin.qn ?_ ?_
  exact ⟨[], [], true, rfl, by simp, rfl, rfl⟩
end TR

/- Words, entries and nodes compared. -/
open Go Go.Proofs Go.AH
set_option linter.unusedSimpArgs false
set_option linter.unusedVariables false
namespace TR
theorem ext_getD {α : Type} {a b : List α} (d : α) (hl : a.length = b.length) (h : ∀ q, q < a.length → a.getD q d = b.getD q d) : a = b := by
  apply List.ext_getElem hl
  intro i h1 h2
  have := h i h1
  simpa [List.getD, h1, h2] using this
theorem and_dec (p q : Prop) [Decidable p] [Decidable q] : (decide p && decide q) = decide (p ∧ q) := by by_cases hp : p <;> by_cases hq : q <;> simp [hp, hq]
theorem wd_eq (v w : Wd) : v = w ↔ v.s = w.s ∧ v.b = w.b := by
  cases v; cases w; simp
theorem en_eq (v w : En) : v = w ↔ v.w = w.w ∧ v.p = w.p ∧ v.q = w.q := by
  cases v; cases w; simp
theorem nd_eq (v w : Nd) : v = w ↔ v.w = w.w ∧ v.piece = w.piece ∧ v.left = w.left ∧ v.right = w.right ∧ v.es = w.es := by
  cases v; cases w; simp
set_option maxHeartbeats 2000000 in
set_option maxRecDepth 20000 in
theorem cEq (a b : List Int) (ha : a.length ≤ 4294967296) : FC Tryz.prog 138 [V a, V b] [] (.bool (decide (a = b))) [] := by
  refine FC.of_run mix Tryz.func138 rfl rfl (by simp [Tryz.ntmps138]) ?_
  by_cases hl : a.length = b.length
  · repeat' first
      | simp (maxSteps := 1000000) only [go_sem, Int.reduceLT, Int.reduceLE, Int.reduceToNat, Int.reduceEq, Nat.reduceMul, ↓reduceIte, Nat.reduceLT, Nat.reduceLeDiff, Nat.reduceEqDiff, Nat.reduceAdd, Nat.reduceSub, Nat.reduceBEq, reduceCtorEq, *, eqN, eq_self]
      | contradiction
      | refine wT ?_ ?_ <;> intro _
      | refine wF ?_ ?_ <;> intro _
      | refine cD ?_ ?_ <;> intro _
      | refine dO (by kernel_rfl) ?_
      | refine Fin.q ?_ ?_
      | refine Fin.qn ?_ ?_
    refine AW.loopx (σ := Nat) mix (fun i => ⟨26, [(13, .int .i64 i), (12, .int .i64 b.length), (1, V b), (0, V a)], []⟩) (fun i => i ≤ b.length ∧ ∀ q, q < i → a.getD q 0 = b.getD q 0) (fun i => b.length - i) 0 ⟨by omega, fun q h => by omega⟩ (Conv.mk ?_ ?_ ?_ ?_ ?_) ?_
    iterate 5 (· (simp (maxSteps := 1000000) only [go_sem, Int.reduceLT, Int.reduceLE, Int.reduceToNat, Int.reduceEq, Nat.reduceMul, ↓reduceIte, Nat.reduceLT, Nat.reduceLeDiff, Nat.reduceEqDiff, Nat.reduceAdd, Nat.reduceSub, Nat.reduceBEq, reduceCtorEq]) <;> (first | rfl | (simp [ints]; done) | (simp [*]; done) | ((repeat' (first | rfl | apply And.intro)); done)))
    intro i ⟨hi, hq⟩
    have hw := wrap1 (i := i) (by omega)
    by_cases h : i < b.length
    · have hx := ints_get h
      have hy := ints_get (l := a) (i := i) (by omega)
      repeat' first
        | simp (maxSteps := 1000000) only [go_sem, Int.reduceLT, Int.reduceLE, Int.reduceToNat, Int.reduceEq, Nat.reduceMul, ↓reduceIte, Nat.reduceLT, Nat.reduceLeDiff, Nat.reduceEqDiff, Nat.reduceAdd, Nat.reduceSub, Nat.reduceBEq, reduceCtorEq, *]
        | contradiction
        | refine wT ?_ ?_ <;> intro _
        | refine wF ?_ ?_ <;> intro _
        | refine cD ?_ ?_ <;> intro _
        | refine dO (by kernel_rfl) ?_
        | (refine ⟨i + 1, ?_, ?_, Conv.mk ?_ ?_ ?_ ?_ ?_⟩; (· (first | omega | (simp only; omega) | (simp only [List.length_nil, List.length_cons]; omega))); (· (exact ⟨by omega, upto hq (Classical.not_not.1 ‹_›)⟩)))
        | ((first | refine Fin.q ?_ ?_ | refine Fin.qn ?_ ?_) <;> ((try simp (maxSteps := 1000000) only [go_sem, Int.reduceLT, Int.reduceLE, Int.reduceToNat, Int.reduceEq, Nat.reduceMul, ↓reduceIte, Nat.reduceLT, Nat.reduceLeDiff, Nat.reduceEqDiff, Nat.reduceAdd, Nat.reduceSub, Nat.reduceBEq, reduceCtorEq, *]) <;> (first | done | (simp only [Option.some.injEq, D.bool.injEq]; first | exact decide_eq_decide.2 (by exact fun e => ‹¬ a.getD i 0 = b.getD i 0› (by rw [e])) | exact (decide_eq_true (by exact fun e => ‹¬ a.getD i 0 = b.getD i 0› (by rw [e]))).symm | exact (decide_eq_false (by exact fun e => ‹¬ a.getD i 0 = b.getD i 0› (by rw [e]))).symm))))
    · repeat' first
        | simp (maxSteps := 1000000) only [go_sem, Int.reduceLT, Int.reduceLE, Int.reduceToNat, Int.reduceEq, Nat.reduceMul, ↓reduceIte, Nat.reduceLT, Nat.reduceLeDiff, Nat.reduceEqDiff, Nat.reduceAdd, Nat.reduceSub, Nat.reduceBEq, reduceCtorEq, *]
        | contradiction
        | refine wT ?_ ?_ <;> intro _
        | refine wF ?_ ?_ <;> intro _
        | refine cD ?_ ?_ <;> intro _
        | refine dO (by kernel_rfl) ?_
        | ((first | refine Fin.q ?_ ?_ | refine Fin.qn ?_ ?_) <;> ((try simp (maxSteps := 1000000) only [go_sem, Int.reduceLT, Int.reduceLE, Int.reduceToNat, Int.reduceEq, Nat.reduceMul, ↓reduceIte, Nat.reduceLT, Nat.reduceLeDiff, Nat.reduceEqDiff, Nat.reduceAdd, Nat.reduceSub, Nat.reduceBEq, reduceCtorEq, *]) <;> (first | done | (simp only [Option.some.injEq, D.bool.injEq]; first | exact decide_eq_decide.2 (by exact ext_getD 0 hl (fun q h => hq q (by omega))) | exact (decide_eq_true (by exact ext_getD 0 hl (fun q h => hq q (by omega)))).symm | exact (decide_eq_false (by exact ext_getD 0 hl (fun q h => hq q (by omega)))).symm))))
  · repeat' first
      | simp (maxSteps := 1000000) only [go_sem, Int.reduceLT, Int.reduceLE, Int.reduceToNat, Int.reduceEq, Nat.reduceMul, ↓reduceIte, Nat.reduceLT, Nat.reduceLeDiff, Nat.reduceEqDiff, Nat.reduceAdd, Nat.reduceSub, Nat.reduceBEq, reduceCtorEq, *, eqN]
      | contradiction
      | refine wT ?_ ?_ <;> intro _
      | refine wF ?_ ?_ <;> intro _
      | refine cD ?_ ?_ <;> intro _
      | refine dO (by kernel_rfl) ?_
      | ((first | refine Fin.q ?_ ?_ | refine Fin.qn ?_ ?_) <;> ((try simp (maxSteps := 1000000) only [go_sem, Int.reduceLT, Int.reduceLE, Int.reduceToNat, Int.reduceEq, Nat.reduceMul, ↓reduceIte, Nat.reduceLT, Nat.reduceLeDiff, Nat.reduceEqDiff, Nat.reduceAdd, Nat.reduceSub, Nat.reduceBEq, reduceCtorEq, *, eqN]) <;> (first | done | (simp only [Option.some.injEq, D.bool.injEq]; first | exact decide_eq_decide.2 (by exact fun e => hl (by rw [e])) | exact (decide_eq_true (by exact fun e => hl (by rw [e]))).symm | exact (decide_eq_false (by exact fun e => hl (by rw [e]))).symm))))
set_option maxRecDepth 20000 in
theorem kcEq {a b : List Int} {H : Heap} {slot : Nat} {K : D → List (Nat × Blk) → List (Nat × Blk) → Prop} (hK : K (.bool (decide (a = b))) [] []) (ha : a.length ≤ 4294967296 := by first | assumption | omega) : @callB ⟨callX Tryz.prog⟩ 138 [V a, V b] H slot ⟨K⟩ := by
  have he0 : rdOf H (D.idsL [V a, V b]) = [] := by simp (maxSteps := 1000000) only [go_sem, Int.reduceLT, Int.reduceLE, Int.reduceToNat, Int.reduceEq, Nat.reduceMul, ↓reduceIte, Nat.reduceLT, Nat.reduceLeDiff, Nat.reduceEqDiff, Nat.reduceAdd, Nat.reduceSub, Nat.reduceBEq, reduceCtorEq]
  refine call0 false (cEq a b ha) ?_ ?_ (fun h => nomatch h) (by rw [he0]; exact hK)
  iterate 2 (· simp (maxSteps := 1000000) only [go_sem, Int.reduceLT, Int.reduceLE, Int.reduceToNat, Int.reduceEq, Nat.reduceMul, ↓reduceIte, Nat.reduceLT, Nat.reduceLeDiff, Nat.reduceEqDiff, Nat.reduceAdd, Nat.reduceSub, Nat.reduceBEq, reduceCtorEq])
set_option maxHeartbeats 2000000 in
set_option maxRecDepth 20000 in
theorem csame1 (v w : Wd) (h1 : v.s.length ≤ 4294967296) (h2 : v.b.length ≤ 4294967296) : FC Tryz.prog 137 [.agg v.row, .agg w.row] [] (.bool (decide (v = w))) [] := by
  refine FC.of_run mix Tryz.func137 rfl rfl (by simp [Tryz.ntmps137]) ?_
  repeat' first
    | simp (maxSteps := 1000000) only [go_sem, Int.reduceLT, Int.reduceLE, Int.reduceToNat, Int.reduceEq, Nat.reduceMul, ↓reduceIte, Nat.reduceLT, Nat.reduceLeDiff, Nat.reduceEqDiff, Nat.reduceAdd, Nat.reduceSub, Nat.reduceBEq, reduceCtorEq, *]
    | contradiction
    | refine wT ?_ ?_ <;> intro _
    | refine wF ?_ ?_ <;> intro _
    | refine cD ?_ ?_ <;> intro _
    | refine dO (by kernel_rfl) ?_
    | refine kcEq ?_
    | ((first | refine Fin.q ?_ ?_ | refine Fin.qn ?_ ?_) <;> ((try simp (maxSteps := 1000000) only [go_sem, Int.reduceLT, Int.reduceLE, Int.reduceToNat, Int.reduceEq, Nat.reduceMul, ↓reduceIte, Nat.reduceLT, Nat.reduceLeDiff, Nat.reduceEqDiff, Nat.reduceAdd, Nat.reduceSub, Nat.reduceBEq, reduceCtorEq, *]) <;> (first | done | (simp only [Option.some.injEq, D.bool.injEq]; first | exact decide_eq_decide.2 (by have := wd_eq v w; grind) | exact (decide_eq_true (by have := wd_eq v w; grind)).symm | exact (decide_eq_false (by have := wd_eq v w; grind)).symm))))
set_option maxRecDepth 20000 in
theorem kcsame1 {v w : Wd} {H : Heap} {slot : Nat} {K : D → List (Nat × Blk) → List (Nat × Blk) → Prop} (hK : K (.bool (decide (v = w))) [] []) (h1 : v.s.length ≤ 4294967296 := by first | assumption | omega) (h2 : v.b.length ≤ 4294967296 := by first | assumption | omega) : @callB ⟨callX Tryz.prog⟩ 137 [.agg v.row, .agg w.row] H slot ⟨K⟩ := by
  have he0 : rdOf H (D.idsL [.agg v.row, .agg w.row]) = [] := by simp (maxSteps := 1000000) only [go_sem, Int.reduceLT, Int.reduceLE, Int.reduceToNat, Int.reduceEq, Nat.reduceMul, ↓reduceIte, Nat.reduceLT, Nat.reduceLeDiff, Nat.reduceEqDiff, Nat.reduceAdd, Nat.reduceSub, Nat.reduceBEq, reduceCtorEq]
  refine call0 false (csame1 v w h1 h2) ?_ ?_ (fun h => nomatch h) (by rw [he0]; exact hK)
  iterate 2 (· simp (maxSteps := 1000000) only [go_sem, Int.reduceLT, Int.reduceLE, Int.reduceToNat, Int.reduceEq, Nat.reduceMul, ↓reduceIte, Nat.reduceLT, Nat.reduceLeDiff, Nat.reduceEqDiff, Nat.reduceAdd, Nat.reduceSub, Nat.reduceBEq, reduceCtorEq])
set_option maxHeartbeats 2000000 in
set_option maxRecDepth 20000 in
theorem csame2 (x y : En) (hx : x.lens) : FC Tryz.prog 140 [.agg x.row, .agg y.row, .ptr 0 1 0 0] [[[.fn 137 []]]] (.bool (decide (x = y))) [[[.fn 137 []]]] := by
  obtain ⟨h1, h2⟩ := hx
  refine FC.of_run mix Tryz.func140 rfl rfl (by simp [Tryz.ntmps140]) ?_
  repeat' first
    | simp (maxSteps := 1000000) only [go_sem, Int.reduceLT, Int.reduceLE, Int.reduceToNat, Int.reduceEq, Nat.reduceMul, ↓reduceIte, Nat.reduceLT, Nat.reduceLeDiff, Nat.reduceEqDiff, Nat.reduceAdd, Nat.reduceSub, Nat.reduceBEq, reduceCtorEq, *, and_dec, eqInts, Bool.and_true, and_true]
    | contradiction
    | refine wT ?_ ?_ <;> intro _
    | refine wF ?_ ?_ <;> intro _
    | refine cD ?_ ?_ <;> intro _
    | refine dO (by kernel_rfl) ?_
    | refine kcsame1 ?_
    | ((first | refine Fin.q ?_ ?_ | refine Fin.qn ?_ ?_) <;> ((try simp (maxSteps := 1000000) only [go_sem, Int.reduceLT, Int.reduceLE, Int.reduceToNat, Int.reduceEq, Nat.reduceMul, ↓reduceIte, Nat.reduceLT, Nat.reduceLeDiff, Nat.reduceEqDiff, Nat.reduceAdd, Nat.reduceSub, Nat.reduceBEq, reduceCtorEq, *, and_dec, eqInts, Bool.and_true, and_true]) <;> (first | done | (simp only [Option.some.injEq, D.bool.injEq]; first | exact decide_eq_decide.2 (by have := en_eq x y; grind) | exact (decide_eq_true (by have := en_eq x y; grind)).symm | exact (decide_eq_false (by have := en_eq x y; grind)).symm))))
set_option maxHeartbeats 2000000 in
set_option maxRecDepth 20000 in
theorem cEqE (a b : List En) (hl : a.length ≤ 4294967296) (he : ∀ x, x ∈ a → x.lens) : FC Tryz.prog 139 [.vs (ents a), .vs (ents b), .fn 140 [.ptr 0 1 0 0]] [[[.fn 137 []]]] (.bool (decide (a = b))) [[[.fn 137 []]]] := by
  refine FC.of_run mix Tryz.func139 rfl rfl (by simp [Tryz.ntmps139]) ?_
  by_cases hlen : a.length = b.length
  · repeat' first
      | simp (maxSteps := 1000000) only [go_sem, Int.reduceLT, Int.reduceLE, Int.reduceToNat, Int.reduceEq, Nat.reduceMul, ↓reduceIte, Nat.reduceLT, Nat.reduceLeDiff, Nat.reduceEqDiff, Nat.reduceAdd, Nat.reduceSub, Nat.reduceBEq, reduceCtorEq, *, eqN, eq_self]
      | contradiction
      | refine wT ?_ ?_ <;> intro _
      | refine wF ?_ ?_ <;> intro _
      | refine cD ?_ ?_ <;> intro _
      | refine dO (by kernel_rfl) ?_
      | refine Fin.q ?_ ?_
      | refine Fin.qn ?_ ?_
    refine AW.loopx (σ := Nat) mix (fun i => ⟨32, [(17, .int .i64 i), (16, .int .i64 b.length), (15, .vs (ents a)), (2, .fn 140 [.ptr 0 1 0 0]), (1, .vs (ents b))], [some [[.fn 137 []]]]⟩) (fun i => i ≤ b.length ∧ ∀ q, q < i → a.getD q default = b.getD q default) (fun i => b.length - i) 0 ⟨by omega, fun q h => by omega⟩ (Conv.mk ?_ ?_ ?_ ?_ ?_) ?_
    iterate 5 (· (simp (maxSteps := 1000000) only [go_sem, Int.reduceLT, Int.reduceLE, Int.reduceToNat, Int.reduceEq, Nat.reduceMul, ↓reduceIte, Nat.reduceLT, Nat.reduceLeDiff, Nat.reduceEqDiff, Nat.reduceAdd, Nat.reduceSub, Nat.reduceBEq, reduceCtorEq]) <;> (first | rfl | (simp [ints]; done) | (simp [*]; done) | ((repeat' (first | rfl | apply And.intro)); done)))
    intro i ⟨hi, hq⟩
    have hw := wrap1 (i := i) (by omega)
    by_cases h : i < b.length
    · have hx := ents_get h
      have hy := ents_get (l := a) (i := i) (by omega)
      have hle := he (a.getD i default) (by simp [List.getD, show i < a.length by omega])
      repeat' first
        | simp (maxSteps := 1000000) only [go_sem, Int.reduceLT, Int.reduceLE, Int.reduceToNat, Int.reduceEq, Nat.reduceMul, ↓reduceIte, Nat.reduceLT, Nat.reduceLeDiff, Nat.reduceEqDiff, Nat.reduceAdd, Nat.reduceSub, Nat.reduceBEq, reduceCtorEq, *]
        | contradiction
        | refine wT ?_ ?_ <;> intro _
        | refine wF ?_ ?_ <;> intro _
        | refine cD ?_ ?_ <;> intro _
        | refine dO (by kernel_rfl) ?_
        | refine Fin.q ?_ ?_
        | refine Fin.qn ?_ ?_
      refine callX2 [0] (csame2 (a.getD i default) (b.getD i default) hle) (by decide) ?_ ?_ ⟨by simp, by simp⟩ (r' := .bool (decide (a.getD i default = b.getD i default))) (outs' := [[[.fn 137 []]]]) rfl ?_ ?_
      iterate 3 (· simp (maxSteps := 1000000) only [go_sem, Int.reduceLT, Int.reduceLE, Int.reduceToNat, Int.reduceEq, Nat.reduceMul, ↓reduceIte, Nat.reduceLT, Nat.reduceLeDiff, Nat.reduceEqDiff, Nat.reduceAdd, Nat.reduceSub, Nat.reduceBEq, reduceCtorEq])
      clear he
      repeat' first
        | simp (maxSteps := 1000000) only [go_sem, Int.reduceLT, Int.reduceLE, Int.reduceToNat, Int.reduceEq, Nat.reduceMul, ↓reduceIte, Nat.reduceLT, Nat.reduceLeDiff, Nat.reduceEqDiff, Nat.reduceAdd, Nat.reduceSub, Nat.reduceBEq, reduceCtorEq, *]
        | contradiction
        | refine wT ?_ ?_ <;> intro _
        | refine wF ?_ ?_ <;> intro _
        | refine cD ?_ ?_ <;> intro _
        | refine dO (by kernel_rfl) ?_
        | (refine ⟨i + 1, ?_, ?_, Conv.mk ?_ ?_ ?_ ?_ ?_⟩; (· (first | omega | (simp only; omega) | (simp only [List.length_nil, List.length_cons]; omega))); (· (exact ⟨by omega, upto hq (by first | exact Classical.not_not.1 ‹_› | assumption)⟩)))
        | ((first | refine Fin.q ?_ ?_ | refine Fin.qn ?_ ?_) <;> ((try simp (maxSteps := 1000000) only [go_sem, Int.reduceLT, Int.reduceLE, Int.reduceToNat, Int.reduceEq, Nat.reduceMul, ↓reduceIte, Nat.reduceLT, Nat.reduceLeDiff, Nat.reduceEqDiff, Nat.reduceAdd, Nat.reduceSub, Nat.reduceBEq, reduceCtorEq, *]) <;> (first | done | (simp only [Option.some.injEq, D.bool.injEq]; first | exact decide_eq_decide.2 (by exact fun e => ‹¬ a.getD i default = b.getD i default› (by rw [e])) | exact (decide_eq_true (by exact fun e => ‹¬ a.getD i default = b.getD i default› (by rw [e]))).symm | exact (decide_eq_false (by exact fun e => ‹¬ a.getD i default = b.getD i default› (by rw [e]))).symm))))
    · repeat' first
        | simp (maxSteps := 1000000) only [go_sem, Int.reduceLT, Int.reduceLE, Int.reduceToNat, Int.reduceEq, Nat.reduceMul, ↓reduceIte, Nat.reduceLT, Nat.reduceLeDiff, Nat.reduceEqDiff, Nat.reduceAdd, Nat.reduceSub, Nat.reduceBEq, reduceCtorEq, *]
        | contradiction
        | refine wT ?_ ?_ <;> intro _
        | refine wF ?_ ?_ <;> intro _
        | refine cD ?_ ?_ <;> intro _
        | refine dO (by kernel_rfl) ?_
        | ((first | refine Fin.q ?_ ?_ | refine Fin.qn ?_ ?_) <;> ((try simp (maxSteps := 1000000) only [go_sem, Int.reduceLT, Int.reduceLE, Int.reduceToNat, Int.reduceEq, Nat.reduceMul, ↓reduceIte, Nat.reduceLT, Nat.reduceLeDiff, Nat.reduceEqDiff, Nat.reduceAdd, Nat.reduceSub, Nat.reduceBEq, reduceCtorEq, *]) <;> (first | done | (simp only [Option.some.injEq, D.bool.injEq]; first | exact decide_eq_decide.2 (by exact ext_getD default hlen (fun q h => hq q (by omega))) | exact (decide_eq_true (by exact ext_getD default hlen (fun q h => hq q (by omega)))).symm | exact (decide_eq_false (by exact ext_getD default hlen (fun q h => hq q (by omega)))).symm))))
  · repeat' first
      | simp (maxSteps := 1000000) only [go_sem, Int.reduceLT, Int.reduceLE, Int.reduceToNat, Int.reduceEq, Nat.reduceMul, ↓reduceIte, Nat.reduceLT, Nat.reduceLeDiff, Nat.reduceEqDiff, Nat.reduceAdd, Nat.reduceSub, Nat.reduceBEq, reduceCtorEq, *, eqN]
      | contradiction
      | refine wT ?_ ?_ <;> intro _
      | refine wF ?_ ?_ <;> intro _
      | refine cD ?_ ?_ <;> intro _
      | refine dO (by kernel_rfl) ?_
      | ((first | refine Fin.q ?_ ?_ | refine Fin.qn ?_ ?_) <;> ((try simp (maxSteps := 1000000) only [go_sem, Int.reduceLT, Int.reduceLE, Int.reduceToNat, Int.reduceEq, Nat.reduceMul, ↓reduceIte, Nat.reduceLT, Nat.reduceLeDiff, Nat.reduceEqDiff, Nat.reduceAdd, Nat.reduceSub, Nat.reduceBEq, reduceCtorEq, *, eqN]) <;> (first | done | (simp only [Option.some.injEq, D.bool.injEq]; first | exact decide_eq_decide.2 (by exact fun e => hlen (by rw [e])) | exact (decide_eq_true (by exact fun e => hlen (by rw [e]))).symm | exact (decide_eq_false (by exact fun e => hlen (by rw [e]))).symm))))
def Nd.lens (n : Nd) : Prop := n.w.s.length ≤ 4294967296 ∧ n.w.b.length ≤ 4294967296 ∧ n.es.length ≤ 4294967296 ∧ ∀ x, x ∈ n.es → x.lens
set_option maxHeartbeats 2000000 in
set_option maxRecDepth 20000 in
theorem csame (x y : Nd) (hx : x.lens) : FC Tryz.prog 93 [.agg x.row, .agg y.row] [] (.bool (decide (x = y))) [] := by
  obtain ⟨h1, h2, h3, h4⟩ := hx
  have hE := cEqE x.es y.es h3 h4
  clear h4
  have kE : ∀ {H : Heap} {slot : Nat} {K : D → List (Nat × Blk) → List (Nat × Blk) → Prop}, hget H 2 = some [[.fn 137 []]] → K (.bool (decide (x.es = y.es))) [(2, [[.fn 137 []]])] [(2, [[.fn 137 []]]), (2, [[.fn 137 []]])] → @callB ⟨callX Tryz.prog⟩ 139 [.vs (ents x.es), .vs (ents y.es), .fn 140 [.ptr 2 1 0 0]] H slot ⟨K⟩ := by
    intro H slot K hH hK
    have e : rdOf H ([2] ++ D.idsL [.vs (ents x.es), .vs (ents y.es), .fn 140 [.ptr 2 1 0 0]]) = [(2, [[.fn 137 []]]), (2, [[.fn 137 []]])] := by simp [D.idsL, D.ids, rdOf, hH]
    refine callX2 [2] hE (by decide) ?_ ?_ ⟨by simp, by simp⟩ (r' := .bool (decide (x.es = y.es))) (outs' := [[[.fn 137 []]]]) rfl rfl ?_
    · rw [e]; rfl
    · rw [e]; rfl
    · rw [e]; exact hK
  clear hE
  refine FC.of_run mix Tryz.func93 rfl rfl (by simp [Tryz.ntmps93]) ?_
  repeat' first
    | simp (maxSteps := 1000000) only [go_sem, Int.reduceLT, Int.reduceLE, Int.reduceToNat, Int.reduceEq, Nat.reduceMul, ↓reduceIte, Nat.reduceLT, Nat.reduceLeDiff, Nat.reduceEqDiff, Nat.reduceAdd, Nat.reduceSub, Nat.reduceBEq, reduceCtorEq, *]
    | contradiction
    | refine wT ?_ ?_ <;> intro _
    | refine wF ?_ ?_ <;> intro _
    | refine cD ?_ ?_ <;> intro _
    | refine dO (by kernel_rfl) ?_
    | refine kcsame1 ?_
    | refine (kE rfl) ?_
    | ((first | refine Fin.q ?_ ?_ | refine Fin.qn ?_ ?_) <;> ((try simp (maxSteps := 1000000) only [go_sem, Int.reduceLT, Int.reduceLE, Int.reduceToNat, Int.reduceEq, Nat.reduceMul, ↓reduceIte, Nat.reduceLT, Nat.reduceLeDiff, Nat.reduceEqDiff, Nat.reduceAdd, Nat.reduceSub, Nat.reduceBEq, reduceCtorEq, *]) <;> (first | done | (simp only [Option.some.injEq, D.bool.injEq]; first | exact decide_eq_decide.2 (by have := nd_eq x y; grind) | exact (decide_eq_true (by have := nd_eq x y; grind)).symm | exact (decide_eq_false (by have := nd_eq x y; grind)).symm))))
theorem ksame {x y : Nd} (hx : x.lens) {H : Heap} {slot : Nat} {K : D → List (Nat × Blk) → List (Nat × Blk) → Prop} (hK : K (.bool (decide (x = y))) [] []) : @callB ⟨callX Tryz.prog⟩ 93 [.agg x.row, .agg y.row] H slot ⟨K⟩ := call0 true (csame x y hx) rfl rfl (fun _ => rfl) hK
set_option maxHeartbeats 2000000 in
set_option maxRecDepth 20000 in
theorem cEqN (a b : List Nd) (hl : a.length ≤ 4294967296) (he : ∀ x, x ∈ a → x.lens) : FC Tryz.prog 92 [.vs (nods a), .vs (nods b), .fn 93 []] [] (.bool (decide (a = b))) [] := by
  refine FC.of_run mix Tryz.func92 rfl rfl (by simp [Tryz.ntmps92]) ?_
  by_cases hlen : a.length = b.length
  · repeat' first
      | simp (maxSteps := 1000000) only [go_sem, Int.reduceLT, Int.reduceLE, Int.reduceToNat, Int.reduceEq, Nat.reduceMul, ↓reduceIte, Nat.reduceLT, Nat.reduceLeDiff, Nat.reduceEqDiff, Nat.reduceAdd, Nat.reduceSub, Nat.reduceBEq, reduceCtorEq, *, eqN, eq_self]
      | contradiction
      | refine wT ?_ ?_ <;> intro _
      | refine wF ?_ ?_ <;> intro _
      | refine cD ?_ ?_ <;> intro _
      | refine dO (by kernel_rfl) ?_
      | refine Fin.q ?_ ?_
      | refine Fin.qn ?_ ?_
    refine AW.loopx (σ := Nat) mix (fun i => ⟨32, [(17, .int .i64 i), (16, .int .i64 b.length), (15, .vs (nods a)), (2, .fn 93 []), (1, .vs (nods b))], []⟩) (fun i => i ≤ b.length ∧ ∀ q, q < i → a.getD q default = b.getD q default) (fun i => b.length - i) 0 ⟨by omega, fun q h => by omega⟩ (Conv.mk ?_ ?_ ?_ ?_ ?_) ?_
    iterate 5 (· (simp (maxSteps := 1000000) only [go_sem, Int.reduceLT, Int.reduceLE, Int.reduceToNat, Int.reduceEq, Nat.reduceMul, ↓reduceIte, Nat.reduceLT, Nat.reduceLeDiff, Nat.reduceEqDiff, Nat.reduceAdd, Nat.reduceSub, Nat.reduceBEq, reduceCtorEq]) <;> (first | rfl | (simp [ints]; done) | (simp [*]; done) | ((repeat' (first | rfl | apply And.intro)); done)))
    intro i ⟨hi, hq⟩
    have hw := wrap1 (i := i) (by omega)
    by_cases h : i < b.length
    · have hx := nods_get h
      have hy := nods_get (l := a) (i := i) (by omega)
      have hle := he (a.getD i default) (by simp [List.getD, show i < a.length by omega])
      clear he
      repeat' first
        | simp (maxSteps := 1000000) only [go_sem, Int.reduceLT, Int.reduceLE, Int.reduceToNat, Int.reduceEq, Nat.reduceMul, ↓reduceIte, Nat.reduceLT, Nat.reduceLeDiff, Nat.reduceEqDiff, Nat.reduceAdd, Nat.reduceSub, Nat.reduceBEq, reduceCtorEq, *]
        | contradiction
        | refine wT ?_ ?_ <;> intro _
        | refine wF ?_ ?_ <;> intro _
        | refine cD ?_ ?_ <;> intro _
        | refine dO (by kernel_rfl) ?_
        | refine (ksame hle) ?_
        | (refine ⟨i + 1, ?_, ?_, Conv.mk ?_ ?_ ?_ ?_ ?_⟩; (· (first | omega | (simp only; omega) | (simp only [List.length_nil, List.length_cons]; omega))); (· (exact ⟨by omega, upto hq (by first | exact Classical.not_not.1 ‹_› | assumption)⟩)))
        | ((first | refine Fin.q ?_ ?_ | refine Fin.qn ?_ ?_) <;> ((try simp (maxSteps := 1000000) only [go_sem, Int.reduceLT, Int.reduceLE, Int.reduceToNat, Int.reduceEq, Nat.reduceMul, ↓reduceIte, Nat.reduceLT, Nat.reduceLeDiff, Nat.reduceEqDiff, Nat.reduceAdd, Nat.reduceSub, Nat.reduceBEq, reduceCtorEq, *]) <;> (first | done | (simp only [Option.some.injEq, D.bool.injEq]; first | exact decide_eq_decide.2 (by exact fun e => ‹¬ a.getD i default = b.getD i default› (by rw [e])) | exact (decide_eq_true (by exact fun e => ‹¬ a.getD i default = b.getD i default› (by rw [e]))).symm | exact (decide_eq_false (by exact fun e => ‹¬ a.getD i default = b.getD i default› (by rw [e]))).symm))))
    · repeat' first
        | simp (maxSteps := 1000000) only [go_sem, Int.reduceLT, Int.reduceLE, Int.reduceToNat, Int.reduceEq, Nat.reduceMul, ↓reduceIte, Nat.reduceLT, Nat.reduceLeDiff, Nat.reduceEqDiff, Nat.reduceAdd, Nat.reduceSub, Nat.reduceBEq, reduceCtorEq, *]
        | contradiction
        | refine wT ?_ ?_ <;> intro _
        | refine wF ?_ ?_ <;> intro _
        | refine cD ?_ ?_ <;> intro _
        | refine dO (by kernel_rfl) ?_
        | ((first | refine Fin.q ?_ ?_ | refine Fin.qn ?_ ?_) <;> ((try simp (maxSteps := 1000000) only [go_sem, Int.reduceLT, Int.reduceLE, Int.reduceToNat, Int.reduceEq, Nat.reduceMul, ↓reduceIte, Nat.reduceLT, Nat.reduceLeDiff, Nat.reduceEqDiff, Nat.reduceAdd, Nat.reduceSub, Nat.reduceBEq, reduceCtorEq, *]) <;> (first | done | (simp only [Option.some.injEq, D.bool.injEq]; first | exact decide_eq_decide.2 (by exact ext_getD default hlen (fun q h => hq q (by omega))) | exact (decide_eq_true (by exact ext_getD default hlen (fun q h => hq q (by omega)))).symm | exact (decide_eq_false (by exact ext_getD default hlen (fun q h => hq q (by omega)))).symm))))
  · repeat' first
      | simp (maxSteps := 1000000) only [go_sem, Int.reduceLT, Int.reduceLE, Int.reduceToNat, Int.reduceEq, Nat.reduceMul, ↓reduceIte, Nat.reduceLT, Nat.reduceLeDiff, Nat.reduceEqDiff, Nat.reduceAdd, Nat.reduceSub, Nat.reduceBEq, reduceCtorEq, *, eqN]
      | contradiction
      | refine wT ?_ ?_ <;> intro _
      | refine wF ?_ ?_ <;> intro _
      | refine cD ?_ ?_ <;> intro _
      | refine dO (by kernel_rfl) ?_
      | ((first | refine Fin.q ?_ ?_ | refine Fin.qn ?_ ?_) <;> ((try simp (maxSteps := 1000000) only [go_sem, Int.reduceLT, Int.reduceLE, Int.reduceToNat, Int.reduceEq, Nat.reduceMul, ↓reduceIte, Nat.reduceLT, Nat.reduceLeDiff, Nat.reduceEqDiff, Nat.reduceAdd, Nat.reduceSub, Nat.reduceBEq, reduceCtorEq, *, eqN]) <;> (first | done | (simp only [Option.some.injEq, D.bool.injEq]; first | exact decide_eq_decide.2 (by exact fun e => hlen (by rw [e])) | exact (decide_eq_true (by exact fun e => hlen (by rw [e]))).symm | exact (decide_eq_false (by exact fun e => hlen (by rw [e]))).symm))))
theorem kEqN {a b : List Nd} (hl : a.length ≤ 4294967296) (he : ∀ x, x ∈ a → x.lens) {H : Heap} {slot : Nat} {K : D → List (Nat × Blk) → List (Nat × Blk) → Prop} (hK : K (.bool (decide (a = b))) [] []) : @callB ⟨callX Tryz.prog⟩ 92 [.vs (nods a), .vs (nods b), .fn 93 []] H slot ⟨K⟩ := call0 true (cEqN a b hl he) rfl rfl (fun _ => rfl) hK
end TR

/- Decks: numbers that are drawn from a list. -/
open Go Go.Proofs Go.AH
set_option linter.unusedSimpArgs false
set_option linter.unusedVariables false
namespace TR
def modv (x n : Int) : Int := (x.tmod n + n).tmod n
theorem modv_lt {x n : Int} (hn : 0 < n) : 0 ≤ modv x n ∧ modv x n < n := by
  unfold modv
  have h1 := Int.lt_tmod_of_pos x hn
  have h2 := Int.tmod_nonneg n (a := x.tmod n + n) (by omega)
  have h3 := Int.tmod_lt_of_pos (x.tmod n + n) hn
  exact ⟨h2, h3⟩
/-- What Next draws, and the place behind it. -/
def dv (L : List Int) (a : Nat) (n : Int) : Int := if L.length ≤ a ∨ n ≤ 1 then 0 else modv (L.getD a 0) n
def da (L : List Int) (a : Nat) (n : Int) : Nat := if L.length ≤ a ∨ n ≤ 1 then a else a + 1
theorem dv_lt (L : List Int) (a : Nat) {n : Int} (hn : 0 < n) : 0 ≤ dv L a n ∧ dv L a n < n := by
  unfold dv
  split
  · omega
  · exact modv_lt hn
theorem da_le (L : List Int) (a : Nat) (n : Int) (h : a ≤ 1000) (hL : L.length ≤ 1000) : da L a n ≤ 1000 := by
  unfold da
  split <;> omega
set_option maxHeartbeats 2000000 in
set_option maxRecDepth 20000 in
theorem cMod (x n : Int) (h0 : 0 < n) (h1 : n < 1000000) : FC Tryz.prog 19 [.int .i64 x, .int .i64 n] [] (.int .i64 (modv x n)) [] := by
  refine FC.of_run mix Tryz.func19 rfl rfl (by simp [Tryz.ntmps19]) ?_
  have hn : (n = 0) = False := by simp only [eq_iff_iff, iff_false]; omega
  have g1 := Int.lt_tmod_of_pos x h0
  have g2 := Int.tmod_lt_of_pos x h0
  have hw : IntKind.i64.wrap (x.tmod n + n) = x.tmod n + n := by rw [wrapS] <;> omega
  clear g1 g2
  repeat' first
    | simp (maxSteps := 1000000) only [go_sem, Int.reduceLT, Int.reduceLE, Int.reduceToNat, Int.reduceEq, Nat.reduceMul, ↓reduceIte, Nat.reduceLT, Nat.reduceLeDiff, Nat.reduceEqDiff, Nat.reduceAdd, Nat.reduceSub, Nat.reduceBEq, reduceCtorEq, *]
    | contradiction
    | refine wT ?_ ?_ <;> intro _
    | refine wF ?_ ?_ <;> intro _
    | refine cD ?_ ?_ <;> intro _
    | refine dO (by kernel_rfl) ?_
    | ((first | refine Fin.q ?_ ?_ | refine Fin.qn ?_ ?_) <;> ((try simp (maxSteps := 1000000) only [go_sem, Int.reduceLT, Int.reduceLE, Int.reduceToNat, Int.reduceEq, Nat.reduceMul, ↓reduceIte, Nat.reduceLT, Nat.reduceLeDiff, Nat.reduceEqDiff, Nat.reduceAdd, Nat.reduceSub, Nat.reduceBEq, reduceCtorEq, *]) <;> (first | done | rfl)))
set_option maxRecDepth 20000 in
theorem kcMod {x n : Int} {H : Heap} {slot : Nat} {K : D → List (Nat × Blk) → List (Nat × Blk) → Prop} (hK : K (.int .i64 (modv x n)) [] []) (h0 : 0 < n := by first | assumption | omega) (h1 : n < 1000000 := by first | assumption | omega) : @callB ⟨callX Tryz.prog⟩ 19 [.int .i64 x, .int .i64 n] H slot ⟨K⟩ := by
  have he0 : rdOf H (D.idsL [.int .i64 x, .int .i64 n]) = [] := by simp (maxSteps := 1000000) only [go_sem, Int.reduceLT, Int.reduceLE, Int.reduceToNat, Int.reduceEq, Nat.reduceMul, ↓reduceIte, Nat.reduceLT, Nat.reduceLeDiff, Nat.reduceEqDiff, Nat.reduceAdd, Nat.reduceSub, Nat.reduceBEq, reduceCtorEq]
  refine call0 false (cMod x n h0 h1) ?_ ?_ (fun h => nomatch h) (by rw [he0]; exact hK)
  iterate 2 (· simp (maxSteps := 1000000) only [go_sem, Int.reduceLT, Int.reduceLE, Int.reduceToNat, Int.reduceEq, Nat.reduceMul, ↓reduceIte, Nat.reduceLT, Nat.reduceLeDiff, Nat.reduceEqDiff, Nat.reduceAdd, Nat.reduceSub, Nat.reduceBEq, reduceCtorEq])
set_option maxHeartbeats 2000000 in
set_option maxRecDepth 20000 in
theorem cNext (L : List Int) (a : Nat) (n : Int) (hL : L.length ≤ 1000) (ha : a ≤ 1000) (hn : n < 1000000) : FC Tryz.prog 13 [.ptr 0 1 0 0, .int .i64 n] [[[V L, .int .i64 a]]] (.int .i64 (dv L a n)) [[[V L, .int .i64 (da L a n)]]] := by
  have hw := wrap1 (i := a) (by omega)
  have hw2 : IntKind.i64.wrap (((a + 1 : Nat) : Int) - 1) = (a : Int) := by rw [wrapS] <;> omega
  by_cases h : L.length ≤ a
  · have e1 : dv L a n = 0 := by simp [dv, h]
    have e2 : da L a n = a := by simp [da, h]
    rw [e1, e2]
    refine FC.of_run mix Tryz.func13 rfl rfl (by simp [Tryz.ntmps13]) ?_
    repeat' first
      | simp (maxSteps := 1000000) only [go_sem, Int.reduceLT, Int.reduceLE, Int.reduceToNat, Int.reduceEq, Nat.reduceMul, ↓reduceIte, Nat.reduceLT, Nat.reduceLeDiff, Nat.reduceEqDiff, Nat.reduceAdd, Nat.reduceSub, Nat.reduceBEq, reduceCtorEq, *]
      | contradiction
      | refine wT ?_ ?_ <;> intro _
      | refine wF ?_ ?_ <;> intro _
      | refine cD ?_ ?_ <;> intro _
      | refine dO (by kernel_rfl) ?_
      | refine Fin.q ?_ ?_
      | refine Fin.qn ?_ ?_
  · by_cases h2 : n ≤ 1
    · have e1 : dv L a n = 0 := by simp [dv, h2]
      have e2 : da L a n = a := by simp [da, h2]
      rw [e1, e2]
      refine FC.of_run mix Tryz.func13 rfl rfl (by simp [Tryz.ntmps13]) ?_
      repeat' first
        | simp (maxSteps := 1000000) only [go_sem, Int.reduceLT, Int.reduceLE, Int.reduceToNat, Int.reduceEq, Nat.reduceMul, ↓reduceIte, Nat.reduceLT, Nat.reduceLeDiff, Nat.reduceEqDiff, Nat.reduceAdd, Nat.reduceSub, Nat.reduceBEq, reduceCtorEq, *]
        | contradiction
        | refine wT ?_ ?_ <;> intro _
        | refine wF ?_ ?_ <;> intro _
        | refine cD ?_ ?_ <;> intro _
        | refine dO (by kernel_rfl) ?_
        | refine Fin.q ?_ ?_
        | refine Fin.qn ?_ ?_
    · have e1 : dv L a n = modv (L.getD a 0) n := if_neg (by omega)
      have e2 : da L a n = a + 1 := if_neg (by omega)
      rw [e1, e2]
      have hx := ints_get (l := L) (i := a) (by omega)
      have h3 : a < L.length := by omega
      refine FC.of_run mix Tryz.func13 rfl rfl (by simp [Tryz.ntmps13]) ?_
      repeat' first
        | simp (maxSteps := 1000000) only [go_sem, Int.reduceLT, Int.reduceLE, Int.reduceToNat, Int.reduceEq, Nat.reduceMul, ↓reduceIte, Nat.reduceLT, Nat.reduceLeDiff, Nat.reduceEqDiff, Nat.reduceAdd, Nat.reduceSub, Nat.reduceBEq, reduceCtorEq, *]
        | contradiction
        | refine wT ?_ ?_ <;> intro _
        | refine wF ?_ ?_ <;> intro _
        | refine cD ?_ ?_ <;> intro _
        | refine dO (by kernel_rfl) ?_
        | refine kcMod ?_
        | refine Fin.q ?_ ?_
        | refine Fin.qn ?_ ?_
theorem kNext {L : List Int} {a : Nat} {n : Int} {q : Nat} {H : Heap} (hH : hget H q = some [[V L, .int .i64 a]]) {slot : Nat} {K : D → List (Nat × Blk) → List (Nat × Blk) → Prop} (hK : K (.int .i64 (dv L a n)) [(q, [[V L, .int .i64 (da L a n)]])] [(q, [[V L, .int .i64 a]]), (q, [[V L, .int .i64 a]])]) (hL : L.length ≤ 1000 := by assumption) (ha : a ≤ 1000 := by first | assumption | (repeat' first | assumption | apply da_le)) (hn : n < 1000000 := by omega) : @callB ⟨callX Tryz.prog⟩ 13 [.ptr q 1 0 0, .int .i64 n] H slot ⟨K⟩ := by
  have e : rdOf H ([q] ++ D.idsL [.ptr q 1 0 0, .int .i64 n]) = [(q, [[V L, .int .i64 a]]), (q, [[V L, .int .i64 a]])] := by simp [D.idsL, D.ids, rdOf, hH]
  refine callX2 [q] (cNext L a n hL ha hn) (by simp) ?_ ?_ ⟨by simp, by simp⟩ (r' := .int .i64 (dv L a n)) (outs' := [[[V L, .int .i64 (da L a n)]]]) rfl ?_ ?_
  · simp [trL, tr, pos]
  · rw [e]; simp [insA, AH.look, trB, pureB, D.isPur]
  · simp [backB, trB, pureB, D.isPur]
  · rw [e]; exact hK
set_option maxHeartbeats 2000000 in
set_option maxRecDepth 20000 in
theorem cFew (l : List Int)  : FC Tryz.prog 7 [V l] [] (.bool (decide (l.length ≤ 400))) [] := by
  refine FC.of_run mix Tryz.func7 rfl rfl (by simp [Tryz.ntmps7]) ?_
  repeat' first
    | simp (maxSteps := 1000000) only [go_sem, Int.reduceLT, Int.reduceLE, Int.reduceToNat, Int.reduceEq, Nat.reduceMul, ↓reduceIte, Nat.reduceLT, Nat.reduceLeDiff, Nat.reduceEqDiff, Nat.reduceAdd, Nat.reduceSub, Nat.reduceBEq, reduceCtorEq, *]
    | contradiction
    | refine wT ?_ ?_ <;> intro _
    | refine wF ?_ ?_ <;> intro _
    | refine cD ?_ ?_ <;> intro _
    | refine dO (by kernel_rfl) ?_
    | ((first | refine Fin.q ?_ ?_ | refine Fin.qn ?_ ?_) <;> ((try simp (maxSteps := 1000000) only [go_sem, Int.reduceLT, Int.reduceLE, Int.reduceToNat, Int.reduceEq, Nat.reduceMul, ↓reduceIte, Nat.reduceLT, Nat.reduceLeDiff, Nat.reduceEqDiff, Nat.reduceAdd, Nat.reduceSub, Nat.reduceBEq, reduceCtorEq, *]) <;> (first | done | (simp only [Option.some.injEq, D.bool.injEq]; first | exact decide_eq_decide.2 (by omega) | exact (decide_eq_true (by omega)).symm | exact (decide_eq_false (by omega)).symm))))
set_option maxRecDepth 20000 in
theorem kcFew {l : List Int} {H : Heap} {slot : Nat} {K : D → List (Nat × Blk) → List (Nat × Blk) → Prop} (hK : K (.bool (decide (l.length ≤ 400))) [] []) : @callB ⟨callX Tryz.prog⟩ 7 [V l] H slot ⟨K⟩ := by
  have he0 : rdOf H (D.idsL [V l]) = [] := by simp (maxSteps := 1000000) only [go_sem, Int.reduceLT, Int.reduceLE, Int.reduceToNat, Int.reduceEq, Nat.reduceMul, ↓reduceIte, Nat.reduceLT, Nat.reduceLeDiff, Nat.reduceEqDiff, Nat.reduceAdd, Nat.reduceSub, Nat.reduceBEq, reduceCtorEq]
  refine call0 false (cFew l ) ?_ ?_ (fun h => nomatch h) (by rw [he0]; exact hK)
  iterate 2 (· simp (maxSteps := 1000000) only [go_sem, Int.reduceLT, Int.reduceLE, Int.reduceToNat, Int.reduceEq, Nat.reduceMul, ↓reduceIte, Nat.reduceLT, Nat.reduceLeDiff, Nat.reduceEqDiff, Nat.reduceAdd, Nat.reduceSub, Nat.reduceBEq, reduceCtorEq])
set_option maxHeartbeats 2000000 in
set_option maxRecDepth 20000 in
theorem cNew (l : List Int) : FC Tryz.prog 9 [V l] [] (.ptr 0 1 0 0) [[[V l, .int .i64 0]]] := by
  refine FC.of_run mix Tryz.func9 rfl rfl (by simp [Tryz.ntmps9]) ?_
  repeat' first
    | simp (maxSteps := 1000000) only [go_sem, Int.reduceLT, Int.reduceLE, Int.reduceToNat, Int.reduceEq, Nat.reduceMul, ↓reduceIte, Nat.reduceLT, Nat.reduceLeDiff, Nat.reduceEqDiff, Nat.reduceAdd, Nat.reduceSub, Nat.reduceBEq, reduceCtorEq, *]
    | contradiction
    | refine wT ?_ ?_ <;> intro _
    | refine wF ?_ ?_ <;> intro _
    | refine cD ?_ ?_ <;> intro _
    | refine dO (by kernel_rfl) ?_
    | refine Fin.qy [0] (by simp) (by simp) ?_ ?_
theorem kNew {l : List Int} {H : Heap} {slot : Nat} {K : D → List (Nat × Blk) → List (Nat × Blk) → Prop} (hK : K (.ptr slot 1 0 0) [(slot, [[V l, .int .i64 0]])] []) : @callB ⟨callX Tryz.prog⟩ 9 [V l] H slot ⟨K⟩ := by
  refine callO (cNew l) rfl (r' := .ptr slot 1 0 0) (outs' := [[[V l, .int .i64 0]]]) rfl ?_ (by simp) hK
  simp [backB, trB, pureB, D.isPur]
set_option maxHeartbeats 2000000 in
set_option maxRecDepth 20000 in
theorem cLength (L : List Int) (a : Nat) (hL : L.length ≤ 1000) (ha : a ≤ 1000) : FC Tryz.prog 12 [.ptr 0 1 0 0] [[[V L, .int .i64 a]]] (.int .i64 (2 + dv L a 5)) [[[V L, .int .i64 (da L a 5)]]] := by
  have h := dv_lt L a (n := 5) (by decide)
  have hw : IntKind.i64.wrap (2 + dv L a 5) = 2 + dv L a 5 := by rw [wrapS] <;> omega
  clear h
  refine FC.of_run mix Tryz.func12 rfl rfl (by simp [Tryz.ntmps12]) ?_
  repeat' first
    | simp (maxSteps := 1000000) only [go_sem, Int.reduceLT, Int.reduceLE, Int.reduceToNat, Int.reduceEq, Nat.reduceMul, ↓reduceIte, Nat.reduceLT, Nat.reduceLeDiff, Nat.reduceEqDiff, Nat.reduceAdd, Nat.reduceSub, Nat.reduceBEq, reduceCtorEq, *]
    | contradiction
    | refine wT ?_ ?_ <;> intro _
    | refine wF ?_ ?_ <;> intro _
    | refine cD ?_ ?_ <;> intro _
    | refine dO (by kernel_rfl) ?_
    | refine (kNext rfl) ?_
    | refine Fin.q ?_ ?_
    | refine Fin.qn ?_ ?_
/-- What Sample draws. -/
def sv (L : List Int) (a : Nat) : Int := if dv L a 12 = 0 then dv L (da L a 12) 2001 - 1000 else if dv L a 12 = 1 then (if dv L (da L a 12) 2 = 0 then 1000 else -1000) else dv L (da L a 12) 13 - 4
def sa (L : List Int) (a : Nat) : Nat := if dv L a 12 = 0 then da L (da L a 12) 2001 else if dv L a 12 = 1 then da L (da L a 12) 2 else da L (da L a 12) 13
theorem sv_in (L : List Int) (a : Nat) : -1000 ≤ sv L a ∧ sv L a ≤ 1000 := by
  have h1 := dv_lt L (da L a 12) (n := 2001) (by decide)
  have h2 := dv_lt L (da L a 12) (n := 13) (by decide)
  unfold sv
  (repeat' split) <;> omega
theorem sa_le (L : List Int) (a : Nat) (h : a ≤ 1000) (hL : L.length ≤ 1000) : sa L a ≤ 1000 := by
  unfold sa
  (repeat' split) <;> (repeat' first | assumption | apply da_le)
set_option maxHeartbeats 2000000 in
set_option maxRecDepth 20000 in
theorem cSampleD (L : List Int) (a : Nat) (hL : L.length ≤ 1000) (ha : a ≤ 1000) : FC Tryz.prog 49 [.ptr 0 1 0 0] [[[V L, .int .i64 a]]] (.int .i64 (sv L a)) [[[V L, .int .i64 (sa L a)]]] := by
  have b1 := dv_lt L (da L a 12) (n := 2001) (by decide)
  have b2 := dv_lt L (da L a 12) (n := 13) (by decide)
  have b3 := dv_lt L (da L a 12) (n := 2) (by decide)
  have w1 : IntKind.i64.wrap (dv L (da L a 12) 2001 - 1000) = dv L (da L a 12) 2001 - 1000 := by rw [wrapS] <;> omega
  have w2 : IntKind.i64.wrap (dv L (da L a 12) 13 - 4) = dv L (da L a 12) 13 - 4 := by rw [wrapS] <;> omega
  by_cases h0 : dv L a 12 = 0
  · have e1 : sv L a = dv L (da L a 12) 2001 - 1000 := if_pos h0
    have e2 : sa L a = da L (da L a 12) 2001 := if_pos h0
    rw [e1, e2]
    clear b1 b2 b3
    refine FC.of_run mix Tryz.func49 rfl rfl (by simp [Tryz.ntmps49]) ?_
    repeat' first
      | simp (maxSteps := 1000000) only [go_sem, Int.reduceLT, Int.reduceLE, Int.reduceToNat, Int.reduceEq, Nat.reduceMul, ↓reduceIte, Nat.reduceLT, Nat.reduceLeDiff, Nat.reduceEqDiff, Nat.reduceAdd, Nat.reduceSub, Nat.reduceBEq, reduceCtorEq, *]
      | contradiction
      | refine wT ?_ ?_ <;> intro _
      | refine wF ?_ ?_ <;> intro _
      | refine cD ?_ ?_ <;> intro _
      | refine dO (by kernel_rfl) ?_
      | refine (kNext rfl) ?_
      | refine Fin.q ?_ ?_
      | refine Fin.qn ?_ ?_
  · by_cases h1 : dv L a 12 = 1
    · have e2 : sa L a = da L (da L a 12) 2 := by unfold sa; rw [if_neg h0, if_pos h1]
      have one : (dv L a 12 = 0) = False := by simp [h0]
      rcases (by omega : dv L (da L a 12) 2 = 0 ∨ dv L (da L a 12) 2 = 1) with h2 | h2
      · have e1 : sv L a = 1000 := by unfold sv; rw [if_neg h0, if_pos h1, if_pos h2]
        rw [e1, e2]
        clear b1 b2 b3
        refine FC.of_run mix Tryz.func49 rfl rfl (by simp [Tryz.ntmps49]) ?_
        repeat' first
          | simp (maxSteps := 1000000) only [go_sem, Int.reduceLT, Int.reduceLE, Int.reduceToNat, Int.reduceEq, Nat.reduceMul, ↓reduceIte, Nat.reduceLT, Nat.reduceLeDiff, Nat.reduceEqDiff, Nat.reduceAdd, Nat.reduceSub, Nat.reduceBEq, reduceCtorEq, *]
          | contradiction
          | refine wT ?_ ?_ <;> intro _
          | refine wF ?_ ?_ <;> intro _
          | refine cD ?_ ?_ <;> intro _
          | refine dO (by kernel_rfl) ?_
          | refine (kNext rfl) ?_
          | refine Fin.q ?_ ?_
          | refine Fin.qn ?_ ?_
      · have e1 : sv L a = -1000 := by unfold sv; rw [if_neg h0, if_pos h1, if_neg (by omega)]
        rw [e1, e2]
        clear b1 b2 b3
        refine FC.of_run mix Tryz.func49 rfl rfl (by simp [Tryz.ntmps49]) ?_
        repeat' first
          | simp (maxSteps := 1000000) only [go_sem, Int.reduceLT, Int.reduceLE, Int.reduceToNat, Int.reduceEq, Nat.reduceMul, ↓reduceIte, Nat.reduceLT, Nat.reduceLeDiff, Nat.reduceEqDiff, Nat.reduceAdd, Nat.reduceSub, Nat.reduceBEq, reduceCtorEq, *]
          | contradiction
          | refine wT ?_ ?_ <;> intro _
          | refine wF ?_ ?_ <;> intro _
          | refine cD ?_ ?_ <;> intro _
          | refine dO (by kernel_rfl) ?_
          | refine (kNext rfl) ?_
          | refine Fin.q ?_ ?_
          | refine Fin.qn ?_ ?_
    · have e1 : sv L a = dv L (da L a 12) 13 - 4 := by unfold sv; rw [if_neg h0, if_neg h1]
      have e2 : sa L a = da L (da L a 12) 13 := by unfold sa; rw [if_neg h0, if_neg h1]
      rw [e1, e2]
      clear b1 b2 b3
      refine FC.of_run mix Tryz.func49 rfl rfl (by simp [Tryz.ntmps49]) ?_
      repeat' first
        | simp (maxSteps := 1000000) only [go_sem, Int.reduceLT, Int.reduceLE, Int.reduceToNat, Int.reduceEq, Nat.reduceMul, ↓reduceIte, Nat.reduceLT, Nat.reduceLeDiff, Nat.reduceEqDiff, Nat.reduceAdd, Nat.reduceSub, Nat.reduceBEq, reduceCtorEq, *]
        | contradiction
        | refine wT ?_ ?_ <;> intro _
        | refine wF ?_ ?_ <;> intro _
        | refine cD ?_ ?_ <;> intro _
        | refine dO (by kernel_rfl) ?_
        | refine (kNext rfl) ?_
        | refine Fin.q ?_ ?_
        | refine Fin.qn ?_ ?_
end TR

/- Windows cut into pieces: the reference's starts, sums and centred sums. -/
open Go Go.Proofs Go.AH
set_option linter.unusedSimpArgs false
set_option linter.unusedVariables false
namespace TR
theorem ints_snoc (l : List Int) (x : Int) : ints l ++ [[.int .i64 x]] = ints (l ++ [x]) := by simp [ints]
/-- The values of a function at the first places. -/
def rangeF (f : Nat → Int) (n : Nat) : List Int := (List.range n).map f
theorem rangeF_len (f : Nat → Int) (n : Nat) : (rangeF f n).length = n := by simp [rangeF]
theorem rangeF_get (f : Nat → Int) {n i : Nat} (h : i < n) : (rangeF f n).getD i 0 = f i := by simp [rangeF, List.getD, h]
theorem rangeF_snoc (f : Nat → Int) (n : Nat) : rangeF f n ++ [f n] = rangeF f (n + 1) := by simp [rangeF, List.range_succ]
theorem rangeF_one (f : Nat → Int) : [[D.int .i64 (f 0)]] = ints (rangeF f 1) := by simp [rangeF, ints]
theorem snocF (f : Nat → Int) (n : Nat) : ints (rangeF f n) ++ [[.int .i64 (f n)]] = ints (rangeF f (n + 1)) := by rw [ints_snoc, rangeF_snoc]
theorem takeF (f : Nat → Int) (n : Nat) : (ints (rangeF f n)).take n = ints (rangeF f n) := by
  have := take_ints (rangeF f n)
  rwa [rangeF_len] at this
theorem getF (f : Nat → Int) {n i : Nat} (h : i < n) : (ints (rangeF f n))[i]? = some [.int .i64 (f i)] := by
  rw [ints_get (by rw [rangeF_len]; exact h), rangeF_get f h]
theorem rangeF_ne (f : Nat → Int) (n : Nat) : (ints (rangeF f (n + 1))).isEmpty = false := by simp [rangeF, ints, List.range_succ]
theorem rangeF_ne1 (f : Nat → Int) : (ints (rangeF f 1)).isEmpty = false := rangeF_ne f 0
attribute [go_sem] rangeF_ne rangeF_ne1 rangeF_len takeF
theorem no_succ_le (n : Nat) : (n + 1 ≤ n) = False := by simp only [eq_iff_iff, iff_false]; omega
def smp (x : List Int) : Prop := 2 ≤ x.length ∧ x.length ≤ 32 ∧ ∀ i, i < x.length → -1000 ≤ x.getD i 0 ∧ x.getD i 0 ≤ 1000
set_option maxHeartbeats 2000000 in
set_option maxRecDepth 20000 in
theorem cSamples (x : List Int) (hx : smp x) : FC Tryz.prog 169 [V x] [] (.int .i64 0) [] := by
  refine FC.of_run mix Tryz.func169 rfl rfl (by simp [Tryz.ntmps169]) ?_
  obtain ⟨_, h32, hs⟩ := hx
  repeat' first
    | simp (maxSteps := 1000000) only [go_sem, Int.reduceLT, Int.reduceLE, Int.reduceToNat, Int.reduceEq, Nat.reduceMul, ↓reduceIte, Nat.reduceLT, Nat.reduceLeDiff, Nat.reduceEqDiff, Nat.reduceAdd, Nat.reduceSub, Nat.reduceBEq, reduceCtorEq, *]
    | contradiction
    | refine wT ?_ ?_ <;> intro _
    | refine wF ?_ ?_ <;> intro _
    | refine cD ?_ ?_ <;> intro _
    | refine dO (by kernel_rfl) ?_
    | refine Fin.q ?_ ?_
    | refine Fin.qn ?_ ?_
  refine AW.loopx (σ := Nat) mix (fun i => ⟨16, [(6, .int .i64 i), (5, .int .i64 x.length), (0, V x)], []⟩) (fun i => i ≤ x.length) (fun i => x.length - i) 0 (by omega) (Conv.mk ?_ ?_ ?_ ?_ ?_) ?_
  iterate 5 (· (simp (maxSteps := 1000000) only [go_sem, Int.reduceLT, Int.reduceLE, Int.reduceToNat, Int.reduceEq, Nat.reduceMul, ↓reduceIte, Nat.reduceLT, Nat.reduceLeDiff, Nat.reduceEqDiff, Nat.reduceAdd, Nat.reduceSub, Nat.reduceBEq, reduceCtorEq]) <;> (first | rfl | (simp [ints]; done) | (simp [*]; done) | ((repeat' (first | rfl | apply And.intro)); done)))
  intro i hi
  have hw := wrap1 (i := i) (by omega)
  by_cases h : i < x.length
  · have hx := ints_get h
    have h3 := hs i h
    clear hs
    repeat' first
      | simp (maxSteps := 1000000) only [go_sem, Int.reduceLT, Int.reduceLE, Int.reduceToNat, Int.reduceEq, Nat.reduceMul, ↓reduceIte, Nat.reduceLT, Nat.reduceLeDiff, Nat.reduceEqDiff, Nat.reduceAdd, Nat.reduceSub, Nat.reduceBEq, reduceCtorEq, *]
      | contradiction
      | refine wT ?_ ?_ <;> intro _
      | refine wF ?_ ?_ <;> intro _
      | refine cD ?_ ?_ <;> intro _
      | refine dO (by kernel_rfl) ?_
      | refine kcSample ?_
      | (refine ⟨i + 1, ?_, ?_, Conv.mk ?_ ?_ ?_ ?_ ?_⟩; (· (first | omega | (simp only; omega) | (simp only [List.length_nil, List.length_cons]; omega))); (· (omega)))
      | refine Fin.q ?_ ?_
      | refine Fin.qn ?_ ?_
  · repeat' first
      | simp (maxSteps := 1000000) only [go_sem, Int.reduceLT, Int.reduceLE, Int.reduceToNat, Int.reduceEq, Nat.reduceMul, ↓reduceIte, Nat.reduceLT, Nat.reduceLeDiff, Nat.reduceEqDiff, Nat.reduceAdd, Nat.reduceSub, Nat.reduceBEq, reduceCtorEq, *]
      | contradiction
      | refine wT ?_ ?_ <;> intro _
      | refine wF ?_ ?_ <;> intro _
      | refine cD ?_ ?_ <;> intro _
      | refine dO (by kernel_rfl) ?_
      | refine Fin.q ?_ ?_
      | refine Fin.qn ?_ ?_
set_option maxRecDepth 20000 in
theorem kcSamples {x : List Int} {H : Heap} {slot : Nat} {K : D → List (Nat × Blk) → List (Nat × Blk) → Prop} (hK : K (.int .i64 0) [] []) (hx : smp x := by first | assumption | omega) : @callB ⟨callX Tryz.prog⟩ 169 [V x] H slot ⟨K⟩ := by
  have he0 : rdOf H (D.idsL [V x]) = [] := by simp (maxSteps := 1000000) only [go_sem, Int.reduceLT, Int.reduceLE, Int.reduceToNat, Int.reduceEq, Nat.reduceMul, ↓reduceIte, Nat.reduceLT, Nat.reduceLeDiff, Nat.reduceEqDiff, Nat.reduceAdd, Nat.reduceSub, Nat.reduceBEq, reduceCtorEq]
  refine call0 false (cSamples x hx) ?_ ?_ (fun h => nomatch h) (by rw [he0]; exact hK)
  iterate 2 (· simp (maxSteps := 1000000) only [go_sem, Int.reduceLT, Int.reduceLE, Int.reduceToNat, Int.reduceEq, Nat.reduceMul, ↓reduceIte, Nat.reduceLT, Nat.reduceLeDiff, Nat.reduceEqDiff, Nat.reduceAdd, Nat.reduceSub, Nat.reduceBEq, reduceCtorEq])
set_option maxHeartbeats 2000000 in
set_option maxRecDepth 20000 in
theorem cWindow (x : List Int) (hx : smp x) : FC Tryz.prog 170 [V x] [] (.int .i64 0) [] := by
  refine FC.of_run mix Tryz.func170 rfl rfl (by simp [Tryz.ntmps170]) ?_
  have h1 := hx.1
  have h2 := hx.2.1
  have h3 : ¬ ((x.length : Int) < 2) := by omega
  have h4 : ¬ ((32 : Int) < x.length) := by omega
  repeat' first
    | simp (maxSteps := 1000000) only [go_sem, Int.reduceLT, Int.reduceLE, Int.reduceToNat, Int.reduceEq, Nat.reduceMul, ↓reduceIte, Nat.reduceLT, Nat.reduceLeDiff, Nat.reduceEqDiff, Nat.reduceAdd, Nat.reduceSub, Nat.reduceBEq, reduceCtorEq, *]
    | contradiction
    | refine wT ?_ ?_ <;> intro _
    | refine wF ?_ ?_ <;> intro _
    | refine cD ?_ ?_ <;> intro _
    | refine dO (by kernel_rfl) ?_
    | refine kcSamples ?_
    | refine Fin.q ?_ ?_
    | refine Fin.qn ?_ ?_
set_option maxRecDepth 20000 in
theorem kcWindow {x : List Int} {H : Heap} {slot : Nat} {K : D → List (Nat × Blk) → List (Nat × Blk) → Prop} (hK : K (.int .i64 0) [] []) (hx : smp x := by first | assumption | omega) : @callB ⟨callX Tryz.prog⟩ 170 [V x] H slot ⟨K⟩ := by
  have he0 : rdOf H (D.idsL [V x]) = [] := by simp (maxSteps := 1000000) only [go_sem, Int.reduceLT, Int.reduceLE, Int.reduceToNat, Int.reduceEq, Nat.reduceMul, ↓reduceIte, Nat.reduceLT, Nat.reduceLeDiff, Nat.reduceEqDiff, Nat.reduceAdd, Nat.reduceSub, Nat.reduceBEq, reduceCtorEq]
  refine call0 false (cWindow x hx) ?_ ?_ (fun h => nomatch h) (by rw [he0]; exact hK)
  iterate 2 (· simp (maxSteps := 1000000) only [go_sem, Int.reduceLT, Int.reduceLE, Int.reduceToNat, Int.reduceEq, Nat.reduceMul, ↓reduceIte, Nat.reduceLT, Nat.reduceLeDiff, Nat.reduceEqDiff, Nat.reduceAdd, Nat.reduceSub, Nat.reduceBEq, reduceCtorEq])
theorem mulN {a b : Nat} (h : a * b < 9223372036854775808) : IntKind.i64.wrap ((a : Int) * (b : Int)) = ((a * b : Nat) : Int) := by rw [← wrapN h]; rfl
theorem divN (a b : Nat) : ((a : Int)).tdiv (b : Int) = ((a / b : Nat) : Int) := by rw [Int.tdiv_eq_ediv_of_nonneg (by omega)]; rfl
def startF (m n : Nat) (p : Nat) : Int := ((p * m / n : Nat) : Int)
def stStarts (m n : Nat) : Nat → St
  | 0 => ⟨39, [(7, .int .i64 0), (6, .zs), (1, .int .i64 n), (0, .int .i64 m)], []⟩
  | i + 1 => ⟨39, [(7, .int .i64 ((i + 1 : Nat) : Int)), (6, .rs 1 1 0 (i + 1) (i + 1)), (1, .int .i64 n), (0, .int .i64 m)], [none, some (ints (rangeF (startF m n) (i + 1)))]⟩
set_option maxHeartbeats 2000000 in
set_option maxRecDepth 20000 in
theorem cStarts (m n : Nat) (h2 : 2 ≤ m) (h32 : m ≤ 32) (h1 : 1 ≤ n) (h8 : n ≤ 8) (hnm : n ≤ m) : FC Tryz.prog 126 [.int .i64 m, .int .i64 n] [] (.tup [V (rangeF (startF m n) (n + 1)), .int .i64 0]) [] := by
  refine FC.of_run mix Tryz.func126 rfl rfl (by simp [Tryz.ntmps126]) ?_
  have g1 : ¬ ((m : Int) < 2) := by omega
  have g2 : ¬ ((32 : Int) < m) := by omega
  have g3 : ¬ ((n : Int) < 1) := by omega
  have g4 : ¬ ((8 : Int) < n) := by omega
  have g5 : ¬ ((m : Int) < n) := by omega
  have g6 : ((n : Int) = 0) = False := by simp only [eq_iff_iff, iff_false]; omega
  repeat' first
    | simp (maxSteps := 1000000) only [go_sem, Int.reduceLT, Int.reduceLE, Int.reduceToNat, Int.reduceEq, Nat.reduceMul, ↓reduceIte, Nat.reduceLT, Nat.reduceLeDiff, Nat.reduceEqDiff, Nat.reduceAdd, Nat.reduceSub, Nat.reduceBEq, reduceCtorEq, *]
    | contradiction
    | refine wT ?_ ?_ <;> intro _
    | refine wF ?_ ?_ <;> intro _
    | refine cD ?_ ?_ <;> intro _
    | refine dO (by kernel_rfl) ?_
    | refine Fin.q ?_ ?_
    | refine Fin.qn ?_ ?_
  refine AW.loopx (σ := Nat) mix (stStarts m n) (fun i => i ≤ n + 1) (fun i => n + 1 - i) 0 (by omega) (Conv.mk ?_ ?_ ?_ ?_ ?_) ?_
  iterate 5 (· simp (maxSteps := 1000000) only [go_sem, Int.reduceLT, Int.reduceLE, Int.reduceToNat, Int.reduceEq, Nat.reduceMul, ↓reduceIte, Nat.reduceLT, Nat.reduceLeDiff, Nat.reduceEqDiff, Nat.reduceAdd, Nat.reduceSub, Nat.reduceBEq, reduceCtorEq, stStarts])
  clear g1 g2 g3 g4 g5
  intro i hi
  have hC : i + 1 ≤ capMax := by unfold capMax; omega
  rcases i with _ | i
  · have hv : IntKind.i64.wrap ((IntKind.i64.wrap ((0 : Int) * (m : Int))).tdiv (n : Int)) = startF m n 0 := by
      rw [Int.zero_mul, show IntKind.i64.wrap 0 = 0 by decide, Int.zero_tdiv, show IntKind.i64.wrap 0 = 0 by decide]
      simp [startF]
    have hw : IntKind.i64.wrap ((0 : Int) + 1) = ((1 : Nat) : Int) := by decide
    have h0n : (0 : Int) ≤ (n : Int) := by omega
    simp only [stStarts]
    repeat' first
      | simp (maxSteps := 1000000) only [go_sem, Int.reduceLT, Int.reduceLE, Int.reduceToNat, Int.reduceEq, Nat.reduceMul, ↓reduceIte, Nat.reduceLT, Nat.reduceLeDiff, Nat.reduceEqDiff, Nat.reduceAdd, Nat.reduceSub, Nat.reduceBEq, reduceCtorEq, *, stStarts, Nat.zero_add, rangeF_one, List.length_singleton, List.isEmpty_cons, List.length_cons, List.length_nil]
      | contradiction
      | refine wT ?_ ?_ <;> intro _
      | refine wF ?_ ?_ <;> intro _
      | refine cD ?_ ?_ <;> intro _
      | refine dO (by kernel_rfl) ?_
      | (refine ⟨1, ?_, ?_, Conv.mk ?_ ?_ ?_ ?_ ?_⟩; (· (first | omega | (simp only; omega) | (simp only [List.length_nil, List.length_cons]; omega))); (· (omega)))
      | refine Fin.q ?_ ?_
      | refine Fin.qn ?_ ?_
  · by_cases h : i + 1 ≤ n
    · have hm : (i + 1) * m ≤ 8 * 32 := Nat.mul_le_mul (by omega) h32
      have hv : IntKind.i64.wrap ((IntKind.i64.wrap (((i + 1 : Nat) : Int) * (m : Int))).tdiv (n : Int)) = startF m n (i + 1) := by
        have hd : (i + 1) * m / n ≤ (i + 1) * m := Nat.div_le_self _ _
        rw [mulN (by omega), divN, wrapN (by omega)]
        rfl
      have hw : IntKind.i64.wrap (((i + 1 : Nat) : Int) + 1) = ((i + 1 + 1 : Nat) : Int) := wrap1 (by omega)
      have hC2 : i + 1 + 1 ≤ capMax := by unfold capMax; omega
      clear hm
      simp only [stStarts]
      repeat' first
        | simp (maxSteps := 1000000) only [go_sem, Int.reduceLT, Int.reduceLE, Int.reduceToNat, Int.reduceEq, Nat.reduceMul, ↓reduceIte, Nat.reduceLT, Nat.reduceLeDiff, Nat.reduceEqDiff, Nat.reduceAdd, Nat.reduceSub, Nat.reduceBEq, reduceCtorEq, *, stStarts, snocF, rangeF_len, takeF, no_succ_le, Nat.zero_add, List.isEmpty_cons, List.length_cons, List.length_nil, List.drop_zero, eq_self]
        | contradiction
        | refine wT ?_ ?_ <;> intro _
        | refine wF ?_ ?_ <;> intro _
        | refine cD ?_ ?_ <;> intro _
        | refine dO (by kernel_rfl) ?_
        | (refine ⟨i + 1 + 1, ?_, ?_, Conv.mk ?_ ?_ ?_ ?_ ?_⟩; (· (first | omega | (simp only; omega) | (simp only [List.length_nil, List.length_cons]; omega))); (· (omega)))
        | refine Fin.q ?_ ?_
        | refine Fin.qn ?_ ?_
    · obtain rfl : i = n := by omega
      simp only [stStarts]
      repeat' first
        | simp (maxSteps := 1000000) only [go_sem, Int.reduceLT, Int.reduceLE, Int.reduceToNat, Int.reduceEq, Nat.reduceMul, ↓reduceIte, Nat.reduceLT, Nat.reduceLeDiff, Nat.reduceEqDiff, Nat.reduceAdd, Nat.reduceSub, Nat.reduceBEq, reduceCtorEq, *, rangeF_len, takeF, List.drop_zero, Nat.zero_add, eq_self, no_succ_le]
        | contradiction
        | refine wT ?_ ?_ <;> intro _
        | refine wF ?_ ?_ <;> intro _
        | refine cD ?_ ?_ <;> intro _
        | refine dO (by kernel_rfl) ?_
        | refine Fin.q ?_ ?_
        | refine Fin.qn ?_ ?_
set_option maxRecDepth 20000 in
theorem kcStarts {m n : Nat} {H : Heap} {slot : Nat} {K : D → List (Nat × Blk) → List (Nat × Blk) → Prop} (hK : K (.tup [V (rangeF (startF m n) (n + 1)), .int .i64 0]) [] []) (h2 : 2 ≤ m := by first | assumption | omega) (h32 : m ≤ 32 := by first | assumption | omega) (h1 : 1 ≤ n := by first | assumption | omega) (h8 : n ≤ 8 := by first | assumption | omega) (hnm : n ≤ m := by first | assumption | omega) : @callB ⟨callX Tryz.prog⟩ 126 [.int .i64 m, .int .i64 n] H slot ⟨K⟩ := by
  have he0 : rdOf H (D.idsL [.int .i64 m, .int .i64 n]) = [] := by simp (maxSteps := 1000000) only [go_sem, Int.reduceLT, Int.reduceLE, Int.reduceToNat, Int.reduceEq, Nat.reduceMul, ↓reduceIte, Nat.reduceLT, Nat.reduceLeDiff, Nat.reduceEqDiff, Nat.reduceAdd, Nat.reduceSub, Nat.reduceBEq, reduceCtorEq]
  refine call0 false (cStarts m n h2 h32 h1 h8 hnm) ?_ ?_ (fun h => nomatch h) (by rw [he0]; exact hK)
  iterate 2 (· simp (maxSteps := 1000000) only [go_sem, Int.reduceLT, Int.reduceLE, Int.reduceToNat, Int.reduceEq, Nat.reduceMul, ↓reduceIte, Nat.reduceLT, Nat.reduceLeDiff, Nat.reduceEqDiff, Nat.reduceAdd, Nat.reduceSub, Nat.reduceBEq, reduceCtorEq])
end TR

/- Sums over pieces. -/
open Go Go.Proofs Go.AH
set_option linter.unusedSimpArgs false
set_option linter.unusedVariables false
namespace TR
def segS (x : List Int) (a : Nat) : Nat → Int
  | 0 => 0
  | k + 1 => IntKind.i64.wrap (segS x a k + x.getD (a + k) 0)
def foldV (x : List Int) (m n : Nat) (i : Nat) : Int := segS x (i * m / n) ((i + 1) * m / n - i * m / n)
theorem start_mono {m n : Nat} (hn : 1 ≤ n) (hnm : n ≤ m) (i : Nat) : i * m / n + 1 ≤ (i + 1) * m / n := by
  have h : i * m + n ≤ (i + 1) * m := by rw [Nat.add_mul, Nat.one_mul]; omega
  have h2 := Nat.div_le_div_right (c := n) h
  rwa [Nat.add_div_right _ (by omega)] at h2
theorem start_le {m n i : Nat} (hn : 1 ≤ n) (hi : i ≤ n) : i * m / n ≤ m := by
  have h : i * m ≤ n * m := Nat.mul_le_mul_right m hi
  have h2 := Nat.div_le_div_right (c := n) h
  rwa [Nat.mul_div_cancel_left _ (by omega)] at h2
def stFold (x : List Int) (m n : Nat) : Nat → St
  | 0 => ⟨39, [(6, .int .i64 1), (5, .zs), (1, V (rangeF (startF m n) (n + 1))), (0, V x)], []⟩
  | i + 1 => ⟨39, [(6, .int .i64 ((i + 1 + 1 : Nat) : Int)), (5, .rs 1 1 0 (i + 1) (i + 1)), (1, V (rangeF (startF m n) (n + 1))), (0, V x)], [none, some (ints (rangeF (foldV x m n) (i + 1)))]⟩
set_option maxHeartbeats 2000000 in
set_option maxRecDepth 20000 in
theorem cFold (x : List Int) (n : Nat) (h32 : x.length ≤ 32) (h1 : 1 ≤ n) (h8 : n ≤ 8) (hnm : n ≤ x.length) : FC Tryz.prog 171 [V x, V (rangeF (startF x.length n) (n + 1))] [] (V (rangeF (foldV x x.length n) n)) [] := by
  refine FC.of_run mix Tryz.func171 rfl rfl (by simp [Tryz.ntmps171]) ?_
  repeat' first
    | simp (maxSteps := 1000000) only [go_sem, Int.reduceLT, Int.reduceLE, Int.reduceToNat, Int.reduceEq, Nat.reduceMul, ↓reduceIte, Nat.reduceLT, Nat.reduceLeDiff, Nat.reduceEqDiff, Nat.reduceAdd, Nat.reduceSub, Nat.reduceBEq, reduceCtorEq, *]
    | contradiction
    | refine wT ?_ ?_ <;> intro _
    | refine wF ?_ ?_ <;> intro _
    | refine cD ?_ ?_ <;> intro _
    | refine dO (by kernel_rfl) ?_
    | refine Fin.q ?_ ?_
    | refine Fin.qn ?_ ?_
  refine AW.loopx (σ := Nat) mix (stFold x x.length n) (fun i => i ≤ n) (fun i => n - i) 0 (by omega) (Conv.mk ?_ ?_ ?_ ?_ ?_) ?_
  iterate 5 (· simp (maxSteps := 1000000) only [go_sem, Int.reduceLT, Int.reduceLE, Int.reduceToNat, Int.reduceEq, Nat.reduceMul, ↓reduceIte, Nat.reduceLT, Nat.reduceLeDiff, Nat.reduceEqDiff, Nat.reduceAdd, Nat.reduceSub, Nat.reduceBEq, reduceCtorEq, stFold])
  intro i hi
  have hC : i + 1 ≤ capMax := by unfold capMax; omega
  have hC2 : i + 1 + 1 ≤ capMax := by unfold capMax; omega
  have hmono := start_mono h1 hnm i
  have hs1 := getF (startF x.length n) (n := n + 1) (i := i) (by omega)
  rcases i with _ | i
  · have hlt : 1 < n + 1 := by omega
    have hlt2 : 0 < n + 1 := by omega
    have hs2 := getF (startF x.length n) (n := n + 1) (i := 1) (by omega)
    have hle : x.length / n ≤ x.length := Nat.div_le_self _ _
    have hge : 1 ≤ x.length / n := Nat.div_pos hnm h1
    have hw0 : IntKind.i64.wrap ((1 : Int) - 1) = 0 := by decide
    have hw1 : IntKind.i64.wrap ((1 : Int) + 1) = ((0 + 1 + 1 : Nat) : Int) := by decide
    have z0 : startF x.length n 0 = 0 := by simp [startF]
    have z1 : startF x.length n 1 = ((x.length / n : Nat) : Int) := by simp [startF]
    have hltI : (1 : Int) < ((n + 1 : Nat) : Int) := by omega
    clear hmono
    simp only [stFold]
    repeat' first
      | simp (maxSteps := 1000000) only [go_sem, Int.reduceLT, Int.reduceLE, Int.reduceToNat, Int.reduceEq, Nat.reduceMul, ↓reduceIte, Nat.reduceLT, Nat.reduceLeDiff, Nat.reduceEqDiff, Nat.reduceAdd, Nat.reduceSub, Nat.reduceBEq, reduceCtorEq, *, rangeF_len]
      | contradiction
      | refine wT ?_ ?_ <;> intro _
      | refine wF ?_ ?_ <;> intro _
      | refine cD ?_ ?_ <;> intro _
      | refine dO (by kernel_rfl) ?_
      | refine Fin.q ?_ ?_
      | refine Fin.qn ?_ ?_
    refine AW.loopx (σ := Nat) mix (fun k => ⟨39, [(8, .int .i64 (k : Int)), (7, .int .i64 (segS x 0 k)), (6, .int .i64 1), (5, .zs), (1, V (rangeF (startF x.length n) (n + 1))), (0, V x)], []⟩) (fun k => k ≤ x.length / n) (fun k => x.length / n - k) 0 (Nat.zero_le _) (Conv.mk ?_ ?_ ?_ ?_ ?_) ?_
    iterate 5 (· (simp (maxSteps := 1000000) only [go_sem, Int.reduceLT, Int.reduceLE, Int.reduceToNat, Int.reduceEq, Nat.reduceMul, ↓reduceIte, Nat.reduceLT, Nat.reduceLeDiff, Nat.reduceEqDiff, Nat.reduceAdd, Nat.reduceSub, Nat.reduceBEq, reduceCtorEq, segS]) <;> (first | rfl | (simp [ints]; done) | (simp [*]; done) | ((repeat' (first | rfl | apply And.intro)); done)))
    intro k hk
    by_cases h : k < x.length / n
    · have hx := ints_get (l := x) (i := k) (by omega)
      have hw := wrap1 (i := k) (by omega)
      have hb2 : k < x.length := by omega
      repeat' first
        | simp (maxSteps := 1000000) only [go_sem, Int.reduceLT, Int.reduceLE, Int.reduceToNat, Int.reduceEq, Nat.reduceMul, ↓reduceIte, Nat.reduceLT, Nat.reduceLeDiff, Nat.reduceEqDiff, Nat.reduceAdd, Nat.reduceSub, Nat.reduceBEq, reduceCtorEq, *, rangeF_len, segS]
        | contradiction
        | refine wT ?_ ?_ <;> intro _
        | refine wF ?_ ?_ <;> intro _
        | refine cD ?_ ?_ <;> intro _
        | refine dO (by kernel_rfl) ?_
        | (refine ⟨k + 1, ?_, ?_, Conv.mk ?_ ?_ ?_ ?_ ?_⟩; (· (first | omega | (simp only; omega) | (simp only [List.length_nil, List.length_cons]; omega))); (· (omega)))
        | refine Fin.q ?_ ?_
        | refine Fin.qn ?_ ?_
    · have hkk : k = x.length / n := by omega
      have hv : segS x 0 (x.length / n) = foldV x x.length n 0 := by simp [foldV]
      subst hkk
      repeat' first
        | simp (maxSteps := 1000000) only [go_sem, Int.reduceLT, Int.reduceLE, Int.reduceToNat, Int.reduceEq, Nat.reduceMul, ↓reduceIte, Nat.reduceLT, Nat.reduceLeDiff, Nat.reduceEqDiff, Nat.reduceAdd, Nat.reduceSub, Nat.reduceBEq, reduceCtorEq, *, stFold, Nat.zero_add, rangeF_one, rangeF_len, List.length_singleton, List.isEmpty_cons, List.length_cons, List.length_nil, Nat.lt_irrefl]
        | contradiction
        | refine wT ?_ ?_ <;> intro _
        | refine wF ?_ ?_ <;> intro _
        | refine cD ?_ ?_ <;> intro _
        | refine dO (by kernel_rfl) ?_
        | (refine ⟨1, ?_, ?_, Conv.mk ?_ ?_ ?_ ?_ ?_⟩; (· (first | omega | (simp only; omega) | (simp only [List.length_nil, List.length_cons]; omega))); (· (omega)))
        | refine Fin.q ?_ ?_
        | refine Fin.qn ?_ ?_
  · by_cases hin : i + 1 < n
    · have hlt : i + 1 + 1 < n + 1 := by omega
      have hlt2 : i + 1 < n + 1 := by omega
      have hs2 := getF (startF x.length n) (n := n + 1) (i := i + 1 + 1) (by omega)
      have hle := start_le (m := x.length) h1 (i := i + 1 + 1) (by omega)
      have hw0 : IntKind.i64.wrap (((i + 1 + 1 : Nat) : Int) - 1) = ((i + 1 : Nat) : Int) := by rw [wrapS] <;> omega
      have hw1 : IntKind.i64.wrap (((i + 1 + 1 : Nat) : Int) + 1) = ((i + 1 + 1 + 1 : Nat) : Int) := wrap1 (by omega)
      have z0 : startF x.length n (i + 1) = (((i + 1) * x.length / n : Nat) : Int) := rfl
      have z1 : startF x.length n (i + 1 + 1) = (((i + 1 + 1) * x.length / n : Nat) : Int) := rfl
      have hf : segS x ((i + 1) * x.length / n) ((i + 1 + 1) * x.length / n - (i + 1) * x.length / n) = foldV x x.length n (i + 1) := rfl
      generalize (i + 1) * x.length / n = A at *
      generalize (i + 1 + 1) * x.length / n = B at *
      simp only [stFold]
      repeat' first
        | simp (maxSteps := 1000000) only [go_sem, Int.reduceLT, Int.reduceLE, Int.reduceToNat, Int.reduceEq, Nat.reduceMul, ↓reduceIte, Nat.reduceLT, Nat.reduceLeDiff, Nat.reduceEqDiff, Nat.reduceAdd, Nat.reduceSub, Nat.reduceBEq, reduceCtorEq, *, rangeF_len]
        | contradiction
        | refine wT ?_ ?_ <;> intro _
        | refine wF ?_ ?_ <;> intro _
        | refine cD ?_ ?_ <;> intro _
        | refine dO (by kernel_rfl) ?_
        | refine Fin.q ?_ ?_
        | refine Fin.qn ?_ ?_
      refine AW.loopx (σ := Nat) mix (fun k => ⟨39, [(8, .int .i64 ((A + k : Nat) : Int)), (7, .int .i64 (segS x A k)), (6, .int .i64 ((i + 1 + 1 : Nat) : Int)), (5, .rs 1 1 0 (i + 1) (i + 1)), (1, V (rangeF (startF x.length n) (n + 1))), (0, V x)], [none, some (ints (rangeF (foldV x x.length n) (i + 1)))]⟩) (fun k => k ≤ B - A) (fun k => B - A - k) 0 (Nat.zero_le _) (Conv.mk ?_ ?_ ?_ ?_ ?_) ?_
      iterate 5 (· (simp (maxSteps := 1000000) only [go_sem, Int.reduceLT, Int.reduceLE, Int.reduceToNat, Int.reduceEq, Nat.reduceMul, ↓reduceIte, Nat.reduceLT, Nat.reduceLeDiff, Nat.reduceEqDiff, Nat.reduceAdd, Nat.reduceSub, Nat.reduceBEq, reduceCtorEq, segS, Nat.add_zero]) <;> (first | rfl | (simp [ints]; done) | (simp [*]; done) | ((repeat' (first | rfl | apply And.intro)); done)))
      intro k hk
      by_cases h : k < B - A
      · have hx := ints_get (l := x) (i := A + k) (by omega)
        have hw := wrap1 (i := A + k) (by omega)
        have hb : A + k < B := by omega
        have hb2 : A + k < x.length := by omega
        have hk1 : A + k + 1 = A + (k + 1) := by omega
        repeat' first
          | simp (maxSteps := 1000000) only [go_sem, Int.reduceLT, Int.reduceLE, Int.reduceToNat, Int.reduceEq, Nat.reduceMul, ↓reduceIte, Nat.reduceLT, Nat.reduceLeDiff, Nat.reduceEqDiff, Nat.reduceAdd, Nat.reduceSub, Nat.reduceBEq, reduceCtorEq, *, rangeF_len, segS]
          | contradiction
          | refine wT ?_ ?_ <;> intro _
          | refine wF ?_ ?_ <;> intro _
          | refine cD ?_ ?_ <;> intro _
          | refine dO (by kernel_rfl) ?_
          | (refine ⟨k + 1, ?_, ?_, Conv.mk ?_ ?_ ?_ ?_ ?_⟩; (· (first | omega | (simp only; omega) | (simp only [List.length_nil, List.length_cons]; omega))); (· (omega)))
          | refine Fin.q ?_ ?_
          | refine Fin.qn ?_ ?_
      · have hkk : k = B - A := by omega
        subst hkk
        have hb : ¬ (A + (B - A) < B) := by omega
        clear hmono
        repeat' first
          | simp (maxSteps := 1000000) only [go_sem, Int.reduceLT, Int.reduceLE, Int.reduceToNat, Int.reduceEq, Nat.reduceMul, ↓reduceIte, Nat.reduceLT, Nat.reduceLeDiff, Nat.reduceEqDiff, Nat.reduceAdd, Nat.reduceSub, Nat.reduceBEq, reduceCtorEq, *, stFold, snocF, rangeF_len, takeF, no_succ_le, Nat.zero_add, List.isEmpty_cons, List.length_cons, List.length_nil, List.drop_zero, eq_self]
          | contradiction
          | refine wT ?_ ?_ <;> intro _
          | refine wF ?_ ?_ <;> intro _
          | refine cD ?_ ?_ <;> intro _
          | refine dO (by kernel_rfl) ?_
          | (refine ⟨i + 1 + 1, ?_, ?_, Conv.mk ?_ ?_ ?_ ?_ ?_⟩; (· (first | omega | (simp only; omega) | (simp only [List.length_nil, List.length_cons]; omega))); (· (omega)))
          | refine Fin.q ?_ ?_
          | refine Fin.qn ?_ ?_
    · obtain rfl : n = i + 1 := by omega
      simp only [stFold]
      repeat' first
        | simp (maxSteps := 1000000) only [go_sem, Int.reduceLT, Int.reduceLE, Int.reduceToNat, Int.reduceEq, Nat.reduceMul, ↓reduceIte, Nat.reduceLT, Nat.reduceLeDiff, Nat.reduceEqDiff, Nat.reduceAdd, Nat.reduceSub, Nat.reduceBEq, reduceCtorEq, *, rangeF_len, takeF, List.drop_zero, Nat.zero_add, eq_self, no_succ_le, Nat.lt_irrefl]
        | contradiction
        | refine wT ?_ ?_ <;> intro _
        | refine wF ?_ ?_ <;> intro _
        | refine cD ?_ ?_ <;> intro _
        | refine dO (by kernel_rfl) ?_
        | refine Fin.q ?_ ?_
        | refine Fin.qn ?_ ?_
set_option maxRecDepth 20000 in
theorem kcFold {x : List Int} {n : Nat} {H : Heap} {slot : Nat} {K : D → List (Nat × Blk) → List (Nat × Blk) → Prop} (hK : K (V (rangeF (foldV x x.length n) n)) [] []) (h32 : x.length ≤ 32 := by first | assumption | omega) (h1 : 1 ≤ n := by first | assumption | omega) (h8 : n ≤ 8 := by first | assumption | omega) (hnm : n ≤ x.length := by first | assumption | omega) : @callB ⟨callX Tryz.prog⟩ 171 [V x, V (rangeF (startF x.length n) (n + 1))] H slot ⟨K⟩ := by
  have he0 : rdOf H (D.idsL [V x, V (rangeF (startF x.length n) (n + 1))]) = [] := by simp (maxSteps := 1000000) only [go_sem, Int.reduceLT, Int.reduceLE, Int.reduceToNat, Int.reduceEq, Nat.reduceMul, ↓reduceIte, Nat.reduceLT, Nat.reduceLeDiff, Nat.reduceEqDiff, Nat.reduceAdd, Nat.reduceSub, Nat.reduceBEq, reduceCtorEq]
  refine call0 false (cFold x n h32 h1 h8 hnm) ?_ ?_ (fun h => nomatch h) (by rw [he0]; exact hK)
  iterate 2 (· simp (maxSteps := 1000000) only [go_sem, Int.reduceLT, Int.reduceLE, Int.reduceToNat, Int.reduceEq, Nat.reduceMul, ↓reduceIte, Nat.reduceLT, Nat.reduceLeDiff, Nat.reduceEqDiff, Nat.reduceAdd, Nat.reduceSub, Nat.reduceBEq, reduceCtorEq])
set_option maxHeartbeats 2000000 in
set_option maxRecDepth 20000 in
theorem cSums (x : List Int) (n : Nat) (hx : smp x) (h1 : 1 ≤ n) (h8 : n ≤ 8) (hnm : n ≤ x.length) : FC Tryz.prog 127 [V x, .int .i64 n] [] (.tup [V (rangeF (foldV x x.length n) n), .int .i64 0]) [] := by
  refine FC.of_run mix Tryz.func127 rfl rfl (by simp [Tryz.ntmps127]) ?_
  have h2 := hx.1
  have h32 := hx.2.1
  repeat' first
    | simp (maxSteps := 1000000) only [go_sem, Int.reduceLT, Int.reduceLE, Int.reduceToNat, Int.reduceEq, Nat.reduceMul, ↓reduceIte, Nat.reduceLT, Nat.reduceLeDiff, Nat.reduceEqDiff, Nat.reduceAdd, Nat.reduceSub, Nat.reduceBEq, reduceCtorEq, *]
    | contradiction
    | refine wT ?_ ?_ <;> intro _
    | refine wF ?_ ?_ <;> intro _
    | refine cD ?_ ?_ <;> intro _
    | refine dO (by kernel_rfl) ?_
    | refine kcWindow ?_
    | refine kcStarts ?_
    | refine kcFold ?_
    | refine Fin.q ?_ ?_
    | refine Fin.qn ?_ ?_
set_option maxRecDepth 20000 in
theorem kcSums {x : List Int} {n : Nat} {H : Heap} {slot : Nat} {K : D → List (Nat × Blk) → List (Nat × Blk) → Prop} (hK : K (.tup [V (rangeF (foldV x x.length n) n), .int .i64 0]) [] []) (hx : smp x := by first | assumption | omega) (h1 : 1 ≤ n := by first | assumption | omega) (h8 : n ≤ 8 := by first | assumption | omega) (hnm : n ≤ x.length := by first | assumption | omega) : @callB ⟨callX Tryz.prog⟩ 127 [V x, .int .i64 n] H slot ⟨K⟩ := by
  have he0 : rdOf H (D.idsL [V x, .int .i64 n]) = [] := by simp (maxSteps := 1000000) only [go_sem, Int.reduceLT, Int.reduceLE, Int.reduceToNat, Int.reduceEq, Nat.reduceMul, ↓reduceIte, Nat.reduceLT, Nat.reduceLeDiff, Nat.reduceEqDiff, Nat.reduceAdd, Nat.reduceSub, Nat.reduceBEq, reduceCtorEq]
  refine call0 false (cSums x n hx h1 h8 hnm) ?_ ?_ (fun h => nomatch h) (by rw [he0]; exact hK)
  iterate 2 (· simp (maxSteps := 1000000) only [go_sem, Int.reduceLT, Int.reduceLE, Int.reduceToNat, Int.reduceEq, Nat.reduceMul, ↓reduceIte, Nat.reduceLT, Nat.reduceLeDiff, Nat.reduceEqDiff, Nat.reduceAdd, Nat.reduceSub, Nat.reduceBEq, reduceCtorEq])
end TR

/- Centred sums, products, quotients of the reference. -/
open Go Go.Proofs Go.AH
set_option linter.unusedSimpArgs false
set_option linter.unusedVariables false
namespace TR
def cenV (x : List Int) (i : Nat) : Int := IntKind.i64.wrap (IntKind.i64.wrap ((x.length : Int) * x.getD i 0) - segS x 0 x.length)
def stCen (x : List Int) : Nat → St
  | 0 => ⟨45, [(28, .int .i64 0), (27, .int .i64 x.length), (7, .zs), (5, .int .i64 (segS x 0 x.length)), (0, V x)], []⟩
  | i + 1 => ⟨45, [(28, .int .i64 ((i + 1 : Nat) : Int)), (27, .int .i64 x.length), (7, .rs 1 1 0 (i + 1) (i + 1)), (5, .int .i64 (segS x 0 x.length)), (0, V x)], [none, some (ints (rangeF (cenV x) (i + 1)))]⟩
set_option maxHeartbeats 2000000 in
set_option maxRecDepth 20000 in
theorem cCen (x : List Int) (hx : smp x) : FC Tryz.prog 172 [V x] [] (.tup [V (rangeF (cenV x) x.length), .int .i64 0]) [] := by
  refine FC.of_run mix Tryz.func172 rfl rfl (by simp [Tryz.ntmps172]) ?_
  have h2 := hx.1
  have h32 := hx.2.1
  repeat' first
    | simp (maxSteps := 1000000) only [go_sem, Int.reduceLT, Int.reduceLE, Int.reduceToNat, Int.reduceEq, Nat.reduceMul, ↓reduceIte, Nat.reduceLT, Nat.reduceLeDiff, Nat.reduceEqDiff, Nat.reduceAdd, Nat.reduceSub, Nat.reduceBEq, reduceCtorEq, *]
    | contradiction
    | refine wT ?_ ?_ <;> intro _
    | refine wF ?_ ?_ <;> intro _
    | refine cD ?_ ?_ <;> intro _
    | refine dO (by kernel_rfl) ?_
    | refine kcWindow ?_
    | refine Fin.q ?_ ?_
    | refine Fin.qn ?_ ?_
  refine AW.loopx (σ := Nat) mix (fun i => ⟨45, [(16, .int .i64 i), (15, .int .i64 x.length), (5, .int .i64 (segS x 0 i)), (0, V x)], []⟩) (fun i => i ≤ x.length) (fun i => x.length - i) 0 (by omega) (Conv.mk ?_ ?_ ?_ ?_ ?_) ?_
  iterate 5 (· (simp (maxSteps := 1000000) only [go_sem, Int.reduceLT, Int.reduceLE, Int.reduceToNat, Int.reduceEq, Nat.reduceMul, ↓reduceIte, Nat.reduceLT, Nat.reduceLeDiff, Nat.reduceEqDiff, Nat.reduceAdd, Nat.reduceSub, Nat.reduceBEq, reduceCtorEq, segS]) <;> (first | rfl | (simp [ints]; done) | (simp [*]; done) | ((repeat' (first | rfl | apply And.intro)); done)))
  clear hx
  intro i hi
  have hw := wrap1 (i := i) (by omega)
  by_cases h : i < x.length
  · have hx := ints_get h
    have z : 0 + i = i := by omega
    repeat' first
      | simp (maxSteps := 1000000) only [go_sem, Int.reduceLT, Int.reduceLE, Int.reduceToNat, Int.reduceEq, Nat.reduceMul, ↓reduceIte, Nat.reduceLT, Nat.reduceLeDiff, Nat.reduceEqDiff, Nat.reduceAdd, Nat.reduceSub, Nat.reduceBEq, reduceCtorEq, *, segS]
      | contradiction
      | refine wT ?_ ?_ <;> intro _
      | refine wF ?_ ?_ <;> intro _
      | refine cD ?_ ?_ <;> intro _
      | refine dO (by kernel_rfl) ?_
      | (refine ⟨i + 1, ?_, ?_, Conv.mk ?_ ?_ ?_ ?_ ?_⟩; (· (first | omega | (simp only; omega) | (simp only [List.length_nil, List.length_cons]; omega))); (· (omega)))
      | refine Fin.q ?_ ?_
      | refine Fin.qn ?_ ?_
  · obtain rfl : i = x.length := by omega
    clear hw h
    repeat' first
      | simp (maxSteps := 1000000) only [go_sem, Int.reduceLT, Int.reduceLE, Int.reduceToNat, Int.reduceEq, Nat.reduceMul, ↓reduceIte, Nat.reduceLT, Nat.reduceLeDiff, Nat.reduceEqDiff, Nat.reduceAdd, Nat.reduceSub, Nat.reduceBEq, reduceCtorEq, *]
      | contradiction
      | refine wT ?_ ?_ <;> intro _
      | refine wF ?_ ?_ <;> intro _
      | refine cD ?_ ?_ <;> intro _
      | refine dO (by kernel_rfl) ?_
      | refine Fin.q ?_ ?_
      | refine Fin.qn ?_ ?_
    refine AW.loopx (σ := Nat) mix (stCen x) (fun i => i ≤ x.length) (fun i => x.length - i) 0 (by omega) (Conv.mk ?_ ?_ ?_ ?_ ?_) ?_
    iterate 5 (· simp (maxSteps := 1000000) only [go_sem, Int.reduceLT, Int.reduceLE, Int.reduceToNat, Int.reduceEq, Nat.reduceMul, ↓reduceIte, Nat.reduceLT, Nat.reduceLeDiff, Nat.reduceEqDiff, Nat.reduceAdd, Nat.reduceSub, Nat.reduceBEq, reduceCtorEq, stCen])
    intro i hi
    have hC : i + 1 ≤ capMax := by unfold capMax; omega
    have hC2 : i + 1 + 1 ≤ capMax := by unfold capMax; omega
    rcases i with _ | i
    · have hx := ints_get (l := x) (i := 0) (by omega)
      have hp : 0 < x.length := by omega
      have hpI : (0 : Int) < x.length := by omega
      have hw : IntKind.i64.wrap ((0 : Int) + 1) = ((1 : Nat) : Int) := by decide
      have hv : IntKind.i64.wrap (IntKind.i64.wrap ((x.length : Int) * x.getD 0 0) - segS x 0 x.length) = cenV x 0 := rfl
      simp only [stCen]
      repeat' first
        | simp (maxSteps := 1000000) only [go_sem, Int.reduceLT, Int.reduceLE, Int.reduceToNat, Int.reduceEq, Nat.reduceMul, ↓reduceIte, Nat.reduceLT, Nat.reduceLeDiff, Nat.reduceEqDiff, Nat.reduceAdd, Nat.reduceSub, Nat.reduceBEq, reduceCtorEq, *, stCen, Nat.zero_add, rangeF_one, List.length_singleton, List.isEmpty_cons, List.length_cons, List.length_nil]
        | contradiction
        | refine wT ?_ ?_ <;> intro _
        | refine wF ?_ ?_ <;> intro _
        | refine cD ?_ ?_ <;> intro _
        | refine dO (by kernel_rfl) ?_
        | (refine ⟨1, ?_, ?_, Conv.mk ?_ ?_ ?_ ?_ ?_⟩; (· (first | omega | (simp only; omega) | (simp only [List.length_nil, List.length_cons]; omega))); (· (omega)))
        | refine Fin.q ?_ ?_
        | refine Fin.qn ?_ ?_
    · by_cases h : i + 1 < x.length
      · have hx := ints_get h
        have hw : IntKind.i64.wrap (((i + 1 : Nat) : Int) + 1) = ((i + 1 + 1 : Nat) : Int) := wrap1 (by omega)
        have hv : IntKind.i64.wrap (IntKind.i64.wrap ((x.length : Int) * x.getD (i + 1) 0) - segS x 0 x.length) = cenV x (i + 1) := rfl
        simp only [stCen]
        repeat' first
          | simp (maxSteps := 1000000) only [go_sem, Int.reduceLT, Int.reduceLE, Int.reduceToNat, Int.reduceEq, Nat.reduceMul, ↓reduceIte, Nat.reduceLT, Nat.reduceLeDiff, Nat.reduceEqDiff, Nat.reduceAdd, Nat.reduceSub, Nat.reduceBEq, reduceCtorEq, *, stCen, snocF, rangeF_len, takeF, no_succ_le, Nat.zero_add, List.isEmpty_cons, List.length_cons, List.length_nil, List.drop_zero, eq_self]
          | contradiction
          | refine wT ?_ ?_ <;> intro _
          | refine wF ?_ ?_ <;> intro _
          | refine cD ?_ ?_ <;> intro _
          | refine dO (by kernel_rfl) ?_
          | (refine ⟨i + 1 + 1, ?_, ?_, Conv.mk ?_ ?_ ?_ ?_ ?_⟩; (· (first | omega | (simp only; omega) | (simp only [List.length_nil, List.length_cons]; omega))); (· (omega)))
          | refine Fin.q ?_ ?_
          | refine Fin.qn ?_ ?_
      · have e : x.length = i + 1 := by omega
        rw [show V (rangeF (cenV x) x.length) = V (rangeF (cenV x) (i + 1)) by rw [e]]
        simp only [stCen]
        repeat' first
          | simp (maxSteps := 1000000) only [go_sem, Int.reduceLT, Int.reduceLE, Int.reduceToNat, Int.reduceEq, Nat.reduceMul, ↓reduceIte, Nat.reduceLT, Nat.reduceLeDiff, Nat.reduceEqDiff, Nat.reduceAdd, Nat.reduceSub, Nat.reduceBEq, reduceCtorEq, *, rangeF_len, takeF, List.drop_zero, Nat.zero_add, eq_self, no_succ_le, Nat.lt_irrefl]
          | contradiction
          | refine wT ?_ ?_ <;> intro _
          | refine wF ?_ ?_ <;> intro _
          | refine cD ?_ ?_ <;> intro _
          | refine dO (by kernel_rfl) ?_
          | refine Fin.q ?_ ?_
          | refine Fin.qn ?_ ?_
set_option maxRecDepth 20000 in
theorem kcCen {x : List Int} {H : Heap} {slot : Nat} {K : D → List (Nat × Blk) → List (Nat × Blk) → Prop} (hK : K (.tup [V (rangeF (cenV x) x.length), .int .i64 0]) [] []) (hx : smp x := by first | assumption | omega) : @callB ⟨callX Tryz.prog⟩ 172 [V x] H slot ⟨K⟩ := by
  have he0 : rdOf H (D.idsL [V x]) = [] := by simp (maxSteps := 1000000) only [go_sem, Int.reduceLT, Int.reduceLE, Int.reduceToNat, Int.reduceEq, Nat.reduceMul, ↓reduceIte, Nat.reduceLT, Nat.reduceLeDiff, Nat.reduceEqDiff, Nat.reduceAdd, Nat.reduceSub, Nat.reduceBEq, reduceCtorEq]
  refine call0 false (cCen x hx) ?_ ?_ (fun h => nomatch h) (by rw [he0]; exact hK)
  iterate 2 (· simp (maxSteps := 1000000) only [go_sem, Int.reduceLT, Int.reduceLE, Int.reduceToNat, Int.reduceEq, Nat.reduceMul, ↓reduceIte, Nat.reduceLT, Nat.reduceLeDiff, Nat.reduceEqDiff, Nat.reduceAdd, Nat.reduceSub, Nat.reduceBEq, reduceCtorEq])
set_option maxHeartbeats 2000000 in
set_option maxRecDepth 20000 in
theorem cCenS (x : List Int) (n : Nat) (hx : smp x) (h1 : 1 ≤ n) (h8 : n ≤ 8) (hnm : n ≤ x.length) : FC Tryz.prog 128 [V x, .int .i64 n] [] (.tup [V (rangeF (foldV (rangeF (cenV x) x.length) x.length n) n), .int .i64 0]) [] := by
  refine FC.of_run mix Tryz.func128 rfl rfl (by simp [Tryz.ntmps128]) ?_
  have h2 := hx.1
  have h32 := hx.2.1
  have hf := cFold (rangeF (cenV x) x.length) n (by rw [rangeF_len]; exact h32) h1 h8 (by rw [rangeF_len]; exact hnm)
  rw [rangeF_len] at hf
  have kf : ∀ {H : Heap} {slot : Nat} {K : D → List (Nat × Blk) → List (Nat × Blk) → Prop}, K (V (rangeF (foldV (rangeF (cenV x) x.length) x.length n) n)) [] [] → @callB ⟨callX Tryz.prog⟩ 171 [V (rangeF (cenV x) x.length), V (rangeF (startF x.length n) (n + 1))] H slot ⟨K⟩ := fun hK => call0 false hf rfl rfl (fun h => nomatch h) hK
  clear hf
  repeat' first
    | simp (maxSteps := 1000000) only [go_sem, Int.reduceLT, Int.reduceLE, Int.reduceToNat, Int.reduceEq, Nat.reduceMul, ↓reduceIte, Nat.reduceLT, Nat.reduceLeDiff, Nat.reduceEqDiff, Nat.reduceAdd, Nat.reduceSub, Nat.reduceBEq, reduceCtorEq, *]
    | contradiction
    | refine wT ?_ ?_ <;> intro _
    | refine wF ?_ ?_ <;> intro _
    | refine cD ?_ ?_ <;> intro _
    | refine dO (by kernel_rfl) ?_
    | refine kcCen ?_
    | refine kcStarts ?_
    | refine kf ?_
    | refine Fin.q ?_ ?_
    | refine Fin.qn ?_ ?_
set_option maxRecDepth 20000 in
theorem kcCenS {x : List Int} {n : Nat} {H : Heap} {slot : Nat} {K : D → List (Nat × Blk) → List (Nat × Blk) → Prop} (hK : K (.tup [V (rangeF (foldV (rangeF (cenV x) x.length) x.length n) n), .int .i64 0]) [] []) (hx : smp x := by first | assumption | omega) (h1 : 1 ≤ n := by first | assumption | omega) (h8 : n ≤ 8 := by first | assumption | omega) (hnm : n ≤ x.length := by first | assumption | omega) : @callB ⟨callX Tryz.prog⟩ 128 [V x, .int .i64 n] H slot ⟨K⟩ := by
  have he0 : rdOf H (D.idsL [V x, .int .i64 n]) = [] := by simp (maxSteps := 1000000) only [go_sem, Int.reduceLT, Int.reduceLE, Int.reduceToNat, Int.reduceEq, Nat.reduceMul, ↓reduceIte, Nat.reduceLT, Nat.reduceLeDiff, Nat.reduceEqDiff, Nat.reduceAdd, Nat.reduceSub, Nat.reduceBEq, reduceCtorEq]
  refine call0 false (cCenS x n hx h1 h8 hnm) ?_ ?_ (fun h => nomatch h) (by rw [he0]; exact hK)
  iterate 2 (· simp (maxSteps := 1000000) only [go_sem, Int.reduceLT, Int.reduceLE, Int.reduceToNat, Int.reduceEq, Nat.reduceMul, ↓reduceIte, Nat.reduceLT, Nat.reduceLeDiff, Nat.reduceEqDiff, Nat.reduceAdd, Nat.reduceSub, Nat.reduceBEq, reduceCtorEq])
def prS (x : List Int) : Nat → Int × Int × Int
  | 0 => (0, 0, 0)
  | i + 1 => (IntKind.i64.wrap ((prS x i).1 + IntKind.i64.wrap (x.getD i 0 * x.getD i 0)), IntKind.i64.wrap ((prS x i).2.1 + x.getD i 0), IntKind.i64.wrap ((prS x i).2.2 + x.getD i 0))
def prV (x : List Int) : Int := IntKind.i64.wrap (IntKind.i64.wrap ((x.length : Int) * (prS x x.length).1) - IntKind.i64.wrap ((prS x x.length).2.1 * (prS x x.length).2.2))
set_option maxHeartbeats 2000000 in
set_option maxRecDepth 20000 in
theorem cproduct (x : List Int) (hx : smp x) : FC Tryz.prog 174 [V x, V x] [] (.int .i64 (prV x)) [] := by
  refine FC.of_run mix Tryz.func174 rfl rfl (by simp [Tryz.ntmps174]) ?_
  have h32 := hx.2.1
  clear hx
  repeat' first
    | simp (maxSteps := 1000000) only [go_sem, Int.reduceLT, Int.reduceLE, Int.reduceToNat, Int.reduceEq, Nat.reduceMul, ↓reduceIte, Nat.reduceLT, Nat.reduceLeDiff, Nat.reduceEqDiff, Nat.reduceAdd, Nat.reduceSub, Nat.reduceBEq, reduceCtorEq, *]
    | contradiction
    | refine wT ?_ ?_ <;> intro _
    | refine wF ?_ ?_ <;> intro _
    | refine cD ?_ ?_ <;> intro _
    | refine dO (by kernel_rfl) ?_
    | refine Fin.q ?_ ?_
    | refine Fin.qn ?_ ?_
  refine AW.loopx (σ := Nat) mix (fun i => ⟨46, [(11, .int .i64 i), (10, .int .i64 x.length), (7, .int .i64 (prS x i).2.2), (6, .int .i64 (prS x i).2.1), (5, .int .i64 (prS x i).1), (1, V x), (0, V x)], []⟩) (fun i => i ≤ x.length) (fun i => x.length - i) 0 (by omega) (Conv.mk ?_ ?_ ?_ ?_ ?_) ?_
  iterate 5 (· (simp (maxSteps := 1000000) only [go_sem, Int.reduceLT, Int.reduceLE, Int.reduceToNat, Int.reduceEq, Nat.reduceMul, ↓reduceIte, Nat.reduceLT, Nat.reduceLeDiff, Nat.reduceEqDiff, Nat.reduceAdd, Nat.reduceSub, Nat.reduceBEq, reduceCtorEq, prS]) <;> (first | rfl | (simp [ints]; done) | (simp [*]; done) | ((repeat' (first | rfl | apply And.intro)); done)))
  intro i hi
  have hw := wrap1 (i := i) (by omega)
  by_cases h : i < x.length
  · have hx := ints_get h
    repeat' first
      | simp (maxSteps := 1000000) only [go_sem, Int.reduceLT, Int.reduceLE, Int.reduceToNat, Int.reduceEq, Nat.reduceMul, ↓reduceIte, Nat.reduceLT, Nat.reduceLeDiff, Nat.reduceEqDiff, Nat.reduceAdd, Nat.reduceSub, Nat.reduceBEq, reduceCtorEq, *, prS]
      | contradiction
      | refine wT ?_ ?_ <;> intro _
      | refine wF ?_ ?_ <;> intro _
      | refine cD ?_ ?_ <;> intro _
      | refine dO (by kernel_rfl) ?_
      | (refine ⟨i + 1, ?_, ?_, Conv.mk ?_ ?_ ?_ ?_ ?_⟩; (· (first | omega | (simp only; omega) | (simp only [List.length_nil, List.length_cons]; omega))); (· (omega)))
      | refine Fin.q ?_ ?_
      | refine Fin.qn ?_ ?_
  · obtain rfl : i = x.length := by omega
    repeat' first
      | simp (maxSteps := 1000000) only [go_sem, Int.reduceLT, Int.reduceLE, Int.reduceToNat, Int.reduceEq, Nat.reduceMul, ↓reduceIte, Nat.reduceLT, Nat.reduceLeDiff, Nat.reduceEqDiff, Nat.reduceAdd, Nat.reduceSub, Nat.reduceBEq, reduceCtorEq, *]
      | contradiction
      | refine wT ?_ ?_ <;> intro _
      | refine wF ?_ ?_ <;> intro _
      | refine cD ?_ ?_ <;> intro _
      | refine dO (by kernel_rfl) ?_
      | ((first | refine Fin.q ?_ ?_ | refine Fin.qn ?_ ?_) <;> ((try simp (maxSteps := 1000000) only [go_sem, Int.reduceLT, Int.reduceLE, Int.reduceToNat, Int.reduceEq, Nat.reduceMul, ↓reduceIte, Nat.reduceLT, Nat.reduceLeDiff, Nat.reduceEqDiff, Nat.reduceAdd, Nat.reduceSub, Nat.reduceBEq, reduceCtorEq, *]) <;> (first | done | rfl)))
set_option maxRecDepth 20000 in
theorem kcproduct {x : List Int} {H : Heap} {slot : Nat} {K : D → List (Nat × Blk) → List (Nat × Blk) → Prop} (hK : K (.int .i64 (prV x)) [] []) (hx : smp x := by first | assumption | omega) : @callB ⟨callX Tryz.prog⟩ 174 [V x, V x] H slot ⟨K⟩ := by
  have he0 : rdOf H (D.idsL [V x, V x]) = [] := by simp (maxSteps := 1000000) only [go_sem, Int.reduceLT, Int.reduceLE, Int.reduceToNat, Int.reduceEq, Nat.reduceMul, ↓reduceIte, Nat.reduceLT, Nat.reduceLeDiff, Nat.reduceEqDiff, Nat.reduceAdd, Nat.reduceSub, Nat.reduceBEq, reduceCtorEq]
  refine call0 false (cproduct x hx) ?_ ?_ (fun h => nomatch h) (by rw [he0]; exact hK)
  iterate 2 (· simp (maxSteps := 1000000) only [go_sem, Int.reduceLT, Int.reduceLE, Int.reduceToNat, Int.reduceEq, Nat.reduceMul, ↓reduceIte, Nat.reduceLT, Nat.reduceLeDiff, Nat.reduceEqDiff, Nat.reduceAdd, Nat.reduceSub, Nat.reduceBEq, reduceCtorEq])
set_option maxHeartbeats 2000000 in
set_option maxRecDepth 20000 in
theorem cTwo (x : List Int) (hx : smp x) : FC Tryz.prog 173 [V x, V x, .int .i64 0] [] (.int .i64 0) [] := by
  refine FC.of_run mix Tryz.func173 rfl rfl (by simp [Tryz.ntmps173]) ?_
  have h1 := hx.1
  have h2 := hx.2.1
  have h3 : ¬ ((x.length : Int) < 2) := by omega
  have h4 : ¬ ((32 : Int) < x.length) := by omega
  have h5 : IntKind.i64.wrap ((x.length : Int) - (x.length : Int)) = 0 := by rw [Int.sub_self]; rfl
  repeat' first
    | simp (maxSteps := 1000000) only [go_sem, Int.reduceLT, Int.reduceLE, Int.reduceToNat, Int.reduceEq, Nat.reduceMul, ↓reduceIte, Nat.reduceLT, Nat.reduceLeDiff, Nat.reduceEqDiff, Nat.reduceAdd, Nat.reduceSub, Nat.reduceBEq, reduceCtorEq, *]
    | contradiction
    | refine wT ?_ ?_ <;> intro _
    | refine wF ?_ ?_ <;> intro _
    | refine cD ?_ ?_ <;> intro _
    | refine dO (by kernel_rfl) ?_
    | refine kcSamples ?_
    | refine Fin.q ?_ ?_
    | refine Fin.qn ?_ ?_
set_option maxRecDepth 20000 in
theorem kcTwo {x : List Int} {H : Heap} {slot : Nat} {K : D → List (Nat × Blk) → List (Nat × Blk) → Prop} (hK : K (.int .i64 0) [] []) (hx : smp x := by first | assumption | omega) : @callB ⟨callX Tryz.prog⟩ 173 [V x, V x, .int .i64 0] H slot ⟨K⟩ := by
  have he0 : rdOf H (D.idsL [V x, V x, .int .i64 0]) = [] := by simp (maxSteps := 1000000) only [go_sem, Int.reduceLT, Int.reduceLE, Int.reduceToNat, Int.reduceEq, Nat.reduceMul, ↓reduceIte, Nat.reduceLT, Nat.reduceLeDiff, Nat.reduceEqDiff, Nat.reduceAdd, Nat.reduceSub, Nat.reduceBEq, reduceCtorEq]
  refine call0 false (cTwo x hx) ?_ ?_ (fun h => nomatch h) (by rw [he0]; exact hK)
  iterate 2 (· simp (maxSteps := 1000000) only [go_sem, Int.reduceLT, Int.reduceLE, Int.reduceToNat, Int.reduceEq, Nat.reduceMul, ↓reduceIte, Nat.reduceLT, Nat.reduceLeDiff, Nat.reduceEqDiff, Nat.reduceAdd, Nat.reduceSub, Nat.reduceBEq, reduceCtorEq])
set_option maxHeartbeats 2000000 in
set_option maxRecDepth 20000 in
theorem cProduct (x : List Int) (hx : smp x) : FC Tryz.prog 129 [V x, V x] [] (.tup [.int .i64 (prV x), .int .i64 0]) [] := by
  refine FC.of_run mix Tryz.func129 rfl rfl (by simp [Tryz.ntmps129]) ?_
  repeat' first
    | simp (maxSteps := 1000000) only [go_sem, Int.reduceLT, Int.reduceLE, Int.reduceToNat, Int.reduceEq, Nat.reduceMul, ↓reduceIte, Nat.reduceLT, Nat.reduceLeDiff, Nat.reduceEqDiff, Nat.reduceAdd, Nat.reduceSub, Nat.reduceBEq, reduceCtorEq, *]
    | contradiction
    | refine wT ?_ ?_ <;> intro _
    | refine wF ?_ ?_ <;> intro _
    | refine cD ?_ ?_ <;> intro _
    | refine dO (by kernel_rfl) ?_
    | refine kcTwo ?_
    | refine kcproduct ?_
    | refine Fin.q ?_ ?_
    | refine Fin.qn ?_ ?_
set_option maxRecDepth 20000 in
theorem kcProduct {x : List Int} {H : Heap} {slot : Nat} {K : D → List (Nat × Blk) → List (Nat × Blk) → Prop} (hK : K (.tup [.int .i64 (prV x), .int .i64 0]) [] []) (hx : smp x := by first | assumption | omega) : @callB ⟨callX Tryz.prog⟩ 129 [V x, V x] H slot ⟨K⟩ := by
  have he0 : rdOf H (D.idsL [V x, V x]) = [] := by simp (maxSteps := 1000000) only [go_sem, Int.reduceLT, Int.reduceLE, Int.reduceToNat, Int.reduceEq, Nat.reduceMul, ↓reduceIte, Nat.reduceLT, Nat.reduceLeDiff, Nat.reduceEqDiff, Nat.reduceAdd, Nat.reduceSub, Nat.reduceBEq, reduceCtorEq]
  refine call0 false (cProduct x hx) ?_ ?_ (fun h => nomatch h) (by rw [he0]; exact hK)
  iterate 2 (· simp (maxSteps := 1000000) only [go_sem, Int.reduceLT, Int.reduceLE, Int.reduceToNat, Int.reduceEq, Nat.reduceMul, ↓reduceIte, Nat.reduceLT, Nat.reduceLeDiff, Nat.reduceEqDiff, Nat.reduceAdd, Nat.reduceSub, Nat.reduceBEq, reduceCtorEq])
def downV (a b : Int) : Int := if a.tmod b < 0 then IntKind.i64.wrap (IntKind.i64.wrap (a.tdiv b) - 1) else IntKind.i64.wrap (a.tdiv b)
set_option maxHeartbeats 2000000 in
set_option maxRecDepth 20000 in
theorem cDown (a b : Int) (hb : ¬ b = 0) : FC Tryz.prog 130 [.int .i64 a, .int .i64 b] [] (.int .i64 (downV a b)) [] := by
  refine FC.of_run mix Tryz.func130 rfl rfl (by simp [Tryz.ntmps130]) ?_
  repeat' first
    | simp (maxSteps := 1000000) only [go_sem, Int.reduceLT, Int.reduceLE, Int.reduceToNat, Int.reduceEq, Nat.reduceMul, ↓reduceIte, Nat.reduceLT, Nat.reduceLeDiff, Nat.reduceEqDiff, Nat.reduceAdd, Nat.reduceSub, Nat.reduceBEq, reduceCtorEq, *, downV, if_true, if_false]
    | contradiction
    | refine wT ?_ ?_ <;> intro _
    | refine wF ?_ ?_ <;> intro _
    | refine cD ?_ ?_ <;> intro _
    | refine dO (by kernel_rfl) ?_
    | refine Fin.q ?_ ?_
    | refine Fin.qn ?_ ?_
set_option maxRecDepth 20000 in
theorem kcDown {a b : Int} {H : Heap} {slot : Nat} {K : D → List (Nat × Blk) → List (Nat × Blk) → Prop} (hK : K (.int .i64 (downV a b)) [] []) (hb : ¬ b = 0 := by first | assumption | omega) : @callB ⟨callX Tryz.prog⟩ 130 [.int .i64 a, .int .i64 b] H slot ⟨K⟩ := by
  have he0 : rdOf H (D.idsL [.int .i64 a, .int .i64 b]) = [] := by simp (maxSteps := 1000000) only [go_sem, Int.reduceLT, Int.reduceLE, Int.reduceToNat, Int.reduceEq, Nat.reduceMul, ↓reduceIte, Nat.reduceLT, Nat.reduceLeDiff, Nat.reduceEqDiff, Nat.reduceAdd, Nat.reduceSub, Nat.reduceBEq, reduceCtorEq]
  refine call0 false (cDown a b hb) ?_ ?_ (fun h => nomatch h) (by rw [he0]; exact hK)
  iterate 2 (· simp (maxSteps := 1000000) only [go_sem, Int.reduceLT, Int.reduceLE, Int.reduceToNat, Int.reduceEq, Nat.reduceMul, ↓reduceIte, Nat.reduceLT, Nat.reduceLeDiff, Nat.reduceEqDiff, Nat.reduceAdd, Nat.reduceSub, Nat.reduceBEq, reduceCtorEq])
def bitF (k : Nat) : Int := if k < 32 then 2 ^ (31 - k) else 0
def floorR (n : Int) : Nat → Int
  | 0 => 0
  | k + 1 => if IntKind.i64.wrap (floorR n k + bitF k) ≤ 2147483648 ∧ IntKind.i64.wrap (IntKind.i64.wrap (floorR n k + bitF k) * IntKind.i64.wrap (floorR n k + bitF k)) ≤ n then IntKind.i64.wrap (floorR n k + bitF k) else floorR n k
def floorV (n : Int) : Int := if n < 0 ∨ 4611686018427387904 < n then 0 else floorR n 32
theorem bitF_pos : ∀ k, k < 32 → 0 < bitF k := fun k h => by
  unfold bitF; rw [if_pos h]; exact Int.pow_pos (by decide)
theorem bitF_half : ∀ k, k < 32 → Int.fdiv (bitF k) (2 ^ (min 1 64)) = bitF (k + 1) := by decide
set_option maxHeartbeats 2000000 in
set_option maxRecDepth 20000 in
theorem cFloor (n : Int)  : FC Tryz.prog 175 [.int .i64 n] [] (.int .i64 (floorV n)) [] := by
  refine FC.of_run mix Tryz.func175 rfl rfl (by simp [Tryz.ntmps175]) ?_
  by_cases h1 : n < 0
  · rw [show floorV n = 0 from if_pos (.inl h1)]
    repeat' first
      | simp (maxSteps := 1000000) only [go_sem, Int.reduceLT, Int.reduceLE, Int.reduceToNat, Int.reduceEq, Nat.reduceMul, ↓reduceIte, Nat.reduceLT, Nat.reduceLeDiff, Nat.reduceEqDiff, Nat.reduceAdd, Nat.reduceSub, Nat.reduceBEq, reduceCtorEq, *]
      | contradiction
      | refine wT ?_ ?_ <;> intro _
      | refine wF ?_ ?_ <;> intro _
      | refine cD ?_ ?_ <;> intro _
      | refine dO (by kernel_rfl) ?_
      | refine Fin.q ?_ ?_
      | refine Fin.qn ?_ ?_
  · by_cases h2 : 4611686018427387904 < n
    · rw [show floorV n = 0 from if_pos (.inr h2)]
      repeat' first
        | simp (maxSteps := 1000000) only [go_sem, Int.reduceLT, Int.reduceLE, Int.reduceToNat, Int.reduceEq, Nat.reduceMul, ↓reduceIte, Nat.reduceLT, Nat.reduceLeDiff, Nat.reduceEqDiff, Nat.reduceAdd, Nat.reduceSub, Nat.reduceBEq, reduceCtorEq, *]
        | contradiction
        | refine wT ?_ ?_ <;> intro _
        | refine wF ?_ ?_ <;> intro _
        | refine cD ?_ ?_ <;> intro _
        | refine dO (by kernel_rfl) ?_
        | refine Fin.q ?_ ?_
        | refine Fin.qn ?_ ?_
    · rw [show floorV n = floorR n 32 from if_neg (by omega)]
      repeat' first
        | simp (maxSteps := 1000000) only [go_sem, Int.reduceLT, Int.reduceLE, Int.reduceToNat, Int.reduceEq, Nat.reduceMul, ↓reduceIte, Nat.reduceLT, Nat.reduceLeDiff, Nat.reduceEqDiff, Nat.reduceAdd, Nat.reduceSub, Nat.reduceBEq, reduceCtorEq, *]
        | contradiction
        | refine wT ?_ ?_ <;> intro _
        | refine wF ?_ ?_ <;> intro _
        | refine cD ?_ ?_ <;> intro _
        | refine dO (by kernel_rfl) ?_
        | refine Fin.q ?_ ?_
        | refine Fin.qn ?_ ?_
      refine AW.loopx (σ := Nat) mix (fun k => ⟨34, [(4, .int .i64 (bitF k)), (3, .int .i64 (floorR n k)), (0, .int .i64 n)], []⟩) (fun k => k ≤ 32) (fun k => 32 - k) 0 (by omega) (Conv.mk ?_ ?_ ?_ ?_ ?_) ?_
      iterate 5 (· (simp (maxSteps := 1000000) only [go_sem, Int.reduceLT, Int.reduceLE, Int.reduceToNat, Int.reduceEq, Nat.reduceMul, ↓reduceIte, Nat.reduceLT, Nat.reduceLeDiff, Nat.reduceEqDiff, Nat.reduceAdd, Nat.reduceSub, Nat.reduceBEq, reduceCtorEq, floorR]) <;> (first | rfl | (simp [ints]; done) | (simp [*]; done) | ((repeat' (first | rfl | apply And.intro)); done)))
      clear h1 h2
      intro k hk
      by_cases h : k < 32
      · have hp : (0 < bitF k) = True := by simp only [eq_iff_iff, iff_true]; exact bitF_pos k h
        have hh := bitF_half k h
        repeat' first
          | simp (maxSteps := 1000000) only [go_sem, Int.reduceLT, Int.reduceLE, Int.reduceToNat, Int.reduceEq, Nat.reduceMul, ↓reduceIte, Nat.reduceLT, Nat.reduceLeDiff, Nat.reduceEqDiff, Nat.reduceAdd, Nat.reduceSub, Nat.reduceBEq, reduceCtorEq, *, floorR, true_and, if_true, if_false]
          | contradiction
          | refine wT ?_ ?_ <;> intro _
          | refine wF ?_ ?_ <;> intro _
          | refine cD ?_ ?_ <;> intro _
          | refine dO (by kernel_rfl) ?_
          | (refine ⟨k + 1, ?_, ?_, Conv.mk ?_ ?_ ?_ ?_ ?_⟩; (· (first | omega | (simp only; omega) | (simp only [List.length_nil, List.length_cons]; omega))); (· (omega)))
          | refine Fin.q ?_ ?_
          | refine Fin.qn ?_ ?_
      · obtain rfl : k = 32 := by omega
        have hp : (0 < bitF 32) = False := by decide
        repeat' first
          | simp (maxSteps := 1000000) only [go_sem, Int.reduceLT, Int.reduceLE, Int.reduceToNat, Int.reduceEq, Nat.reduceMul, ↓reduceIte, Nat.reduceLT, Nat.reduceLeDiff, Nat.reduceEqDiff, Nat.reduceAdd, Nat.reduceSub, Nat.reduceBEq, reduceCtorEq, *]
          | contradiction
          | refine wT ?_ ?_ <;> intro _
          | refine wF ?_ ?_ <;> intro _
          | refine cD ?_ ?_ <;> intro _
          | refine dO (by kernel_rfl) ?_
          | refine Fin.q ?_ ?_
          | refine Fin.qn ?_ ?_
set_option maxRecDepth 20000 in
theorem kcFloor {n : Int} {H : Heap} {slot : Nat} {K : D → List (Nat × Blk) → List (Nat × Blk) → Prop} (hK : K (.int .i64 (floorV n)) [] []) : @callB ⟨callX Tryz.prog⟩ 175 [.int .i64 n] H slot ⟨K⟩ := by
  have he0 : rdOf H (D.idsL [.int .i64 n]) = [] := by simp (maxSteps := 1000000) only [go_sem, Int.reduceLT, Int.reduceLE, Int.reduceToNat, Int.reduceEq, Nat.reduceMul, ↓reduceIte, Nat.reduceLT, Nat.reduceLeDiff, Nat.reduceEqDiff, Nat.reduceAdd, Nat.reduceSub, Nat.reduceBEq, reduceCtorEq]
  refine call0 false (cFloor n ) ?_ ?_ (fun h => nomatch h) (by rw [he0]; exact hK)
  iterate 2 (· simp (maxSteps := 1000000) only [go_sem, Int.reduceLT, Int.reduceLE, Int.reduceToNat, Int.reduceEq, Nat.reduceMul, ↓reduceIte, Nat.reduceLT, Nat.reduceLeDiff, Nat.reduceEqDiff, Nat.reduceAdd, Nat.reduceSub, Nat.reduceBEq, reduceCtorEq])
def ceilV (n : Int) : Int := if (0 ≤ n ∧ n ≤ 4611686018427387904) ∧ IntKind.i64.wrap (floorV n * floorV n) < n then IntKind.i64.wrap (floorV n + 1) else floorV n
set_option maxHeartbeats 2000000 in
set_option maxRecDepth 20000 in
theorem cCeil (n : Int)  : FC Tryz.prog 176 [.int .i64 n] [] (.int .i64 (ceilV n)) [] := by
  refine FC.of_run mix Tryz.func176 rfl rfl (by simp [Tryz.ntmps176]) ?_
  repeat' first
    | simp (maxSteps := 1000000) only [go_sem, Int.reduceLT, Int.reduceLE, Int.reduceToNat, Int.reduceEq, Nat.reduceMul, ↓reduceIte, Nat.reduceLT, Nat.reduceLeDiff, Nat.reduceEqDiff, Nat.reduceAdd, Nat.reduceSub, Nat.reduceBEq, reduceCtorEq, *, ceilV, true_and, and_true, if_true, if_false]
    | contradiction
    | refine wT ?_ ?_ <;> intro _
    | refine wF ?_ ?_ <;> intro _
    | refine cD ?_ ?_ <;> intro _
    | refine dO (by kernel_rfl) ?_
    | refine kcFloor ?_
    | refine Fin.q ?_ ?_
    | refine Fin.qn ?_ ?_
set_option maxRecDepth 20000 in
theorem kcCeil {n : Int} {H : Heap} {slot : Nat} {K : D → List (Nat × Blk) → List (Nat × Blk) → Prop} (hK : K (.int .i64 (ceilV n)) [] []) : @callB ⟨callX Tryz.prog⟩ 176 [.int .i64 n] H slot ⟨K⟩ := by
  have he0 : rdOf H (D.idsL [.int .i64 n]) = [] := by simp (maxSteps := 1000000) only [go_sem, Int.reduceLT, Int.reduceLE, Int.reduceToNat, Int.reduceEq, Nat.reduceMul, ↓reduceIte, Nat.reduceLT, Nat.reduceLeDiff, Nat.reduceEqDiff, Nat.reduceAdd, Nat.reduceSub, Nat.reduceBEq, reduceCtorEq]
  refine call0 false (cCeil n ) ?_ ?_ (fun h => nomatch h) (by rw [he0]; exact hK)
  iterate 2 (· simp (maxSteps := 1000000) only [go_sem, Int.reduceLT, Int.reduceLE, Int.reduceToNat, Int.reduceEq, Nat.reduceMul, ↓reduceIte, Nat.reduceLT, Nat.reduceLeDiff, Nat.reduceEqDiff, Nat.reduceAdd, Nat.reduceSub, Nat.reduceBEq, reduceCtorEq])
def quotQ (t e : Int) : Int := IntKind.i64.wrap ((IntKind.i64.wrap (t * t)).tdiv e)
def quotBad (t e : Int) : Prop := t < -2147483648 ∨ 2147483648 < t ∨ e < 1 ∨ 4611686018427387904 < e
instance (t e : Int) : Decidable (quotBad t e) := by unfold quotBad; infer_instance
def quotV (t e : Int) : Int := if quotBad t e then 0 else if 0 ≤ t then floorV (quotQ t e) else if (IntKind.i64.wrap (t * t)).tmod e = 0 then IntKind.i64.wrap (0 - ceilV (quotQ t e)) else IntKind.i64.wrap (0 - ceilV (IntKind.i64.wrap (quotQ t e + 1)))
set_option maxHeartbeats 2000000 in
set_option maxRecDepth 20000 in
theorem cQuot (t e : Int)  : FC Tryz.prog 131 [.int .i64 t, .int .i64 e] [] (.tup [.int .i64 (quotV t e), .int .i64 (if quotBad t e then 1 else 0)]) [] := by
  refine FC.of_run mix Tryz.func131 rfl rfl (by simp [Tryz.ntmps131]) ?_
  by_cases hb : quotBad t e
  · rw [if_pos hb, show quotV t e = 0 from if_pos hb]
    unfold quotBad at hb
    repeat' first
      | simp (maxSteps := 1000000) only [go_sem, Int.reduceLT, Int.reduceLE, Int.reduceToNat, Int.reduceEq, Nat.reduceMul, ↓reduceIte, Nat.reduceLT, Nat.reduceLeDiff, Nat.reduceEqDiff, Nat.reduceAdd, Nat.reduceSub, Nat.reduceBEq, reduceCtorEq, *]
      | contradiction
      | refine wT ?_ ?_ <;> intro _
      | refine wF ?_ ?_ <;> intro _
      | refine cD ?_ ?_ <;> intro _
      | refine dO (by kernel_rfl) ?_
      | ((first | refine Fin.q ?_ ?_ | refine Fin.qn ?_ ?_) <;> ((try simp (maxSteps := 1000000) only [go_sem, Int.reduceLT, Int.reduceLE, Int.reduceToNat, Int.reduceEq, Nat.reduceMul, ↓reduceIte, Nat.reduceLT, Nat.reduceLeDiff, Nat.reduceEqDiff, Nat.reduceAdd, Nat.reduceSub, Nat.reduceBEq, reduceCtorEq, *]) <;> (first | done | (exfalso; omega))))
    all_goals (exfalso; omega)
  · rw [if_neg hb]
    have he : ¬ e = 0 := by intro h; apply hb; unfold quotBad; omega
    by_cases ht : 0 ≤ t
    · rw [show quotV t e = floorV (quotQ t e) by unfold quotV; rw [if_neg hb, if_pos ht]]
      have h1 : ¬ t < -2147483648 := fun h => hb (.inl h)
      have h2 : ¬ 2147483648 < t := fun h => hb (.inr (.inl h))
      have h3 : ¬ e < 1 := fun h => hb (.inr (.inr (.inl h)))
      have h4 : ¬ 4611686018427387904 < e := fun h => hb (.inr (.inr (.inr h)))
      repeat' first
        | simp (maxSteps := 1000000) only [go_sem, Int.reduceLT, Int.reduceLE, Int.reduceToNat, Int.reduceEq, Nat.reduceMul, ↓reduceIte, Nat.reduceLT, Nat.reduceLeDiff, Nat.reduceEqDiff, Nat.reduceAdd, Nat.reduceSub, Nat.reduceBEq, reduceCtorEq, *]
        | contradiction
        | refine wT ?_ ?_ <;> intro _
        | refine wF ?_ ?_ <;> intro _
        | refine cD ?_ ?_ <;> intro _
        | refine dO (by kernel_rfl) ?_
        | refine kcFloor ?_
        | ((first | refine Fin.q ?_ ?_ | refine Fin.qn ?_ ?_) <;> ((try simp (maxSteps := 1000000) only [go_sem, Int.reduceLT, Int.reduceLE, Int.reduceToNat, Int.reduceEq, Nat.reduceMul, ↓reduceIte, Nat.reduceLT, Nat.reduceLeDiff, Nat.reduceEqDiff, Nat.reduceAdd, Nat.reduceSub, Nat.reduceBEq, reduceCtorEq, *]) <;> (first | done | rfl)))
    · have h1 : ¬ t < -2147483648 := fun h => hb (.inl h)
      have h2 : ¬ 2147483648 < t := fun h => hb (.inr (.inl h))
      have h3 : ¬ e < 1 := fun h => hb (.inr (.inr (.inl h)))
      have h4 : ¬ 4611686018427387904 < e := fun h => hb (.inr (.inr (.inr h)))
      by_cases hm : (IntKind.i64.wrap (t * t)).tmod e = 0
      · rw [show quotV t e = IntKind.i64.wrap (0 - ceilV (quotQ t e)) by unfold quotV; rw [if_neg hb, if_neg ht, if_pos hm]]
        repeat' first
          | simp (maxSteps := 1000000) only [go_sem, Int.reduceLT, Int.reduceLE, Int.reduceToNat, Int.reduceEq, Nat.reduceMul, ↓reduceIte, Nat.reduceLT, Nat.reduceLeDiff, Nat.reduceEqDiff, Nat.reduceAdd, Nat.reduceSub, Nat.reduceBEq, reduceCtorEq, *]
          | contradiction
          | refine wT ?_ ?_ <;> intro _
          | refine wF ?_ ?_ <;> intro _
          | refine cD ?_ ?_ <;> intro _
          | refine dO (by kernel_rfl) ?_
          | refine kcCeil ?_
          | ((first | refine Fin.q ?_ ?_ | refine Fin.qn ?_ ?_) <;> ((try simp (maxSteps := 1000000) only [go_sem, Int.reduceLT, Int.reduceLE, Int.reduceToNat, Int.reduceEq, Nat.reduceMul, ↓reduceIte, Nat.reduceLT, Nat.reduceLeDiff, Nat.reduceEqDiff, Nat.reduceAdd, Nat.reduceSub, Nat.reduceBEq, reduceCtorEq, *]) <;> (first | done | rfl)))
      · rw [show quotV t e = IntKind.i64.wrap (0 - ceilV (IntKind.i64.wrap (quotQ t e + 1))) by unfold quotV; rw [if_neg hb, if_neg ht, if_neg hm]]
        repeat' first
          | simp (maxSteps := 1000000) only [go_sem, Int.reduceLT, Int.reduceLE, Int.reduceToNat, Int.reduceEq, Nat.reduceMul, ↓reduceIte, Nat.reduceLT, Nat.reduceLeDiff, Nat.reduceEqDiff, Nat.reduceAdd, Nat.reduceSub, Nat.reduceBEq, reduceCtorEq, *]
          | contradiction
          | refine wT ?_ ?_ <;> intro _
          | refine wF ?_ ?_ <;> intro _
          | refine cD ?_ ?_ <;> intro _
          | refine dO (by kernel_rfl) ?_
          | refine kcCeil ?_
          | ((first | refine Fin.q ?_ ?_ | refine Fin.qn ?_ ?_) <;> ((try simp (maxSteps := 1000000) only [go_sem, Int.reduceLT, Int.reduceLE, Int.reduceToNat, Int.reduceEq, Nat.reduceMul, ↓reduceIte, Nat.reduceLT, Nat.reduceLeDiff, Nat.reduceEqDiff, Nat.reduceAdd, Nat.reduceSub, Nat.reduceBEq, reduceCtorEq, *]) <;> (first | done | rfl)))
set_option maxRecDepth 20000 in
theorem kcQuot {t e : Int} {H : Heap} {slot : Nat} {K : D → List (Nat × Blk) → List (Nat × Blk) → Prop} (hK : K (.tup [.int .i64 (quotV t e), .int .i64 (if quotBad t e then 1 else 0)]) [] []) : @callB ⟨callX Tryz.prog⟩ 131 [.int .i64 t, .int .i64 e] H slot ⟨K⟩ := by
  have he0 : rdOf H (D.idsL [.int .i64 t, .int .i64 e]) = [] := by simp (maxSteps := 1000000) only [go_sem, Int.reduceLT, Int.reduceLE, Int.reduceToNat, Int.reduceEq, Nat.reduceMul, ↓reduceIte, Nat.reduceLT, Nat.reduceLeDiff, Nat.reduceEqDiff, Nat.reduceAdd, Nat.reduceSub, Nat.reduceBEq, reduceCtorEq]
  refine call0 false (cQuot t e ) ?_ ?_ (fun h => nomatch h) (by rw [he0]; exact hK)
  iterate 2 (· simp (maxSteps := 1000000) only [go_sem, Int.reduceLT, Int.reduceLE, Int.reduceToNat, Int.reduceEq, Nat.reduceMul, ↓reduceIte, Nat.reduceLT, Nat.reduceLeDiff, Nat.reduceEqDiff, Nat.reduceAdd, Nat.reduceSub, Nat.reduceBEq, reduceCtorEq])
end TR

/- Coordinates of the reference. -/
open Go Go.Proofs Go.AH
set_option linter.unusedSimpArgs false
set_option linter.unusedVariables false
namespace TR
def isLen (s : Sc) (x : List Int) : Prop := (x.length : Int) = s.len
set_option maxHeartbeats 2000000 in
set_option maxRecDepth 20000 in
theorem cFits (s : Sc) (x : List Int) (hs : s.ok) (hx : smp x) (hl : isLen s x) : FC Tryz.prog 125 [.agg s.row, V x] [] (.int .i64 0) [] := by
  refine FC.of_run mix Tryz.func125 rfl rfl (by simp [Tryz.ntmps125]) ?_
  have hne : ((x.length : Int) = s.len) = True := eq_true hl
  clear hl
  repeat' first
    | simp (maxSteps := 1000000) only [go_sem, Int.reduceLT, Int.reduceLE, Int.reduceToNat, Int.reduceEq, Nat.reduceMul, ↓reduceIte, Nat.reduceLT, Nat.reduceLeDiff, Nat.reduceEqDiff, Nat.reduceAdd, Nat.reduceSub, Nat.reduceBEq, reduceCtorEq, *]
    | contradiction
    | refine wT ?_ ?_ <;> intro _
    | refine wF ?_ ?_ <;> intro _
    | refine cD ?_ ?_ <;> intro _
    | refine dO (by kernel_rfl) ?_
    | refine kcwCheckR ?_
    | refine Fin.q ?_ ?_
    | refine Fin.qn ?_ ?_
  have hk : ∀ {H : Heap} {slot : Nat} {K : D → List (Nat × Blk) → List (Nat × Blk) → Prop}, K (.int .i64 0) [] [] → @callB ⟨callX Tryz.prog⟩ 169 [V x] H slot ⟨K⟩ := fun hK => kcSamples hK hx
  repeat' first
    | simp (maxSteps := 1000000) only [go_sem, Int.reduceLT, Int.reduceLE, Int.reduceToNat, Int.reduceEq, Nat.reduceMul, ↓reduceIte, Nat.reduceLT, Nat.reduceLeDiff, Nat.reduceEqDiff, Nat.reduceAdd, Nat.reduceSub, Nat.reduceBEq, reduceCtorEq, *]
    | contradiction
    | refine wT ?_ ?_ <;> intro _
    | refine wF ?_ ?_ <;> intro _
    | refine cD ?_ ?_ <;> intro _
    | refine dO (by kernel_rfl) ?_
    | refine hk ?_
    | refine Fin.q ?_ ?_
    | refine Fin.qn ?_ ?_
set_option maxRecDepth 20000 in
theorem kcFits {s : Sc} {x : List Int} {H : Heap} {slot : Nat} {K : D → List (Nat × Blk) → List (Nat × Blk) → Prop} (hK : K (.int .i64 0) [] []) (hs : s.ok := by first | assumption | omega) (hx : smp x := by first | assumption | omega) (hl : isLen s x := by first | assumption | omega) : @callB ⟨callX Tryz.prog⟩ 125 [.agg s.row, V x] H slot ⟨K⟩ := by
  have he0 : rdOf H (D.idsL [.agg s.row, V x]) = [] := by simp (maxSteps := 1000000) only [go_sem, Int.reduceLT, Int.reduceLE, Int.reduceToNat, Int.reduceEq, Nat.reduceMul, ↓reduceIte, Nat.reduceLT, Nat.reduceLeDiff, Nat.reduceEqDiff, Nat.reduceAdd, Nat.reduceSub, Nat.reduceBEq, reduceCtorEq]
  refine call0 false (cFits s x hs hx hl) ?_ ?_ (fun h => nomatch h) (by rw [he0]; exact hK)
  iterate 2 (· simp (maxSteps := 1000000) only [go_sem, Int.reduceLT, Int.reduceLE, Int.reduceToNat, Int.reduceEq, Nat.reduceMul, ↓reduceIte, Nat.reduceLT, Nat.reduceLeDiff, Nat.reduceEqDiff, Nat.reduceAdd, Nat.reduceSub, Nat.reduceBEq, reduceCtorEq])
def lenF (m n p : Nat) : Nat := (p + 1) * m / n - p * m / n
theorem lenF_facts {m n i : Nat} (hn : 1 ≤ n) (hnm : n ≤ m) (hi : i + 1 ≤ n) (hm : m ≤ 32) : 1 ≤ lenF m n i ∧ lenF m n i ≤ 32 ∧ IntKind.i64.wrap (startF m n (i + 1) - startF m n i) = (lenF m n i : Int) := by
  have h1 := start_mono hn hnm i
  have h2 := start_le (m := m) hn hi
  unfold startF lenF
  generalize (i + 1) * m / n = B at *
  generalize i * m / n = A at *
  refine ⟨by omega, by omega, ?_⟩
  rw [wrapS] <;> omega
def coordV (s : Sc) (x : List Int) (n p : Nat) : Int :=
  if s.kind = 2 then downV (foldV (rangeF (cenV x) x.length) x.length n p) ((x.length * lenF x.length n p : Nat) : Int)
  else if s.kind = 3 then quotV (IntKind.i64.wrap (64 * foldV (rangeF (cenV x) x.length) x.length n p)) (IntKind.i64.wrap ((x.length : Int) * prV x))
  else downV (foldV x x.length n p) ((lenF x.length n p : Nat) : Int)
def stCo (s : Sc) (x : List Int) (n : Nat) : Nat → St
  | 0 => ⟨109, [(57, .int .i64 0), (56, .int .i64 n), (16, .zs), (14, .int .i64 (prV x)), (12, V (rangeF (foldV (rangeF (cenV x) x.length) x.length n) n)), (10, V (rangeF (foldV x x.length n) n)), (8, V (rangeF (startF x.length n) (n + 1))), (7, .int .i64 x.length), (2, .ptr 0 1 0 0)], [some [s.row]]⟩
  | i + 1 => ⟨109, [(57, .int .i64 ((i + 1 : Nat) : Int)), (56, .int .i64 n), (16, .rs 1 2 0 (i + 1) (i + 1)), (14, .int .i64 (prV x)), (12, V (rangeF (foldV (rangeF (cenV x) x.length) x.length n) n)), (10, V (rangeF (foldV x x.length n) n)), (8, V (rangeF (startF x.length n) (n + 1))), (7, .int .i64 x.length), (2, .ptr 0 1 0 0)], [some [s.row], none, some (ints (rangeF (coordV s x n) (i + 1)))]⟩
set_option maxHeartbeats 2000000 in
set_option maxRecDepth 20000 in
theorem cCoord (s : Sc) (x : List Int) (n : Nat) (hs : s.ok) (hx : smp x) (hl : isLen s x) (hp : s.pcs = n) : FC Tryz.prog 78 [.agg s.row, V x] [] (.tup [V (rangeF (coordV s x n) n), .int .i64 0]) [] := by
  refine FC.of_run mix Tryz.func78 rfl rfl (by simp [Tryz.ntmps78]) ?_
  have hl' : (x.length : Int) = s.len := hl
  have b1 := hs.1.2.2.2.1
  have b2 := hs.1.2.2.2.2.1
  have b3 := hs.1.2.2.2.2.2.1
  have h2 := hx.1
  have h32 := hx.2.1
  have n1 : 1 ≤ n := by omega
  have n8 : n ≤ 8 := by omega
  have nm : n ≤ x.length := by omega
  have kF : ∀ {H : Heap} {slot : Nat} {K : D → List (Nat × Blk) → List (Nat × Blk) → Prop}, K (.int .i64 0) [] [] → @callB ⟨callX Tryz.prog⟩ 125 [.agg s.row, V x] H slot ⟨K⟩ := fun hK => kcFits hK hs hx hl
  have kS : ∀ {H : Heap} {slot : Nat} {K : D → List (Nat × Blk) → List (Nat × Blk) → Prop}, K (.tup [V (rangeF (startF x.length n) (n + 1)), .int .i64 0]) [] [] → @callB ⟨callX Tryz.prog⟩ 126 [.int .i64 x.length, .int .i64 s.pcs] H slot ⟨K⟩ := fun hK => by rw [hp]; exact kcStarts hK
  have kU : ∀ {H : Heap} {slot : Nat} {K : D → List (Nat × Blk) → List (Nat × Blk) → Prop}, K (.tup [V (rangeF (foldV x x.length n) n), .int .i64 0]) [] [] → @callB ⟨callX Tryz.prog⟩ 127 [V x, .int .i64 s.pcs] H slot ⟨K⟩ := fun hK => by rw [hp]; exact kcSums hK
  have kC : ∀ {H : Heap} {slot : Nat} {K : D → List (Nat × Blk) → List (Nat × Blk) → Prop}, K (.tup [V (rangeF (foldV (rangeF (cenV x) x.length) x.length n) n), .int .i64 0]) [] [] → @callB ⟨callX Tryz.prog⟩ 128 [V x, .int .i64 s.pcs] H slot ⟨K⟩ := fun hK => by rw [hp]; exact kcCenS hK
  have kP : ∀ {H : Heap} {slot : Nat} {K : D → List (Nat × Blk) → List (Nat × Blk) → Prop}, K (.tup [.int .i64 (prV x), .int .i64 0]) [] [] → @callB ⟨callX Tryz.prog⟩ 129 [V x, V x] H slot ⟨K⟩ := fun hK => kcProduct hK hx
  clear hs hx hp hl hl' b1 b2 b3
  repeat' first
    | simp (maxSteps := 1000000) only [go_sem, Int.reduceLT, Int.reduceLE, Int.reduceToNat, Int.reduceEq, Nat.reduceMul, ↓reduceIte, Nat.reduceLT, Nat.reduceLeDiff, Nat.reduceEqDiff, Nat.reduceAdd, Nat.reduceSub, Nat.reduceBEq, reduceCtorEq, *, rangeF_len]
    | contradiction
    | refine wT ?_ ?_ <;> intro _
    | refine wF ?_ ?_ <;> intro _
    | refine cD ?_ ?_ <;> intro _
    | refine dO (by kernel_rfl) ?_
    | refine kF ?_
    | refine kS ?_
    | refine kU ?_
    | refine kC ?_
    | refine kP ?_
    | refine Fin.q ?_ ?_
    | refine Fin.qn ?_ ?_
  clear kF kS kU kC kP
  refine AW.loopx (σ := Nat) mix (stCo s x n) (fun i => i ≤ n) (fun i => n - i) 0 (by omega) (Conv.mk ?_ ?_ ?_ ?_ ?_) ?_
  iterate 5 (· simp (maxSteps := 1000000) only [go_sem, Int.reduceLT, Int.reduceLE, Int.reduceToNat, Int.reduceEq, Nat.reduceMul, ↓reduceIte, Nat.reduceLT, Nat.reduceLeDiff, Nat.reduceEqDiff, Nat.reduceAdd, Nat.reduceSub, Nat.reduceBEq, reduceCtorEq, stCo])
  intro i hi
  have hC : i + 1 ≤ capMax := by unfold capMax; omega
  have hC2 : i + 1 + 1 ≤ capMax := by unfold capMax; omega
  by_cases h : i < n
  · obtain ⟨hl1, hl2, hL⟩ := lenF_facts n1 nm (show i + 1 ≤ n by omega) h32
    have hl0 : ¬ ((lenF x.length n i : Nat) : Int) = 0 := by omega
    have hml : x.length * lenF x.length n i ≤ 32 * 32 := Nat.mul_le_mul h32 hl2
    have hml1 : 0 < x.length * lenF x.length n i := Nat.mul_pos (by omega) (by omega)
    have hmw : IntKind.i64.wrap ((x.length : Int) * ((lenF x.length n i : Nat) : Int)) = ((x.length * lenF x.length n i : Nat) : Int) := mulN (by omega)
    have hm0 : ¬ ((x.length * lenF x.length n i : Nat) : Int) = 0 := by omega
    have g1 := getF (startF x.length n) (n := n + 1) (i := i) (by omega)
    have g2 := getF (startF x.length n) (n := n + 1) (i := i + 1) (by omega)
    have g3 := getF (foldV x x.length n) (n := n) (i := i) h
    have g4 := getF (foldV (rangeF (cenV x) x.length) x.length n) (n := n) (i := i) h
    have v2 : s.kind = 2 → downV (foldV (rangeF (cenV x) x.length) x.length n i) ((x.length * lenF x.length n i : Nat) : Int) = coordV s x n i := fun h => by unfold coordV; rw [if_pos h]
    have v3 : s.kind = 3 → quotV (IntKind.i64.wrap (64 * foldV (rangeF (cenV x) x.length) x.length n i)) (IntKind.i64.wrap ((x.length : Int) * prV x)) = coordV s x n i := fun h => by unfold coordV; rw [if_neg (by omega), if_pos h]
    have v0 : ¬ s.kind = 2 → ¬ s.kind = 3 → downV (foldV x x.length n i) ((lenF x.length n i : Nat) : Int) = coordV s x n i := fun h1 h2 => by unfold coordV; rw [if_neg h1, if_neg h2]
    have hw := wrap1 (i := i) (by omega)
    have b0 : i < n + 1 := by omega
    have b1 : i + 1 < n + 1 := by omega
    clear hl1 hl2 hml hml1 h2 h32 n1 n8 nm
    by_cases k2 : s.kind = 2
    · have v := v2 k2
      clear v2 v3 v0
      rcases i with _ | i
      · have e0 : ((0 : Nat) : Int) = 0 := rfl
        have hw0 : IntKind.i64.wrap ((0 : Int) + 1) = ((1 : Nat) : Int) := by decide
        have hn0 : (0 : Int) < (n : Int) := by omega
        simp only [stCo]
        repeat' first
          | simp (maxSteps := 1000000) only [go_sem, Int.reduceLT, Int.reduceLE, Int.reduceToNat, Int.reduceEq, Nat.reduceMul, ↓reduceIte, Nat.reduceLT, Nat.reduceLeDiff, Nat.reduceEqDiff, Nat.reduceAdd, Nat.reduceSub, Nat.reduceBEq, reduceCtorEq, *, stCo, Nat.zero_add, rangeF_len, rangeF_one, List.length_singleton, List.isEmpty_cons, List.length_cons, List.length_nil]
          | contradiction
          | refine wT ?_ ?_ <;> intro _
          | refine wF ?_ ?_ <;> intro _
          | refine cD ?_ ?_ <;> intro _
          | refine dO (by kernel_rfl) ?_
          | refine kcDown ?_
          | (refine ⟨1, ?_, ?_, Conv.mk ?_ ?_ ?_ ?_ ?_⟩; (· (first | omega | (simp only; omega) | (simp only [List.length_nil, List.length_cons]; omega))); (· (omega)))
          | refine Fin.q ?_ ?_
          | refine Fin.qn ?_ ?_
      · simp only [stCo]
        repeat' first
          | simp (maxSteps := 1000000) only [go_sem, Int.reduceLT, Int.reduceLE, Int.reduceToNat, Int.reduceEq, Nat.reduceMul, ↓reduceIte, Nat.reduceLT, Nat.reduceLeDiff, Nat.reduceEqDiff, Nat.reduceAdd, Nat.reduceSub, Nat.reduceBEq, reduceCtorEq, *, stCo, snocF, rangeF_len, takeF, no_succ_le, Nat.zero_add, List.isEmpty_cons, List.length_cons, List.length_nil, List.drop_zero, eq_self]
          | contradiction
          | refine wT ?_ ?_ <;> intro _
          | refine wF ?_ ?_ <;> intro _
          | refine cD ?_ ?_ <;> intro _
          | refine dO (by kernel_rfl) ?_
          | refine kcDown ?_
          | (refine ⟨i + 1 + 1, ?_, ?_, Conv.mk ?_ ?_ ?_ ?_ ?_⟩; (· (first | omega | (simp only; omega) | (simp only [List.length_nil, List.length_cons]; omega))); (· (omega)))
          | refine Fin.q ?_ ?_
          | refine Fin.qn ?_ ?_
    · by_cases k3 : s.kind = 3
      · have v := v3 k3
        clear v2 v3 v0
        rcases i with _ | i
        · have e0 : ((0 : Nat) : Int) = 0 := rfl
          have hw0 : IntKind.i64.wrap ((0 : Int) + 1) = ((1 : Nat) : Int) := by decide
          have hn0 : (0 : Int) < (n : Int) := by omega
          simp only [stCo]
          repeat' first
            | simp (maxSteps := 1000000) only [go_sem, Int.reduceLT, Int.reduceLE, Int.reduceToNat, Int.reduceEq, Nat.reduceMul, ↓reduceIte, Nat.reduceLT, Nat.reduceLeDiff, Nat.reduceEqDiff, Nat.reduceAdd, Nat.reduceSub, Nat.reduceBEq, reduceCtorEq, *, stCo, Nat.zero_add, rangeF_len, rangeF_one, List.length_singleton, List.isEmpty_cons, List.length_cons, List.length_nil]
            | contradiction
            | refine wT ?_ ?_ <;> intro _
            | refine wF ?_ ?_ <;> intro _
            | refine cD ?_ ?_ <;> intro _
            | refine dO (by kernel_rfl) ?_
            | refine kcDown ?_
            | refine kcQuot ?_
            | (refine ⟨1, ?_, ?_, Conv.mk ?_ ?_ ?_ ?_ ?_⟩; (· (first | omega | (simp only; omega) | (simp only [List.length_nil, List.length_cons]; omega))); (· (omega)))
            | refine Fin.q ?_ ?_
            | refine Fin.qn ?_ ?_
        · simp only [stCo]
          repeat' first
            | simp (maxSteps := 1000000) only [go_sem, Int.reduceLT, Int.reduceLE, Int.reduceToNat, Int.reduceEq, Nat.reduceMul, ↓reduceIte, Nat.reduceLT, Nat.reduceLeDiff, Nat.reduceEqDiff, Nat.reduceAdd, Nat.reduceSub, Nat.reduceBEq, reduceCtorEq, *, stCo, snocF, rangeF_len, takeF, no_succ_le, Nat.zero_add, List.isEmpty_cons, List.length_cons, List.length_nil, List.drop_zero, eq_self]
            | contradiction
            | refine wT ?_ ?_ <;> intro _
            | refine wF ?_ ?_ <;> intro _
            | refine cD ?_ ?_ <;> intro _
            | refine dO (by kernel_rfl) ?_
            | refine kcDown ?_
            | refine kcQuot ?_
            | (refine ⟨i + 1 + 1, ?_, ?_, Conv.mk ?_ ?_ ?_ ?_ ?_⟩; (· (first | omega | (simp only; omega) | (simp only [List.length_nil, List.length_cons]; omega))); (· (omega)))
            | refine Fin.q ?_ ?_
            | refine Fin.qn ?_ ?_
      · have v := v0 k2 k3
        clear v2 v3 v0
        rcases i with _ | i
        · have e0 : ((0 : Nat) : Int) = 0 := rfl
          have hw0 : IntKind.i64.wrap ((0 : Int) + 1) = ((1 : Nat) : Int) := by decide
          have hn0 : (0 : Int) < (n : Int) := by omega
          simp only [stCo]
          repeat' first
            | simp (maxSteps := 1000000) only [go_sem, Int.reduceLT, Int.reduceLE, Int.reduceToNat, Int.reduceEq, Nat.reduceMul, ↓reduceIte, Nat.reduceLT, Nat.reduceLeDiff, Nat.reduceEqDiff, Nat.reduceAdd, Nat.reduceSub, Nat.reduceBEq, reduceCtorEq, *, stCo, Nat.zero_add, rangeF_len, rangeF_one, List.length_singleton, List.isEmpty_cons, List.length_cons, List.length_nil]
            | contradiction
            | refine wT ?_ ?_ <;> intro _
            | refine wF ?_ ?_ <;> intro _
            | refine cD ?_ ?_ <;> intro _
            | refine dO (by kernel_rfl) ?_
            | refine kcDown ?_
            | (refine ⟨1, ?_, ?_, Conv.mk ?_ ?_ ?_ ?_ ?_⟩; (· (first | omega | (simp only; omega) | (simp only [List.length_nil, List.length_cons]; omega))); (· (omega)))
            | refine Fin.q ?_ ?_
            | refine Fin.qn ?_ ?_
        · simp only [stCo]
          repeat' first
            | simp (maxSteps := 1000000) only [go_sem, Int.reduceLT, Int.reduceLE, Int.reduceToNat, Int.reduceEq, Nat.reduceMul, ↓reduceIte, Nat.reduceLT, Nat.reduceLeDiff, Nat.reduceEqDiff, Nat.reduceAdd, Nat.reduceSub, Nat.reduceBEq, reduceCtorEq, *, stCo, snocF, rangeF_len, takeF, no_succ_le, Nat.zero_add, List.isEmpty_cons, List.length_cons, List.length_nil, List.drop_zero, eq_self]
            | contradiction
            | refine wT ?_ ?_ <;> intro _
            | refine wF ?_ ?_ <;> intro _
            | refine cD ?_ ?_ <;> intro _
            | refine dO (by kernel_rfl) ?_
            | refine kcDown ?_
            | (refine ⟨i + 1 + 1, ?_, ?_, Conv.mk ?_ ?_ ?_ ?_ ?_⟩; (· (first | omega | (simp only; omega) | (simp only [List.length_nil, List.length_cons]; omega))); (· (omega)))
            | refine Fin.q ?_ ?_
            | refine Fin.qn ?_ ?_
  · obtain rfl : i = n := by omega
    obtain ⟨j, rfl⟩ : ∃ j, i = j + 1 := ⟨i - 1, by omega⟩
    simp only [stCo]
    repeat' first
      | simp (maxSteps := 1000000) only [go_sem, Int.reduceLT, Int.reduceLE, Int.reduceToNat, Int.reduceEq, Nat.reduceMul, ↓reduceIte, Nat.reduceLT, Nat.reduceLeDiff, Nat.reduceEqDiff, Nat.reduceAdd, Nat.reduceSub, Nat.reduceBEq, reduceCtorEq, *, rangeF_len, takeF, List.drop_zero, Nat.zero_add, eq_self, no_succ_le, Nat.lt_irrefl]
      | contradiction
      | refine wT ?_ ?_ <;> intro _
      | refine wF ?_ ?_ <;> intro _
      | refine cD ?_ ?_ <;> intro _
      | refine dO (by kernel_rfl) ?_
      | refine Fin.q ?_ ?_
      | refine Fin.qn ?_ ?_
set_option maxRecDepth 20000 in
theorem kcCoord {s : Sc} {x : List Int} {n : Nat} {H : Heap} {slot : Nat} {K : D → List (Nat × Blk) → List (Nat × Blk) → Prop} (hK : K (.tup [V (rangeF (coordV s x n) n), .int .i64 0]) [] []) (hs : s.ok := by first | assumption | omega) (hx : smp x := by first | assumption | omega) (hl : isLen s x := by first | assumption | omega) (hp : s.pcs = n := by first | assumption | omega) : @callB ⟨callX Tryz.prog⟩ 78 [.agg s.row, V x] H slot ⟨K⟩ := by
  have he0 : rdOf H (D.idsL [.agg s.row, V x]) = [] := by simp (maxSteps := 1000000) only [go_sem, Int.reduceLT, Int.reduceLE, Int.reduceToNat, Int.reduceEq, Nat.reduceMul, ↓reduceIte, Nat.reduceLT, Nat.reduceLeDiff, Nat.reduceEqDiff, Nat.reduceAdd, Nat.reduceSub, Nat.reduceBEq, reduceCtorEq]
  refine call0 false (cCoord s x n hs hx hl hp) ?_ ?_ (fun h => nomatch h) (by rw [he0]; exact hK)
  iterate 2 (· simp (maxSteps := 1000000) only [go_sem, Int.reduceLT, Int.reduceLE, Int.reduceToNat, Int.reduceEq, Nat.reduceMul, ↓reduceIte, Nat.reduceLT, Nat.reduceLeDiff, Nat.reduceEqDiff, Nat.reduceAdd, Nat.reduceSub, Nat.reduceBEq, reduceCtorEq])
end TR

/- The reference's word of a window; its symbols may be written. -/
open Go Go.Proofs Go.AH
set_option linter.unusedSimpArgs false
set_option linter.unusedVariables false
namespace TR
def cntV (l : List Int) (c : Int) : Nat → Nat
  | 0 => 0
  | k + 1 => if l.getD k 0 ≤ c then cntV l c k + 1 else cntV l c k
theorem cntV_le (l : List Int) (c : Int) : ∀ k, cntV l c k ≤ k
  | 0 => Nat.le_refl _
  | k + 1 => by have := cntV_le l c k; simp only [cntV]; split <;> omega
def symV (s : Sc) (x : List Int) (n p : Nat) : Int := ((cntV s.cuts (coordV s x n p) s.cuts.length : Nat) : Int)
def fourV (_p : Nat) : Int := 4
def stOf (s : Sc) (x : List Int) (n : Nat) : Nat → St
  | 0 => ⟨59, [(24, .int .i64 0), (23, .int .i64 n), (8, .ptr 2 1 0 0), (6, V (rangeF (coordV s x n) n)), (4, .ptr 1 1 0 0), (2, .ptr 0 1 0 0)], [some [s.row], some [[.zs, .zs]], some [[.zs, .zs]]]⟩
  | i + 1 => ⟨59, [(24, .int .i64 ((i + 1 : Nat) : Int)), (23, .int .i64 n), (8, .ptr 2 1 0 0), (6, V (rangeF (coordV s x n) n)), (4, .ptr 1 1 0 0), (2, .ptr 0 1 0 0)], [some [s.row], some [[.zs, .zs]], some [[.rs 1 4 0 (i + 1) (i + 1), .rs 1 6 0 (i + 1) (i + 1)]], none, some (ints (rangeF (symV s x n) (i + 1))), none, some (ints (rangeF fourV (i + 1)))]⟩
set_option maxHeartbeats 2000000 in
set_option maxRecDepth 20000 in
theorem cOfR (s : Sc) (x : List Int) (n : Nat) (hs : s.ok) (hx : smp x) (hl : isLen s x) (hp : s.pcs = n) : FC Tryz.prog 38 [.agg s.row, V x] [] (.tup [.agg [.rs 1 0 0 n n, .rs 1 1 0 n n], .int .i64 0]) [ints (rangeF (symV s x n) n), ints (rangeF fourV n)] := by
  have b1 := hs.1.2.2.2.1
  have b2 := hs.1.2.2.2.2.1
  have b15 := hs.1.2.2.2.2.2.2
  have n1 : 1 ≤ n := by omega
  have n8 : n ≤ 8 := by omega
  have kC : ∀ {H : Heap} {slot : Nat} {K : D → List (Nat × Blk) → List (Nat × Blk) → Prop}, K (.tup [V (rangeF (coordV s x n) n), .int .i64 0]) [] [] → @callB ⟨callX Tryz.prog⟩ 78 [.agg s.row, V x] H slot ⟨K⟩ := fun hK => kcCoord hK hs hx hl hp
  clear hs hx hp hl b1 b2
  refine FC.of_run mix Tryz.func38 rfl rfl (by simp [Tryz.ntmps38]) ?_
  repeat' first
    | simp (maxSteps := 1000000) only [go_sem, Int.reduceLT, Int.reduceLE, Int.reduceToNat, Int.reduceEq, Nat.reduceMul, ↓reduceIte, Nat.reduceLT, Nat.reduceLeDiff, Nat.reduceEqDiff, Nat.reduceAdd, Nat.reduceSub, Nat.reduceBEq, reduceCtorEq, *, rangeF_len]
    | contradiction
    | refine wT ?_ ?_ <;> intro _
    | refine wF ?_ ?_ <;> intro _
    | refine cD ?_ ?_ <;> intro _
    | refine dO (by kernel_rfl) ?_
    | refine kC ?_
    | refine Fin.q ?_ ?_
    | refine Fin.qn ?_ ?_
  clear kC
  refine AW.loopx (σ := Nat) mix (stOf s x n) (fun i => i ≤ n) (fun i => n - i) 0 (by omega) (Conv.mk ?_ ?_ ?_ ?_ ?_) ?_
  iterate 5 (· simp (maxSteps := 1000000) only [go_sem, Int.reduceLT, Int.reduceLE, Int.reduceToNat, Int.reduceEq, Nat.reduceMul, ↓reduceIte, Nat.reduceLT, Nat.reduceLeDiff, Nat.reduceEqDiff, Nat.reduceAdd, Nat.reduceSub, Nat.reduceBEq, reduceCtorEq, stOf])
  intro i hi
  have hC : i + 1 ≤ capMax := by unfold capMax; omega
  have hC2 : i + 1 + 1 ≤ capMax := by unfold capMax; omega
  by_cases h : i < n
  · have hc := getF (coordV s x n) (n := n) (i := i) h
    have hw := wrap1 (i := i) (by omega)
    have hv : ((cntV s.cuts (coordV s x n i) s.cuts.length : Nat) : Int) = symV s x n i := rfl
    have h4 : ((4 : Int)) = fourV i := rfl
    rcases i with _ | i
    · have e0 : ((0 : Nat) : Int) = 0 := rfl
      have hw0 : IntKind.i64.wrap ((0 : Int) + 1) = ((1 : Nat) : Int) := by decide
      have hn0 : (0 : Int) < (n : Int) := by omega
      have hf : [[D.int .i64 4]] = ints (rangeF fourV 1) := rfl
      clear h4
      simp only [stOf]
      repeat' first
        | simp (maxSteps := 1000000) only [go_sem, Int.reduceLT, Int.reduceLE, Int.reduceToNat, Int.reduceEq, Nat.reduceMul, ↓reduceIte, Nat.reduceLT, Nat.reduceLeDiff, Nat.reduceEqDiff, Nat.reduceAdd, Nat.reduceSub, Nat.reduceBEq, reduceCtorEq, *, rangeF_len]
        | contradiction
        | refine wT ?_ ?_ <;> intro _
        | refine wF ?_ ?_ <;> intro _
        | refine cD ?_ ?_ <;> intro _
        | refine dO (by kernel_rfl) ?_
        | refine Fin.q ?_ ?_
        | refine Fin.qn ?_ ?_
      refine AW.loopx (σ := Nat) mix (fun k => ⟨59, [(30, .int .i64 (k : Int)), (29, .int .i64 s.cuts.length), (10, .int .i64 ((cntV s.cuts (coordV s x n (0)) k : Nat) : Int)), (9, .int .i64 0), (24, .int .i64 0), (23, .int .i64 n), (8, .ptr 2 1 0 0), (6, V (rangeF (coordV s x n) n)), (4, .ptr 1 1 0 0), (2, .ptr 0 1 0 0)], [some [s.row], some [[.zs, .zs]], some [[.zs, .zs]]]⟩) (fun k => k ≤ s.cuts.length) (fun k => s.cuts.length - k) 0 (Nat.zero_le _) (Conv.mk ?_ ?_ ?_ ?_ ?_) ?_
      iterate 5 (· (simp (maxSteps := 1000000) only [go_sem, Int.reduceLT, Int.reduceLE, Int.reduceToNat, Int.reduceEq, Nat.reduceMul, ↓reduceIte, Nat.reduceLT, Nat.reduceLeDiff, Nat.reduceEqDiff, Nat.reduceAdd, Nat.reduceSub, Nat.reduceBEq, reduceCtorEq, cntV]) <;> (first | rfl | (simp [ints]; done) | (simp [*]; done) | ((repeat' (first | rfl | apply And.intro)); done)))
      intro k hk
      by_cases g : k < s.cuts.length
      · have hx := ints_get g
        have hwk := wrap1 (i := k) (by omega)
        have hcl := cntV_le s.cuts (coordV s x n (0)) k
        have hwc := wrap1 (i := cntV s.cuts (coordV s x n (0)) k) (by omega)
        clear hcl
        repeat' first
          | simp (maxSteps := 1000000) only [go_sem, Int.reduceLT, Int.reduceLE, Int.reduceToNat, Int.reduceEq, Nat.reduceMul, ↓reduceIte, Nat.reduceLT, Nat.reduceLeDiff, Nat.reduceEqDiff, Nat.reduceAdd, Nat.reduceSub, Nat.reduceBEq, reduceCtorEq, *, rangeF_len, cntV, if_true, if_false]
          | contradiction
          | refine wT ?_ ?_ <;> intro _
          | refine wF ?_ ?_ <;> intro _
          | refine cD ?_ ?_ <;> intro _
          | refine dO (by kernel_rfl) ?_
          | (refine ⟨k + 1, ?_, ?_, Conv.mk ?_ ?_ ?_ ?_ ?_⟩; (· (first | omega | (simp only; omega) | (simp only [List.length_nil, List.length_cons]; omega))); (· (omega)))
          | refine Fin.q ?_ ?_
          | refine Fin.qn ?_ ?_
      · obtain rfl : k = s.cuts.length := by omega
        repeat' first
          | simp (maxSteps := 1000000) only [go_sem, Int.reduceLT, Int.reduceLE, Int.reduceToNat, Int.reduceEq, Nat.reduceMul, ↓reduceIte, Nat.reduceLT, Nat.reduceLeDiff, Nat.reduceEqDiff, Nat.reduceAdd, Nat.reduceSub, Nat.reduceBEq, reduceCtorEq, *, stOf, Nat.zero_add, rangeF_len, rangeF_one, List.length_singleton, List.isEmpty_cons, List.length_cons, List.length_nil]
          | contradiction
          | refine wT ?_ ?_ <;> intro _
          | refine wF ?_ ?_ <;> intro _
          | refine cD ?_ ?_ <;> intro _
          | refine dO (by kernel_rfl) ?_
          | (refine ⟨1, ?_, ?_, Conv.mk ?_ ?_ ?_ ?_ ?_⟩; (· (first | omega | (simp only; omega) | (simp only [List.length_nil, List.length_cons]; omega))); (· (omega)))
          | refine Fin.q ?_ ?_
          | refine Fin.qn ?_ ?_
    · have hf : ints (rangeF fourV (i + 1)) ++ [[D.int .i64 4]] = ints (rangeF fourV (i + 1 + 1)) := snocF fourV (i + 1)
      clear h4
      simp only [stOf]
      repeat' first
        | simp (maxSteps := 1000000) only [go_sem, Int.reduceLT, Int.reduceLE, Int.reduceToNat, Int.reduceEq, Nat.reduceMul, ↓reduceIte, Nat.reduceLT, Nat.reduceLeDiff, Nat.reduceEqDiff, Nat.reduceAdd, Nat.reduceSub, Nat.reduceBEq, reduceCtorEq, *, rangeF_len]
        | contradiction
        | refine wT ?_ ?_ <;> intro _
        | refine wF ?_ ?_ <;> intro _
        | refine cD ?_ ?_ <;> intro _
        | refine dO (by kernel_rfl) ?_
        | refine Fin.q ?_ ?_
        | refine Fin.qn ?_ ?_
      refine AW.loopx (σ := Nat) mix (fun k => ⟨59, [(30, .int .i64 (k : Int)), (29, .int .i64 s.cuts.length), (10, .int .i64 ((cntV s.cuts (coordV s x n (i + 1)) k : Nat) : Int)), (9, .int .i64 ((i + 1 : Nat) : Int)), (24, .int .i64 ((i + 1 : Nat) : Int)), (23, .int .i64 n), (8, .ptr 2 1 0 0), (6, V (rangeF (coordV s x n) n)), (4, .ptr 1 1 0 0), (2, .ptr 0 1 0 0)], [some [s.row], some [[.zs, .zs]], some [[.rs 1 4 0 (i + 1) (i + 1), .rs 1 6 0 (i + 1) (i + 1)]], none, some (ints (rangeF (symV s x n) (i + 1))), none, some (ints (rangeF fourV (i + 1)))]⟩) (fun k => k ≤ s.cuts.length) (fun k => s.cuts.length - k) 0 (Nat.zero_le _) (Conv.mk ?_ ?_ ?_ ?_ ?_) ?_
      iterate 5 (· (simp (maxSteps := 1000000) only [go_sem, Int.reduceLT, Int.reduceLE, Int.reduceToNat, Int.reduceEq, Nat.reduceMul, ↓reduceIte, Nat.reduceLT, Nat.reduceLeDiff, Nat.reduceEqDiff, Nat.reduceAdd, Nat.reduceSub, Nat.reduceBEq, reduceCtorEq, cntV]) <;> (first | rfl | (simp [ints]; done) | (simp [*]; done) | ((repeat' (first | rfl | apply And.intro)); done)))
      intro k hk
      by_cases g : k < s.cuts.length
      · have hx := ints_get g
        have hwk := wrap1 (i := k) (by omega)
        have hcl := cntV_le s.cuts (coordV s x n (i + 1)) k
        have hwc := wrap1 (i := cntV s.cuts (coordV s x n (i + 1)) k) (by omega)
        clear hcl
        repeat' first
          | simp (maxSteps := 1000000) only [go_sem, Int.reduceLT, Int.reduceLE, Int.reduceToNat, Int.reduceEq, Nat.reduceMul, ↓reduceIte, Nat.reduceLT, Nat.reduceLeDiff, Nat.reduceEqDiff, Nat.reduceAdd, Nat.reduceSub, Nat.reduceBEq, reduceCtorEq, *, rangeF_len, cntV, if_true, if_false]
          | contradiction
          | refine wT ?_ ?_ <;> intro _
          | refine wF ?_ ?_ <;> intro _
          | refine cD ?_ ?_ <;> intro _
          | refine dO (by kernel_rfl) ?_
          | (refine ⟨k + 1, ?_, ?_, Conv.mk ?_ ?_ ?_ ?_ ?_⟩; (· (first | omega | (simp only; omega) | (simp only [List.length_nil, List.length_cons]; omega))); (· (omega)))
          | refine Fin.q ?_ ?_
          | refine Fin.qn ?_ ?_
      · obtain rfl : k = s.cuts.length := by omega
        repeat' first
          | simp (maxSteps := 1000000) only [go_sem, Int.reduceLT, Int.reduceLE, Int.reduceToNat, Int.reduceEq, Nat.reduceMul, ↓reduceIte, Nat.reduceLT, Nat.reduceLeDiff, Nat.reduceEqDiff, Nat.reduceAdd, Nat.reduceSub, Nat.reduceBEq, reduceCtorEq, *, stOf, snocF, rangeF_len, takeF, no_succ_le, Nat.zero_add, List.isEmpty_cons, List.length_cons, List.length_nil, List.drop_zero, eq_self]
          | contradiction
          | refine wT ?_ ?_ <;> intro _
          | refine wF ?_ ?_ <;> intro _
          | refine cD ?_ ?_ <;> intro _
          | refine dO (by kernel_rfl) ?_
          | (refine ⟨i + 1 + 1, ?_, ?_, Conv.mk ?_ ?_ ?_ ?_ ?_⟩; (· (first | omega | (simp only; omega) | (simp only [List.length_nil, List.length_cons]; omega))); (· (omega)))
          | refine Fin.q ?_ ?_
          | refine Fin.qn ?_ ?_
  · obtain rfl : i = n := by omega
    obtain ⟨j, rfl⟩ : ∃ j, i = j + 1 := ⟨i - 1, by omega⟩
    simp only [stOf]
    repeat' first
      | simp (maxSteps := 1000000) only [go_sem, Int.reduceLT, Int.reduceLE, Int.reduceToNat, Int.reduceEq, Nat.reduceMul, ↓reduceIte, Nat.reduceLT, Nat.reduceLeDiff, Nat.reduceEqDiff, Nat.reduceAdd, Nat.reduceSub, Nat.reduceBEq, reduceCtorEq, *, rangeF_len, takeF, List.drop_zero, Nat.zero_add, eq_self, no_succ_le, Nat.lt_irrefl]
      | contradiction
      | refine wT ?_ ?_ <;> intro _
      | refine wF ?_ ?_ <;> intro _
      | refine cD ?_ ?_ <;> intro _
      | refine dO (by kernel_rfl) ?_
      | refine Fin.qy [4, 6] (by simp) (by simp) ?_ ?_
end TR

/- Measures and schemes that are drawn. -/
open Go Go.Proofs Go.AH
set_option linter.unusedSimpArgs false
set_option linter.unusedVariables false
namespace TR
def bandT (v : Int) : Int := if v = 0 then 0 else if v = 1 then 1 else if v = 2 then 2 else if v = 3 then 5 else 32
def mkK (L : List Int) (a : Nat) : Int := 1 + dv L a 5
def mkB (L : List Int) (a : Nat) : Int := if mkK L a = 4 then bandT (dv L (da L a 5) 5) else 0
def mkG (L : List Int) (a : Nat) : Int := if mkK L a = 5 then dv L (da L a 5) 9 - 3 else 0
def mkA (L : List Int) (a : Nat) : Nat := if mkK L a = 4 then da L (da L a 5) 5 else if mkK L a = 5 then da L (da L a 5) 9 else da L a 5
theorem mkA_le (L : List Int) (a : Nat) (h : a ≤ 1000) (hL : L.length ≤ 1000) : mkA L a ≤ 1000 := by
  unfold mkA
  (repeat' split) <;> (repeat' first | assumption | apply da_le)
theorem mk_ok (L : List Int) (a : Nat) : mOK (mkK L a) (mkB L a) (mkG L a) := by
  have h1 := dv_lt L a (n := 5) (by decide)
  have h2 := dv_lt L (da L a 5) (n := 9) (by decide)
  unfold mOK mkB mkG bandT
  have h3 : mkK L a = 1 + dv L a 5 := rfl
  (repeat' split) <;> omega
set_option maxHeartbeats 2000000 in
set_option maxRecDepth 20000 in
theorem cMeas (L : List Int) (a : Nat) (hL : L.length ≤ 1000) (ha : a ≤ 1000) : FC Tryz.prog 30 [.ptr 0 1 0 0, .int .i64 0] [[[V L, .int .i64 a]]] (.agg [.int .i64 (mkK L a), .int .i64 (mkB L a), .int .i64 (mkG L a)]) [[[V L, .int .i64 (mkA L a)]]] := by
  have b1 := dv_lt L a (n := 5) (by decide)
  have b2 := dv_lt L (da L a 5) (n := 5) (by decide)
  have b3 := dv_lt L (da L a 5) (n := 9) (by decide)
  have w1 : IntKind.i64.wrap (1 + dv L a 5) = mkK L a := by unfold mkK; rw [wrapS] <;> omega
  have w2 : IntKind.i64.wrap (dv L (da L a 5) 9 - 3) = dv L (da L a 5) 9 - 3 := by rw [wrapS] <;> omega
  by_cases h4 : mkK L a = 4
  · have e1 : mkG L a = 0 := by unfold mkG; rw [if_neg (by omega)]
    have e2 : mkA L a = da L (da L a 5) 5 := if_pos h4
    have e3 : mkB L a = bandT (dv L (da L a 5) 5) := if_pos h4
    rw [e1, e2, e3]
    clear b1 b3 w2 e1 e2 e3
    rcases (by omega : dv L (da L a 5) 5 = 0 ∨ dv L (da L a 5) 5 = 1 ∨ dv L (da L a 5) 5 = 2 ∨ dv L (da L a 5) 5 = 3 ∨ dv L (da L a 5) 5 = 4) with h | h | h | h | h
    all_goals clear b2; rw [h]; refine FC.of_run mix Tryz.func30 rfl rfl (by simp [Tryz.ntmps30]) ?_
    all_goals skip
    · repeat' first
        | simp (maxSteps := 1000000) only [go_sem, Int.reduceLT, Int.reduceLE, Int.reduceToNat, Int.reduceEq, Nat.reduceMul, ↓reduceIte, Nat.reduceLT, Nat.reduceLeDiff, Nat.reduceEqDiff, Nat.reduceAdd, Nat.reduceSub, Nat.reduceBEq, reduceCtorEq, *]
        | contradiction
        | refine wT ?_ ?_ <;> intro _
        | refine wF ?_ ?_ <;> intro _
        | refine cD ?_ ?_ <;> intro _
        | refine dO (by kernel_rfl) ?_
        | refine (kNext rfl) ?_
        | ((first | refine Fin.q ?_ ?_ | refine Fin.qn ?_ ?_) <;> ((try simp (maxSteps := 1000000) only [go_sem, Int.reduceLT, Int.reduceLE, Int.reduceToNat, Int.reduceEq, Nat.reduceMul, ↓reduceIte, Nat.reduceLT, Nat.reduceLeDiff, Nat.reduceEqDiff, Nat.reduceAdd, Nat.reduceSub, Nat.reduceBEq, reduceCtorEq, *]) <;> (first | done | rfl)))
    · repeat' first
        | simp (maxSteps := 1000000) only [go_sem, Int.reduceLT, Int.reduceLE, Int.reduceToNat, Int.reduceEq, Nat.reduceMul, ↓reduceIte, Nat.reduceLT, Nat.reduceLeDiff, Nat.reduceEqDiff, Nat.reduceAdd, Nat.reduceSub, Nat.reduceBEq, reduceCtorEq, *]
        | contradiction
        | refine wT ?_ ?_ <;> intro _
        | refine wF ?_ ?_ <;> intro _
        | refine cD ?_ ?_ <;> intro _
        | refine dO (by kernel_rfl) ?_
        | refine (kNext rfl) ?_
        | ((first | refine Fin.q ?_ ?_ | refine Fin.qn ?_ ?_) <;> ((try simp (maxSteps := 1000000) only [go_sem, Int.reduceLT, Int.reduceLE, Int.reduceToNat, Int.reduceEq, Nat.reduceMul, ↓reduceIte, Nat.reduceLT, Nat.reduceLeDiff, Nat.reduceEqDiff, Nat.reduceAdd, Nat.reduceSub, Nat.reduceBEq, reduceCtorEq, *]) <;> (first | done | rfl)))
    · repeat' first
        | simp (maxSteps := 1000000) only [go_sem, Int.reduceLT, Int.reduceLE, Int.reduceToNat, Int.reduceEq, Nat.reduceMul, ↓reduceIte, Nat.reduceLT, Nat.reduceLeDiff, Nat.reduceEqDiff, Nat.reduceAdd, Nat.reduceSub, Nat.reduceBEq, reduceCtorEq, *]
        | contradiction
        | refine wT ?_ ?_ <;> intro _
        | refine wF ?_ ?_ <;> intro _
        | refine cD ?_ ?_ <;> intro _
        | refine dO (by kernel_rfl) ?_
        | refine (kNext rfl) ?_
        | ((first | refine Fin.q ?_ ?_ | refine Fin.qn ?_ ?_) <;> ((try simp (maxSteps := 1000000) only [go_sem, Int.reduceLT, Int.reduceLE, Int.reduceToNat, Int.reduceEq, Nat.reduceMul, ↓reduceIte, Nat.reduceLT, Nat.reduceLeDiff, Nat.reduceEqDiff, Nat.reduceAdd, Nat.reduceSub, Nat.reduceBEq, reduceCtorEq, *]) <;> (first | done | rfl)))
    · repeat' first
        | simp (maxSteps := 1000000) only [go_sem, Int.reduceLT, Int.reduceLE, Int.reduceToNat, Int.reduceEq, Nat.reduceMul, ↓reduceIte, Nat.reduceLT, Nat.reduceLeDiff, Nat.reduceEqDiff, Nat.reduceAdd, Nat.reduceSub, Nat.reduceBEq, reduceCtorEq, *]
        | contradiction
        | refine wT ?_ ?_ <;> intro _
        | refine wF ?_ ?_ <;> intro _
        | refine cD ?_ ?_ <;> intro _
        | refine dO (by kernel_rfl) ?_
        | refine (kNext rfl) ?_
        | ((first | refine Fin.q ?_ ?_ | refine Fin.qn ?_ ?_) <;> ((try simp (maxSteps := 1000000) only [go_sem, Int.reduceLT, Int.reduceLE, Int.reduceToNat, Int.reduceEq, Nat.reduceMul, ↓reduceIte, Nat.reduceLT, Nat.reduceLeDiff, Nat.reduceEqDiff, Nat.reduceAdd, Nat.reduceSub, Nat.reduceBEq, reduceCtorEq, *]) <;> (first | done | rfl)))
    · repeat' first
        | simp (maxSteps := 1000000) only [go_sem, Int.reduceLT, Int.reduceLE, Int.reduceToNat, Int.reduceEq, Nat.reduceMul, ↓reduceIte, Nat.reduceLT, Nat.reduceLeDiff, Nat.reduceEqDiff, Nat.reduceAdd, Nat.reduceSub, Nat.reduceBEq, reduceCtorEq, *]
        | contradiction
        | refine wT ?_ ?_ <;> intro _
        | refine wF ?_ ?_ <;> intro _
        | refine cD ?_ ?_ <;> intro _
        | refine dO (by kernel_rfl) ?_
        | refine (kNext rfl) ?_
        | ((first | refine Fin.q ?_ ?_ | refine Fin.qn ?_ ?_) <;> ((try simp (maxSteps := 1000000) only [go_sem, Int.reduceLT, Int.reduceLE, Int.reduceToNat, Int.reduceEq, Nat.reduceMul, ↓reduceIte, Nat.reduceLT, Nat.reduceLeDiff, Nat.reduceEqDiff, Nat.reduceAdd, Nat.reduceSub, Nat.reduceBEq, reduceCtorEq, *]) <;> (first | done | rfl)))
  · by_cases h5 : mkK L a = 5
    · have e1 : mkG L a = dv L (da L a 5) 9 - 3 := if_pos h5
      have e2 : mkA L a = da L (da L a 5) 9 := by unfold mkA; rw [if_neg h4, if_pos h5]
      have e3 : mkB L a = 0 := if_neg h4
      rw [e1, e2, e3]
      clear b1 b2 b3 e1 e2 e3
      refine FC.of_run mix Tryz.func30 rfl rfl (by simp [Tryz.ntmps30]) ?_
      repeat' first
        | simp (maxSteps := 1000000) only [go_sem, Int.reduceLT, Int.reduceLE, Int.reduceToNat, Int.reduceEq, Nat.reduceMul, ↓reduceIte, Nat.reduceLT, Nat.reduceLeDiff, Nat.reduceEqDiff, Nat.reduceAdd, Nat.reduceSub, Nat.reduceBEq, reduceCtorEq, *]
        | contradiction
        | refine wT ?_ ?_ <;> intro _
        | refine wF ?_ ?_ <;> intro _
        | refine cD ?_ ?_ <;> intro _
        | refine dO (by kernel_rfl) ?_
        | refine (kNext rfl) ?_
        | refine Fin.q ?_ ?_
        | refine Fin.qn ?_ ?_
    · have e1 : mkG L a = 0 := if_neg h5
      have e2 : mkA L a = da L a 5 := by unfold mkA; rw [if_neg h4, if_neg h5]
      have e3 : mkB L a = 0 := if_neg h4
      rw [e1, e2, e3]
      clear b1 b2 b3 e1 e2 e3
      refine FC.of_run mix Tryz.func30 rfl rfl (by simp [Tryz.ntmps30]) ?_
      repeat' first
        | simp (maxSteps := 1000000) only [go_sem, Int.reduceLT, Int.reduceLE, Int.reduceToNat, Int.reduceEq, Nat.reduceMul, ↓reduceIte, Nat.reduceLT, Nat.reduceLeDiff, Nat.reduceEqDiff, Nat.reduceAdd, Nat.reduceSub, Nat.reduceBEq, reduceCtorEq, *]
        | contradiction
        | refine wT ?_ ?_ <;> intro _
        | refine wF ?_ ?_ <;> intro _
        | refine cD ?_ ?_ <;> intro _
        | refine dO (by kernel_rfl) ?_
        | refine (kNext rfl) ?_
        | refine Fin.q ?_ ?_
        | refine Fin.qn ?_ ?_
theorem kMeas {L : List Int} {a q : Nat} {H : Heap} (hH : hget H q = some [[V L, .int .i64 a]]) {slot : Nat} {K : D → List (Nat × Blk) → List (Nat × Blk) → Prop} (hK : K (.agg [.int .i64 (mkK L a), .int .i64 (mkB L a), .int .i64 (mkG L a)]) [(q, [[V L, .int .i64 (mkA L a)]])] [(q, [[V L, .int .i64 a]]), (q, [[V L, .int .i64 a]])]) (hL : L.length ≤ 1000 := by assumption) (ha : a ≤ 1000 := by first | assumption | (repeat' first | assumption | apply da_le)) : @callB ⟨callX Tryz.prog⟩ 30 [.ptr q 1 0 0, .int .i64 0] H slot ⟨K⟩ := by
  have e : rdOf H ([q] ++ D.idsL [.ptr q 1 0 0, .int .i64 0]) = [(q, [[V L, .int .i64 a]]), (q, [[V L, .int .i64 a]])] := by simp [D.idsL, D.ids, rdOf, hH]
  refine callX2 [q] (cMeas L a hL ha) (by simp) ?_ ?_ ⟨by simp, by simp⟩ (r' := .agg [.int .i64 (mkK L a), .int .i64 (mkB L a), .int .i64 (mkG L a)]) (outs' := [[[V L, .int .i64 (mkA L a)]]]) rfl ?_ ?_
  · simp [trL, tr, pos]
  · rw [e]; simp [insA, AH.look, trB, pureB, D.isPur]
  · simp [backB, trB, pureB, D.isPur]
  · rw [e]; exact hK
end TR


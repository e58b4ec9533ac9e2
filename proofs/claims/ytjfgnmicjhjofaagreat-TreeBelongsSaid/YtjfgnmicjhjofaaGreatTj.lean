/- The tree walked: part j. -/
import Derived.Test.YtjfgnmicjhjofaaGreatTf
import Derived.Test.YtjfgnmicjhjofaaGreatRows
import Derived.Test.YtjfgnmicjhjofaaGreatAhRow
import Derived.Test.YtjfgnmicjhjofaaGreatAhRowV
import Derived.WalkKit
import Derived.ProofKit
import Derived.OpenShut
import Derived.Carry
import Derived.ChangeArms
/- TreeDepth. -/
open Go Go.Proofs Go.AH
set_option linter.unusedSimpArgs false
set_option linter.unusedVariables false
namespace TR
theorem kLength {L : List Int} {a q : Nat} {H : Heap} (hH : hget H q = some [[V L, .int .i64 a]]) {slot : Nat} {K : D → List (Nat × Blk) → List (Nat × Blk) → Prop} (hK : K (.int .i64 (2 + dv L a 5)) [(q, [[V L, .int .i64 (da L a 5)]])] [(q, [[V L, .int .i64 a]]), (q, [[V L, .int .i64 a]])]) (hL : L.length ≤ 1000 := by assumption) (ha : a ≤ 1000 := by first | assumption | (repeat' first | assumption | apply da_le)) : @callB ⟨callX Tryz.prog⟩ 12 [.ptr q 1 0 0] H slot ⟨K⟩ := by
  have e : rdOf H ([q] ++ D.idsL [.ptr q 1 0 0]) = [(q, [[V L, .int .i64 a]]), (q, [[V L, .int .i64 a]])] := by simp [D.idsL, D.ids, rdOf, hH]
  refine callX2 [q] (cLength L a hL ha) (by simp) ?_ ?_ ⟨by simp, by simp⟩ (r' := .int .i64 (2 + dv L a 5)) (outs' := [[[V L, .int .i64 (da L a 5)]]]) rfl ?_ ?_
  · simp [trL, tr, pos]
  · rw [e]; simp [insA, AH.look, trB, pureB, D.isPur]
  · simp [backB, trB, pureB, D.isPur]
  · rw [e]; exact hK
theorem kEnts {L : List Int} {a q : Nat} {s : Sc} {most : Int} {H : Heap} (hH : hget H q = some [[V L, .int .i64 a]]) {slot : Nat} {K : D → List (Nat × Blk) → List (Nat × Blk) → Prop} (hs : s.ok) (hL : L.length ≤ 1000) (ha : a ≤ 1000) (hm : 0 ≤ most) (hm2 : most ≤ 1000) (hK : ∀ (l : List En) (b : Nat), (l.length : Int) ≤ most → b ≤ 1000 → K (.vs (ents l)) [(q, [[V L, .int .i64 b]])] [(q, [[V L, .int .i64 a]]), (q, [[V L, .int .i64 a]])]) : @callB ⟨callX Tryz.prog⟩ 14 [.ptr q 1 0 0, .agg s.row, .int .i64 most] H slot ⟨K⟩ := by
  have e : rdOf H ([q] ++ D.idsL [.ptr q 1 0 0, .agg s.row, .int .i64 most]) = [(q, [[V L, .int .i64 a]]), (q, [[V L, .int .i64 a]])] := by simp [D.idsL, D.ids, rdOf, hH, Sc.row]
  have h1 := hs.1.2.1
  have h2 := hs.1.2.2.2.1
  have hd := dv_lt L a (n := most + 1) (by omega)
  obtain ⟨m, hm'⟩ : ∃ m : Nat, s.len = m := ⟨s.len.toNat, by omega⟩
  obtain ⟨n, hn'⟩ : ∃ n : Nat, s.pcs = n := ⟨s.pcs.toNat, by omega⟩
  obtain ⟨c, hc'⟩ : ∃ c : Nat, dv L a (most + 1) = c := ⟨(dv L a (most + 1)).toNat, by omega⟩
  have hf := cEnts L a s m n c most hs hm' hn' hL ha hm hm2 hc'
  have hb := enA_le L m n (da L a (most + 1)) (da_le _ _ _ ha hL) hL c
  have hl : ((rangeE (enE L s m n (da L a (most + 1)) c) c).length : Int) ≤ most := by rw [rangeE_len]; omega
  have hk := hK _ _ hl hb
  generalize rangeE (enE L s m n (da L a (most + 1)) c) c = x at *
  generalize enA L m n (da L a (most + 1)) c = y at *
  refine callX2 [q] hf (by simp) ?_ ?_ ⟨by simp, by simp⟩ (r' := .vs (ents x)) (outs' := [[[V L, .int .i64 y]]]) rfl ?_ ?_
  · simp [trL, tr, pos, Sc.row]
  · rw [e]; simp [insA, AH.look, trB, pureB, D.isPur]
  · simp [backB, trB, pureB, D.isPur]
  · rw [e]; exact hk
end TR

/- The row of TreeDepth. -/
open Go Go.Proofs Go.Proofs.YtjfgnmicjhjofaaGreat Go.AH Go.ChangeShapes Go.WideShapes Go.ChangeAt Go.RowKit
set_option linter.unusedVariables false
namespace TR
theorem own : ownKnob Tryz.prog.godebug = none := by kernel_rfl
theorem laidOut : laidOutB Tryz.prog = true := by kernel_rfl
theorem uq4 : Tryz.prog.underlying 4 = some .bool := by kernel_rfl
theorem uq5 : Tryz.prog.underlying 5 = some (.int .u8) := by kernel_rfl
theorem uq22 : Tryz.prog.underlying 22 = some (.slice 3) := by kernel_rfl
theorem fq3 : flatI Tryz.prog 5 3 = some 1 := by kernel_rfl
theorem cq3 : Tryz.prog.cellsOf 3 = 1 := by kernel_rfl
theorem ones_rows : ∀ (rows : List (List Int)), (∀ r, r ∈ rows → r.length = 1) → ∃ L : List Int, (rows.map fun r => r.map (D.int .i64)) = ints L
  | [], _ => ⟨[], rfl⟩
  | r :: rs, h => by
    obtain ⟨L, h2⟩ := ones_rows rs (fun s hs => h s (by simp [hs]))
    have := h r (by simp)
    match r, this with
    | [a], _ => exact ⟨a :: L, by simp only [List.map_cons, h2]; rfl⟩
/-- A list of numbers that is handed in. -/
theorem in_ints {H : Type} {enc : TypeId × Value → H} {w : World} {spare : Nat → Bool} {held : Bool} {m : Nat} {v : Value} {x : DataW H × List MemPlace} (h : DataW.trod enc Tryz.prog w 0 spare held m 22 [v] = some x) : ∃ L : List Int, RelE (fun _ => True) (fun _ => none) w (V L) v := by
  obtain ⟨rows, _, h2, h3⟩ := slice_trod 5 uq22 fq3 cq3 (by decide) h
  obtain ⟨L, hL⟩ := ones_rows rows h2
  rw [hL] at h3
  exact ⟨L, h3⟩
theorem in_u8 {H : Type} {enc : TypeId × Value → H} {w : World} {spare : Nat → Bool} {held : Bool} {m : Nat} {v : Value} {x : DataW H × List MemPlace} (h : DataW.trod enc Tryz.prog w 0 spare held m 5 [v] = some x) : ∃ n : Nat, n ≤ 255 ∧ v = .int .u8 (n : Int) := by
  obtain ⟨n, h1, _, h3⟩ := DataW.trod_int uq5 h
  simp only [List.cons.injEq, and_true] at h1
  obtain ⟨h4, h5⟩ : IntKind.min .u8 ≤ n ∧ n ≤ IntKind.max .u8 := by simpa [Lit.wf] using h3
  have h4' : (0 : Int) ≤ n := h4
  have h5' : n ≤ (255 : Int) := h5
  exact ⟨n.toNat, by omega, by rw [h1, Int.toNat_of_nonneg h4']⟩
end TR

open Go Go.Proofs Go.AH
attribute [go_sem] Tryz.ntmps4 Tryz.results4 Tryz.ntmps17 Tryz.results17 Tryz.ntmps18 Tryz.results18 Tryz.ntmps21 Tryz.results21 Tryz.ntmps44 Tryz.results44 Tryz.ntmps48 Tryz.results48 Tryz.ntmps89 Tryz.results89
/- The reference's Same; Entries. -/
open Go Go.Proofs Go.AH
set_option linter.unusedSimpArgs false
set_option linter.unusedVariables false
namespace TR
set_option maxHeartbeats 2000000 in
set_option maxRecDepth 20000 in
theorem cSI (a : List Int) (hl : a.length ≤ 4294967296) : FC Tryz.prog 89 [V a, V a] [] (.bool true) [] := by
  refine FC.of_run mix Tryz.func89 rfl rfl (by simp [Tryz.ntmps89]) ?_
  repeat' first
    | simp (maxSteps := 1000000) only [go_sem, Int.reduceLT, Int.reduceLE, Int.reduceToNat, Int.reduceEq, Nat.reduceMul, ↓reduceIte, Nat.reduceLT, Nat.reduceLeDiff, Nat.reduceEqDiff, Nat.reduceAdd, Nat.reduceSub, Nat.reduceBEq, reduceCtorEq, *, eq_self]
    | contradiction
    | refine wntB_decT (fun _ => ?_) (fun _ => ?_)
    | refine wntB_decF (fun _ => ?_) (fun _ => ?_)
    | refine cndB_dec (fun _ => ?_) (fun _ => ?_)
    | refine drawnB_ok (by kernel_rfl) ?_
    | ((first | refine Fin.q ?_ ?_ | refine Fin.qn ?_ ?_) <;> ((try simp (maxSteps := 1000000) only [go_sem, Int.reduceLT, Int.reduceLE, Int.reduceToNat, Int.reduceEq, Nat.reduceMul, ↓reduceIte, Nat.reduceLT, Nat.reduceLeDiff, Nat.reduceEqDiff, Nat.reduceAdd, Nat.reduceSub, Nat.reduceBEq, reduceCtorEq, *, eq_self]) <;> (skip)))
  refine AW.loopx (σ := Nat) mix (fun i => ⟨26, [(5, .int .i64 i), (1, V a), (0, V a)], []⟩) (fun i => i ≤ a.length) (fun i => a.length - i) 0 (Nat.zero_le _) (Conv.mk ?_ ?_ ?_ ?_ ?_) ?_
  iterate 5 (· (simp (maxSteps := 1000000) only [go_sem, Int.reduceLT, Int.reduceLE, Int.reduceToNat, Int.reduceEq, Nat.reduceMul, ↓reduceIte, Nat.reduceLT, Nat.reduceLeDiff, Nat.reduceEqDiff, Nat.reduceAdd, Nat.reduceSub, Nat.reduceBEq, reduceCtorEq]) <;> (first | rfl | (simp [ints]; done) | (simp [*]; done) | ((repeat' (first | rfl | apply And.intro)); done)))
  intro i hi
  have hv := wrap1 (i := i) (by omega)
  by_cases h : i < a.length
  · have hx := ints_get h
    repeat' first
      | (refine ⟨i + 1, ?_, ?_, Conv.mk ?_ ?_ ?_ ?_ ?_⟩; (· (first | omega | (simp only; omega) | (simp only [List.length_nil, List.length_cons]; omega))); (· (omega)); (all_goals simp (maxSteps := 1000000) only [go_sem, Int.reduceLT, Int.reduceLE, Int.reduceToNat, Int.reduceEq, Nat.reduceMul, ↓reduceIte, Nat.reduceLT, Nat.reduceLeDiff, Nat.reduceEqDiff, Nat.reduceAdd, Nat.reduceSub, Nat.reduceBEq, reduceCtorEq, *, eq_self]); done)
      | simp (maxSteps := 1000000) only [go_sem, Int.reduceLT, Int.reduceLE, Int.reduceToNat, Int.reduceEq, Nat.reduceMul, ↓reduceIte, Nat.reduceLT, Nat.reduceLeDiff, Nat.reduceEqDiff, Nat.reduceAdd, Nat.reduceSub, Nat.reduceBEq, reduceCtorEq, *, eq_self]
      | contradiction
      | refine wntB_decT (fun _ => ?_) (fun _ => ?_)
      | refine wntB_decF (fun _ => ?_) (fun _ => ?_)
      | refine cndB_dec (fun _ => ?_) (fun _ => ?_)
      | refine drawnB_ok (by kernel_rfl) ?_
      | ((first | refine Fin.q ?_ ?_ | refine Fin.qn ?_ ?_) <;> ((try simp (maxSteps := 1000000) only [go_sem, Int.reduceLT, Int.reduceLE, Int.reduceToNat, Int.reduceEq, Nat.reduceMul, ↓reduceIte, Nat.reduceLT, Nat.reduceLeDiff, Nat.reduceEqDiff, Nat.reduceAdd, Nat.reduceSub, Nat.reduceBEq, reduceCtorEq, *, eq_self]) <;> (skip)))
  · repeat' first
      | simp (maxSteps := 1000000) only [go_sem, Int.reduceLT, Int.reduceLE, Int.reduceToNat, Int.reduceEq, Nat.reduceMul, ↓reduceIte, Nat.reduceLT, Nat.reduceLeDiff, Nat.reduceEqDiff, Nat.reduceAdd, Nat.reduceSub, Nat.reduceBEq, reduceCtorEq, *, eq_self]
      | contradiction
      | refine wntB_decT (fun _ => ?_) (fun _ => ?_)
      | refine wntB_decF (fun _ => ?_) (fun _ => ?_)
      | refine cndB_dec (fun _ => ?_) (fun _ => ?_)
      | refine drawnB_ok (by kernel_rfl) ?_
      | ((first | refine Fin.q ?_ ?_ | refine Fin.qn ?_ ?_) <;> ((try simp (maxSteps := 1000000) only [go_sem, Int.reduceLT, Int.reduceLE, Int.reduceToNat, Int.reduceEq, Nat.reduceMul, ↓reduceIte, Nat.reduceLT, Nat.reduceLeDiff, Nat.reduceEqDiff, Nat.reduceAdd, Nat.reduceSub, Nat.reduceBEq, reduceCtorEq, *, eq_self]) <;> (skip)))
set_option maxRecDepth 20000 in
theorem kcSI {a : List Int} {H : Heap} {slot : Nat} {K : D → List (Nat × Blk) → List (Nat × Blk) → Prop} (hK : K (.bool true) [] []) (hl : a.length ≤ 4294967296 := by first | assumption | omega) : @callB ⟨callX Tryz.prog⟩ 89 [V a, V a] H slot ⟨K⟩ := by
  have he0 : rdOf H (D.idsL [V a, V a]) = [] := by simp (maxSteps := 1000000) only [go_sem, Int.reduceLT, Int.reduceLE, Int.reduceToNat, Int.reduceEq, Nat.reduceMul, ↓reduceIte, Nat.reduceLT, Nat.reduceLeDiff, Nat.reduceEqDiff, Nat.reduceAdd, Nat.reduceSub, Nat.reduceBEq, reduceCtorEq]
  refine call0 false (cSI a hl) ?_ ?_ (fun h => nomatch h) (by rw [he0]; exact hK)
  iterate 2 (· simp (maxSteps := 1000000) only [go_sem, Int.reduceLT, Int.reduceLE, Int.reduceToNat, Int.reduceEq, Nat.reduceMul, ↓reduceIte, Nat.reduceLT, Nat.reduceLeDiff, Nat.reduceEqDiff, Nat.reduceAdd, Nat.reduceSub, Nat.reduceBEq, reduceCtorEq])
set_option maxHeartbeats 2000000 in
set_option maxRecDepth 20000 in
theorem cSW (w : Wd) (h : w.lens) : FC Tryz.prog 44 [.agg w.row, .agg w.row] [] (.bool true) [] := by
  refine FC.of_run mix Tryz.func44 rfl rfl (by simp [Tryz.ntmps44]) ?_
  obtain ⟨h1, h2⟩ := h
  repeat' first
    | simp (maxSteps := 1000000) only [go_sem, Int.reduceLT, Int.reduceLE, Int.reduceToNat, Int.reduceEq, Nat.reduceMul, ↓reduceIte, Nat.reduceLT, Nat.reduceLeDiff, Nat.reduceEqDiff, Nat.reduceAdd, Nat.reduceSub, Nat.reduceBEq, reduceCtorEq, *]
    | contradiction
    | refine wntB_decT (fun _ => ?_) (fun _ => ?_)
    | refine wntB_decF (fun _ => ?_) (fun _ => ?_)
    | refine cndB_dec (fun _ => ?_) (fun _ => ?_)
    | refine drawnB_ok (by kernel_rfl) ?_
    | refine kcSI ?_
    | ((first | refine Fin.q ?_ ?_ | refine Fin.qn ?_ ?_) <;> ((try simp (maxSteps := 1000000) only [go_sem, Int.reduceLT, Int.reduceLE, Int.reduceToNat, Int.reduceEq, Nat.reduceMul, ↓reduceIte, Nat.reduceLT, Nat.reduceLeDiff, Nat.reduceEqDiff, Nat.reduceAdd, Nat.reduceSub, Nat.reduceBEq, reduceCtorEq, *]) <;> (skip)))
set_option maxRecDepth 20000 in
theorem kcSW {w : Wd} {H : Heap} {slot : Nat} {K : D → List (Nat × Blk) → List (Nat × Blk) → Prop} (hK : K (.bool true) [] []) (h : w.lens := by first | assumption | omega) : @callB ⟨callX Tryz.prog⟩ 44 [.agg w.row, .agg w.row] H slot ⟨K⟩ := by
  have he0 : rdOf H (D.idsL [.agg w.row, .agg w.row]) = [] := by simp (maxSteps := 1000000) only [go_sem, Int.reduceLT, Int.reduceLE, Int.reduceToNat, Int.reduceEq, Nat.reduceMul, ↓reduceIte, Nat.reduceLT, Nat.reduceLeDiff, Nat.reduceEqDiff, Nat.reduceAdd, Nat.reduceSub, Nat.reduceBEq, reduceCtorEq]
  refine call0 false (cSW w h) ?_ ?_ (fun h => nomatch h) (by rw [he0]; exact hK)
  iterate 2 (· simp (maxSteps := 1000000) only [go_sem, Int.reduceLT, Int.reduceLE, Int.reduceToNat, Int.reduceEq, Nat.reduceMul, ↓reduceIte, Nat.reduceLT, Nat.reduceLeDiff, Nat.reduceEqDiff, Nat.reduceAdd, Nat.reduceSub, Nat.reduceBEq, reduceCtorEq])
set_option maxHeartbeats 2000000 in
set_option maxRecDepth 20000 in
theorem cSame (l : List En) (hl : l.length ≤ 1000000) (hw : ∀ e, e ∈ l → e.lens) : FC Tryz.prog 18 [.vs (ents l), .vs (ents l)] [] (.bool true) [] := by
  refine FC.of_run mix Tryz.func18 rfl rfl (by simp [Tryz.ntmps18]) ?_
  repeat' first
    | simp (maxSteps := 1000000) only [go_sem, Int.reduceLT, Int.reduceLE, Int.reduceToNat, Int.reduceEq, Nat.reduceMul, ↓reduceIte, Nat.reduceLT, Nat.reduceLeDiff, Nat.reduceEqDiff, Nat.reduceAdd, Nat.reduceSub, Nat.reduceBEq, reduceCtorEq, *, eq_self]
    | contradiction
    | refine wntB_decT (fun _ => ?_) (fun _ => ?_)
    | refine wntB_decF (fun _ => ?_) (fun _ => ?_)
    | refine cndB_dec (fun _ => ?_) (fun _ => ?_)
    | refine drawnB_ok (by kernel_rfl) ?_
    | ((first | refine Fin.q ?_ ?_ | refine Fin.qn ?_ ?_) <;> ((try simp (maxSteps := 1000000) only [go_sem, Int.reduceLT, Int.reduceLE, Int.reduceToNat, Int.reduceEq, Nat.reduceMul, ↓reduceIte, Nat.reduceLT, Nat.reduceLeDiff, Nat.reduceEqDiff, Nat.reduceAdd, Nat.reduceSub, Nat.reduceBEq, reduceCtorEq, *, eq_self]) <;> (skip)))
  refine AW.loopx (σ := Nat) mix (fun i => ⟨42, [(5, .int .i64 i), (1, .vs (ents l)), (0, .vs (ents l))], []⟩) (fun i => i ≤ l.length) (fun i => l.length - i) 0 (Nat.zero_le _) (Conv.mk ?_ ?_ ?_ ?_ ?_) ?_
  iterate 5 (· (simp (maxSteps := 1000000) only [go_sem, Int.reduceLT, Int.reduceLE, Int.reduceToNat, Int.reduceEq, Nat.reduceMul, ↓reduceIte, Nat.reduceLT, Nat.reduceLeDiff, Nat.reduceEqDiff, Nat.reduceAdd, Nat.reduceSub, Nat.reduceBEq, reduceCtorEq]) <;> (first | rfl | (simp [ints]; done) | (simp [*]; done) | ((repeat' (first | rfl | apply And.intro)); done)))
  intro i hi
  have hv := wrap1 (i := i) (by omega)
  by_cases h : i < l.length
  · have hx := ents_get h
    have e1 : (l.getD i default).w.lens := hw _ (getD_mem' h)
    clear hw
    repeat' first
      | (refine ⟨i + 1, ?_, ?_, Conv.mk ?_ ?_ ?_ ?_ ?_⟩; (· (first | omega | (simp only; omega) | (simp only [List.length_nil, List.length_cons]; omega))); (· (omega)); (all_goals simp (maxSteps := 1000000) only [go_sem, Int.reduceLT, Int.reduceLE, Int.reduceToNat, Int.reduceEq, Nat.reduceMul, ↓reduceIte, Nat.reduceLT, Nat.reduceLeDiff, Nat.reduceEqDiff, Nat.reduceAdd, Nat.reduceSub, Nat.reduceBEq, reduceCtorEq, *, eq_self, En.row]); done)
      | simp (maxSteps := 1000000) only [go_sem, Int.reduceLT, Int.reduceLE, Int.reduceToNat, Int.reduceEq, Nat.reduceMul, ↓reduceIte, Nat.reduceLT, Nat.reduceLeDiff, Nat.reduceEqDiff, Nat.reduceAdd, Nat.reduceSub, Nat.reduceBEq, reduceCtorEq, *, eq_self, En.row]
      | contradiction
      | refine wntB_decT (fun _ => ?_) (fun _ => ?_)
      | refine wntB_decF (fun _ => ?_) (fun _ => ?_)
      | refine cndB_dec (fun _ => ?_) (fun _ => ?_)
      | refine drawnB_ok (by kernel_rfl) ?_
      | refine kcSW ?_
      | ((first | refine Fin.q ?_ ?_ | refine Fin.qn ?_ ?_) <;> ((try simp (maxSteps := 1000000) only [go_sem, Int.reduceLT, Int.reduceLE, Int.reduceToNat, Int.reduceEq, Nat.reduceMul, ↓reduceIte, Nat.reduceLT, Nat.reduceLeDiff, Nat.reduceEqDiff, Nat.reduceAdd, Nat.reduceSub, Nat.reduceBEq, reduceCtorEq, *, eq_self, En.row]) <;> (skip)))
  · repeat' first
      | simp (maxSteps := 1000000) only [go_sem, Int.reduceLT, Int.reduceLE, Int.reduceToNat, Int.reduceEq, Nat.reduceMul, ↓reduceIte, Nat.reduceLT, Nat.reduceLeDiff, Nat.reduceEqDiff, Nat.reduceAdd, Nat.reduceSub, Nat.reduceBEq, reduceCtorEq, *, eq_self]
      | contradiction
      | refine wntB_decT (fun _ => ?_) (fun _ => ?_)
      | refine wntB_decF (fun _ => ?_) (fun _ => ?_)
      | refine cndB_dec (fun _ => ?_) (fun _ => ?_)
      | refine drawnB_ok (by kernel_rfl) ?_
      | ((first | refine Fin.q ?_ ?_ | refine Fin.qn ?_ ?_) <;> ((try simp (maxSteps := 1000000) only [go_sem, Int.reduceLT, Int.reduceLE, Int.reduceToNat, Int.reduceEq, Nat.reduceMul, ↓reduceIte, Nat.reduceLT, Nat.reduceLeDiff, Nat.reduceEqDiff, Nat.reduceAdd, Nat.reduceSub, Nat.reduceBEq, reduceCtorEq, *, eq_self]) <;> (skip)))
end TR

/- Entries, Walk, Leaf. -/
open Go Go.Proofs Go.AH
set_option linter.unusedSimpArgs false
set_option linter.unusedVariables false
namespace TR
set_option maxHeartbeats 2000000 in
set_option maxRecDepth 20000 in
theorem cEntries (s : Sc) (c : Int) (l : List En) (h : ofE s c l = 0) (h64 : l.length ≤ 64) : FC Tryz.prog 17 [.agg (ofT s c l).row] [] (.vs (ents l)) [] := by
  obtain ⟨h1, h2, h3, h4⟩ := ofT_ok h
  have hf := flatE_growF s c 32 0 (rootW s) l (sorted_ord (emE_0.1 h1).1 h3)
  have hgl := growF_len s c (emE_0.1 h1).2.1 32 0 (rootW s) l
  have kC : ∀ {H : Heap} {slot : Nat} {K : D → List (Nat × Blk) → List (Nat × Blk) → Prop}, K (.int .i64 0) [] [] → @callB ⟨callX Tryz.prog⟩ 33 [.agg (ofT s c l).row] H slot ⟨K⟩ := fun hK => kChk h h64 hK
  rw [h4] at kC ⊢
  generalize growF s c 32 0 (rootW s) l = ns at *
  have g2 : ns.length ≤ 1000000 := by omega
  have g3 : (flatE ns).length ≤ 1000000 := by rw [hf]; omega
  have g4 : l.length ≤ 4294967296 := by omega
  have hw : ∀ i, i < l.length → (l.getD i default).lens := fun i hi => ok_lens (h3 i hi).1
  clear hgl h4 h h3
  refine FC.of_run mix Tryz.func17 rfl rfl (by simp [Tryz.ntmps17]) ?_
  repeat' first
    | simp (maxSteps := 1000000) only [go_sem, Int.reduceLT, Int.reduceLE, Int.reduceToNat, Int.reduceEq, Nat.reduceMul, ↓reduceIte, Nat.reduceLT, Nat.reduceLeDiff, Nat.reduceEqDiff, Nat.reduceAdd, Nat.reduceSub, Nat.reduceBEq, reduceCtorEq, *]
    | contradiction
    | refine wntB_decT (fun _ => ?_) (fun _ => ?_)
    | refine wntB_decF (fun _ => ?_) (fun _ => ?_)
    | refine cndB_dec (fun _ => ?_) (fun _ => ?_)
    | refine drawnB_ok (by kernel_rfl) ?_
    | refine kC ?_
    | refine (kcEntr (t := ⟨s, c, ns⟩)) ?_
    | refine kceCopy ?_
    | ((first | refine Fin.q ?_ ?_ | refine Fin.qn ?_ ?_) <;> ((try simp (maxSteps := 1000000) only [go_sem, Int.reduceLT, Int.reduceLE, Int.reduceToNat, Int.reduceEq, Nat.reduceMul, ↓reduceIte, Nat.reduceLT, Nat.reduceLeDiff, Nat.reduceEqDiff, Nat.reduceAdd, Nat.reduceSub, Nat.reduceBEq, reduceCtorEq, *]) <;> (skip)))
theorem kEntries {s : Sc} {c : Int} {l : List En} {H : Heap} {slot : Nat} {K : D → List (Nat × Blk) → List (Nat × Blk) → Prop} (h : ofE s c l = 0) (h64 : l.length ≤ 64) (hK : K (.vs (ents l)) [] []) : @callB ⟨callX Tryz.prog⟩ 17 [.agg (ofT s c l).row] H slot ⟨K⟩ := call0 false (cEntries s c l h h64) rfl rfl (fun h => nomatch h) hK
/-- The leaf that a word ends at. -/
def pathF (s : Sc) (c : Int) (x : Wd) : Nat → Nat → Wd → List En → Nat
  | 0, a, _, _ => a
  | d + 1, a, w, l => if (l.length : Int) ≤ c ∨ fewestF w.b w.b.length < 0 then a else
      if (w.with (fewestF w.b w.b.length).toNat 0).has s x then
        pathF s c x d (a + 1) (w.with (fewestF w.b w.b.length).toNat 0) (l.filter fun e => decide ((w.with (fewestF w.b w.b.length).toNat 0).has s e.w))
      else pathF s c x d (a + 1 + (growF s c d (a + 1) (w.with (fewestF w.b w.b.length).toNat 0) (l.filter fun e => decide ((w.with (fewestF w.b w.b.length).toNat 0).has s e.w))).length) (w.with (fewestF w.b w.b.length).toNat 1) (l.filter fun e => !decide ((w.with (fewestF w.b w.b.length).toNat 0).has s e.w))
theorem growF_head (s : Sc) (c : Int) (d a : Nat) (w : Wd) (l : List En) : ∃ n G, growF s c d a w l = n :: G ∧ n.w = w := by
  cases d with
  | zero => exact ⟨_, _, rfl, rfl⟩
  | succ d =>
    unfold growF
    split
    · exact ⟨_, _, rfl, rfl⟩
    · exact ⟨_, _, rfl, rfl⟩
def WkI (s : Sc) (c : Int) (x : Wd) (ns : List Nd) (R : Nat) (p : Nat × Nat × Wd × List En) : Prop := p.1 ≤ 32 ∧ Seg ns p.2.1 (growF s c p.1 p.2.1 p.2.2.1 p.2.2.2) ∧ pathF s c x p.1 p.2.1 p.2.2.1 p.2.2.2 = R
set_option maxHeartbeats 2000000 in
set_option maxRecDepth 20000 in
theorem cWalk (s : Sc) (c cc : Int) (ns : List Nd) (x : Wd) (l : List En) (hs : Seg ns 0 (growF s c 32 0 (rootW s) l)) : FC Tryz.prog 48 [.agg (⟨s, cc, ns⟩ : Tr).row, .agg x.row] [] (.int .i64 (pathF s c x 32 0 (rootW s) l : Int)) [] := by
  obtain ⟨R, hR⟩ : ∃ R, pathF s c x 32 0 (rootW s) l = R := ⟨_, rfl⟩
  rw [hR]
  refine FC.of_run mix Tryz.func48 rfl rfl (by simp [Tryz.ntmps48]) ?_
  repeat' first
    | simp (maxSteps := 1000000) only [go_sem, Int.reduceLT, Int.reduceLE, Int.reduceToNat, Int.reduceEq, Nat.reduceMul, ↓reduceIte, Nat.reduceLT, Nat.reduceLeDiff, Nat.reduceEqDiff, Nat.reduceAdd, Nat.reduceSub, Nat.reduceBEq, reduceCtorEq, *]
    | contradiction
    | refine wntB_decT (fun _ => ?_) (fun _ => ?_)
    | refine wntB_decF (fun _ => ?_) (fun _ => ?_)
    | refine cndB_dec (fun _ => ?_) (fun _ => ?_)
    | refine drawnB_ok (by kernel_rfl) ?_
    | ((first | refine Fin.q ?_ ?_ | refine Fin.qn ?_ ?_) <;> ((try simp (maxSteps := 1000000) only [go_sem, Int.reduceLT, Int.reduceLE, Int.reduceToNat, Int.reduceEq, Nat.reduceMul, ↓reduceIte, Nat.reduceLT, Nat.reduceLeDiff, Nat.reduceEqDiff, Nat.reduceAdd, Nat.reduceSub, Nat.reduceBEq, reduceCtorEq, *]) <;> (skip)))
  refine AW.loopx (σ := Nat × Nat × Wd × List En) mix (fun p => ⟨35, [(5, .int .i64 (p.2.1 : Int)), (4, .int .i64 0), (3, .ptr 1 1 0 0), (2, .ptr 0 1 0 0)], [some [(⟨s, cc, ns⟩ : Tr).row], some [x.row]]⟩) (fun p => WkI s c x ns R p) (fun p => p.1) (32, 0, rootW s, l) ⟨Nat.le_refl _, hs, hR⟩ (Conv.mk ?_ ?_ ?_ ?_ ?_) ?_
  iterate 5 (· (simp (maxSteps := 1000000) only [go_sem, Int.reduceLT, Int.reduceLE, Int.reduceToNat, Int.reduceEq, Nat.reduceMul, ↓reduceIte, Nat.reduceLT, Nat.reduceLeDiff, Nat.reduceEqDiff, Nat.reduceAdd, Nat.reduceSub, Nat.reduceBEq, reduceCtorEq]) <;> (first | rfl | (simp [ints]; done) | (simp [*]; done) | ((repeat' (first | rfl | apply And.intro)); done)))
  clear hs hR l
  intro ⟨d, a, w, l⟩ ⟨hd, hs, hR⟩
  simp only at hd hs hR
  have leaf : ∀ {e : Nd}, Seg ns a [e] → e.left = -1 → ∃ e : Nd, (nods ns)[a]? = some e.row ∧ e.left = -1 := by
    intro e h1 h2
    obtain ⟨h3, h4⟩ := seg_one h1
    exact ⟨e, by rw [nods_get h3, h4], h2⟩
  by_cases h : d = 0 ∨ (l.length : Int) ≤ c ∨ fewestF w.b w.b.length < 0
  · have hl : growF s c d a w l = [⟨w, 0, -1, -1, l⟩] ∧ pathF s c x d a w l = a := by
      rcases d with _ | d
      · exact ⟨rfl, rfl⟩
      · have h' := h.resolve_left (by omega)
        exact ⟨by rw [growF, if_pos h'], by rw [pathF, if_pos h']⟩
    rw [hl.1] at hs
    rw [hl.2] at hR
    obtain ⟨e, he1, he2⟩ := leaf hs rfl
    subst hR
    clear hs hd leaf h hl
    repeat' first
      | simp (maxSteps := 1000000) only [go_sem, Int.reduceLT, Int.reduceLE, Int.reduceToNat, Int.reduceEq, Nat.reduceMul, ↓reduceIte, Nat.reduceLT, Nat.reduceLeDiff, Nat.reduceEqDiff, Nat.reduceAdd, Nat.reduceSub, Nat.reduceBEq, reduceCtorEq, *, nods_len, Nd.row]
      | contradiction
      | refine wntB_decT (fun _ => ?_) (fun _ => ?_)
      | refine wntB_decF (fun _ => ?_) (fun _ => ?_)
      | refine cndB_dec (fun _ => ?_) (fun _ => ?_)
      | refine drawnB_ok (by kernel_rfl) ?_
      | ((first | refine Fin.q ?_ ?_ | refine Fin.qn ?_ ?_) <;> ((try simp (maxSteps := 1000000) only [go_sem, Int.reduceLT, Int.reduceLE, Int.reduceToNat, Int.reduceEq, Nat.reduceMul, ↓reduceIte, Nat.reduceLT, Nat.reduceLeDiff, Nat.reduceEqDiff, Nat.reduceAdd, Nat.reduceSub, Nat.reduceBEq, reduceCtorEq, *, nods_len, Nd.row]) <;> (skip)))
  · obtain ⟨h0, h1⟩ := not_or.1 h
    obtain ⟨d, rfl⟩ : ∃ d', d = d' + 1 := ⟨d - 1, by omega⟩
    obtain ⟨k1, k2⟩ := not_or.1 h1
    obtain ⟨p, hp⟩ : ∃ p : Nat, fewestF w.b w.b.length = p := ⟨(fewestF w.b w.b.length).toNat, by omega⟩
    rw [growF_split k1 hp] at hs
    rw [pathF, if_neg h1, hp, Int.toNat_natCast] at hR
    obtain ⟨s1, s2, s3, s4⟩ := seg_cons hs
    obtain ⟨n1, G1, q1, q2⟩ := growF_head s c d (a + 1) (w.with p 0) (l.filter fun e => decide ((w.with p 0).has s e.w))
    have s5 := s3
    rw [q1] at s5
    have s6 := seg_cons (L := G1) (R := []) (by simpa using s5)
    have hg := nods_get s1
    rw [s2] at hg
    have hg1 := nods_get s6.1
    rw [s6.2.1] at hg1
    have hle : (0 : Int) ≤ ((a + 1 : Nat) : Int) := by omega
    have hle' : (((a + 1 : Nat) : Int) ≥ 0) = True := by simp only [eq_iff_iff, iff_true]; omega
    have hd' : d ≤ 32 := by omega
    have hdd : d < d + 1 := by omega
    clear leaf h h1 s5 s6 hs k1 k2 hp s1 s2 hd
    by_cases hx : (w.with p 0).has s x
    · rw [if_pos hx] at hR
      have hx2 : n1.w.has s x := by rw [q2]; exact hx
      have hnx : WkI s c x ns R (d, a + 1, w.with p 0, l.filter fun e => decide ((w.with p 0).has s e.w)) := ⟨hd', s3, hR⟩
      clear s3 s4 hR q1 q2
      repeat' first
        | (refine ⟨(d, a + 1, w.with p 0, l.filter fun e => decide ((w.with p 0).has s e.w)), ?_, ?_, Conv.mk ?_ ?_ ?_ ?_ ?_⟩; (· (first | omega | (simp only; omega) | (simp only [List.length_nil, List.length_cons]; omega))); (· (exact hnx)); (all_goals simp (maxSteps := 1000000) only [go_sem, Int.reduceLT, Int.reduceLE, Int.reduceToNat, Int.reduceEq, Nat.reduceMul, ↓reduceIte, Nat.reduceLT, Nat.reduceLeDiff, Nat.reduceEqDiff, Nat.reduceAdd, Nat.reduceSub, Nat.reduceBEq, reduceCtorEq, *, nods_len, Nd.row]); done)
        | simp (maxSteps := 1000000) only [go_sem, Int.reduceLT, Int.reduceLE, Int.reduceToNat, Int.reduceEq, Nat.reduceMul, ↓reduceIte, Nat.reduceLT, Nat.reduceLeDiff, Nat.reduceEqDiff, Nat.reduceAdd, Nat.reduceSub, Nat.reduceBEq, reduceCtorEq, *, nods_len, Nd.row]
        | contradiction
        | refine wntB_decT (fun _ => ?_) (fun _ => ?_)
        | refine wntB_decF (fun _ => ?_) (fun _ => ?_)
        | refine cndB_dec (fun _ => ?_) (fun _ => ?_)
        | refine drawnB_ok (by kernel_rfl) ?_
        | refine (kcHas (w := n1.w)) ?_
        | ((first | refine Fin.q ?_ ?_ | refine Fin.qn ?_ ?_) <;> ((try simp (maxSteps := 1000000) only [go_sem, Int.reduceLT, Int.reduceLE, Int.reduceToNat, Int.reduceEq, Nat.reduceMul, ↓reduceIte, Nat.reduceLT, Nat.reduceLeDiff, Nat.reduceEqDiff, Nat.reduceAdd, Nat.reduceSub, Nat.reduceBEq, reduceCtorEq, *, nods_len, Nd.row]) <;> (skip)))
    · rw [if_neg hx] at hR
      have hx2 : ¬ n1.w.has s x := by rw [q2]; exact hx
      have hnx : WkI s c x ns R (d, a + 1 + (growF s c d (a + 1) (w.with p 0) (l.filter fun e => decide ((w.with p 0).has s e.w))).length, w.with p 1, l.filter fun e => !decide ((w.with p 0).has s e.w)) := ⟨hd', s4, hR⟩
      clear s3 s4 hR q1 q2
      generalize hA : a + 1 + (growF s c d (a + 1) (w.with p 0) (l.filter fun e => decide ((w.with p 0).has s e.w))).length = A at *
      clear hA
      repeat' first
        | (refine ⟨(d, A, w.with p 1, l.filter fun e => !decide ((w.with p 0).has s e.w)), ?_, ?_, Conv.mk ?_ ?_ ?_ ?_ ?_⟩; (· (first | omega | (simp only; omega) | (simp only [List.length_nil, List.length_cons]; omega))); (· (exact hnx)); (all_goals simp (maxSteps := 1000000) only [go_sem, Int.reduceLT, Int.reduceLE, Int.reduceToNat, Int.reduceEq, Nat.reduceMul, ↓reduceIte, Nat.reduceLT, Nat.reduceLeDiff, Nat.reduceEqDiff, Nat.reduceAdd, Nat.reduceSub, Nat.reduceBEq, reduceCtorEq, *, nods_len, Nd.row]); done)
        | simp (maxSteps := 1000000) only [go_sem, Int.reduceLT, Int.reduceLE, Int.reduceToNat, Int.reduceEq, Nat.reduceMul, ↓reduceIte, Nat.reduceLT, Nat.reduceLeDiff, Nat.reduceEqDiff, Nat.reduceAdd, Nat.reduceSub, Nat.reduceBEq, reduceCtorEq, *, nods_len, Nd.row]
        | contradiction
        | refine wntB_decT (fun _ => ?_) (fun _ => ?_)
        | refine wntB_decF (fun _ => ?_) (fun _ => ?_)
        | refine cndB_dec (fun _ => ?_) (fun _ => ?_)
        | refine drawnB_ok (by kernel_rfl) ?_
        | refine (kcHas (w := n1.w)) ?_
        | ((first | refine Fin.q ?_ ?_ | refine Fin.qn ?_ ?_) <;> ((try simp (maxSteps := 1000000) only [go_sem, Int.reduceLT, Int.reduceLE, Int.reduceToNat, Int.reduceEq, Nat.reduceMul, ↓reduceIte, Nat.reduceLT, Nat.reduceLeDiff, Nat.reduceEqDiff, Nat.reduceAdd, Nat.reduceSub, Nat.reduceBEq, reduceCtorEq, *, nods_len, Nd.row]) <;> (skip)))
end TR

/- What each node of a tree holds. -/
open Go Go.Proofs Go.AH
set_option linter.unusedSimpArgs false
set_option linter.unusedVariables false
namespace TR
theorem has_up {s : Sc} {w x : Wd} {k p : Nat} {b : Int} (hB : Bal s w k p) (hk : k < 4) (h0 : 0 ≤ b) (h1 : b ≤ 1) (h : (w.with p b).has s x) : w.has s x := by
  have lw := len8 hB.ok
  have hp := hB.hp
  have hps : p < w.s.length := by omega
  have bp := hB.hi p (Nat.le_refl _) hp
  have hbw : (w.with p b).b.getD p 0 = ((k + 1 : Nat) : Int) := by simp only [Wd.with, getD_set hp, if_true, bp]; omega
  have sw : (w.with p b).s.getD p 0 = 2 * w.s.getD p 0 + b := by simp only [Wd.with, getD_set hps, if_true]
  have hlen : (w.with p b).b.length = w.b.length := by simp [Wd.with]
  refine ⟨hB.ok, h.2.1, h.2.2.1, fun q hq => ?_⟩
  have hf := h.2.2.2 q (by omega)
  by_cases hqp : q = p
  · subst hqp
    unfold fits at hf ⊢
    rw [hbw, sw, show (4 - ((k + 1 : Nat) : Int)).toNat = 4 - (k + 1) by omega] at hf
    rw [bp, show (4 - (k : Int)).toNat = (4 - (k + 1)) + 1 by omega, Int.pow_succ, ← Int.ediv_ediv_of_nonneg (Int.le_of_lt (Int.pow_pos (by decide))), hf]
    omega
  · unfold fits at hf ⊢
    simp only [Wd.with, getD_set hp, getD_set hps, if_neg hqp] at hf
    exact hf
theorem has_excl {s : Sc} {w x : Wd} {k p : Nat} (hB : Bal s w k p) (hk : k < 4) (h : (w.with p 1).has s x) : ¬ (w.with p 0).has s x := fun g => by
  have lw := len8 hB.ok
  have hp := hB.hp
  have hps : p < w.s.length := by omega
  have hbw : ∀ b, (w.with p b).b.getD p 0 = w.b.getD p 0 + 1 := fun b => by simp only [Wd.with, getD_set hp, if_true]
  have sw : ∀ b, (w.with p b).s.getD p 0 = 2 * w.s.getD p 0 + b := fun b => by simp only [Wd.with, getD_set hps, if_true]
  have hlen : ∀ b, (w.with p b).b.length = w.b.length := fun b => by simp [Wd.with]
  have h1 := h.2.2.2 p (by rw [hlen]; exact hp)
  have h2 := g.2.2.2 p (by rw [hlen]; exact hp)
  unfold fits at h1 h2
  rw [hbw, sw] at h1 h2
  omega
theorem filter_left {s : Sc} {w : Wd} {k p : Nat} (hB : Bal s w k p) (hk : k < 4) (all : List En) : ((all.filter fun e => decide (w.has s e.w)).filter fun e => decide ((w.with p 0).has s e.w)) = all.filter fun e => decide ((w.with p 0).has s e.w) := by
  rw [List.filter_filter]
  apply List.filter_congr
  intro e _
  by_cases h : (w.with p 0).has s e.w
  · have := has_up hB hk (by decide) (by decide) h
    simp [h, this]
  · simp [h]
theorem filter_right {s : Sc} {w : Wd} {k p : Nat} (hB : Bal s w k p) (hk : k < 4) (all : List En) : ((all.filter fun e => decide (w.has s e.w)).filter fun e => !decide ((w.with p 0).has s e.w)) = all.filter fun e => decide ((w.with p 1).has s e.w) := by
  rw [List.filter_filter]
  apply List.filter_congr
  intro e _
  by_cases h : (w.with p 1).has s e.w
  · have h1 := has_up hB hk (by decide) (by decide) h
    have h2 := has_excl hB hk h
    simp [h, h1, h2]
  · by_cases h1 : w.has s e.w
    · have h2 : (w.with p 0).has s e.w := by
        by_cases h3 : (w.with p 0).has s e.w
        · exact h3
        · exact absurd (has_right hB hk h1 h3) h
      simp [h, h2]
    · simp [h, h1]
/-- A node at a place, in a tree of some nodes. -/
def NodeOK (s : Sc) (c : Int) (all : List En) (i N : Nat) (n : Nd) : Prop := n.w.ok s ∧
  ((n.left = -1 ∧ n.es = all.filter (fun e => decide (n.w.has s e.w)) ∧ ((n.es.length : Int) ≤ c ∨ n.w.full)) ∨
   (n.es = [] ∧ c < ((all.filter (fun e => decide (n.w.has s e.w))).length : Int) ∧ n.left = ((i + 1 : Nat) : Int) ∧ ∃ r : Nat, n.right = (r : Int) ∧ i + 1 < r ∧ r < N))
theorem NodeOK.mono {s : Sc} {c : Int} {all : List En} {i N N' : Nat} {n : Nd} (h : NodeOK s c all i N n) (hN : N ≤ N') : NodeOK s c all i N' n := by
  obtain ⟨h0, h | ⟨h1, h2, h3, r, h4, h5, h6⟩⟩ := h
  · exact ⟨h0, .inl h⟩
  · exact ⟨h0, .inr ⟨h1, h2, h3, r, h4, h5, by omega⟩⟩
theorem bal_full4 {s : Sc} {w : Wd} {p : Nat} (hB : Bal s w 4 p) : w.full := fun q hq => by
  by_cases hq2 : p ≤ q
  · have := hB.hi q hq2 hq; simpa using this
  · have h1 := hB.lo q (by omega)
    have h2 := hB.ok.2.2.2 q hq
    unfold bitOK at h2
    omega
theorem node_ok (s : Sc) (c : Int) (all : List En) : ∀ (d a : Nat) (w : Wd) (k p : Nat) (l : List En), Bal s w k p → k ≤ 4 → w.b.length * (4 - k) ≤ d + p → l = all.filter (fun e => decide (w.has s e.w)) → ∀ (j : Nat) (n : Nd), (growF s c d a w l)[j]? = some n → NodeOK s c all (a + j) (a + (growF s c d a w l).length) n
  | d, a, w, k, p, l, hB, hk4, hd, hl, j, n, hn => by
    by_cases hk : k = 4
    · subst hk
      have hfull := bal_full4 hB
      have hf : fewestF w.b w.b.length < 0 := by rw [bal_full hfull _ (Nat.le_refl _)]; decide
      have hg : growF s c d a w l = [⟨w, 0, -1, -1, l⟩] := by
        cases d with
        | zero => rfl
        | succ d => rw [growF, if_pos (.inr hf)]
      rw [hg] at hn
      cases j with
      | zero =>
        simp at hn; subst hn
        exact ⟨hB.ok, .inl ⟨rfl, hl, .inr hfull⟩⟩
      | succ j => simp at hn
    · have hk' : k < 4 := by omega
      have hp := hB.hp
      have hf : fewestF w.b w.b.length = (p : Int) := by
        rw [bal_fewest hk' hB.lo hB.hi _ (Nat.le_refl _), if_pos hp]
      have hlen : ∀ b, (w.with p b).b.length = w.b.length := fun b => by simp [Wd.with]
      have hmul : w.b.length * (4 - k) = w.b.length * (4 - (k + 1)) + w.b.length := by
        rw [show 4 - k = (4 - (k + 1)) + 1 by omega, Nat.mul_add, Nat.mul_one]
      cases d with
      | zero =>
        have : w.b.length ≤ w.b.length * (4 - k) := Nat.le_mul_of_pos_right _ (by omega)
        omega
      | succ d =>
        by_cases hL : (l.length : Int) ≤ c
        · rw [growF, if_pos (.inl hL)] at hn
          cases j with
          | zero =>
            simp at hn; subst hn
            exact ⟨hB.ok, .inl ⟨rfl, hl, .inl hL⟩⟩
          | succ j => simp at hn
        · have rcs : ∀ (b : Int) (a' : Nat) (l' : List En), 0 ≤ b → b ≤ 1 → l' = all.filter (fun e => decide ((w.with p b).has s e.w)) → ∀ (j : Nat) (n : Nd), (growF s c d a' (w.with p b) l')[j]? = some n → NodeOK s c all (a' + j) (a' + (growF s c d a' (w.with p b) l').length) n := by
            intro b a' l' h0 h1 hl' j n hn
            have := bal_with hB hk' h0 h1
            split at this
            · exact node_ok s c all d a' _ k (p + 1) l' this hk4 (by rw [hlen]; omega) hl' j n hn
            · exact node_ok s c all d a' _ (k + 1) 0 l' this (by omega) (by rw [hlen]; omega) hl' j n hn
          rw [growF_split hL hf] at hn ⊢
          have r0 := rcs 0 (a + 1) (l.filter fun e => decide ((w.with p 0).has s e.w)) (by decide) (by decide) (by rw [hl]; exact filter_left hB hk' all)
          have gl := growF_size s c d (a + 1) (w.with p 0) (l.filter fun e => decide ((w.with p 0).has s e.w))
          have gp := sizeF_pos s c d (w.with p 0) (l.filter fun e => decide ((w.with p 0).has s e.w))
          rw [← gl.1] at gp
          generalize growF s c d (a + 1) (w.with p 0) (l.filter fun e => decide ((w.with p 0).has s e.w)) = G0 at *
          have r1 := rcs 1 (a + 1 + G0.length) (l.filter fun e => !decide ((w.with p 0).has s e.w)) (by decide) (by decide) (by rw [hl]; exact filter_right hB hk' all)
          have gl1 := growF_size s c d (a + 1 + G0.length) (w.with p 1) (l.filter fun e => !decide ((w.with p 0).has s e.w))
          have gp1 := sizeF_pos s c d (w.with p 1) (l.filter fun e => !decide ((w.with p 0).has s e.w))
          rw [← gl1.1] at gp1
          generalize growF s c d (a + 1 + G0.length) (w.with p 1) (l.filter fun e => !decide ((w.with p 0).has s e.w)) = G1 at *
          simp only [List.length_cons, List.length_append]
          cases j with
          | zero =>
            simp at hn; subst hn
            refine ⟨hB.ok, .inr ⟨rfl, by simp only; rw [← hl]; omega, rfl, a + 1 + G0.length, rfl, by omega, by omega⟩⟩
          | succ j =>
            simp only [List.getElem?_cons_succ] at hn
            rw [List.getElem?_append] at hn
            split at hn
            · have := (r0 j n hn).mono (N' := a + (G0.length + G1.length + 1)) (by omega)
              rwa [show a + 1 + j = a + (j + 1) by omega] at this
            · rename_i hj
              have := (r1 (j - G0.length) n hn).mono (N' := a + (G0.length + G1.length + 1)) (by omega)
              rwa [show a + 1 + G0.length + (j - G0.length) = a + (j + 1) by omega] at this
theorem path_leaf (s : Sc) (c : Int) (x : En) : ∀ (d a : Nat) (w : Wd) (l : List En) (j : Nat) (n : Nd), (growF s c d a w l)[j]? = some n → x ∈ n.es → x ∈ l ∧ pathF s c x.w d a w l = a + j
  | 0, a, w, l, j, n, hn, hx => by
    cases j with
    | zero => simp [growF] at hn; subst hn; exact ⟨hx, rfl⟩
    | succ j => simp [growF] at hn
  | d + 1, a, w, l, j, n, hn, hx => by
    by_cases h : (l.length : Int) ≤ c ∨ fewestF w.b w.b.length < 0
    · rw [growF, if_pos h] at hn
      cases j with
      | zero => simp at hn; subst hn; exact ⟨hx, by rw [pathF, if_pos h]; rfl⟩
      | succ j => simp at hn
    · obtain ⟨k1, k2⟩ := not_or.1 h
      obtain ⟨p, hp⟩ : ∃ p : Nat, fewestF w.b w.b.length = p := ⟨(fewestF w.b w.b.length).toNat, by omega⟩
      rw [growF_split k1 hp] at hn
      rw [pathF, if_neg h, hp, Int.toNat_natCast]
      cases j with
      | zero => simp at hn; subst hn; simp at hx
      | succ j =>
        simp only [List.getElem?_cons_succ] at hn
        rw [List.getElem?_append] at hn
        split at hn
        · obtain ⟨h1, h2⟩ := path_leaf s c x d _ _ _ j n hn hx
          obtain ⟨h3, h4⟩ := List.mem_filter.1 h1
          refine ⟨h3, ?_⟩
          rw [if_pos (of_decide_eq_true h4), h2]
          omega
        · rename_i hj
          obtain ⟨h1, h2⟩ := path_leaf s c x d _ _ _ _ n hn hx
          obtain ⟨h3, h4⟩ := List.mem_filter.1 h1
          refine ⟨h3, ?_⟩
          rw [if_neg (by simpa using h4), h2]
          omega
end TR

/- Leaf; TreeBelongs. -/
open Go Go.Proofs Go.AH
set_option linter.unusedSimpArgs false
set_option linter.unusedVariables false
namespace TR
set_option maxHeartbeats 2000000 in
set_option maxRecDepth 20000 in
theorem cLeaf (s : Sc) (c : Int) (l : List En) (x : Wd) (h : ofE s c l = 0) (h64 : l.length ≤ 64) (hx : x.ok s ∧ x.full) : FC Tryz.prog 21 [.agg (ofT s c l).row, .agg x.row] [] (.tup [.int .i64 (pathF s c x 32 0 (rootW s) l : Int), .int .i64 0]) [] := by
  obtain ⟨h1, h2, h3, h4⟩ := ofT_ok h
  have kC : ∀ {H : Heap} {slot : Nat} {K : D → List (Nat × Blk) → List (Nat × Blk) → Prop}, K (.int .i64 0) [] [] → @callB ⟨callX Tryz.prog⟩ 33 [.agg (ofT s c l).row] H slot ⟨K⟩ := fun hK => kChk h h64 hK
  have hw := cWalk s c c (growF s c 32 0 (rootW s) l) x l ⟨by omega, fun k hk => by rw [Nat.zero_add]⟩
  rw [h4] at kC ⊢
  generalize growF s c 32 0 (rootW s) l = ns at *
  generalize pathF s c x 32 0 (rootW s) l = R at *
  have kW : ∀ {H : Heap} {slot : Nat} {K : D → List (Nat × Blk) → List (Nat × Blk) → Prop}, K (.int .i64 (R : Int)) [] [] → @callB ⟨callX Tryz.prog⟩ 48 [.agg (⟨s, c, ns⟩ : Tr).row, .agg x.row] H slot ⟨K⟩ := fun {H} {_} {_} hK => call0 false hw rfl rfl (fun h => nomatch h) (by
    have e : rdOf H (D.idsL [.agg (⟨s, c, ns⟩ : Tr).row, .agg x.row]) = [] := by simp [D.idsL, D.ids, rdOf, Tr.row, Wd.row]
    rw [e]; exact hK)
  obtain ⟨hx1, hx2⟩ := hx
  have hx3 : decide (x.ok s ∧ x.full) = true := decide_eq_true ⟨hx1, hx2⟩
  clear hw h4 h h3
  refine FC.of_run mix Tryz.func21 rfl rfl (by simp [Tryz.ntmps21]) ?_
  repeat' first
    | simp (maxSteps := 1000000) only [go_sem, Int.reduceLT, Int.reduceLE, Int.reduceToNat, Int.reduceEq, Nat.reduceMul, ↓reduceIte, Nat.reduceLT, Nat.reduceLeDiff, Nat.reduceEqDiff, Nat.reduceAdd, Nat.reduceSub, Nat.reduceBEq, reduceCtorEq, *]
    | contradiction
    | refine wntB_decT (fun _ => ?_) (fun _ => ?_)
    | refine wntB_decF (fun _ => ?_) (fun _ => ?_)
    | refine cndB_dec (fun _ => ?_) (fun _ => ?_)
    | refine drawnB_ok (by kernel_rfl) ?_
    | refine kC ?_
    | refine kcRFull ?_
    | refine kW ?_
    | ((first | refine Fin.q ?_ ?_ | refine Fin.qn ?_ ?_) <;> ((try simp (maxSteps := 1000000) only [go_sem, Int.reduceLT, Int.reduceLE, Int.reduceToNat, Int.reduceEq, Nat.reduceMul, ↓reduceIte, Nat.reduceLT, Nat.reduceLeDiff, Nat.reduceEqDiff, Nat.reduceAdd, Nat.reduceSub, Nat.reduceBEq, reduceCtorEq, *]) <;> (skip)))
theorem kLeaf {s : Sc} {c : Int} {l : List En} {x : Wd} {i : Nat} {H : Heap} {slot : Nat} {K : D → List (Nat × Blk) → List (Nat × Blk) → Prop} (h : ofE s c l = 0) (h64 : l.length ≤ 64) (hx : x.ok s ∧ x.full) (hi : pathF s c x 32 0 (rootW s) l = i) (hK : K (.tup [.int .i64 (i : Int), .int .i64 0]) [] []) : @callB ⟨callX Tryz.prog⟩ 21 [.agg (ofT s c l).row, .agg x.row] H slot ⟨K⟩ := by
  have hf := cLeaf s c l x h h64 hx
  rw [hi] at hf
  refine call0 false hf rfl rfl (fun h => nomatch h) ?_
  have e : rdOf H (D.idsL [.agg (ofT s c l).row, .agg x.row]) = [] := by simp [D.idsL, D.ids, rdOf, Tr.row, Wd.row]
  rw [e]; exact hK
def cnt (s : Sc) (w : Wd) (l : List En) : Nat := (l.filter fun e => decide (w.has s e.w)).length
theorem cnt_snoc (s : Sc) (w : Wd) {l : List En} {j : Nat} (h : j < l.length) : cnt s w (l.take (j + 1)) = cnt s w (l.take j) + (if w.has s (l.getD j default).w then 1 else 0) := by
  unfold cnt
  rw [take_snoc default h, List.filter_append, List.length_append]
  have h1 : ∀ e : En, (List.filter (fun e => decide (w.has s e.w)) [e]).length = if w.has s e.w then 1 else 0 := fun e => by by_cases h : w.has s e.w <;> simp [h]
  rw [h1]
theorem cnt_le (s : Sc) (w : Wd) (l : List En) : cnt s w l ≤ l.length := List.length_filter_le _ _
/-- What the law reads of a tree. -/
theorem tree_nodes {s : Sc} {c : Int} {x : List En} (h : ofE s c x = 0) {i : Nat} (hi : i < (ofT s c x).ns.length) : NodeOK s c x i (ofT s c x).ns.length ((ofT s c x).ns.getD i default) ∧ ∀ e, e ∈ ((ofT s c x).ns.getD i default).es → e.ok s ∧ pathF s c e.w 32 0 (rootW s) x = i := by
  obtain ⟨h1, h2, h3, h4⟩ := ofT_ok h
  rw [h4] at hi ⊢
  simp only at hi ⊢
  have hs := (emE_0.1 h1).1
  have l1 := len8 (root_ok hs)
  have hp1 := hs.1.2.2.2.1
  have hx : x = x.filter (fun e => decide ((rootW s).has s e.w)) := by
    rw [List.filter_eq_self.2]
    intro e he
    exact decide_eq_true (root_has (sorted_at h3 he))
  have hg : (growF s c 32 0 (rootW s) x)[i]? = some ((growF s c 32 0 (rootW s) x).getD i default) := by
    rw [List.getElem?_eq_getElem hi]; simp [List.getD, hi]
  have hn := node_ok s c x 32 0 (rootW s) 0 0 x ⟨root_ok hs, by omega, fun q hq => by omega, fun q _ hq => (root_zero hq).1⟩ (by omega) (by omega) hx i _ hg
  rw [Nat.zero_add, Nat.zero_add] at hn
  refine ⟨hn, fun e he => ?_⟩
  obtain ⟨h5, h6⟩ := path_leaf s c e 32 0 (rootW s) x i _ hg he
  exact ⟨sorted_at h3 h5, by omega⟩
set_option maxHeartbeats 8000000 in
set_option maxRecDepth 20000 in
theorem cBLaw (h9 : FC Tryz.prog 9 [] [] (.bool true) []) (L : List Int) (b1 : Nat) (hb1 : b1 ≤ 255) : FC Tryz.prog 4 [V L, .int .u8 b1] [] (.bool true) [] := by
  have kAw : ∀ {H : Heap} {slot : Nat} {K : D → List (Nat × Blk) → List (Nat × Blk) → Prop}, K (.bool true) [] [] → @callB ⟨callX Tryz.prog⟩ 9 [] H slot ⟨K⟩ := fun hK => call0 true h9 rfl rfl (fun _ => rfl) hK
  clear h9
  by_cases hF : L.length ≤ 400
  · have hL : L.length ≤ 1000 := by omega
    have d0 := dv_lt L 0 (n := 5) (by decide)
    have a0 : da L 0 5 ≤ 1000 := da_le _ _ _ (by omega) hL
    obtain ⟨len, hlen⟩ : ∃ len, 2 + dv L 0 5 = len := ⟨_, rfl⟩
    obtain ⟨p, hp⟩ : ∃ p, preS L (da L 0 5) len = p := ⟨_, rfl⟩
    have hpo := pre_ok L (da L 0 5) len (by omega) hL a0
    rw [hp] at hpo
    have hso := scOf_ok (L := L) hpo (by omega) (by omega)
    have hap := posC_le L p.step p.a hpo.ha hL p.cnt.toNat
    have hl2 : 2 ≤ len := by omega
    have hl32 : len ≤ 32 := by omega
    have kS : ∀ {q : Nat} {H : Heap} (hH : hget H q = some [[V L, .int .i64 (da L 0 5)]]) {slot : Nat} {K : D → List (Nat × Blk) → List (Nat × Blk) → Prop}, K (.agg (scOf L p len).row) [(q, [[V L, .int .i64 (posC L p.step p.a p.cnt.toNat)]])] [(q, [[V L, .int .i64 (da L 0 5)]]), (q, [[V L, .int .i64 (da L 0 5)]])] → @callB ⟨callX Tryz.prog⟩ 11 [.ptr q 1 0 0, .int .i64 len] H slot ⟨K⟩ := fun hH _ _ hK => kSch hH p hp hK hL a0 hl2 hl32
    generalize scOf L p len = s at *
    generalize posC L p.step p.a p.cnt.toNat = a at *
    clear hp hpo
    refine FC.of_run mix Tryz.func4 rfl rfl (by simp [Tryz.ntmps4]) ?_
    repeat' first
      | simp (maxSteps := 1000000) only [go_sem, Int.reduceLT, Int.reduceLE, Int.reduceToNat, Int.reduceEq, Nat.reduceMul, ↓reduceIte, Nat.reduceLT, Nat.reduceLeDiff, Nat.reduceEqDiff, Nat.reduceAdd, Nat.reduceSub, Nat.reduceBEq, reduceCtorEq, *]
      | contradiction
      | refine wntB_decT (fun _ => ?_) (fun _ => ?_)
      | refine wntB_decF (fun _ => ?_) (fun _ => ?_)
      | refine cndB_dec (fun _ => ?_) (fun _ => ?_)
      | refine drawnB_ok (by kernel_rfl) ?_
      | refine kcFew ?_
      | refine kNew ?_
      | refine (kLength (a := 0) rfl (ha := Nat.zero_le 1000)) ?_
      | refine (kS rfl) ?_
      | ((first | refine Fin.q ?_ ?_ | refine Fin.qn ?_ ?_) <;> ((try simp (maxSteps := 1000000) only [go_sem, Int.reduceLT, Int.reduceLE, Int.reduceToNat, Int.reduceEq, Nat.reduceMul, ↓reduceIte, Nat.reduceLT, Nat.reduceLeDiff, Nat.reduceEqDiff, Nat.reduceAdd, Nat.reduceSub, Nat.reduceBEq, reduceCtorEq, *]) <;> (skip)))
    refine kEnts (s := s) rfl hso hL hap (by decide) (by decide) fun l b hl hb => ?_
    have hl40 : l.length ≤ 40 := by omega
    have hx1 := srtO_sorted s l
    have hx2 := srtO_len s l
    have hl2000 : l.length ≤ 2000 := by omega
    have kR : ∀ {H : Heap} {slot : Nat} {K : D → List (Nat × Blk) → List (Nat × Blk) → Prop}, K (.vs (ents (srtO s l))) [] [] → @callB ⟨callX Tryz.prog⟩ 13 [.agg s.row, .vs (ents l)] H slot ⟨K⟩ := fun hK => kcSrt hK hso hl2000
    generalize srtO s l = x at *
    have hx40 : x.length ≤ 40 := by omega
    clear hx2 hl hF hb hlen
    have u0 : IntKind.i64.wrap (b1 : Int) = (b1 : Int) := by rw [wrapS] <;> omega
    have t1 : ((b1 : Int)).tmod 6 = ((b1 % 6 : Nat) : Int) := rfl
    obtain ⟨e1, he1⟩ : ∃ e : Nat, b1 % 6 = e := ⟨_, rfl⟩
    rw [he1] at t1
    have w1 : IntKind.i64.wrap (e1 : Int) = (e1 : Int) := by rw [wrapS] <;> omega
    obtain ⟨c1, hc1⟩ : ∃ c, 1 + (e1 : Int) = c := ⟨_, rfl⟩
    have w3 : IntKind.i64.wrap c1 = c1 := by rw [wrapS] <;> omega
    have o1 : ofE s c1 x = 0 := by
      unfold ofE; rw [if_pos (emE_0.2 ⟨hso, by omega, by omega⟩), if_neg (by omega), if_pos hx1]
    have hx15 : x.length < 1000000000000000 := by omega
    have hx64 : x.length ≤ 64 := by omega
    have kO1 : ∀ {H : Heap} {slot : Nat} {K : D → List (Nat × Blk) → List (Nat × Blk) → Prop}, K (.tup [.agg (ofT s c1 x).row, .int .i64 0]) [] [] → @callB ⟨callX Tryz.prog⟩ 15 [.agg s.row, .int .i64 c1, .vs (ents x)] H slot ⟨K⟩ := fun hK => kcOf (by rw [o1]; exact hK) hx15
    have kE : ∀ {H : Heap} {slot : Nat} {K : D → List (Nat × Blk) → List (Nat × Blk) → Prop}, K (.vs (ents x)) [] [] → @callB ⟨callX Tryz.prog⟩ 17 [.agg (ofT s c1 x).row] H slot ⟨K⟩ := fun hK => by
      refine kEntries o1 hx64 ?_
      exact hK
    have kM : ∀ {H : Heap} {slot : Nat} {K : D → List (Nat × Blk) → List (Nat × Blk) → Prop}, K (.bool true) [] [] → @callB ⟨callX Tryz.prog⟩ 18 [.vs (ents x), .vs (ents x)] H slot ⟨K⟩ := fun hK => call0 true (cSame x (by omega) (fun e he => ok_lens (sorted_at hx1 he))) rfl rfl (fun _ => rfl) hK
    have hnd := fun (i : Nat) (hi : i < (ofT s c1 x).ns.length) => tree_nodes o1 hi
    have kLf : ∀ {y : Wd} {i : Nat} (hy : y.ok s ∧ y.full) (hi : pathF s c1 y 32 0 (rootW s) x = i) {H : Heap} {slot : Nat} {K : D → List (Nat × Blk) → List (Nat × Blk) → Prop}, K (.tup [.int .i64 (i : Int), .int .i64 0]) [] [] → @callB ⟨callX Tryz.prog⟩ 21 [.agg (ofT s c1 x).row, .agg y.row] H slot ⟨K⟩ := fun hy hi _ _ _ hK => kLeaf o1 hx64 hy hi hK
    have g7 := growF_len s c1 (by omega) 32 0 (rootW s) x
    have r1 : (ofT s c1 x).ns = growF s c1 32 0 (rootW s) x := by rw [(ofT_ok o1).2.2.2]
    rw [← r1] at g7
    clear r1 o1
    generalize ofT s c1 x = y1 at *
    have g9 : ((y1.ns.length : Int) = 0) = False := by simp only [eq_iff_iff, iff_false]; omega
    have hbig : y1.ns.length ≤ 10000 := by omega
    have u5 : (Tryz.prog.underlying 5).isSome = true := by kernel_rfl
    repeat' first
      | simp (maxSteps := 1000000) only [go_sem, Int.reduceLT, Int.reduceLE, Int.reduceToNat, Int.reduceEq, Nat.reduceMul, ↓reduceIte, Nat.reduceLT, Nat.reduceLeDiff, Nat.reduceEqDiff, Nat.reduceAdd, Nat.reduceSub, Nat.reduceBEq, reduceCtorEq, *]
      | contradiction
      | refine wntB_decT (fun _ => ?_) (fun _ => ?_)
      | refine wntB_decF (fun _ => ?_) (fun _ => ?_)
      | refine cndB_dec (fun _ => ?_) (fun _ => ?_)
      | refine drawnB_ok (by kernel_rfl) ?_
      | refine kR ?_
      | refine kO1 ?_
      | refine kE ?_
      | refine kM ?_
      | ((first | refine Fin.q ?_ ?_ | refine Fin.qn ?_ ?_) <;> ((try simp (maxSteps := 1000000) only [go_sem, Int.reduceLT, Int.reduceLE, Int.reduceToNat, Int.reduceEq, Nat.reduceMul, ↓reduceIte, Nat.reduceLT, Nat.reduceLeDiff, Nat.reduceEqDiff, Nat.reduceAdd, Nat.reduceSub, Nat.reduceBEq, reduceCtorEq, *]) <;> (skip)))
    clear kS kR kO1 kE kM hx1 u0 t1 he1 w1 w3 d0 a0 hap hl40 hl2000 hx15 hx64 g7
    refine AW.loopx (σ := Nat) mix (fun i => ⟨176, [(12, .int .i64 (i : Int)), (11, .vs (ents x)), (10, .int .i64 0), (9, .ptr 38 1 0 0), (8, .int .i64 c1), (7, .vs (ents x)), (6, .ptr 25 1 0 0), (4, .bool false)], [some [[V L, .int .i64 b]], none, none, none, none, none, none, none, none, none, none, none, none, none, none, none, none, none, none, none, none, none, none, none, none, some [s.row], none, none, none, none, none, none, none, none, none, none, none, none, some [y1.row]]⟩) (fun i => i ≤ y1.ns.length) (fun i => y1.ns.length - i) 0 (Nat.zero_le _) (Conv.mk ?_ ?_ ?_ ?_ ?_) ?_
    iterate 5 (· (simp (maxSteps := 1000000) only [go_sem, Int.reduceLT, Int.reduceLE, Int.reduceToNat, Int.reduceEq, Nat.reduceMul, ↓reduceIte, Nat.reduceLT, Nat.reduceLeDiff, Nat.reduceEqDiff, Nat.reduceAdd, Nat.reduceSub, Nat.reduceBEq, reduceCtorEq]) <;> (first | rfl | (simp [ints]; done) | (simp [*]; done) | ((repeat' (first | rfl | apply And.intro)); done)))
    intro i hi
    have hv := wrap1 (i := i) (by omega)
    by_cases h : i < y1.ns.length
    · have hx := nods_get h
      obtain ⟨hn, hpe⟩ := hnd i h
      clear hnd
      generalize y1.ns.getD i default = n at *
      repeat' first
        | simp (maxSteps := 1000000) only [go_sem, Int.reduceLT, Int.reduceLE, Int.reduceToNat, Int.reduceEq, Nat.reduceMul, ↓reduceIte, Nat.reduceLT, Nat.reduceLeDiff, Nat.reduceEqDiff, Nat.reduceAdd, Nat.reduceSub, Nat.reduceBEq, reduceCtorEq, *, Nd.row, nods_len]
        | contradiction
        | refine wntB_decT (fun _ => ?_) (fun _ => ?_)
        | refine wntB_decF (fun _ => ?_) (fun _ => ?_)
        | refine cndB_dec (fun _ => ?_) (fun _ => ?_)
        | refine drawnB_ok (by kernel_rfl) ?_
        | ((first | refine Fin.q ?_ ?_ | refine Fin.qn ?_ ?_) <;> ((try simp (maxSteps := 1000000) only [go_sem, Int.reduceLT, Int.reduceLE, Int.reduceToNat, Int.reduceEq, Nat.reduceMul, ↓reduceIte, Nat.reduceLT, Nat.reduceLeDiff, Nat.reduceEqDiff, Nat.reduceAdd, Nat.reduceSub, Nat.reduceBEq, reduceCtorEq, *, Nd.row, nods_len]) <;> (skip)))
      refine AW.loopx (σ := Nat) mix (fun j => ⟨176, [(15, .int .i64 (j : Int)), (14, .int .i64 (cnt s n.w (x.take j) : Nat)), (13, .ptr 39 1 0 0), (12, .int .i64 (i : Int)), (11, .vs (ents x)), (10, .int .i64 0), (9, .ptr 38 1 0 0), (8, .int .i64 c1), (7, .vs (ents x)), (6, .ptr 25 1 0 0), (4, .bool false)], [some [[V L, .int .i64 b]], none, none, none, none, none, none, none, none, none, none, none, none, none, none, none, none, none, none, none, none, none, none, none, none, some [s.row], none, none, none, none, none, none, none, none, none, none, none, none, some [y1.row], some [n.row]]⟩) (fun j => j ≤ x.length) (fun j => x.length - j) 0 (Nat.zero_le _) (Conv.mk ?_ ?_ ?_ ?_ ?_) ?_
      iterate 5 (· (simp (maxSteps := 1000000) only [go_sem, Int.reduceLT, Int.reduceLE, Int.reduceToNat, Int.reduceEq, Nat.reduceMul, ↓reduceIte, Nat.reduceLT, Nat.reduceLeDiff, Nat.reduceEqDiff, Nat.reduceAdd, Nat.reduceSub, Nat.reduceBEq, reduceCtorEq, List.take_zero]) <;> (first | rfl | (simp [ints]; done) | (simp [*]; done) | ((repeat' (first | rfl | apply And.intro)); done)))
      intro j hj
      have hcl := cnt_le s n.w (x.take j)
      rw [List.length_take] at hcl
      by_cases h1 : j < x.length
      · have hv2 := wrap1 (i := j) (by omega)
        have hv4 := wrap1 (i := cnt s n.w (x.take j)) (by omega)
        have hx2 := ents_get h1
        have hcs := cnt_snoc s n.w h1
        clear kLf hpe hn kAw hcl
        by_cases h2 : n.w.has s (x.getD j default).w
        · rw [if_pos h2] at hcs
          rw [← hcs] at hv4
          clear hcs
          repeat' first
            | (refine ⟨j + 1, ?_, ?_, Conv.mk ?_ ?_ ?_ ?_ ?_⟩; (· (first | omega | (simp only; omega) | (simp only [List.length_nil, List.length_cons]; omega))); (· (omega)); (all_goals simp (maxSteps := 1000000) only [go_sem, Int.reduceLT, Int.reduceLE, Int.reduceToNat, Int.reduceEq, Nat.reduceMul, ↓reduceIte, Nat.reduceLT, Nat.reduceLeDiff, Nat.reduceEqDiff, Nat.reduceAdd, Nat.reduceSub, Nat.reduceBEq, reduceCtorEq, *, Nd.row, En.row, ents_len]); done)
            | simp (maxSteps := 1000000) only [go_sem, Int.reduceLT, Int.reduceLE, Int.reduceToNat, Int.reduceEq, Nat.reduceMul, ↓reduceIte, Nat.reduceLT, Nat.reduceLeDiff, Nat.reduceEqDiff, Nat.reduceAdd, Nat.reduceSub, Nat.reduceBEq, reduceCtorEq, *, Nd.row, En.row, ents_len]
            | contradiction
            | refine wntB_decT (fun _ => ?_) (fun _ => ?_)
            | refine wntB_decF (fun _ => ?_) (fun _ => ?_)
            | refine cndB_dec (fun _ => ?_) (fun _ => ?_)
            | refine drawnB_ok (by kernel_rfl) ?_
            | refine kcHasR ?_
            | ((first | refine Fin.q ?_ ?_ | refine Fin.qn ?_ ?_) <;> ((try simp (maxSteps := 1000000) only [go_sem, Int.reduceLT, Int.reduceLE, Int.reduceToNat, Int.reduceEq, Nat.reduceMul, ↓reduceIte, Nat.reduceLT, Nat.reduceLeDiff, Nat.reduceEqDiff, Nat.reduceAdd, Nat.reduceSub, Nat.reduceBEq, reduceCtorEq, *, Nd.row, En.row, ents_len]) <;> (skip)))
        · rw [if_neg h2] at hcs
          replace hcs : cnt s n.w (x.take (j + 1)) = cnt s n.w (x.take j) := hcs
          clear hv4
          repeat' first
            | (refine ⟨j + 1, ?_, ?_, Conv.mk ?_ ?_ ?_ ?_ ?_⟩; (· (first | omega | (simp only; omega) | (simp only [List.length_nil, List.length_cons]; omega))); (· (omega)); (all_goals simp (maxSteps := 1000000) only [go_sem, Int.reduceLT, Int.reduceLE, Int.reduceToNat, Int.reduceEq, Nat.reduceMul, ↓reduceIte, Nat.reduceLT, Nat.reduceLeDiff, Nat.reduceEqDiff, Nat.reduceAdd, Nat.reduceSub, Nat.reduceBEq, reduceCtorEq, *, Nd.row, En.row, ents_len]); done)
            | simp (maxSteps := 1000000) only [go_sem, Int.reduceLT, Int.reduceLE, Int.reduceToNat, Int.reduceEq, Nat.reduceMul, ↓reduceIte, Nat.reduceLT, Nat.reduceLeDiff, Nat.reduceEqDiff, Nat.reduceAdd, Nat.reduceSub, Nat.reduceBEq, reduceCtorEq, *, Nd.row, En.row, ents_len]
            | contradiction
            | refine wntB_decT (fun _ => ?_) (fun _ => ?_)
            | refine wntB_decF (fun _ => ?_) (fun _ => ?_)
            | refine cndB_dec (fun _ => ?_) (fun _ => ?_)
            | refine drawnB_ok (by kernel_rfl) ?_
            | refine kcHasR ?_
            | ((first | refine Fin.q ?_ ?_ | refine Fin.qn ?_ ?_) <;> ((try simp (maxSteps := 1000000) only [go_sem, Int.reduceLT, Int.reduceLE, Int.reduceToNat, Int.reduceEq, Nat.reduceMul, ↓reduceIte, Nat.reduceLT, Nat.reduceLeDiff, Nat.reduceEqDiff, Nat.reduceAdd, Nat.reduceSub, Nat.reduceBEq, reduceCtorEq, *, Nd.row, En.row, ents_len]) <;> (skip)))
      · have hz : x.take j = x := List.take_of_length_le (by omega)
        have hjl : ((j : Int) < (x.length : Int)) = False := by simp only [eq_iff_iff, iff_false]; omega
        rw [hz]
        rw [hz] at hcl
        obtain ⟨C, hC⟩ : ∃ C, cnt s n.w x = C := ⟨_, rfl⟩
        have hC' : (x.filter fun e => decide (n.w.has s e.w)).length = C := hC
        obtain ⟨hok, ⟨m1, m2, m3⟩ | ⟨m1, m2, m3, r, m4, m5, m6⟩⟩ := hn
        · rw [← m2] at hC'
          have hcc : ¬ ((C : Int) > c1) ∨ ((C : Int) > c1) ∧ n.w.full := by
            by_cases hgt : (C : Int) > c1
            · exact .inr ⟨hgt, m3.resolve_left (by omega)⟩
            · exact .inl hgt
          have hesl : n.es.length ≤ 10000 := by rw [hC', ← hC]; omega
          have hC2 : (n.es.length : Int) = (C : Int) := by omega
          have z1 : ((n.left : Int) = -1) = True := by simp only [eq_iff_iff, iff_true]; exact m1
          clear m2 m3 hz h1 hj m1
          rcases hcc with hcc | ⟨hcc, hfu⟩
          · have z2 : ((C : Int) > c1) = False := by simp only [eq_iff_iff, iff_false]; exact hcc
            clear hcl hcc
            repeat' first
              | simp (maxSteps := 1000000) only [go_sem, Int.reduceLT, Int.reduceLE, Int.reduceToNat, Int.reduceEq, Nat.reduceMul, ↓reduceIte, Nat.reduceLT, Nat.reduceLeDiff, Nat.reduceEqDiff, Nat.reduceAdd, Nat.reduceSub, Nat.reduceBEq, reduceCtorEq, *, Nd.row, nods_len, ents_len, eq_self]
              | contradiction
              | refine wntB_decT (fun _ => ?_) (fun _ => ?_)
              | refine wntB_decF (fun _ => ?_) (fun _ => ?_)
              | refine cndB_dec (fun _ => ?_) (fun _ => ?_)
              | refine drawnB_ok (by kernel_rfl) ?_
              | ((first | refine Fin.q ?_ ?_ | refine Fin.qn ?_ ?_) <;> ((try simp (maxSteps := 1000000) only [go_sem, Int.reduceLT, Int.reduceLE, Int.reduceToNat, Int.reduceEq, Nat.reduceMul, ↓reduceIte, Nat.reduceLT, Nat.reduceLeDiff, Nat.reduceEqDiff, Nat.reduceAdd, Nat.reduceSub, Nat.reduceBEq, reduceCtorEq, *, Nd.row, nods_len, ents_len, eq_self]) <;> (skip)))
            clear hC' hC2 hC
            refine AW.loopx (σ := Nat) mix (fun k => ⟨176, [(16, .int .i64 (k : Int)), (13, .ptr 39 1 0 0), (12, .int .i64 (i : Int)), (11, .vs (ents x)), (10, .int .i64 0), (9, .ptr 38 1 0 0), (8, .int .i64 c1), (7, .vs (ents x)), (6, .ptr 25 1 0 0), (4, .bool false)], [some [[V L, .int .i64 b]], none, none, none, none, none, none, none, none, none, none, none, none, none, none, none, none, none, none, none, none, none, none, none, none, some [s.row], none, none, none, none, none, none, none, none, none, none, none, none, some [y1.row], some [n.row]]⟩) (fun k => k ≤ n.es.length) (fun k => n.es.length - k) 0 (Nat.zero_le _) (Conv.mk ?_ ?_ ?_ ?_ ?_) ?_
            iterate 5 (· (simp (maxSteps := 1000000) only [go_sem, Int.reduceLT, Int.reduceLE, Int.reduceToNat, Int.reduceEq, Nat.reduceMul, ↓reduceIte, Nat.reduceLT, Nat.reduceLeDiff, Nat.reduceEqDiff, Nat.reduceAdd, Nat.reduceSub, Nat.reduceBEq, reduceCtorEq]) <;> (first | rfl | (simp [ints]; done) | (simp [*]; done) | ((repeat' (first | rfl | apply And.intro)); done)))
            intro k hk
            have hv3 := wrap1 (i := k) (by omega)
            by_cases h3 : k < n.es.length
            · have hx3 := ents_get h3
              obtain ⟨hq1, hq2⟩ := hpe _ (getD_mem' h3)
              have hq3 : (n.es.getD k default).w.ok s ∧ (n.es.getD k default).w.full := ⟨hq1.1, hq1.2.1⟩
              clear hpe hx hq1
              repeat' first
                | (refine ⟨k + 1, ?_, ?_, Conv.mk ?_ ?_ ?_ ?_ ?_⟩; (· (first | omega | (simp only; omega) | (simp only [List.length_nil, List.length_cons]; omega))); (· (omega)); (all_goals simp (maxSteps := 1000000) only [go_sem, Int.reduceLT, Int.reduceLE, Int.reduceToNat, Int.reduceEq, Nat.reduceMul, ↓reduceIte, Nat.reduceLT, Nat.reduceLeDiff, Nat.reduceEqDiff, Nat.reduceAdd, Nat.reduceSub, Nat.reduceBEq, reduceCtorEq, *, Nd.row, En.row, ents_len, ne_self_iff_false]); done)
                | simp (maxSteps := 1000000) only [go_sem, Int.reduceLT, Int.reduceLE, Int.reduceToNat, Int.reduceEq, Nat.reduceMul, ↓reduceIte, Nat.reduceLT, Nat.reduceLeDiff, Nat.reduceEqDiff, Nat.reduceAdd, Nat.reduceSub, Nat.reduceBEq, reduceCtorEq, *, Nd.row, En.row, ents_len, ne_self_iff_false]
                | contradiction
                | refine wntB_decT (fun _ => ?_) (fun _ => ?_)
                | refine wntB_decF (fun _ => ?_) (fun _ => ?_)
                | refine cndB_dec (fun _ => ?_) (fun _ => ?_)
                | refine drawnB_ok (by kernel_rfl) ?_
                | refine (kLf hq3 hq2) ?_
                | ((first | refine Fin.q ?_ ?_ | refine Fin.qn ?_ ?_) <;> ((try simp (maxSteps := 1000000) only [go_sem, Int.reduceLT, Int.reduceLE, Int.reduceToNat, Int.reduceEq, Nat.reduceMul, ↓reduceIte, Nat.reduceLT, Nat.reduceLeDiff, Nat.reduceEqDiff, Nat.reduceAdd, Nat.reduceSub, Nat.reduceBEq, reduceCtorEq, *, Nd.row, En.row, ents_len, ne_self_iff_false]) <;> (skip)))
            · repeat' first
                | (refine ⟨i + 1, ?_, ?_, Conv.mk ?_ ?_ ?_ ?_ ?_⟩; (· (first | omega | (simp only; omega) | (simp only [List.length_nil, List.length_cons]; omega))); (· (omega)); (all_goals simp (maxSteps := 1000000) only [go_sem, Int.reduceLT, Int.reduceLE, Int.reduceToNat, Int.reduceEq, Nat.reduceMul, ↓reduceIte, Nat.reduceLT, Nat.reduceLeDiff, Nat.reduceEqDiff, Nat.reduceAdd, Nat.reduceSub, Nat.reduceBEq, reduceCtorEq, *, Nd.row, ents_len, nods_len]); done)
                | simp (maxSteps := 1000000) only [go_sem, Int.reduceLT, Int.reduceLE, Int.reduceToNat, Int.reduceEq, Nat.reduceMul, ↓reduceIte, Nat.reduceLT, Nat.reduceLeDiff, Nat.reduceEqDiff, Nat.reduceAdd, Nat.reduceSub, Nat.reduceBEq, reduceCtorEq, *, Nd.row, ents_len, nods_len]
                | contradiction
                | refine wntB_decT (fun _ => ?_) (fun _ => ?_)
                | refine wntB_decF (fun _ => ?_) (fun _ => ?_)
                | refine cndB_dec (fun _ => ?_) (fun _ => ?_)
                | refine drawnB_ok (by kernel_rfl) ?_
                | ((first | refine Fin.q ?_ ?_ | refine Fin.qn ?_ ?_) <;> ((try simp (maxSteps := 1000000) only [go_sem, Int.reduceLT, Int.reduceLE, Int.reduceToNat, Int.reduceEq, Nat.reduceMul, ↓reduceIte, Nat.reduceLT, Nat.reduceLeDiff, Nat.reduceEqDiff, Nat.reduceAdd, Nat.reduceSub, Nat.reduceBEq, reduceCtorEq, *, Nd.row, ents_len, nods_len]) <;> (skip)))
          · have z2 : ((C : Int) > c1) = True := by simp only [eq_iff_iff, iff_true]; exact hcc
            have z3 : decide (n.w.ok s ∧ n.w.full) = true := decide_eq_true ⟨hok, hfu⟩
            clear hcl hcc
            repeat' first
              | simp (maxSteps := 1000000) only [go_sem, Int.reduceLT, Int.reduceLE, Int.reduceToNat, Int.reduceEq, Nat.reduceMul, ↓reduceIte, Nat.reduceLT, Nat.reduceLeDiff, Nat.reduceEqDiff, Nat.reduceAdd, Nat.reduceSub, Nat.reduceBEq, reduceCtorEq, *, Nd.row, nods_len, ents_len, eq_self]
              | contradiction
              | refine wntB_decT (fun _ => ?_) (fun _ => ?_)
              | refine wntB_decF (fun _ => ?_) (fun _ => ?_)
              | refine cndB_dec (fun _ => ?_) (fun _ => ?_)
              | refine drawnB_ok (by kernel_rfl) ?_
              | refine kcRFullR ?_
              | ((first | refine Fin.q ?_ ?_ | refine Fin.qn ?_ ?_) <;> ((try simp (maxSteps := 1000000) only [go_sem, Int.reduceLT, Int.reduceLE, Int.reduceToNat, Int.reduceEq, Nat.reduceMul, ↓reduceIte, Nat.reduceLT, Nat.reduceLeDiff, Nat.reduceEqDiff, Nat.reduceAdd, Nat.reduceSub, Nat.reduceBEq, reduceCtorEq, *, Nd.row, nods_len, ents_len, eq_self]) <;> (skip)))
            clear hC' hC2 hC
            refine AW.loopx (σ := Nat) mix (fun k => ⟨176, [(16, .int .i64 (k : Int)), (13, .ptr 39 1 0 0), (12, .int .i64 (i : Int)), (11, .vs (ents x)), (10, .int .i64 0), (9, .ptr 38 1 0 0), (8, .int .i64 c1), (7, .vs (ents x)), (6, .ptr 25 1 0 0), (4, .bool false)], [some [[V L, .int .i64 b]], none, none, none, none, none, none, none, none, none, none, none, none, none, none, none, none, none, none, none, none, none, none, none, none, some [s.row], none, none, none, none, none, none, none, none, none, none, none, none, some [y1.row], some [n.row]]⟩) (fun k => k ≤ n.es.length) (fun k => n.es.length - k) 0 (Nat.zero_le _) (Conv.mk ?_ ?_ ?_ ?_ ?_) ?_
            iterate 5 (· (simp (maxSteps := 1000000) only [go_sem, Int.reduceLT, Int.reduceLE, Int.reduceToNat, Int.reduceEq, Nat.reduceMul, ↓reduceIte, Nat.reduceLT, Nat.reduceLeDiff, Nat.reduceEqDiff, Nat.reduceAdd, Nat.reduceSub, Nat.reduceBEq, reduceCtorEq]) <;> (first | rfl | (simp [ints]; done) | (simp [*]; done) | ((repeat' (first | rfl | apply And.intro)); done)))
            intro k hk
            have hv3 := wrap1 (i := k) (by omega)
            by_cases h3 : k < n.es.length
            · have hx3 := ents_get h3
              obtain ⟨hq1, hq2⟩ := hpe _ (getD_mem' h3)
              have hq3 : (n.es.getD k default).w.ok s ∧ (n.es.getD k default).w.full := ⟨hq1.1, hq1.2.1⟩
              clear hpe hx hq1
              repeat' first
                | (refine ⟨k + 1, ?_, ?_, Conv.mk ?_ ?_ ?_ ?_ ?_⟩; (· (first | omega | (simp only; omega) | (simp only [List.length_nil, List.length_cons]; omega))); (· (omega)); (all_goals simp (maxSteps := 1000000) only [go_sem, Int.reduceLT, Int.reduceLE, Int.reduceToNat, Int.reduceEq, Nat.reduceMul, ↓reduceIte, Nat.reduceLT, Nat.reduceLeDiff, Nat.reduceEqDiff, Nat.reduceAdd, Nat.reduceSub, Nat.reduceBEq, reduceCtorEq, *, Nd.row, En.row, ents_len, ne_self_iff_false]); done)
                | simp (maxSteps := 1000000) only [go_sem, Int.reduceLT, Int.reduceLE, Int.reduceToNat, Int.reduceEq, Nat.reduceMul, ↓reduceIte, Nat.reduceLT, Nat.reduceLeDiff, Nat.reduceEqDiff, Nat.reduceAdd, Nat.reduceSub, Nat.reduceBEq, reduceCtorEq, *, Nd.row, En.row, ents_len, ne_self_iff_false]
                | contradiction
                | refine wntB_decT (fun _ => ?_) (fun _ => ?_)
                | refine wntB_decF (fun _ => ?_) (fun _ => ?_)
                | refine cndB_dec (fun _ => ?_) (fun _ => ?_)
                | refine drawnB_ok (by kernel_rfl) ?_
                | refine (kLf hq3 hq2) ?_
                | ((first | refine Fin.q ?_ ?_ | refine Fin.qn ?_ ?_) <;> ((try simp (maxSteps := 1000000) only [go_sem, Int.reduceLT, Int.reduceLE, Int.reduceToNat, Int.reduceEq, Nat.reduceMul, ↓reduceIte, Nat.reduceLT, Nat.reduceLeDiff, Nat.reduceEqDiff, Nat.reduceAdd, Nat.reduceSub, Nat.reduceBEq, reduceCtorEq, *, Nd.row, En.row, ents_len, ne_self_iff_false]) <;> (skip)))
            · repeat' first
                | (refine ⟨i + 1, ?_, ?_, Conv.mk ?_ ?_ ?_ ?_ ?_⟩; (· (first | omega | (simp only; omega) | (simp only [List.length_nil, List.length_cons]; omega))); (· (omega)); (all_goals simp (maxSteps := 1000000) only [go_sem, Int.reduceLT, Int.reduceLE, Int.reduceToNat, Int.reduceEq, Nat.reduceMul, ↓reduceIte, Nat.reduceLT, Nat.reduceLeDiff, Nat.reduceEqDiff, Nat.reduceAdd, Nat.reduceSub, Nat.reduceBEq, reduceCtorEq, *, Nd.row, ents_len, nods_len]); done)
                | simp (maxSteps := 1000000) only [go_sem, Int.reduceLT, Int.reduceLE, Int.reduceToNat, Int.reduceEq, Nat.reduceMul, ↓reduceIte, Nat.reduceLT, Nat.reduceLeDiff, Nat.reduceEqDiff, Nat.reduceAdd, Nat.reduceSub, Nat.reduceBEq, reduceCtorEq, *, Nd.row, ents_len, nods_len]
                | contradiction
                | refine wntB_decT (fun _ => ?_) (fun _ => ?_)
                | refine wntB_decF (fun _ => ?_) (fun _ => ?_)
                | refine cndB_dec (fun _ => ?_) (fun _ => ?_)
                | refine drawnB_ok (by kernel_rfl) ?_
                | ((first | refine Fin.q ?_ ?_ | refine Fin.qn ?_ ?_) <;> ((try simp (maxSteps := 1000000) only [go_sem, Int.reduceLT, Int.reduceLE, Int.reduceToNat, Int.reduceEq, Nat.reduceMul, ↓reduceIte, Nat.reduceLT, Nat.reduceLeDiff, Nat.reduceEqDiff, Nat.reduceAdd, Nat.reduceSub, Nat.reduceBEq, reduceCtorEq, *, Nd.row, ents_len, nods_len]) <;> (skip)))
        · have z1 : (((i + 1 : Nat) : Int) = -1) = False := by simp only [eq_iff_iff, iff_false]; omega
          have z2 : ((C : Int) ≤ c1) = False := by simp only [eq_iff_iff, iff_false]; omega
          have z0 : (0 < n.es.length) = False := by rw [m1]; simp
          have hesl : n.es.length ≤ 10000 := by rw [m1]; simp
          have z5 : (r ≤ i + 1) = False := by simp only [eq_iff_iff, iff_false]; omega
          have z6 : (y1.ns.length ≤ r) = False := by simp only [eq_iff_iff, iff_false]; omega
          have z7 : ((y1.ns.length : Int) ≤ (r : Int)) = False := by simp only [eq_iff_iff, iff_false]; omega
          have z8 : ((r : Int) ≤ ((i + 1 : Nat) : Int)) = False := by simp only [eq_iff_iff, iff_false]; omega
          clear m1 m2 m5 m6 hz h1 hj hC' hcl hok
          repeat' first
            | simp (maxSteps := 1000000) only [go_sem, Int.reduceLT, Int.reduceLE, Int.reduceToNat, Int.reduceEq, Nat.reduceMul, ↓reduceIte, Nat.reduceLT, Nat.reduceLeDiff, Nat.reduceEqDiff, Nat.reduceAdd, Nat.reduceSub, Nat.reduceBEq, reduceCtorEq, *, Nd.row, nods_len, ents_len, eq_self]
            | contradiction
            | refine wntB_decT (fun _ => ?_) (fun _ => ?_)
            | refine wntB_decF (fun _ => ?_) (fun _ => ?_)
            | refine cndB_dec (fun _ => ?_) (fun _ => ?_)
            | refine drawnB_ok (by kernel_rfl) ?_
            | ((first | refine Fin.q ?_ ?_ | refine Fin.qn ?_ ?_) <;> ((try simp (maxSteps := 1000000) only [go_sem, Int.reduceLT, Int.reduceLE, Int.reduceToNat, Int.reduceEq, Nat.reduceMul, ↓reduceIte, Nat.reduceLT, Nat.reduceLeDiff, Nat.reduceEqDiff, Nat.reduceAdd, Nat.reduceSub, Nat.reduceBEq, reduceCtorEq, *, Nd.row, nods_len, ents_len, eq_self]) <;> (skip)))
          refine AW.loopx (σ := Nat) mix (fun k => ⟨176, [(16, .int .i64 (k : Int)), (13, .ptr 39 1 0 0), (12, .int .i64 (i : Int)), (11, .vs (ents x)), (10, .int .i64 0), (9, .ptr 38 1 0 0), (8, .int .i64 c1), (7, .vs (ents x)), (6, .ptr 25 1 0 0), (4, .bool false)], [some [[V L, .int .i64 b]], none, none, none, none, none, none, none, none, none, none, none, none, none, none, none, none, none, none, none, none, none, none, none, none, some [s.row], none, none, none, none, none, none, none, none, none, none, none, none, some [y1.row], some [[V n.w.s, V n.w.b, .int .i64 n.piece, .int .i64 ((i + 1 : Nat) : Int), .int .i64 (r : Int), .vs (ents n.es)]]]⟩) (fun k => k ≤ n.es.length) (fun k => n.es.length - k) 0 (Nat.zero_le _) (Conv.mk ?_ ?_ ?_ ?_ ?_) ?_
          iterate 5 (· (simp (maxSteps := 1000000) only [go_sem, Int.reduceLT, Int.reduceLE, Int.reduceToNat, Int.reduceEq, Nat.reduceMul, ↓reduceIte, Nat.reduceLT, Nat.reduceLeDiff, Nat.reduceEqDiff, Nat.reduceAdd, Nat.reduceSub, Nat.reduceBEq, reduceCtorEq]) <;> (first | rfl | (simp [ints]; done) | (simp [*]; done) | ((repeat' (first | rfl | apply And.intro)); done)))
          intro k hk
          have hv3 := wrap1 (i := k) (by omega)
          by_cases h3 : k < n.es.length
          · have hx3 := ents_get h3
            obtain ⟨hq1, hq2⟩ := hpe _ (getD_mem' h3)
            have hq3 : (n.es.getD k default).w.ok s ∧ (n.es.getD k default).w.full := ⟨hq1.1, hq1.2.1⟩
            clear hpe hx hq1
            repeat' first
              | (refine ⟨k + 1, ?_, ?_, Conv.mk ?_ ?_ ?_ ?_ ?_⟩; (· (first | omega | (simp only; omega) | (simp only [List.length_nil, List.length_cons]; omega))); (· (omega)); (all_goals simp (maxSteps := 1000000) only [go_sem, Int.reduceLT, Int.reduceLE, Int.reduceToNat, Int.reduceEq, Nat.reduceMul, ↓reduceIte, Nat.reduceLT, Nat.reduceLeDiff, Nat.reduceEqDiff, Nat.reduceAdd, Nat.reduceSub, Nat.reduceBEq, reduceCtorEq, *, Nd.row, En.row, ents_len, ne_self_iff_false]); done)
              | simp (maxSteps := 1000000) only [go_sem, Int.reduceLT, Int.reduceLE, Int.reduceToNat, Int.reduceEq, Nat.reduceMul, ↓reduceIte, Nat.reduceLT, Nat.reduceLeDiff, Nat.reduceEqDiff, Nat.reduceAdd, Nat.reduceSub, Nat.reduceBEq, reduceCtorEq, *, Nd.row, En.row, ents_len, ne_self_iff_false]
              | contradiction
              | refine wntB_decT (fun _ => ?_) (fun _ => ?_)
              | refine wntB_decF (fun _ => ?_) (fun _ => ?_)
              | refine cndB_dec (fun _ => ?_) (fun _ => ?_)
              | refine drawnB_ok (by kernel_rfl) ?_
              | refine (kLf hq3 hq2) ?_
              | ((first | refine Fin.q ?_ ?_ | refine Fin.qn ?_ ?_) <;> ((try simp (maxSteps := 1000000) only [go_sem, Int.reduceLT, Int.reduceLE, Int.reduceToNat, Int.reduceEq, Nat.reduceMul, ↓reduceIte, Nat.reduceLT, Nat.reduceLeDiff, Nat.reduceEqDiff, Nat.reduceAdd, Nat.reduceSub, Nat.reduceBEq, reduceCtorEq, *, Nd.row, En.row, ents_len, ne_self_iff_false]) <;> (skip)))
          · repeat' first
              | (refine ⟨i + 1, ?_, ?_, Conv.mk ?_ ?_ ?_ ?_ ?_⟩; (· (first | omega | (simp only; omega) | (simp only [List.length_nil, List.length_cons]; omega))); (· (omega)); (all_goals simp (maxSteps := 1000000) only [go_sem, Int.reduceLT, Int.reduceLE, Int.reduceToNat, Int.reduceEq, Nat.reduceMul, ↓reduceIte, Nat.reduceLT, Nat.reduceLeDiff, Nat.reduceEqDiff, Nat.reduceAdd, Nat.reduceSub, Nat.reduceBEq, reduceCtorEq, *, Nd.row, ents_len, nods_len]); done)
              | simp (maxSteps := 1000000) only [go_sem, Int.reduceLT, Int.reduceLE, Int.reduceToNat, Int.reduceEq, Nat.reduceMul, ↓reduceIte, Nat.reduceLT, Nat.reduceLeDiff, Nat.reduceEqDiff, Nat.reduceAdd, Nat.reduceSub, Nat.reduceBEq, reduceCtorEq, *, Nd.row, ents_len, nods_len]
              | contradiction
              | refine wntB_decT (fun _ => ?_) (fun _ => ?_)
              | refine wntB_decF (fun _ => ?_) (fun _ => ?_)
              | refine cndB_dec (fun _ => ?_) (fun _ => ?_)
              | refine drawnB_ok (by kernel_rfl) ?_
              | ((first | refine Fin.q ?_ ?_ | refine Fin.qn ?_ ?_) <;> ((try simp (maxSteps := 1000000) only [go_sem, Int.reduceLT, Int.reduceLE, Int.reduceToNat, Int.reduceEq, Nat.reduceMul, ↓reduceIte, Nat.reduceLT, Nat.reduceLeDiff, Nat.reduceEqDiff, Nat.reduceAdd, Nat.reduceSub, Nat.reduceBEq, reduceCtorEq, *, Nd.row, ents_len, nods_len]) <;> (skip)))
    · repeat' first
        | simp (maxSteps := 1000000) only [go_sem, Int.reduceLT, Int.reduceLE, Int.reduceToNat, Int.reduceEq, Nat.reduceMul, ↓reduceIte, Nat.reduceLT, Nat.reduceLeDiff, Nat.reduceEqDiff, Nat.reduceAdd, Nat.reduceSub, Nat.reduceBEq, reduceCtorEq, *, nods_len]
        | contradiction
        | refine wntB_decT (fun _ => ?_) (fun _ => ?_)
        | refine wntB_decF (fun _ => ?_) (fun _ => ?_)
        | refine cndB_dec (fun _ => ?_) (fun _ => ?_)
        | refine drawnB_ok (by kernel_rfl) ?_
        | refine kAw ?_
        | ((first | refine Fin.q ?_ ?_ | refine Fin.qn ?_ ?_) <;> ((try simp (maxSteps := 1000000) only [go_sem, Int.reduceLT, Int.reduceLE, Int.reduceToNat, Int.reduceEq, Nat.reduceMul, ↓reduceIte, Nat.reduceLT, Nat.reduceLeDiff, Nat.reduceEqDiff, Nat.reduceAdd, Nat.reduceSub, Nat.reduceBEq, reduceCtorEq, *, nods_len]) <;> (skip)))
  · have hF2 : ¬ L.length ≤ 400 := hF
    refine FC.of_run mix Tryz.func4 rfl rfl (by simp [Tryz.ntmps4]) ?_
    repeat' first
      | simp (maxSteps := 1000000) only [go_sem, Int.reduceLT, Int.reduceLE, Int.reduceToNat, Int.reduceEq, Nat.reduceMul, ↓reduceIte, Nat.reduceLT, Nat.reduceLeDiff, Nat.reduceEqDiff, Nat.reduceAdd, Nat.reduceSub, Nat.reduceBEq, reduceCtorEq, *]
      | contradiction
      | refine wntB_decT (fun _ => ?_) (fun _ => ?_)
      | refine wntB_decF (fun _ => ?_) (fun _ => ?_)
      | refine cndB_dec (fun _ => ?_) (fun _ => ?_)
      | refine drawnB_ok (by kernel_rfl) ?_
      | refine kcFew ?_
      | refine kAw ?_
      | ((first | refine Fin.q ?_ ?_ | refine Fin.qn ?_ ?_) <;> ((try simp (maxSteps := 1000000) only [go_sem, Int.reduceLT, Int.reduceLE, Int.reduceToNat, Int.reduceEq, Nat.reduceMul, ↓reduceIte, Nat.reduceLT, Nat.reduceLeDiff, Nat.reduceEqDiff, Nat.reduceAdd, Nat.reduceSub, Nat.reduceBEq, reduceCtorEq, *]) <;> (skip)))
end TR

/- The row of TreeBelongs. -/
open Go Go.Proofs Go.Proofs.YtjfgnmicjhjofaaGreat Go.AH Go.ChangeShapes Go.WideShapes Go.ChangeAt Go.RowKit
set_option linter.unusedVariables false
namespace TR
set_option maxRecDepth 100000 in
theorem lifted4 (h9 : FC Tryz.prog 9 [] [] (.bool true) []) (os : Os) (started : os.Started) (H : Type) (enc : TypeId × Value → H) :
    ReturnsInHanded {} Tryz.checked os 4 .any (Rows.treeBelongsSpec.pre6 enc Tryz.prog Tryz.f4 Rows.treeBelongsRow.domain false) (Rows.treeBelongsSpec.post enc Tryz.prog Tryz.f4 false true false false) := by
  refine returnsInHanded_of_change (C := Tryz.checked) own started (by kernel_rfl) Tryz.func4
    (ChangeSpec.witness6 (enc := enc) (C := Tryz.checked) false ⟨#[], #[.slice none 0 0, .int .u8 0], []⟩ 8 (by kernel_rfl) (by kernel_rfl) (by kernel_rfl) (by kernel_rfl)) ?_
  intro W base args ds gs before hval0 hW hcnd _
  have hval : ∀ (j : Nat) t v, Tryz.f4.params[j]? = some t → args[j]? = some v → Value.okWide Tryz.prog W .any base t v := hval0
  have hW' := hW
  obtain ⟨p, q, hA0, hV, rfl, hfz, hnd⟩ := hW
  have hA : DataW.TrodAll enc Tryz.prog W 0 (fun _ => true) true Tryz.f4.params.toList args.toList ds p := hA0
  rw [Tryz.params4] at hA hval
  obtain ⟨v0, vs0, d0, ds0, p0, q0, hargs, rfl, rfl, h0, r0⟩ := trodAll_cons hA
  obtain ⟨v1, vs1, d1, ds1, p1, q1, rfl, rfl, rfl, h1, r1⟩ := trodAll_cons r0
  obtain ⟨rfl, rfl, rfl⟩ := trodAll_nil r1
  obtain rfl : args = #[v0, v1] := by cases args; simp_all
  obtain ⟨rfl, rfl⟩ := trodVars_none hV
  have k0 := h0
  have k1 := h1
  have lt0 : ∀ x ∈ p0, x.block < W.heap.size := by obtain ⟨m, hm⟩ := k0; exact DataW.trod_lt m _ _ _ hm
  have lt1 : ∀ x ∈ p1, x.block < W.heap.size := by obtain ⟨m, hm⟩ := k1; exact DataW.trod_lt m _ _ _ hm
  obtain ⟨sa, sl, sc, rfl⟩ := okWide_slice uq22 (hval 0 22 v0 rfl rfl)
  obtain ⟨n1, rfl⟩ := okWide_int uq5 (hval 1 5 v1 rfl rfl)
  obtain ⟨fuel0, hf0⟩ := h0
  obtain ⟨fuel1, hf1⟩ := h1
  obtain ⟨L, hrel⟩ := in_ints hf0
  obtain ⟨b1, hb1, e1⟩ := in_u8 hf1
  cases e1
  clear hA0 hval0
  refine (law_below (cBLaw h9 L b1 hb1) (vs := #[.slice sa sl sc, .int .u8 (b1 : Int)]) ⟨rfl, fun i x v hx hv => ?_⟩).mono fun e' W' ⟨he, bel⟩ => ?_
  · match i, hx, hv with
    | 0, hx, hv => cases hx; cases hv; exact hrel
    | 1, hx, hv => cases hx; cases hv; exact .pur _ _ (.int _ _)
    | i + 2, hx, hv => cases hx
  subst he
  exact ⟨_, rfl, _, _, _, [], _, [], hW', trodAll_mk1 (shut_bool uq4 _), (trodAll_cons_mk (Below.trod laidOut (by kernel_rfl) (of_decide_eq_true (by kernel_rfl)) k0 bel lt0) (trodAll_cons_mk (Below.trod laidOut (by kernel_rfl) (of_decide_eq_true (by kernel_rfl)) k1 bel lt1) trodAll_mk0)), rfl, bel.frame _, fun h => by cases h⟩
set_option maxRecDepth 100000 in
theorem over4 (h9 : FC Tryz.prog 9 [] [] (.bool true) []) : Rows.treeBelongsRow.holds Tryz.pinned (OpenSpec.ofChange Rows.treeBelongsSpec) :=
  OpenClaim.holds_of_wide 4 Tryz.f4 rfl rfl rfl rfl rfl rfl rfl ⟨rfl, rfl, rfl, rfl, rfl⟩ rfl rfl rfl rfl rfl (by kernel_rfl) Tryz.func4 (by kernel_rfl)
    (of_decide_eq_true (by kernel_rfl)) (by unfold Func.isWrapper; first | (rw [if_pos (by decide +kernel)]; kernel_rfl) | (rw [if_neg (by decide +kernel)]; exact ⟨rfl, rfl⟩))
    (fun os started H enc _ => lifted4 h9 os started H enc)
end TR



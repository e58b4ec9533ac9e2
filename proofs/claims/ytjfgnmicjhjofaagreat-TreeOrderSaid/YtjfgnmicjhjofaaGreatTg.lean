/- The tree walked: part g. -/
import Derived.Test.YtjfgnmicjhjofaaGreatTf
import Derived.Test.YtjfgnmicjhjofaaGreatAhCap
import Derived.Test.YtjfgnmicjhjofaaGreatAhFence
import Derived.Test.YtjfgnmicjhjofaaGreatRows
import Derived.Test.YtjfgnmicjhjofaaGreatAhRow
import Derived.Test.YtjfgnmicjhjofaaGreatAhRowV
import Derived.WalkKit
import Derived.ProofKit
import Derived.OpenShut
import Derived.Carry
import Derived.ChangeArms
/- slices.Insert of one entry. -/
open Go Go.Proofs Go.AH
set_option linter.unusedSimpArgs false
set_option linter.unusedVariables false
namespace TR
set_option maxHeartbeats 4000000 in
set_option maxRecDepth 20000 in
theorem cInsA (l : List En) (e : En) (i n : Nat) (hn : l.length = n) (hi : i < n) (hl : n ≤ 1000) : FC Tryz.prog 52 [.rx 4 0 n n n, .int .i64 i, .bs (ents [e])] [ents l] (.rs 4 1 0 (n + 1) (n + 1)) [ents l, ents (l.take i ++ e :: l.drop i)] := by
  have w1 : IntKind.i64.wrap ((n : Int) + 1) = ((n + 1 : Nat) : Int) := wrap1 (by omega)
  have w2 : IntKind.i64.wrap (((n + 1 : Nat) : Int) - (i : Int)) = ((n + 1 - i : Nat) : Int) := by rw [wrapS] <;> omega
  have w3 : IntKind.i64.wrap ((i : Int) + 1) = ((i + 1 : Nat) : Int) := wrap1 (by omega)
  have h1 : i ≤ n := by omega
  have h2 : (i = n) = False := by simp only [eq_iff_iff, iff_false]; omega
  have h3 : ((i : Int) = (n : Int)) = False := by simp only [eq_iff_iff, iff_false]; omega
  have h4 : (n < n + 1) = True := by simp
  have c1 : ((1 : Nat) : Int) = 1 := rfl
  have h5 : (((n + 1 : Nat) : Int) ≤ (capMax : Int)) = True := by unfold capMax; simp only [eq_iff_iff, iff_true]; omega
  have w4 : i + (n + 1 - i) = n + 1 := by omega
  have w5 : (i : Int) + ((n + 1 - i : Nat) : Int) = ((n + 1 : Nat) : Int) := by omega
  have h6 : (0 < ((n + 1 - i : Nat) : Int)) = True := by simp only [eq_iff_iff, iff_true]; omega
  have h7 : ((n : Int) < ((n + 1 : Nat) : Int)) = True := by simp only [eq_iff_iff, iff_true]; omega
  have g1 : i ≤ n + 1 := by omega
  have g2 : i + 1 ≤ n + 1 := by omega
  have g3 : (List.take i (ents l)).length = i := by simp [ents_len]; omega
  have g4 : min 1 (n + 1 - i) = 1 := by omega
  have g5 : i + (n - i) = n := by omega
  have g6 : n + 1 - (i + 1) = n - i := by omega
  have g7 : i + 1 + (n - i) = n + 1 := by omega
  have k1 : List.take i (List.take i (ents l) ++ List.replicate (n + 1 - i) [D.zs, D.zs, D.int IntKind.i64 0, D.int IntKind.i64 0]) = List.take i (ents l) := by rw [List.take_append_of_le_length (by rw [g3]; exact Nat.le_refl _), List.take_of_length_le (by rw [g3]; exact Nat.le_refl _)]
  have k2 : List.take 1 (ents [e]) = ents [e] := rfl
  have k3 : (List.drop (i + 1) (List.take i (ents l) ++ List.replicate (n + 1 - i) [D.zs, D.zs, D.int IntKind.i64 0, D.int IntKind.i64 0])).length = n - i := by simp [g3]; omega
  have k4 : List.take (n - i) (List.drop i (ents l)) = List.drop i (ents l) := by rw [List.take_of_length_le]; simp [ents_len]; omega
  have k5 : (List.drop i (ents l)).length = n - i := by simp [ents_len, hn]
  have k6 : ∀ X : Blk, List.take (i + 1) (List.take i (ents l) ++ ents [e] ++ X) = List.take i (ents l) ++ ents [e] := fun X => by
    rw [List.take_append_of_le_length (by rw [List.length_append, g3]; exact Nat.le_refl _), List.take_of_length_le (by rw [List.length_append, g3]; exact Nat.le_refl _)]
  have k8 : List.drop (n + 1) (List.take i (ents l) ++ ents [e] ++ List.drop (i + 1) (List.take i (ents l) ++ List.replicate (n + 1 - i) [D.zs, D.zs, D.int IntKind.i64 0, D.int IntKind.i64 0])) = [] := by
    rw [List.drop_eq_nil_of_le]; rw [List.length_append, List.length_append, g3, k3]; show i + 1 + (n - i) ≤ n + 1; omega
  have k9 : (ents [e]).length = 1 := rfl
  have ka : List.take i (ents l) ++ ents [e] ++ List.drop i (ents l) = ents (l.take i ++ e :: l.drop i) := by simp [ents]
  refine FC.of_run mix Tryz.func52 rfl rfl (by simp [Tryz.ntmps52]) ?_
  repeat' first
    | simp (maxSteps := 1000000) only [go_sem, Int.reduceLT, Int.reduceLE, Int.reduceToNat, Int.reduceEq, Nat.reduceMul, ↓reduceIte, Nat.reduceLT, Nat.reduceLeDiff, Nat.reduceEqDiff, Nat.reduceAdd, Nat.reduceSub, Nat.reduceBEq, reduceCtorEq, *, ents_len, List.length_cons, List.length_nil, aappendX, aappendZ, ite_self, List.length_append, List.length_replicate, eq_self, Nat.min_self, List.append_nil, Int.toNat_natCast, Nat.le_refl, true_and, and_true, and_self]
    | contradiction
    | refine wT ?_ ?_ <;> intro _
    | refine wF ?_ ?_ <;> intro _
    | refine cD ?_ ?_ <;> intro _
    | refine dO (by kernel_rfl) ?_
    | refine Fin.qy [1] (by simp) (by simp) ?_ ?_
theorem overA_of {P : Program} {f : FuncId} {fn : Func} {x : D} {t : TypeId} {sz b off len cap : Nat} {H : Heap} {rows : Blk} (hf : P.funcs[f]? = some fn) (hx : apartD x = true) (hn : fn.name = "slices.overlaps[shapesearch/api.Entry]") (ho : fn.origin = "slices.overlaps") (hb : fn.body.isNone = true) (hp : fn.params.toList = [t, t])
    (he : esizeT P t = some sz) (hH : hget H b = some rows) (hr : rows.length = off + cap) : overA P f [x, .rs sz b off len cap] H = some [(b, rows)] := by
  unfold overA
  rw [hf]
  simp only [hn, ho, hb, and_self, if_true, hp, he, hH, hr, hx]
theorem kOver {e : En} {b off len cap : Nat} {rows : Blk} {H : Heap} {slot : Nat} {K : D → List (Nat × Blk) → List (Nat × Blk) → Prop} (hH : hget H b = some rows) (hr : rows.length = off + cap) (hK : K (.bool false) [] [(b, rows)]) : @callB ⟨callX Tryz.prog⟩ 98 [.bs (ents [e]), .rs 4 b off len cap] H slot ⟨K⟩ :=
  .inr (.inr (.inr ⟨[(b, rows)], overA_of Tryz.func98 rfl rfl rfl rfl rfl es33 hH hr, hK⟩))
set_option maxHeartbeats 4000000 in
set_option maxRecDepth 20000 in
theorem cInsB (l : List En) (e : En) (i n rc : Nat) (hn : l.length = n) (hi : i < n) (hl : n ≤ 1000) (hrc : n + 1 ≤ rc) : FC Tryz.prog 52 [.rx 4 0 n (n + 1) rc, .int .i64 i, .bs (ents [e])] [ents l ++ [[.un, .un, .un, .un]]] (.rs 4 0 0 (n + 1) (n + 1)) [ents (l.take i ++ e :: l.drop i)] := by
  have w1 : IntKind.i64.wrap ((n : Int) + 1) = ((n + 1 : Nat) : Int) := wrap1 (by omega)
  have w3 : IntKind.i64.wrap ((i : Int) + 1) = ((i + 1 : Nat) : Int) := wrap1 (by omega)
  have h1 : i ≤ n := by omega
  have h2 : (i = n) = False := by simp only [eq_iff_iff, iff_false]; omega
  have h3 : ((i : Int) = (n : Int)) = False := by simp only [eq_iff_iff, iff_false]; omega
  have c1 : ((1 : Nat) : Int) = 1 := rfl
  have h7 : ((rc : Int) < ((n + 1 : Nat) : Int)) = False := by simp only [eq_iff_iff, iff_false]; omega
  have h8 : (rc < n + 1) = False := by simp only [eq_iff_iff, iff_false]; omega
  have h9 : (n + 1 ≤ n) = False := by simp only [eq_iff_iff, iff_false]; omega
  have g1 : i ≤ n + 1 := by omega
  have g2 : i + 1 ≤ n + 1 := by omega
  have g6 : n + 1 - (i + 1) = n - i := by omega
  have g7 : i + 1 + (n - i) = n + 1 := by omega
  have g3 : (List.take (i + 1) (ents l)).length = i + 1 := by simp [ents_len]; omega
  have g4 : min 1 (n + 1 - i) = 1 := by omega
  have g5 : n ≤ n + 1 := by omega
  have g8 : n - i + 1 = n + 1 - i := by omega
  have m2 : ∀ u : List D, List.take (n + 1 - i) (List.drop i (ents l ++ [u])) = List.drop i (ents l) ++ [u] := fun u => by
    rw [List.drop_append_of_le_length (by rw [ents_len]; omega), List.take_of_length_le]
    simp [ents_len]; omega
  have m3 : min (n + 1 - i) (n - i) = n - i := by omega
  have mm : (List.drop i (ents l)).length = n - i := by simp [ents_len, hn]
  have m4 : ∀ u : List D, List.take (n - i) (List.drop i (ents l) ++ [u]) = List.drop i (ents l) := fun u => by
    rw [List.take_append_of_le_length (by rw [mm]; exact Nat.le_refl _), List.take_of_length_le (by rw [mm]; exact Nat.le_refl _)]
  have m5 : ∀ u : List D, List.take (i + 1) (ents l ++ [u]) = List.take (i + 1) (ents l) := fun u => by
    rw [List.take_append_of_le_length (by rw [ents_len]; omega)]
  have m6 : ∀ u : List D, List.drop (n + 1) (ents l ++ [u]) = [] := fun u => by rw [List.drop_eq_nil_of_le]; simp [ents_len]; omega
  have m7 : List.take i (List.take (i + 1) (ents l) ++ List.drop i (ents l)) = List.take i (ents l) := by
    rw [List.take_append_of_le_length (by rw [g3]; omega), List.take_take, Nat.min_eq_left (by omega)]
  have m8 : List.drop (i + 1) (List.take (i + 1) (ents l) ++ List.drop i (ents l)) = List.drop i (ents l) := by
    rw [List.drop_append_of_le_length (by rw [g3]; exact Nat.le_refl _), List.drop_eq_nil_of_le (by rw [g3]; exact Nat.le_refl _), List.nil_append]
  have k2 : List.take 1 (ents [e]) = ents [e] := rfl
  have k9 : (ents [e]).length = 1 := rfl
  have m9 : (n + 1 = i + (n + 1 - i)) = True := by simp only [eq_iff_iff, iff_true]; omega
  have ma : (n + 1 = i + 1 + (n - i)) = True := by simp only [eq_iff_iff, iff_true]; omega
  have ka : List.take i (ents l) ++ ents [e] ++ List.drop i (ents l) = ents (l.take i ++ e :: l.drop i) := by simp [ents]
  refine FC.of_run mix Tryz.func52 rfl rfl (by simp [Tryz.ntmps52]) ?_
  repeat' first
    | simp (maxSteps := 1000000) only [go_sem, Int.reduceLT, Int.reduceLE, Int.reduceToNat, Int.reduceEq, Nat.reduceMul, ↓reduceIte, Nat.reduceLT, Nat.reduceLeDiff, Nat.reduceEqDiff, Nat.reduceAdd, Nat.reduceSub, Nat.reduceBEq, reduceCtorEq, *, ents_len, List.length_cons, List.length_nil, ite_self, List.length_append, List.length_replicate, eq_self, Nat.min_self, List.append_nil, List.drop_zero, Nat.zero_add, Nat.sub_zero, Int.toNat_natCast, Nat.le_refl, true_and, and_true, and_self]
    | contradiction
    | refine wT ?_ ?_ <;> intro _
    | refine wF ?_ ?_ <;> intro _
    | refine cD ?_ ?_ <;> intro _
    | refine dO (by kernel_rfl) ?_
    | refine (kOver rfl (by simp [ents_len]; omega)) ?_
    | refine Fin.q ?_ ?_
    | refine Fin.qn ?_ ?_
theorem cInsM (l : List En) (e : En) (i : Nat) (hi : i < l.length) (hl : l.length ≤ 1000) : FC Tryz.prog 52 [.rs 4 0 0 l.length l.length, .int .i64 i, .bs (ents [e])] [ents l] (.rs 4 0 0 (l.length + 1) (l.length + 1)) [ents (l.take i ++ e :: l.drop i)] :=
  FC.room (ents_len _) (by rw [ents_len]; simp; omega) (ents_pure _) (cInsA l e i l.length rfl hi hl) (fun rc h => cInsB l e i l.length rc rfl hi hl h)
set_option maxHeartbeats 4000000 in
set_option maxRecDepth 20000 in
theorem cInsE (l : List En) (e : En) (hi : l ≠ []) (hl : l.length ≤ 1000) : FC Tryz.prog 52 [.rs 4 0 0 l.length l.length, .int .i64 l.length, .bs (ents [e])] [ents l] (.rs 4 0 0 (l.length + 1) (l.length + 1)) [ents (l ++ [e])] := by
  have c1 : ((1 : Nat) : Int) = 1 := rfl
  have h5 : (l.length + 1 ≤ capMax) = True := by unfold capMax; simp only [eq_iff_iff, iff_true]; omega
  have h6 : (l.length + 1 ≤ l.length) = False := by simp only [eq_iff_iff, iff_false]; omega
  have k2 : List.take 1 (ents [e]) = ents [e] := rfl
  have k9 : (ents [e]).length = 1 := rfl
  have k3 : List.take l.length (ents l) = ents l := ents_take_all _ _ (Nat.le_refl _)
  have ka : ents l ++ ents [e] = ents (l ++ [e]) := by simp [ents]
  have kb : (ents [e]).isEmpty = false := rfl
  have kc : (((ents [e]).length : Nat) : Int) = 1 := rfl
  have kd : ((1 : Int) = 0) = False := by decide
  refine FC.of_run mix Tryz.func52 rfl rfl (by simp [Tryz.ntmps52]) ?_
  repeat' first
    | simp (maxSteps := 1000000) only [go_sem, Int.reduceLT, Int.reduceLE, Int.reduceToNat, Int.reduceEq, Nat.reduceMul, ↓reduceIte, Nat.reduceLT, Nat.reduceLeDiff, Nat.reduceEqDiff, Nat.reduceAdd, Nat.reduceSub, Nat.reduceBEq, reduceCtorEq, *, ents_len, List.length_cons, List.length_nil, ite_self, List.length_append, List.length_replicate, eq_self, Nat.min_self, List.append_nil, List.drop_zero, Nat.zero_add, Nat.sub_zero, Int.toNat_natCast, Nat.le_refl, true_and, and_true, and_self]
    | contradiction
    | refine wT ?_ ?_ <;> intro _
    | refine wF ?_ ?_ <;> intro _
    | refine cD ?_ ?_ <;> intro _
    | refine dO (by kernel_rfl) ?_
    | refine Fin.q ?_ ?_
    | refine Fin.qn ?_ ?_
set_option maxHeartbeats 4000000 in
set_option maxRecDepth 20000 in
theorem cIns0 (e : En) : FC Tryz.prog 52 [.nils, .int .i64 0, .bs (ents [e])] [] (.rs 4 0 0 1 1) [ents [e]] := by
  have c1 : ((1 : Nat) : Int) = 1 := rfl
  have h5 : (1 ≤ capMax) = True := by unfold capMax; simp only [eq_iff_iff, iff_true]; omega
  have k9 : (ents [e]).length = 1 := rfl
  have kb : (ents [e]).isEmpty = false := rfl
  have kc : (((ents [e]).length : Nat) : Int) = 1 := rfl
  have kd : ((1 : Int) = 0) = False := by decide
  have ke : (((ents [e]).length : Nat) : Int) = 0 → False := by rw [kc]; decide
  refine FC.of_run mix Tryz.func52 rfl rfl (by simp [Tryz.ntmps52]) ?_
  repeat' first
    | simp (maxSteps := 1000000) only [go_sem, Int.reduceLT, Int.reduceLE, Int.reduceToNat, Int.reduceEq, Nat.reduceMul, ↓reduceIte, Nat.reduceLT, Nat.reduceLeDiff, Nat.reduceEqDiff, Nat.reduceAdd, Nat.reduceSub, Nat.reduceBEq, reduceCtorEq, *, kc, kd, ents_len, List.length_cons, List.length_nil, ite_self, List.length_append, List.length_replicate, eq_self, Nat.min_self, List.append_nil, List.drop_zero, Nat.zero_add, Nat.sub_zero, Int.toNat_natCast, Nat.le_refl, true_and, and_true, and_self]
    | contradiction
    | refine wT ?_ ?_ <;> intro _
    | refine wF ?_ ?_ <;> intro _
    | refine cD ?_ ?_ <;> intro _
    | refine dO (by kernel_rfl) ?_
    | refine Fin.qy [0] (by simp) (by simp) ?_ ?_
set_option maxHeartbeats 2000000 in
set_option maxRecDepth 20000 in
theorem cEntrO (t : Tr) (hn : t.ns.length ≤ 1000000) (hl : (flatE t.ns).length ≤ 1000000) (h0 : flatE t.ns ≠ []) : FC Tryz.prog 43 [.agg t.row] [] (.rs 4 0 0 (flatE t.ns).length (flatE t.ns).length) [ents (flatE t.ns)] := by
  refine FC.of_run mix Tryz.func43 rfl rfl (by simp [Tryz.ntmps43]) ?_
  repeat' first
    | simp (maxSteps := 1000000) only [go_sem, Int.reduceLT, Int.reduceLE, Int.reduceToNat, Int.reduceEq, Nat.reduceMul, ↓reduceIte, Nat.reduceLT, Nat.reduceLeDiff, Nat.reduceEqDiff, Nat.reduceAdd, Nat.reduceSub, Nat.reduceBEq, reduceCtorEq, *, nods_len]
    | contradiction
    | refine wT ?_ ?_ <;> intro _
    | refine wF ?_ ?_ <;> intro _
    | refine cD ?_ ?_ <;> intro _
    | refine dO (by kernel_rfl) ?_
    | refine Fin.q ?_ ?_
    | refine Fin.qn ?_ ?_
  refine AW.loopx (σ := Nat × List En) mix (stEn t) (fun p => p.1 ≤ t.ns.length ∧ p.2 = flatE (t.ns.take p.1)) (fun p => t.ns.length - p.1) (0, []) ⟨Nat.zero_le _, rfl⟩ (Conv.mk ?_ ?_ ?_ ?_ ?_) ?_
  iterate 5 (· (simp (maxSteps := 1000000) only [go_sem, Int.reduceLT, Int.reduceLE, Int.reduceToNat, Int.reduceEq, Nat.reduceMul, ↓reduceIte, Nat.reduceLT, Nat.reduceLeDiff, Nat.reduceEqDiff, Nat.reduceAdd, Nat.reduceSub, Nat.reduceBEq, reduceCtorEq, stEn]) <;> rfl)
  intro ⟨i, acc⟩ ⟨hi, ha⟩
  simp only at hi ha
  have hv := wrap1 (i := i) (by omega)
  have hfl := flatE_take_le t.ns (i + 1)
  by_cases h : i < t.ns.length
  · have hx := nods_get h
    have hf := flatE_snoc h
    rw [← ha] at hf
    rw [hf, List.length_append] at hfl
    rcases hes : (t.ns.getD i default).es with _ | ⟨x, xs⟩ <;> rw [hes] at hf hfl
    · rw [List.append_nil] at hf
      rcases acc with _ | ⟨e, acc⟩
      · clear ha
        rcases i with _ | i
        · have w01 : IntKind.i64.wrap (0 + 1) = ((0 + 1 : Nat) : Int) := by decide
          clear hv
          simp only [stEn]
          repeat' first
            | simp (maxSteps := 1000000) only [go_sem, Int.reduceLT, Int.reduceLE, Int.reduceToNat, Int.reduceEq, Nat.reduceMul, ↓reduceIte, Nat.reduceLT, Nat.reduceLeDiff, Nat.reduceEqDiff, Nat.reduceAdd, Nat.reduceSub, Nat.reduceBEq, reduceCtorEq, *, stEn, Nd.row, ents_nil, List.isEmpty_nil, List.append_nil]
            | contradiction
            | refine wT ?_ ?_ <;> intro _
            | refine wF ?_ ?_ <;> intro _
            | refine cD ?_ ?_ <;> intro _
            | refine dO (by kernel_rfl) ?_
            | (refine ⟨(0 + 1, []), ?_, ?_, Conv.mk ?_ ?_ ?_ ?_ ?_⟩; (· (first | omega | (simp only; omega) | (simp only [List.length_nil, List.length_cons]; omega))); (· (exact ⟨h, hf.symm⟩)))
            | refine Fin.q ?_ ?_
            | refine Fin.qn ?_ ?_
        · simp only [stEn]
          repeat' first
            | simp (maxSteps := 1000000) only [go_sem, Int.reduceLT, Int.reduceLE, Int.reduceToNat, Int.reduceEq, Nat.reduceMul, ↓reduceIte, Nat.reduceLT, Nat.reduceLeDiff, Nat.reduceEqDiff, Nat.reduceAdd, Nat.reduceSub, Nat.reduceBEq, reduceCtorEq, *, stEn, Nd.row, ents_nil, List.isEmpty_nil, List.append_nil]
            | contradiction
            | refine wT ?_ ?_ <;> intro _
            | refine wF ?_ ?_ <;> intro _
            | refine cD ?_ ?_ <;> intro _
            | refine dO (by kernel_rfl) ?_
            | (refine ⟨(i + 1 + 1, []), ?_, ?_, Conv.mk ?_ ?_ ?_ ?_ ?_⟩; (· (first | omega | (simp only; omega) | (simp only [List.length_nil, List.length_cons]; omega))); (· (exact ⟨h, hf.symm⟩)))
            | refine Fin.q ?_ ?_
            | refine Fin.qn ?_ ?_
      · simp only [stEn]
        clear ha
        repeat' first
          | simp (maxSteps := 1000000) only [go_sem, Int.reduceLT, Int.reduceLE, Int.reduceToNat, Int.reduceEq, Nat.reduceMul, ↓reduceIte, Nat.reduceLT, Nat.reduceLeDiff, Nat.reduceEqDiff, Nat.reduceAdd, Nat.reduceSub, Nat.reduceBEq, reduceCtorEq, *, stEn, Nd.row, ents_nil, List.isEmpty_nil, List.append_nil]
          | contradiction
          | refine wT ?_ ?_ <;> intro _
          | refine wF ?_ ?_ <;> intro _
          | refine cD ?_ ?_ <;> intro _
          | refine dO (by kernel_rfl) ?_
          | (refine ⟨(i + 1, e :: acc), ?_, ?_, Conv.mk ?_ ?_ ?_ ?_ ?_⟩; (· (first | omega | (simp only; omega) | (simp only [List.length_nil, List.length_cons]; omega))); (· (exact ⟨h, hf.symm⟩)))
          | refine Fin.q ?_ ?_
          | refine Fin.qn ?_ ?_
    · have hC : xs.length + 1 ≤ capMax := by unfold capMax; simp only [List.length_cons] at hfl; omega
      rcases acc with _ | ⟨e, acc⟩
      · rw [List.nil_append] at hf
        clear ha
        rcases i with _ | i
        · have w01 : IntKind.i64.wrap (0 + 1) = ((0 + 1 : Nat) : Int) := by decide
          clear hv
          simp only [stEn]
          repeat' first
            | simp (maxSteps := 1000000) only [go_sem, Int.reduceLT, Int.reduceLE, Int.reduceToNat, Int.reduceEq, Nat.reduceMul, ↓reduceIte, Nat.reduceLT, Nat.reduceLeDiff, Nat.reduceEqDiff, Nat.reduceAdd, Nat.reduceSub, Nat.reduceBEq, reduceCtorEq, *, stEn, Nd.row, ents_cons, List.isEmpty_cons, List.length_cons, ents_len, List.nil_append, List.take_length]
            | contradiction
            | refine wT ?_ ?_ <;> intro _
            | refine wF ?_ ?_ <;> intro _
            | refine cD ?_ ?_ <;> intro _
            | refine dO (by kernel_rfl) ?_
            | (refine ⟨(0 + 1, x :: xs), ?_, ?_, Conv.mk ?_ ?_ ?_ ?_ ?_⟩; (· (first | omega | (simp only; omega) | (simp only [List.length_nil, List.length_cons]; omega))); (· (exact ⟨h, hf.symm⟩)))
            | refine Fin.q ?_ ?_
            | refine Fin.qn ?_ ?_
        · simp only [stEn]
          repeat' first
            | simp (maxSteps := 1000000) only [go_sem, Int.reduceLT, Int.reduceLE, Int.reduceToNat, Int.reduceEq, Nat.reduceMul, ↓reduceIte, Nat.reduceLT, Nat.reduceLeDiff, Nat.reduceEqDiff, Nat.reduceAdd, Nat.reduceSub, Nat.reduceBEq, reduceCtorEq, *, stEn, Nd.row, ents_cons, List.isEmpty_cons, List.length_cons, ents_len, List.nil_append, List.take_length]
            | contradiction
            | refine wT ?_ ?_ <;> intro _
            | refine wF ?_ ?_ <;> intro _
            | refine cD ?_ ?_ <;> intro _
            | refine dO (by kernel_rfl) ?_
            | (refine ⟨(i + 1 + 1, x :: xs), ?_, ?_, Conv.mk ?_ ?_ ?_ ?_ ?_⟩; (· (first | omega | (simp only; omega) | (simp only [List.length_nil, List.length_cons]; omega))); (· (exact ⟨h, hf.symm⟩)))
            | refine Fin.q ?_ ?_
            | refine Fin.qn ?_ ?_
      · have hC2 : acc.length + 1 + (xs.length + 1) ≤ capMax := by unfold capMax; simp only [List.length_cons] at hfl; omega
        have z4 : (ents (e :: acc)).take (acc.length + 1) = ents (e :: acc) := ents_take_all _ _ (by simp)
        have z5 : (ents (e :: acc)).length = acc.length + 1 := by simp [ents]
        have z6 : ents (e :: acc) ++ ents (x :: xs) = ents (e :: (acc ++ x :: xs)) := by simp [ents]
        have z7 : (ents (x :: xs)).isEmpty = false := rfl
        have z8 : (ents (x :: xs)).length = xs.length + 1 := by simp [ents]
        have z9 : (acc.length + 1 + (xs.length + 1) ≤ acc.length + 1) = False := by simp only [eq_iff_iff, iff_false]; omega
        have z10 : (acc ++ x :: xs).length + 1 = acc.length + 1 + (xs.length + 1) := by simp; omega
        simp only [stEn]
        clear ha
        repeat' first
          | simp (maxSteps := 1000000) only [go_sem, Int.reduceLT, Int.reduceLE, Int.reduceToNat, Int.reduceEq, Nat.reduceMul, ↓reduceIte, Nat.reduceLT, Nat.reduceLeDiff, Nat.reduceEqDiff, Nat.reduceAdd, Nat.reduceSub, Nat.reduceBEq, reduceCtorEq, *, stEn, Nd.row, ents_len, List.drop_zero, eq_self]
          | contradiction
          | refine wT ?_ ?_ <;> intro _
          | refine wF ?_ ?_ <;> intro _
          | refine cD ?_ ?_ <;> intro _
          | refine dO (by kernel_rfl) ?_
          | (refine ⟨(i + 1, e :: (acc ++ x :: xs)), ?_, ?_, Conv.mk ?_ ?_ ?_ ?_ ?_⟩; (· (first | omega | (simp only; omega) | (simp only [List.length_nil, List.length_cons]; omega))); (· (exact ⟨h, hf.symm⟩)))
          | refine Fin.q ?_ ?_
          | refine Fin.qn ?_ ?_
  · have hz : t.ns.take i = t.ns := by rw [List.take_of_length_le]; omega
    rw [hz] at ha
    rw [← ha] at h0 ⊢
    clear ha hz
    rcases acc with _ | ⟨e, acc⟩
    · exact absurd rfl h0
    · have z4 : (ents (e :: acc)).take (acc.length + 1) = ents (e :: acc) := ents_take_all _ _ (by simp)
      have z5 : (ents (e :: acc)).length = acc.length + 1 := by simp [ents]
      clear h0
      simp only [stEn]
      repeat' first
        | simp (maxSteps := 1000000) only [go_sem, Int.reduceLT, Int.reduceLE, Int.reduceToNat, Int.reduceEq, Nat.reduceMul, ↓reduceIte, Nat.reduceLT, Nat.reduceLeDiff, Nat.reduceEqDiff, Nat.reduceAdd, Nat.reduceSub, Nat.reduceBEq, reduceCtorEq, *, List.drop_zero, eq_self, Nat.zero_add, List.length_cons]
        | contradiction
        | refine wT ?_ ?_ <;> intro _
        | refine wF ?_ ?_ <;> intro _
        | refine cD ?_ ?_ <;> intro _
        | refine dO (by kernel_rfl) ?_
        | ((first | refine Fin.qy [2] (by simp) (by simp) ?_ ?_ | refine Fin.qn ?_ ?_) <;> ((try simp (maxSteps := 1000000) only [go_sem, Int.reduceLT, Int.reduceLE, Int.reduceToNat, Int.reduceEq, Nat.reduceMul, ↓reduceIte, Nat.reduceLT, Nat.reduceLeDiff, Nat.reduceEqDiff, Nat.reduceAdd, Nat.reduceSub, Nat.reduceBEq, reduceCtorEq, *, List.drop_zero, eq_self, Nat.zero_add, List.length_cons]) <;> (first | done | rfl)))
set_option maxHeartbeats 2000000 in
set_option maxRecDepth 20000 in
theorem cEntr0 (t : Tr) (hn : t.ns.length ≤ 1000000) (hl : (flatE t.ns).length ≤ 1000000) (h1 : t.ns ≠ []) (h0 : flatE t.ns = []) : FC Tryz.prog 43 [.agg t.row] [] (.nils) [] := by
  refine FC.of_run mix Tryz.func43 rfl rfl (by simp [Tryz.ntmps43]) ?_
  repeat' first
    | simp (maxSteps := 1000000) only [go_sem, Int.reduceLT, Int.reduceLE, Int.reduceToNat, Int.reduceEq, Nat.reduceMul, ↓reduceIte, Nat.reduceLT, Nat.reduceLeDiff, Nat.reduceEqDiff, Nat.reduceAdd, Nat.reduceSub, Nat.reduceBEq, reduceCtorEq, *, nods_len]
    | contradiction
    | refine wT ?_ ?_ <;> intro _
    | refine wF ?_ ?_ <;> intro _
    | refine cD ?_ ?_ <;> intro _
    | refine dO (by kernel_rfl) ?_
    | refine Fin.q ?_ ?_
    | refine Fin.qn ?_ ?_
  refine AW.loopx (σ := Nat × List En) mix (stEn t) (fun p => p.1 ≤ t.ns.length ∧ p.2 = flatE (t.ns.take p.1)) (fun p => t.ns.length - p.1) (0, []) ⟨Nat.zero_le _, rfl⟩ (Conv.mk ?_ ?_ ?_ ?_ ?_) ?_
  iterate 5 (· (simp (maxSteps := 1000000) only [go_sem, Int.reduceLT, Int.reduceLE, Int.reduceToNat, Int.reduceEq, Nat.reduceMul, ↓reduceIte, Nat.reduceLT, Nat.reduceLeDiff, Nat.reduceEqDiff, Nat.reduceAdd, Nat.reduceSub, Nat.reduceBEq, reduceCtorEq, stEn]) <;> rfl)
  intro ⟨i, acc⟩ ⟨hi, ha⟩
  simp only at hi ha
  have hv := wrap1 (i := i) (by omega)
  have hfl := flatE_take_le t.ns (i + 1)
  by_cases h : i < t.ns.length
  · have hx := nods_get h
    have hf := flatE_snoc h
    rw [← ha] at hf
    rw [hf, List.length_append] at hfl
    rcases hes : (t.ns.getD i default).es with _ | ⟨x, xs⟩ <;> rw [hes] at hf hfl
    · rw [List.append_nil] at hf
      rcases acc with _ | ⟨e, acc⟩
      · clear ha
        rcases i with _ | i
        · have w01 : IntKind.i64.wrap (0 + 1) = ((0 + 1 : Nat) : Int) := by decide
          clear hv
          simp only [stEn]
          repeat' first
            | simp (maxSteps := 1000000) only [go_sem, Int.reduceLT, Int.reduceLE, Int.reduceToNat, Int.reduceEq, Nat.reduceMul, ↓reduceIte, Nat.reduceLT, Nat.reduceLeDiff, Nat.reduceEqDiff, Nat.reduceAdd, Nat.reduceSub, Nat.reduceBEq, reduceCtorEq, *, stEn, Nd.row, ents_nil, List.isEmpty_nil, List.append_nil]
            | contradiction
            | refine wT ?_ ?_ <;> intro _
            | refine wF ?_ ?_ <;> intro _
            | refine cD ?_ ?_ <;> intro _
            | refine dO (by kernel_rfl) ?_
            | (refine ⟨(0 + 1, []), ?_, ?_, Conv.mk ?_ ?_ ?_ ?_ ?_⟩; (· (first | omega | (simp only; omega) | (simp only [List.length_nil, List.length_cons]; omega))); (· (exact ⟨h, hf.symm⟩)))
            | refine Fin.q ?_ ?_
            | refine Fin.qn ?_ ?_
        · simp only [stEn]
          repeat' first
            | simp (maxSteps := 1000000) only [go_sem, Int.reduceLT, Int.reduceLE, Int.reduceToNat, Int.reduceEq, Nat.reduceMul, ↓reduceIte, Nat.reduceLT, Nat.reduceLeDiff, Nat.reduceEqDiff, Nat.reduceAdd, Nat.reduceSub, Nat.reduceBEq, reduceCtorEq, *, stEn, Nd.row, ents_nil, List.isEmpty_nil, List.append_nil]
            | contradiction
            | refine wT ?_ ?_ <;> intro _
            | refine wF ?_ ?_ <;> intro _
            | refine cD ?_ ?_ <;> intro _
            | refine dO (by kernel_rfl) ?_
            | (refine ⟨(i + 1 + 1, []), ?_, ?_, Conv.mk ?_ ?_ ?_ ?_ ?_⟩; (· (first | omega | (simp only; omega) | (simp only [List.length_nil, List.length_cons]; omega))); (· (exact ⟨h, hf.symm⟩)))
            | refine Fin.q ?_ ?_
            | refine Fin.qn ?_ ?_
      · simp only [stEn]
        clear ha
        repeat' first
          | simp (maxSteps := 1000000) only [go_sem, Int.reduceLT, Int.reduceLE, Int.reduceToNat, Int.reduceEq, Nat.reduceMul, ↓reduceIte, Nat.reduceLT, Nat.reduceLeDiff, Nat.reduceEqDiff, Nat.reduceAdd, Nat.reduceSub, Nat.reduceBEq, reduceCtorEq, *, stEn, Nd.row, ents_nil, List.isEmpty_nil, List.append_nil]
          | contradiction
          | refine wT ?_ ?_ <;> intro _
          | refine wF ?_ ?_ <;> intro _
          | refine cD ?_ ?_ <;> intro _
          | refine dO (by kernel_rfl) ?_
          | (refine ⟨(i + 1, e :: acc), ?_, ?_, Conv.mk ?_ ?_ ?_ ?_ ?_⟩; (· (first | omega | (simp only; omega) | (simp only [List.length_nil, List.length_cons]; omega))); (· (exact ⟨h, hf.symm⟩)))
          | refine Fin.q ?_ ?_
          | refine Fin.qn ?_ ?_
    · have hC : xs.length + 1 ≤ capMax := by unfold capMax; simp only [List.length_cons] at hfl; omega
      rcases acc with _ | ⟨e, acc⟩
      · rw [List.nil_append] at hf
        clear ha
        rcases i with _ | i
        · have w01 : IntKind.i64.wrap (0 + 1) = ((0 + 1 : Nat) : Int) := by decide
          clear hv
          simp only [stEn]
          repeat' first
            | simp (maxSteps := 1000000) only [go_sem, Int.reduceLT, Int.reduceLE, Int.reduceToNat, Int.reduceEq, Nat.reduceMul, ↓reduceIte, Nat.reduceLT, Nat.reduceLeDiff, Nat.reduceEqDiff, Nat.reduceAdd, Nat.reduceSub, Nat.reduceBEq, reduceCtorEq, *, stEn, Nd.row, ents_cons, List.isEmpty_cons, List.length_cons, ents_len, List.nil_append, List.take_length]
            | contradiction
            | refine wT ?_ ?_ <;> intro _
            | refine wF ?_ ?_ <;> intro _
            | refine cD ?_ ?_ <;> intro _
            | refine dO (by kernel_rfl) ?_
            | (refine ⟨(0 + 1, x :: xs), ?_, ?_, Conv.mk ?_ ?_ ?_ ?_ ?_⟩; (· (first | omega | (simp only; omega) | (simp only [List.length_nil, List.length_cons]; omega))); (· (exact ⟨h, hf.symm⟩)))
            | refine Fin.q ?_ ?_
            | refine Fin.qn ?_ ?_
        · simp only [stEn]
          repeat' first
            | simp (maxSteps := 1000000) only [go_sem, Int.reduceLT, Int.reduceLE, Int.reduceToNat, Int.reduceEq, Nat.reduceMul, ↓reduceIte, Nat.reduceLT, Nat.reduceLeDiff, Nat.reduceEqDiff, Nat.reduceAdd, Nat.reduceSub, Nat.reduceBEq, reduceCtorEq, *, stEn, Nd.row, ents_cons, List.isEmpty_cons, List.length_cons, ents_len, List.nil_append, List.take_length]
            | contradiction
            | refine wT ?_ ?_ <;> intro _
            | refine wF ?_ ?_ <;> intro _
            | refine cD ?_ ?_ <;> intro _
            | refine dO (by kernel_rfl) ?_
            | (refine ⟨(i + 1 + 1, x :: xs), ?_, ?_, Conv.mk ?_ ?_ ?_ ?_ ?_⟩; (· (first | omega | (simp only; omega) | (simp only [List.length_nil, List.length_cons]; omega))); (· (exact ⟨h, hf.symm⟩)))
            | refine Fin.q ?_ ?_
            | refine Fin.qn ?_ ?_
      · have hC2 : acc.length + 1 + (xs.length + 1) ≤ capMax := by unfold capMax; simp only [List.length_cons] at hfl; omega
        have z4 : (ents (e :: acc)).take (acc.length + 1) = ents (e :: acc) := ents_take_all _ _ (by simp)
        have z5 : (ents (e :: acc)).length = acc.length + 1 := by simp [ents]
        have z6 : ents (e :: acc) ++ ents (x :: xs) = ents (e :: (acc ++ x :: xs)) := by simp [ents]
        have z7 : (ents (x :: xs)).isEmpty = false := rfl
        have z8 : (ents (x :: xs)).length = xs.length + 1 := by simp [ents]
        have z9 : (acc.length + 1 + (xs.length + 1) ≤ acc.length + 1) = False := by simp only [eq_iff_iff, iff_false]; omega
        have z10 : (acc ++ x :: xs).length + 1 = acc.length + 1 + (xs.length + 1) := by simp; omega
        simp only [stEn]
        clear ha
        repeat' first
          | simp (maxSteps := 1000000) only [go_sem, Int.reduceLT, Int.reduceLE, Int.reduceToNat, Int.reduceEq, Nat.reduceMul, ↓reduceIte, Nat.reduceLT, Nat.reduceLeDiff, Nat.reduceEqDiff, Nat.reduceAdd, Nat.reduceSub, Nat.reduceBEq, reduceCtorEq, *, stEn, Nd.row, ents_len, List.drop_zero, eq_self]
          | contradiction
          | refine wT ?_ ?_ <;> intro _
          | refine wF ?_ ?_ <;> intro _
          | refine cD ?_ ?_ <;> intro _
          | refine dO (by kernel_rfl) ?_
          | (refine ⟨(i + 1, e :: (acc ++ x :: xs)), ?_, ?_, Conv.mk ?_ ?_ ?_ ?_ ?_⟩; (· (first | omega | (simp only; omega) | (simp only [List.length_nil, List.length_cons]; omega))); (· (exact ⟨h, hf.symm⟩)))
          | refine Fin.q ?_ ?_
          | refine Fin.qn ?_ ?_
  · have hz : t.ns.take i = t.ns := by rw [List.take_of_length_le]; omega
    rw [hz] at ha
    rw [← ha] at h0
    clear ha hz
    rcases acc with _ | ⟨e, acc⟩
    · rcases i with _ | i
      · exact absurd (List.eq_nil_of_length_eq_zero (by omega)) h1
      · clear h0 h1
        simp only [stEn]
        repeat' first
          | simp (maxSteps := 1000000) only [go_sem, Int.reduceLT, Int.reduceLE, Int.reduceToNat, Int.reduceEq, Nat.reduceMul, ↓reduceIte, Nat.reduceLT, Nat.reduceLeDiff, Nat.reduceEqDiff, Nat.reduceAdd, Nat.reduceSub, Nat.reduceBEq, reduceCtorEq, *, ents_nil]
          | contradiction
          | refine wT ?_ ?_ <;> intro _
          | refine wF ?_ ?_ <;> intro _
          | refine cD ?_ ?_ <;> intro _
          | refine dO (by kernel_rfl) ?_
          | ((first | refine Fin.q0 ?_ ?_ | refine Fin.qn ?_ ?_) <;> ((try simp (maxSteps := 1000000) only [go_sem, Int.reduceLT, Int.reduceLE, Int.reduceToNat, Int.reduceEq, Nat.reduceMul, ↓reduceIte, Nat.reduceLT, Nat.reduceLeDiff, Nat.reduceEqDiff, Nat.reduceAdd, Nat.reduceSub, Nat.reduceBEq, reduceCtorEq, *, ents_nil]) <;> (first | done | rfl)))
    · exact absurd h0 (by simp)
theorem kEntrO {t : Tr} {H : Heap} {slot : Nat} {K : D → List (Nat × Blk) → List (Nat × Blk) → Prop} (hn : t.ns.length ≤ 1000000) (hl : (flatE t.ns).length ≤ 1000000) (h0 : flatE t.ns ≠ []) (hK : K (.rs 4 slot 0 (flatE t.ns).length (flatE t.ns).length) [(slot, ents (flatE t.ns))] []) : @callB ⟨callX Tryz.prog⟩ 43 [.agg t.row] H slot ⟨K⟩ := by
  have he : rdOf H (D.idsL [.agg t.row]) = [] := by simp [D.idsL, D.ids, rdOf, Tr.row]
  refine callO (cEntrO t hn hl h0) rfl (r' := .rs 4 slot 0 (flatE t.ns).length (flatE t.ns).length) (outs' := [ents (flatE t.ns)]) rfl ?_ (by simp) (by rw [he]; exact hK)
  simp [backB, trB, pureB, ents_pure]
theorem kEntr0 {t : Tr} {H : Heap} {slot : Nat} {K : D → List (Nat × Blk) → List (Nat × Blk) → Prop} (hn : t.ns.length ≤ 1000000) (hl : (flatE t.ns).length ≤ 1000000) (h1 : t.ns ≠ []) (h0 : flatE t.ns = []) (hK : K .nils [] []) : @callB ⟨callX Tryz.prog⟩ 43 [.agg t.row] H slot ⟨K⟩ := by
  have he : rdOf H (D.idsL [.agg t.row]) = [] := by simp [D.idsL, D.ids, rdOf, Tr.row]
  exact callO (cEntr0 t hn hl h1 h0) rfl (r' := .nils) (outs' := []) rfl rfl (by simp) (by rw [he]; exact hK)
/-- What find says of the place. -/
def hitE (s : Sc) (l : List En) (e : En) (P : Nat) : Bool := decide (P < l.length ∧ ecmp s (l.getD P default) e = 0)
theorem kSortR {t : Tr} {l : List En} {q q2 : Nat} {H : Heap} (hH : hget H q = some [t.row]) (hL : hget H q2 = some (ents l)) (hq : q2 ≠ q) {slot : Nat} {K : D → List (Nat × Blk) → List (Nat × Blk) → Prop} (hl : l.length ≤ 64) (hs : sorted t.sc l) (hK : K (.tup []) [] [(q2, ents l), (q, [t.row])]) : @callB ⟨callX Tryz.prog⟩ 70 [.rs 4 q2 0 l.length l.length, .fn 95 [.ptr q 1 0 0]] H slot ⟨K⟩ := by
  have e : rdOf H (D.idsL [.rs 4 q2 0 l.length l.length, .fn 95 [.ptr q 1 0 0]]) = [(q2, ents l), (q, [t.row])] := by simp [D.idsL, D.ids, rdOf, hH, hL]
  refine call0 true (cSort 95 t.row (ecmp t.sc) l ⟨fun x y => cFd1 t x y, sorted_asc hs, by omega⟩ hl) ?_ rfl (fun _ => rfl) ?_
  · rw [e]
    have z : (ents l).take l.length = ents l := ents_take_all _ _ (Nat.le_refl _)
    have zp : pureB (ents l) = true := ents_pure _
    simp [trL, tr, pos, AH.look, nods_pure1, hq, ents_len, zp, z]
  · rw [e]; exact hK
theorem kSortN {t : Tr} {q : Nat} {H : Heap} (hH : hget H q = some [t.row]) {slot : Nat} {K : D → List (Nat × Blk) → List (Nat × Blk) → Prop} (hK : K (.tup []) [] [(q, [t.row])]) : @callB ⟨callX Tryz.prog⟩ 70 [.nils, .fn 95 [.ptr q 1 0 0]] H slot ⟨K⟩ := by
  have e : rdOf H (D.idsL [.nils, .fn 95 [.ptr q 1 0 0]]) = [(q, [t.row])] := by simp [D.idsL, D.ids, rdOf, hH]
  refine call0 true (cSort 95 t.row (ecmp t.sc) [] ⟨fun x y => cFd1 t x y, sorted_asc (by simp [sorted]), by simp⟩ (by simp)) ?_ rfl (fun _ => rfl) ?_
  · rw [e]
    simp [trL, tr, pos, AH.look, nods_pure1, ents]
  · rw [e]; exact hK
theorem kBinR {t : Tr} {l : List En} {x : En} {P : Nat} {q q2 : Nat} {H : Heap} (hH : hget H q = some [t.row]) (hL : hget H q2 = some (ents l)) (hq : q2 ≠ q) {slot : Nat} {K : D → List (Nat × Blk) → List (Nat × Blk) → Prop} (hl : l.length ≤ 64) (ha : At (ecmp t.sc) l x P) (hK : K (.tup [.int .i64 P, .bool (hitE t.sc l x P)]) [] [(q2, ents l), (q, [t.row])]) : @callB ⟨callX Tryz.prog⟩ 96 [.rs 4 q2 0 l.length l.length, .agg x.row, .fn 97 [.ptr q 1 0 0]] H slot ⟨K⟩ := by
  have e : rdOf H (D.idsL [.rs 4 q2 0 l.length l.length, .agg x.row, .fn 97 [.ptr q 1 0 0]]) = [(q2, ents l), (q, [t.row])] := by simp [D.idsL, D.ids, rdOf, hH, hL, En.row]
  refine call0 true (cBinG 97 t.row (ecmp t.sc) (fun x y => cFd2 t x y) l x P (by omega) ha) ?_ rfl (fun _ => rfl) ?_
  · rw [e]
    have z : (ents l).take l.length = ents l := ents_take_all _ _ (Nat.le_refl _)
    have zp : pureB (ents l) = true := ents_pure _
    simp [trL, tr, pos, AH.look, nods_pure1, hq, ents_len, zp, z, En.row]
  · rw [e]; exact hK
theorem kBinN {t : Tr} {x : En} {q : Nat} {H : Heap} (hH : hget H q = some [t.row]) {slot : Nat} {K : D → List (Nat × Blk) → List (Nat × Blk) → Prop} (hK : K (.tup [.int .i64 0, .bool false]) [] [(q, [t.row])]) : @callB ⟨callX Tryz.prog⟩ 96 [.nils, .agg x.row, .fn 97 [.ptr q 1 0 0]] H slot ⟨K⟩ := by
  have e : rdOf H (D.idsL [.nils, .agg x.row, .fn 97 [.ptr q 1 0 0]]) = [(q, [t.row])] := by simp [D.idsL, D.ids, rdOf, hH, En.row]
  refine call0 true (r := .tup [.int .i64 0, .bool false]) (cBinG 97 t.row (ecmp t.sc) (fun x y => cFd2 t x y) [] x 0 (by simp) ⟨Nat.le_refl _, fun k hk => by simp at hk⟩) ?_ rfl (fun _ => rfl) ?_
  · rw [e]
    simp [trL, tr, pos, AH.look, nods_pure1, ents, En.row]
  · rw [e]; exact hK
set_option maxHeartbeats 2000000 in
set_option maxRecDepth 20000 in
theorem cFindO (s : Sc) (c : Int) (l : List En) (e : En) (P : Nat) (h : ofE s c l = 0) (h60 : l.length ≤ 60) (hne : l ≠ []) (ha : At (ecmp s) l e P) : FC Tryz.prog 51 [.agg (ofT s c l).row, .agg e.row] [] (.tup [.rs 4 0 0 l.length l.length, .int .i64 P, .bool (hitE s l e P)]) [ents l] := by
  obtain ⟨h1, h2, h3, h4⟩ := ofT_ok h
  have hf := flatE_growF s c 32 0 (rootW s) l (sorted_ord (emE_0.1 h1).1 h3)
  have hgl := growF_len s c (emE_0.1 h1).2.1 32 0 (rootW s) l
  rw [h4]
  generalize growF s c 32 0 (rootW s) l = ns at *
  have g2 : ns.length ≤ 1000000 := by omega
  have g3 : (flatE ns).length ≤ 1000000 := by rw [hf]; omega
  have g4 : flatE ns ≠ [] := by rw [hf]; exact hne
  have h64 : l.length ≤ 64 := by omega
  clear hgl h4 h
  refine FC.of_run mix Tryz.func51 rfl rfl (by simp [Tryz.ntmps51]) ?_
  repeat' first
    | simp (maxSteps := 1000000) only [go_sem, Int.reduceLT, Int.reduceLE, Int.reduceToNat, Int.reduceEq, Nat.reduceMul, ↓reduceIte, Nat.reduceLT, Nat.reduceLeDiff, Nat.reduceEqDiff, Nat.reduceAdd, Nat.reduceSub, Nat.reduceBEq, reduceCtorEq, *]
    | contradiction
    | refine wT ?_ ?_ <;> intro _
    | refine wF ?_ ?_ <;> intro _
    | refine cD ?_ ?_ <;> intro _
    | refine dO (by kernel_rfl) ?_
    | refine (kEntrO (t := ⟨s, c, ns⟩) g2 g3 g4) ?_
    | refine (kSortR (t := ⟨s, c, ns⟩) rfl rfl (by decide) h64 h3) ?_
    | refine (kBinR (t := ⟨s, c, ns⟩) (x := e) rfl rfl (by decide) h64 ha) ?_
    | refine Fin.qy [2] (by simp) (by simp) ?_ ?_
set_option maxHeartbeats 2000000 in
set_option maxRecDepth 20000 in
theorem cFind0 (s : Sc) (c : Int) (e : En) (h : ofE s c [] = 0) : FC Tryz.prog 51 [.agg (ofT s c []).row, .agg e.row] [] (.tup [.nils, .int .i64 0, .bool false]) [] := by
  obtain ⟨h1, h2, h3, h4⟩ := ofT_ok h
  have hf := flatE_growF s c 32 0 (rootW s) [] (sorted_ord (emE_0.1 h1).1 h3)
  have hgl := growF_len s c (emE_0.1 h1).2.1 32 0 (rootW s) []
  have g5 : growF s c 32 0 (rootW s) [] ≠ [] := fun hx => by rw [hx] at hgl; have := hgl.1; simp only [List.length_nil] at this; omega
  rw [h4]
  generalize growF s c 32 0 (rootW s) [] = ns at *
  have g2 : ns.length ≤ 1000000 := by simp at hgl; omega
  have g3 : (flatE ns).length ≤ 1000000 := by rw [hf]; simp
  clear hgl h4 h
  refine FC.of_run mix Tryz.func51 rfl rfl (by simp [Tryz.ntmps51]) ?_
  repeat' first
    | simp (maxSteps := 1000000) only [go_sem, Int.reduceLT, Int.reduceLE, Int.reduceToNat, Int.reduceEq, Nat.reduceMul, ↓reduceIte, Nat.reduceLT, Nat.reduceLeDiff, Nat.reduceEqDiff, Nat.reduceAdd, Nat.reduceSub, Nat.reduceBEq, reduceCtorEq, *]
    | contradiction
    | refine wT ?_ ?_ <;> intro _
    | refine wF ?_ ?_ <;> intro _
    | refine cD ?_ ?_ <;> intro _
    | refine dO (by kernel_rfl) ?_
    | refine (kEntr0 (t := ⟨s, c, ns⟩) g2 g3 g5 hf) ?_
    | refine (kSortN (t := ⟨s, c, ns⟩) rfl) ?_
    | refine (kBinN (t := ⟨s, c, ns⟩) (x := e) rfl) ?_
    | refine Fin.q0 ?_ ?_
def zEn : List D := [.zs, .zs, .int .i64 0, .int .i64 0]
set_option maxHeartbeats 4000000 in
set_option maxRecDepth 20000 in
theorem cDelM (l : List En) (i n : Nat) (hn : l.length = n) (hi : i + 1 < n) (hl : n ≤ 1000) : FC Tryz.prog 53 [.rs 4 0 0 n n, .int .i64 i, .int .i64 ((i + 1 : Nat) : Int)] [ents l] (.rs 4 0 0 (n - 1) n) [ents (l.take i ++ l.drop (i + 1)) ++ [[.zs, .zs, .int .i64 0, .int .i64 0]]] := by
  have h1 : i ≤ n := by omega
  have h2 : i ≤ i + 1 := by omega
  have h3 : i + 1 ≤ n := by omega
  have h4 : ((i : Int) = ((i + 1 : Nat) : Int)) = False := by simp only [eq_iff_iff, iff_false]; omega
  have g1 : i + 1 + (n - (i + 1)) = n := by omega
  have g2 : i + (n - (i + 1)) = n - 1 := by omega
  have g3 : n - 1 ≤ n := by omega
  have g4 : n - (n - 1) = 1 := by omega
  have g5 : (n - 1 + 1 = n) = True := by simp only [eq_iff_iff, iff_true]; omega
  have g6 : (n = n - 1 + 1) = True := by simp only [eq_iff_iff, iff_true]; omega
  have k1 : List.take (n - (i + 1)) (List.drop (i + 1) (ents l)) = List.drop (i + 1) (ents l) := by rw [List.take_of_length_le]; simp [ents_len]; omega
  have k2 : (List.drop (i + 1) (ents l)).length = n - (i + 1) := by simp [ents_len, hn]
  have k3 : (List.drop (i + 1) (ents l)).isEmpty = false := by
    cases hd : List.drop (i + 1) (ents l) with
    | nil => rw [hd] at k2; simp at k2; omega
    | cons a b => rfl
  have k4 : (List.take i (ents l)).length = i := by simp [ents_len]; omega
  have k5 : (List.drop (n - 1) (ents l)).length = 1 := by simp [ents_len, hn]; omega
  have k6 : List.take (n - 1) (List.take i (ents l) ++ List.drop (i + 1) (ents l) ++ List.drop (n - 1) (ents l)) = ents (l.take i ++ l.drop (i + 1)) := by
    rw [List.take_append_of_le_length (by rw [List.length_append, k4, k2]; omega), List.take_of_length_le (by rw [List.length_append, k4, k2]; omega)]
    simp [ents]
  have k7 : (List.take i (ents l) ++ List.drop (i + 1) (ents l) ++ List.drop (n - 1) (ents l)).length = n := by rw [List.length_append, List.length_append, k4, k2, k5]; omega
  have k8 : List.drop n (List.take i (ents l) ++ List.drop (i + 1) (ents l) ++ List.drop (n - 1) (ents l)) = [] := by rw [List.drop_eq_nil_of_le]; rw [k7]; exact Nat.le_refl _
  have g7 : n - 1 + 1 = n := by omega
  refine FC.of_run mix Tryz.func53 rfl rfl (by simp [Tryz.ntmps53]) ?_
  repeat' first
    | simp (maxSteps := 1000000) only [go_sem, Int.reduceLT, Int.reduceLE, Int.reduceToNat, Int.reduceEq, Nat.reduceMul, ↓reduceIte, Nat.reduceLT, Nat.reduceLeDiff, Nat.reduceEqDiff, Nat.reduceAdd, Nat.reduceSub, Nat.reduceBEq, reduceCtorEq, *, ents_len, ite_self, eq_self, List.append_nil, List.drop_zero, Nat.zero_add, Nat.sub_zero, Int.toNat_natCast, Nat.le_refl, true_and, and_true, and_self, or_true, aclear, List.all_append, List.all_cons, List.all_nil, D.isPur, Bool.and_true]
    | contradiction
    | refine wT ?_ ?_ <;> intro _
    | refine wF ?_ ?_ <;> intro _
    | refine cD ?_ ?_ <;> intro _
    | refine dO (by kernel_rfl) ?_
    | refine Fin.q ?_ ?_
    | refine Fin.qn ?_ ?_
set_option maxHeartbeats 4000000 in
set_option maxRecDepth 20000 in
theorem cDelL (l : List En) (i n : Nat) (hn : l.length = n) (hi : i + 1 = n) (hl : n ≤ 1000) : FC Tryz.prog 53 [.rs 4 0 0 n n, .int .i64 i, .int .i64 ((i + 1 : Nat) : Int)] [ents l] (.rs 4 0 0 i n) [ents (l.take i) ++ [[.zs, .zs, .int .i64 0, .int .i64 0]]] := by
  have h1 : i ≤ n := by omega
  have h2 : i ≤ i + 1 := by omega
  have h3 : i + 1 ≤ n := by omega
  have h4 : ((i : Int) = ((i + 1 : Nat) : Int)) = False := by simp only [eq_iff_iff, iff_false]; omega
  have g0 : n - (i + 1) = 0 := by omega
  have g1 : (n = i + 1 + 0) = True := by simp only [eq_iff_iff, iff_true]; omega
  have g4 : n - i = 1 := by omega
  have g5 : (n = i + 1) = True := by simp only [eq_iff_iff, iff_true]; omega
  have g6 : (i + 1 = n) = True := by simp only [eq_iff_iff, iff_true]; omega
  have k1 : List.drop (i + 1) (ents l) = [] := by rw [List.drop_eq_nil_of_le]; simp [ents_len]; omega
  have k6 : List.take i (ents l) = ents (l.take i) := by simp [ents]
  have k8 : List.drop n (ents l) = [] := by rw [List.drop_eq_nil_of_le]; simp [ents_len]; omega
  clear hi
  refine FC.of_run mix Tryz.func53 rfl rfl (by simp [Tryz.ntmps53]) ?_
  repeat' first
    | simp (maxSteps := 1000000) only [go_sem, Int.reduceLT, Int.reduceLE, Int.reduceToNat, Int.reduceEq, Nat.reduceMul, ↓reduceIte, Nat.reduceLT, Nat.reduceLeDiff, Nat.reduceEqDiff, Nat.reduceAdd, Nat.reduceSub, Nat.reduceBEq, reduceCtorEq, *, ents_len, ite_self, eq_self, List.append_nil, List.drop_zero, Nat.zero_add, Nat.sub_zero, Int.toNat_natCast, Nat.le_refl, true_and, and_true, and_self, or_true, aclear, List.all_append, List.all_cons, List.all_nil, D.isPur, Bool.and_true, List.take_zero, List.isEmpty_nil]
    | contradiction
    | refine wT ?_ ?_ <;> intro _
    | refine wF ?_ ?_ <;> intro _
    | refine cD ?_ ?_ <;> intro _
    | refine dO (by kernel_rfl) ?_
    | refine Fin.q ?_ ?_
    | refine Fin.qn ?_ ?_
/-- An entry less, at a place. -/
def cutE (l : List En) (P : Nat) : List En := l.take P ++ l.drop (P + 1)
theorem cutE_len {l : List En} {P : Nat} (h : P < l.length) : (cutE l P).length = l.length - 1 := by simp [cutE]; omega
theorem cDelI (l : List En) (i : Nat) (hi : i < l.length) (hl : l.length ≤ 1000) : FC Tryz.prog 53 [.rs 4 0 0 l.length l.length, .int .i64 i, .int .i64 ((i + 1 : Nat) : Int)] [ents l] (.rs 4 0 0 (l.length - 1) l.length) [ents (cutE l i) ++ [[.zs, .zs, .int .i64 0, .int .i64 0]]] := by
  rcases Nat.lt_or_ge (i + 1) l.length with h | h
  · exact cDelM l i l.length rfl h hl
  · have h1 : i + 1 = l.length := by omega
    have h2 : cutE l i = l.take i := by unfold cutE; rw [List.drop_eq_nil_of_le (by omega), List.append_nil]
    have h3 : l.length - 1 = i := by omega
    rw [h2, h3]
    exact cDelL l i l.length rfl h1 hl
theorem kDel {l : List En} {i q : Nat} {H : Heap} {slot : Nat} {K : D → List (Nat × Blk) → List (Nat × Blk) → Prop} (hH : hget H q = some (ents l)) (hi : i < l.length) (hl : l.length ≤ 1000)
    (hK : K (.rs 4 q 0 (l.length - 1) l.length) [(q, ents (cutE l i) ++ [[.zs, .zs, .int .i64 0, .int .i64 0]])] [(q, ents l), (q, ents l)]) : @callB ⟨callX Tryz.prog⟩ 53 [.rs 4 q 0 l.length l.length, .int .i64 i, .int .i64 ((i + 1 : Nat) : Int)] H slot ⟨K⟩ := by
  have e1 : rdOf H ([q] ++ D.idsL [.rs 4 q 0 l.length l.length, .int .i64 i, .int .i64 ((i + 1 : Nat) : Int)]) = [(q, ents l), (q, ents l)] := by simp [D.idsL, D.ids, rdOf, hH]
  have zp : pureB (ents l) = true := ents_pure _
  have zq : pureB (ents (cutE l i) ++ [[.zs, .zs, .int .i64 0, .int .i64 0]]) = true := by
    have := ents_pure (cutE l i)
    unfold pureB at this ⊢
    rw [List.all_append, this]
    rfl
  refine callX2 [q] (cDelI l i hi hl) (by simp) ?_ ?_ ⟨by simp, by simp⟩ (r' := .rs 4 q 0 (l.length - 1) l.length) (outs' := [ents (cutE l i) ++ [[.zs, .zs, .int .i64 0, .int .i64 0]]]) ?_ ?_ ?_
  · simp [trL, tr, pos]
  · rw [e1]
    simp [insA, AH.look, trB, zp]
  · simp [tr]
  · simp [backB, trB, zq]
  · rw [e1]; exact hK
/-- An entry more, at a place. -/
def putE (l : List En) (P : Nat) (e : En) : List En := l.take P ++ e :: l.drop P
theorem putE_len {l : List En} {P : Nat} {e : En} (h : P ≤ l.length) : (putE l P e).length = l.length + 1 := by simp [putE]; omega
theorem cInsI (l : List En) (e : En) (i : Nat) (hi : i ≤ l.length) (hne : l ≠ []) (hl : l.length ≤ 1000) : FC Tryz.prog 52 [.rs 4 0 0 l.length l.length, .int .i64 i, .bs (ents [e])] [ents l] (.rs 4 0 0 (l.length + 1) (l.length + 1)) [ents (putE l i e)] := by
  rcases Nat.lt_or_ge i l.length with h | h
  · exact cInsM l e i h hl
  · obtain rfl : i = l.length := by omega
    have : putE l l.length e = l ++ [e] := by simp [putE]
    rw [this]
    exact cInsE l e hne hl
theorem kIns {l : List En} {e : En} {i q b : Nat} {H : Heap} {slot : Nat} {K : D → List (Nat × Blk) → List (Nat × Blk) → Prop} (hH : hget H q = some (ents l)) (hB : hget H b = some [e.row]) (hqb : q ≠ b) (hi : i ≤ l.length) (hne : l ≠ []) (hl : l.length ≤ 1000)
    (hK : K (.rs 4 q 0 (l.length + 1) (l.length + 1)) [(q, ents (putE l i e))] [(q, ents l), (q, ents l), (b, [e.row])]) : @callB ⟨callX Tryz.prog⟩ 52 [.rs 4 q 0 l.length l.length, .int .i64 i, .rs 4 b 0 1 1] H slot ⟨K⟩ := by
  have e1 : rdOf H ([q] ++ D.idsL [.rs 4 q 0 l.length l.length, .int .i64 i, .rs 4 b 0 1 1]) = [(q, ents l), (q, ents l), (b, [e.row])] := by simp [D.idsL, D.ids, rdOf, hH, hB]
  have ep : pureB [e.row] = true := rfl
  refine callX2 [q] (cInsI l e i hi hne hl) (by simp) ?_ ?_ ⟨by simp, by simp⟩ (r' := .rs 4 q 0 (l.length + 1) (l.length + 1)) (outs' := [ents (putE l i e)]) ?_ ?_ ?_
  · rw [e1]
    simp [trL, tr, pos, AH.look, hqb, ep, En.row, pureB, D.isPur]
    rfl
  · rw [e1]
    simp [insA, AH.look, trB, pureB, ents_pure]
  · simp [tr]
  · simp [backB, trB, pureB, ents_pure]
  · rw [e1]; exact hK
theorem kFindO {s : Sc} {c : Int} {l : List En} {e : En} {P : Nat} {H : Heap} {slot : Nat} {K : D → List (Nat × Blk) → List (Nat × Blk) → Prop} (h : ofE s c l = 0) (h60 : l.length ≤ 60) (hne : l ≠ []) (ha : At (ecmp s) l e P)
    (hK : K (.tup [.rs 4 slot 0 l.length l.length, .int .i64 P, .bool (hitE s l e P)]) [(slot, ents l)] []) : @callB ⟨callX Tryz.prog⟩ 51 [.agg (ofT s c l).row, .agg e.row] H slot ⟨K⟩ := by
  have he : rdOf H (D.idsL [.agg (ofT s c l).row, .agg e.row]) = [] := by simp [D.idsL, D.ids, rdOf, Tr.row, En.row]
  refine callO (cFindO s c l e P h h60 hne ha) rfl (r' := .tup [.rs 4 slot 0 l.length l.length, .int .i64 P, .bool (hitE s l e P)]) (outs' := [ents l]) rfl ?_ (by simp) (by rw [he]; exact hK)
  simp [backB, trB, pureB, ents_pure]
theorem kFind0 {s : Sc} {c : Int} {e : En} {H : Heap} {slot : Nat} {K : D → List (Nat × Blk) → List (Nat × Blk) → Prop} (h : ofE s c [] = 0)
    (hK : K (.tup [.nils, .int .i64 0, .bool false]) [] []) : @callB ⟨callX Tryz.prog⟩ 51 [.agg (ofT s c []).row, .agg e.row] H slot ⟨K⟩ := by
  have he : rdOf H (D.idsL [.agg (ofT s c []).row, .agg e.row]) = [] := by simp [D.idsL, D.ids, rdOf, Tr.row, En.row]
  exact callO (cFind0 s c e h) rfl (r' := .tup [.nils, .int .i64 0, .bool false]) (outs' := []) rfl rfl (by simp) (by rw [he]; exact hK)
set_option maxHeartbeats 4000000 in
set_option maxRecDepth 20000 in
theorem cTInsN (s : Sc) (c : Int) (l : List En) (e : En) (P : Nat) (h : ofE s c l = 0) (h60 : l.length ≤ 60) (hne : l ≠ []) (hv : e.ok s) (ha : At (ecmp s) l e P) (hm : hitE s l e P = false) : FC Tryz.prog 23 [.agg (ofT s c l).row, .agg e.row] [] (.tup [.agg (ofT s c (putE l P e)).row, .int .i64 (ofE s c (putE l P e))]) [] := by
  obtain ⟨h1, h2, h3, h4⟩ := ofT_ok h
  have kC : ∀ {H : Heap} {slot : Nat} {K : D → List (Nat × Blk) → List (Nat × Blk) → Prop}, K (.int .i64 0) [] [] → @callB ⟨callX Tryz.prog⟩ 33 [.agg (⟨s, c, growF s c 32 0 (rootW s) l⟩ : Tr).row] H slot ⟨K⟩ := fun hK => h4 ▸ kChk h (by omega) hK
  have kV : ∀ {H : Heap} {slot : Nat} {K : D → List (Nat × Blk) → List (Nat × Blk) → Prop}, K (.bool true) [] [] → @callB ⟨callX Tryz.prog⟩ 50 [.agg s.row, .agg e.row] H slot ⟨K⟩ := fun hK => kcrValid (by rw [decide_eq_true hv]; exact hK)
  have kF : ∀ {H : Heap} {slot : Nat} {K : D → List (Nat × Blk) → List (Nat × Blk) → Prop}, K (.tup [.rs 4 slot 0 l.length l.length, .int .i64 P, .bool false]) [(slot, ents l)] [] → @callB ⟨callX Tryz.prog⟩ 51 [.agg (⟨s, c, growF s c 32 0 (rootW s) l⟩ : Tr).row, .agg e.row] H slot ⟨K⟩ := fun hK => h4 ▸ kFindO h h60 hne ha (by rw [hm]; exact hK)
  rw [h4]
  generalize growF s c 32 0 (rootW s) l = ns at *
  have hP := ha.le
  have g1 : ((l.length : Int) = 2000) = False := by simp only [eq_iff_iff, iff_false]; omega
  clear h4 ha hv
  refine FC.of_body Tryz.func23 rfl rfl (by simp [Tryz.ntmps23]) ?_
  refine AW.seqG (fun y hy => AW.of_run (callX_sound _) mix ?_)
  repeat' first
    | simp (maxSteps := 1000000) only [go_sem, Int.reduceLT, Int.reduceLE, Int.reduceToNat, Int.reduceEq, Nat.reduceMul, ↓reduceIte, Nat.reduceLT, Nat.reduceLeDiff, Nat.reduceEqDiff, Nat.reduceAdd, Nat.reduceSub, Nat.reduceBEq, reduceCtorEq, *]
    | contradiction
    | refine wT ?_ ?_ <;> intro _
    | refine wF ?_ ?_ <;> intro _
    | refine cD ?_ ?_ <;> intro _
    | refine dO (by kernel_rfl) ?_
    | refine Fin.q ?_ ?_
    | refine Fin.qn ?_ ?_
  obtain ⟨rfl⟩ := hy
  refine AW.seqG (fun y hy => AW.of_run (callX_sound _) mix ?_)
  repeat' first
    | simp (maxSteps := 1000000) only [go_sem, Int.reduceLT, Int.reduceLE, Int.reduceToNat, Int.reduceEq, Nat.reduceMul, ↓reduceIte, Nat.reduceLT, Nat.reduceLeDiff, Nat.reduceEqDiff, Nat.reduceAdd, Nat.reduceSub, Nat.reduceBEq, reduceCtorEq, *]
    | contradiction
    | refine wT ?_ ?_ <;> intro _
    | refine wF ?_ ?_ <;> intro _
    | refine cD ?_ ?_ <;> intro _
    | refine dO (by kernel_rfl) ?_
    | refine kC ?_
    | refine Fin.q ?_ ?_
    | refine Fin.qn ?_ ?_
  obtain ⟨rfl⟩ := hy
  refine AW.seqG (fun y hy => AW.of_run (callX_sound _) mix ?_)
  repeat' first
    | simp (maxSteps := 1000000) only [go_sem, Int.reduceLT, Int.reduceLE, Int.reduceToNat, Int.reduceEq, Nat.reduceMul, ↓reduceIte, Nat.reduceLT, Nat.reduceLeDiff, Nat.reduceEqDiff, Nat.reduceAdd, Nat.reduceSub, Nat.reduceBEq, reduceCtorEq, *]
    | contradiction
    | refine wT ?_ ?_ <;> intro _
    | refine wF ?_ ?_ <;> intro _
    | refine cD ?_ ?_ <;> intro _
    | refine dO (by kernel_rfl) ?_
    | refine kV ?_
    | refine Fin.q ?_ ?_
    | refine Fin.qn ?_ ?_
  obtain ⟨rfl⟩ := hy
  refine AW.seqG (fun y hy => AW.of_run (callX_sound _) mix ?_)
  repeat' first
    | simp (maxSteps := 1000000) only [go_sem, Int.reduceLT, Int.reduceLE, Int.reduceToNat, Int.reduceEq, Nat.reduceMul, ↓reduceIte, Nat.reduceLT, Nat.reduceLeDiff, Nat.reduceEqDiff, Nat.reduceAdd, Nat.reduceSub, Nat.reduceBEq, reduceCtorEq, *]
    | contradiction
    | refine wT ?_ ?_ <;> intro _
    | refine wF ?_ ?_ <;> intro _
    | refine cD ?_ ?_ <;> intro _
    | refine dO (by kernel_rfl) ?_
    | refine kF ?_
    | refine Fin.q ?_ ?_
    | refine Fin.qn ?_ ?_
  obtain ⟨rfl⟩ := hy
  refine AW.seqG (fun y hy => AW.of_run (callX_sound _) mix ?_)
  repeat' first
    | simp (maxSteps := 1000000) only [go_sem, Int.reduceLT, Int.reduceLE, Int.reduceToNat, Int.reduceEq, Nat.reduceMul, ↓reduceIte, Nat.reduceLT, Nat.reduceLeDiff, Nat.reduceEqDiff, Nat.reduceAdd, Nat.reduceSub, Nat.reduceBEq, reduceCtorEq, *]
    | contradiction
    | refine wT ?_ ?_ <;> intro _
    | refine wF ?_ ?_ <;> intro _
    | refine cD ?_ ?_ <;> intro _
    | refine dO (by kernel_rfl) ?_
    | refine Fin.q ?_ ?_
    | refine Fin.qn ?_ ?_
  obtain ⟨rfl⟩ := hy
  refine AW.seqG (fun y hy => AW.of_run (callX_sound _) mix ?_)
  repeat' first
    | simp (maxSteps := 1000000) only [go_sem, Int.reduceLT, Int.reduceLE, Int.reduceToNat, Int.reduceEq, Nat.reduceMul, ↓reduceIte, Nat.reduceLT, Nat.reduceLeDiff, Nat.reduceEqDiff, Nat.reduceAdd, Nat.reduceSub, Nat.reduceBEq, reduceCtorEq, *]
    | contradiction
    | refine wT ?_ ?_ <;> intro _
    | refine wF ?_ ?_ <;> intro _
    | refine cD ?_ ?_ <;> intro _
    | refine dO (by kernel_rfl) ?_
    | refine Fin.q ?_ ?_
    | refine Fin.qn ?_ ?_
  obtain ⟨rfl⟩ := hy
  refine AW.seqG (fun y hy => AW.fence (callX_sound _) mix 9 _ #[true, true, true, true, true, true, true, true, true, false, false, false, false, false] (by kernel_rfl) rfl rfl ?_)
  repeat' first
    | simp (maxSteps := 1000000) only [go_sem, Int.reduceLT, Int.reduceLE, Int.reduceToNat, Int.reduceEq, Nat.reduceMul, ↓reduceIte, Nat.reduceLT, Nat.reduceLeDiff, Nat.reduceEqDiff, Nat.reduceAdd, Nat.reduceSub, Nat.reduceBEq, reduceCtorEq, *, List.extract_toArray, List.extract_eq_take_drop, List.drop_zero, Nat.sub_zero, List.take_succ_cons, List.take_zero]
    | contradiction
    | refine wT ?_ ?_ <;> intro _
    | refine wF ?_ ?_ <;> intro _
    | refine cD ?_ ?_ <;> intro _
    | refine dO (by kernel_rfl) ?_
    | refine (kIns rfl rfl (by decide) hP hne (by omega)) ?_
    | refine Fin.q ?_ ?_
    | refine Fin.qn ?_ ?_
  have zp : pureB (ents (putE l P e)) = true := ents_pure _
  have zl := putE_len (e := e) hP
  have zt : (ents (putE l P e)).take (l.length + 1) = ents (putE l P e) := ents_take_all _ _ (by omega)
  refine ⟨⟨51, [(4, .ptr 2 1 0 0), (40, .agg s.row), (42, .int .i64 c), (47, .vs (ents (putE l P e)))], [none, none, some [zrow], none, none]⟩, Conv.trans (s1 := ⟨51, [(4, .ptr 2 1 0 0), (40, .agg s.row), (42, .int .i64 c), (47, .rs 4 3 0 (l.length + 1) (l.length + 1))], [none, none, some [zrow], some (ents (putE l P e)), none]⟩) (Conv.mk ?_ ?_ ?_ ?_ ?_) (Conv.freeze (b := 3) (by decide) ?_), ?_⟩
  iterate 5 (· simp (maxSteps := 1000000) only [go_sem, Int.reduceLT, Int.reduceLE, Int.reduceToNat, Int.reduceEq, Nat.reduceMul, ↓reduceIte, Nat.reduceLT, Nat.reduceLeDiff, Nat.reduceEqDiff, Nat.reduceAdd, Nat.reduceSub, Nat.reduceBEq, reduceCtorEq, zrow])
  · have zz : pureB [zrow] = true := rfl
    simp [AH.freeze, frzH, frzTm, trB, trL, tr, unb, hget, zz, zp, zl, zt, ents_len, Sc.row]
  have hl15 : (putE l P e).length < 1000000000000000 := by omega
  refine ⟨runA_one (n := 4) (i := 9) (by kernel_rfl) rfl ?_⟩
  repeat' first
    | simp (maxSteps := 1000000) only [go_sem, Int.reduceLT, Int.reduceLE, Int.reduceToNat, Int.reduceEq, Nat.reduceMul, ↓reduceIte, Nat.reduceLT, Nat.reduceLeDiff, Nat.reduceEqDiff, Nat.reduceAdd, Nat.reduceSub, Nat.reduceBEq, reduceCtorEq, *]
    | contradiction
    | refine wT ?_ ?_ <;> intro _
    | refine wF ?_ ?_ <;> intro _
    | refine cD ?_ ?_ <;> intro _
    | refine dO (by kernel_rfl) ?_
    | refine (kcOf (s := s) (l := putE l P e)) ?_
    | refine Fin.q ?_ ?_
    | refine Fin.qn ?_ ?_
  refine ⟨runA_two (n := 3) (i := 10) (i2 := 11) (by kernel_rfl) rfl rfl ?_ ?_⟩
  · repeat' first
      | simp (maxSteps := 1000000) only [go_sem, Int.reduceLT, Int.reduceLE, Int.reduceToNat, Int.reduceEq, Nat.reduceMul, ↓reduceIte, Nat.reduceLT, Nat.reduceLeDiff, Nat.reduceEqDiff, Nat.reduceAdd, Nat.reduceSub, Nat.reduceBEq, reduceCtorEq, *]
      | contradiction
      | refine wT ?_ ?_ <;> intro _
      | refine wF ?_ ?_ <;> intro _
      | refine cD ?_ ?_ <;> intro _
      | refine dO (by kernel_rfl) ?_
      | refine Fin.q ?_ ?_
      | refine Fin.qn ?_ ?_
    refine ⟨runA_one (n := 2) (i := 11) (by kernel_rfl) rfl ?_⟩
    repeat' first
      | simp (maxSteps := 1000000) only [go_sem, Int.reduceLT, Int.reduceLE, Int.reduceToNat, Int.reduceEq, Nat.reduceMul, ↓reduceIte, Nat.reduceLT, Nat.reduceLeDiff, Nat.reduceEqDiff, Nat.reduceAdd, Nat.reduceSub, Nat.reduceBEq, reduceCtorEq, *]
      | contradiction
      | refine wT ?_ ?_ <;> intro _
      | refine wF ?_ ?_ <;> intro _
      | refine cD ?_ ?_ <;> intro _
      | refine dO (by kernel_rfl) ?_
      | refine Fin.q ?_ ?_
      | refine Fin.qn ?_ ?_
    refine ⟨runA_one (n := 1) (i := 12) (by kernel_rfl) rfl ?_⟩
    repeat' first
      | simp (maxSteps := 1000000) only [go_sem, Int.reduceLT, Int.reduceLE, Int.reduceToNat, Int.reduceEq, Nat.reduceMul, ↓reduceIte, Nat.reduceLT, Nat.reduceLeDiff, Nat.reduceEqDiff, Nat.reduceAdd, Nat.reduceSub, Nat.reduceBEq, reduceCtorEq, *, zrow]
      | contradiction
      | refine wT ?_ ?_ <;> intro _
      | refine wF ?_ ?_ <;> intro _
      | refine cD ?_ ?_ <;> intro _
      | refine dO (by kernel_rfl) ?_
      | refine Fin.q ?_ ?_
      | refine Fin.qn ?_ ?_
    refine ⟨runA_one (n := 0) (i := 13) (by kernel_rfl) rfl ?_⟩
    repeat' first
      | simp (maxSteps := 1000000) only [go_sem, Int.reduceLT, Int.reduceLE, Int.reduceToNat, Int.reduceEq, Nat.reduceMul, ↓reduceIte, Nat.reduceLT, Nat.reduceLeDiff, Nat.reduceEqDiff, Nat.reduceAdd, Nat.reduceSub, Nat.reduceBEq, reduceCtorEq, *]
      | contradiction
      | refine wT ?_ ?_ <;> intro _
      | refine wF ?_ ?_ <;> intro _
      | refine cD ?_ ?_ <;> intro _
      | refine dO (by kernel_rfl) ?_
      | refine Fin.q ?_ ?_
      | refine Fin.qn ?_ ?_
    refine ⟨runA_nil (by kernel_rfl) ?_⟩
    obtain ⟨rfl⟩ := hy
    refine AW.of_run (callX_sound _) mix ?_
    repeat' first
      | simp (maxSteps := 1000000) only [go_sem, Int.reduceLT, Int.reduceLE, Int.reduceToNat, Int.reduceEq, Nat.reduceMul, ↓reduceIte, Nat.reduceLT, Nat.reduceLeDiff, Nat.reduceEqDiff, Nat.reduceAdd, Nat.reduceSub, Nat.reduceBEq, reduceCtorEq, *]
      | contradiction
      | refine wT ?_ ?_ <;> intro _
      | refine wF ?_ ?_ <;> intro _
      | refine cD ?_ ?_ <;> intro _
      | refine dO (by kernel_rfl) ?_
      | refine Fin.q ?_ ?_
      | refine Fin.qn ?_ ?_
  · repeat' first
      | simp (maxSteps := 1000000) only [go_sem, Int.reduceLT, Int.reduceLE, Int.reduceToNat, Int.reduceEq, Nat.reduceMul, ↓reduceIte, Nat.reduceLT, Nat.reduceLeDiff, Nat.reduceEqDiff, Nat.reduceAdd, Nat.reduceSub, Nat.reduceBEq, reduceCtorEq, *]
      | contradiction
      | refine wT ?_ ?_ <;> intro _
      | refine wF ?_ ?_ <;> intro _
      | refine cD ?_ ?_ <;> intro _
      | refine dO (by kernel_rfl) ?_
      | refine Fin.q ?_ ?_
      | refine Fin.qn ?_ ?_
    refine ⟨runA_one (n := 2) (i := 10) (by kernel_rfl) rfl ?_⟩
    repeat' first
      | simp (maxSteps := 1000000) only [go_sem, Int.reduceLT, Int.reduceLE, Int.reduceToNat, Int.reduceEq, Nat.reduceMul, ↓reduceIte, Nat.reduceLT, Nat.reduceLeDiff, Nat.reduceEqDiff, Nat.reduceAdd, Nat.reduceSub, Nat.reduceBEq, reduceCtorEq, *]
      | contradiction
      | refine wT ?_ ?_ <;> intro _
      | refine wF ?_ ?_ <;> intro _
      | refine cD ?_ ?_ <;> intro _
      | refine dO (by kernel_rfl) ?_
      | refine Fin.q ?_ ?_
      | refine Fin.qn ?_ ?_
    refine ⟨runA_one (n := 1) (i := 12) (by kernel_rfl) rfl ?_⟩
    repeat' first
      | simp (maxSteps := 1000000) only [go_sem, Int.reduceLT, Int.reduceLE, Int.reduceToNat, Int.reduceEq, Nat.reduceMul, ↓reduceIte, Nat.reduceLT, Nat.reduceLeDiff, Nat.reduceEqDiff, Nat.reduceAdd, Nat.reduceSub, Nat.reduceBEq, reduceCtorEq, *, zrow]
      | contradiction
      | refine wT ?_ ?_ <;> intro _
      | refine wF ?_ ?_ <;> intro _
      | refine cD ?_ ?_ <;> intro _
      | refine dO (by kernel_rfl) ?_
      | refine Fin.q ?_ ?_
      | refine Fin.qn ?_ ?_
    refine ⟨runA_one (n := 0) (i := 13) (by kernel_rfl) rfl ?_⟩
    repeat' first
      | simp (maxSteps := 1000000) only [go_sem, Int.reduceLT, Int.reduceLE, Int.reduceToNat, Int.reduceEq, Nat.reduceMul, ↓reduceIte, Nat.reduceLT, Nat.reduceLeDiff, Nat.reduceEqDiff, Nat.reduceAdd, Nat.reduceSub, Nat.reduceBEq, reduceCtorEq, *]
      | contradiction
      | refine wT ?_ ?_ <;> intro _
      | refine wF ?_ ?_ <;> intro _
      | refine cD ?_ ?_ <;> intro _
      | refine dO (by kernel_rfl) ?_
      | refine Fin.q ?_ ?_
      | refine Fin.qn ?_ ?_
    refine ⟨runA_nil (by kernel_rfl) ?_⟩
    obtain ⟨rfl⟩ := hy
    refine AW.of_run (callX_sound _) mix ?_
    repeat' first
      | simp (maxSteps := 1000000) only [go_sem, Int.reduceLT, Int.reduceLE, Int.reduceToNat, Int.reduceEq, Nat.reduceMul, ↓reduceIte, Nat.reduceLT, Nat.reduceLeDiff, Nat.reduceEqDiff, Nat.reduceAdd, Nat.reduceSub, Nat.reduceBEq, reduceCtorEq, *]
      | contradiction
      | refine wT ?_ ?_ <;> intro _
      | refine wF ?_ ?_ <;> intro _
      | refine cD ?_ ?_ <;> intro _
      | refine dO (by kernel_rfl) ?_
      | refine Fin.q ?_ ?_
      | refine Fin.qn ?_ ?_
theorem kIns0 {e : En} {b : Nat} {H : Heap} {slot : Nat} {K : D → List (Nat × Blk) → List (Nat × Blk) → Prop} (hB : hget H b = some [e.row])
    (hK : K (.rs 4 slot 0 1 1) [(slot, ents [e])] [(b, [e.row])]) : @callB ⟨callX Tryz.prog⟩ 52 [.nils, .int .i64 0, .rs 4 b 0 1 1] H slot ⟨K⟩ := by
  have e1 : rdOf H (D.idsL [.nils, .int .i64 0, .rs 4 b 0 1 1]) = [(b, [e.row])] := by simp [D.idsL, D.ids, rdOf, hB]
  have ep : pureB [e.row] = true := rfl
  refine .inl ⟨[], false, false, [.nils, .int .i64 0, .bs (ents [e])], [], .rs 4 0 0 1 1, .rs 4 slot 0 1 1, [ents [e]], [ents [e]], by simp, ?_, rfl, cIns0 e, by simp, rfl, ?_, fun h => (nomatch h), ?_⟩
  · rw [List.nil_append, e1]
    simp [trL, tr, pos, AH.look, ep]
    rfl
  · simp [backB, trB, ep, ents]
  · rw [List.nil_append, List.nil_append, e1]; exact hK
set_option maxHeartbeats 4000000 in
set_option maxRecDepth 20000 in
theorem cTIns0 (s : Sc) (c : Int) (e : En) (h : ofE s c [] = 0) (hv : e.ok s) : FC Tryz.prog 23 [.agg (ofT s c []).row, .agg e.row] [] (.tup [.agg (ofT s c [e]).row, .int .i64 (ofE s c [e])]) [] := by
  obtain ⟨h1, h2, h3, h4⟩ := ofT_ok h
  have kC : ∀ {H : Heap} {slot : Nat} {K : D → List (Nat × Blk) → List (Nat × Blk) → Prop}, K (.int .i64 0) [] [] → @callB ⟨callX Tryz.prog⟩ 33 [.agg (⟨s, c, growF s c 32 0 (rootW s) []⟩ : Tr).row] H slot ⟨K⟩ := fun hK => h4 ▸ kChk h (by simp) hK
  have kV : ∀ {H : Heap} {slot : Nat} {K : D → List (Nat × Blk) → List (Nat × Blk) → Prop}, K (.bool true) [] [] → @callB ⟨callX Tryz.prog⟩ 50 [.agg s.row, .agg e.row] H slot ⟨K⟩ := fun hK => kcrValid (by rw [decide_eq_true hv]; exact hK)
  have kF : ∀ {H : Heap} {slot : Nat} {K : D → List (Nat × Blk) → List (Nat × Blk) → Prop}, K (.tup [.nils, .int .i64 0, .bool false]) [] [] → @callB ⟨callX Tryz.prog⟩ 51 [.agg (⟨s, c, growF s c 32 0 (rootW s) []⟩ : Tr).row, .agg e.row] H slot ⟨K⟩ := fun hK => h4 ▸ kFind0 h hK
  rw [h4]
  generalize growF s c 32 0 (rootW s) [] = ns at *
  clear h4 hv
  refine FC.of_body Tryz.func23 rfl rfl (by simp [Tryz.ntmps23]) ?_
  refine AW.seqG (fun y hy => AW.of_run (callX_sound _) mix ?_)
  repeat' first
    | simp (maxSteps := 1000000) only [go_sem, Int.reduceLT, Int.reduceLE, Int.reduceToNat, Int.reduceEq, Nat.reduceMul, ↓reduceIte, Nat.reduceLT, Nat.reduceLeDiff, Nat.reduceEqDiff, Nat.reduceAdd, Nat.reduceSub, Nat.reduceBEq, reduceCtorEq, *]
    | contradiction
    | refine wT ?_ ?_ <;> intro _
    | refine wF ?_ ?_ <;> intro _
    | refine cD ?_ ?_ <;> intro _
    | refine dO (by kernel_rfl) ?_
    | refine Fin.q ?_ ?_
    | refine Fin.qn ?_ ?_
  obtain ⟨rfl⟩ := hy
  refine AW.seqG (fun y hy => AW.of_run (callX_sound _) mix ?_)
  repeat' first
    | simp (maxSteps := 1000000) only [go_sem, Int.reduceLT, Int.reduceLE, Int.reduceToNat, Int.reduceEq, Nat.reduceMul, ↓reduceIte, Nat.reduceLT, Nat.reduceLeDiff, Nat.reduceEqDiff, Nat.reduceAdd, Nat.reduceSub, Nat.reduceBEq, reduceCtorEq, *]
    | contradiction
    | refine wT ?_ ?_ <;> intro _
    | refine wF ?_ ?_ <;> intro _
    | refine cD ?_ ?_ <;> intro _
    | refine dO (by kernel_rfl) ?_
    | refine kC ?_
    | refine Fin.q ?_ ?_
    | refine Fin.qn ?_ ?_
  obtain ⟨rfl⟩ := hy
  refine AW.seqG (fun y hy => AW.of_run (callX_sound _) mix ?_)
  repeat' first
    | simp (maxSteps := 1000000) only [go_sem, Int.reduceLT, Int.reduceLE, Int.reduceToNat, Int.reduceEq, Nat.reduceMul, ↓reduceIte, Nat.reduceLT, Nat.reduceLeDiff, Nat.reduceEqDiff, Nat.reduceAdd, Nat.reduceSub, Nat.reduceBEq, reduceCtorEq, *]
    | contradiction
    | refine wT ?_ ?_ <;> intro _
    | refine wF ?_ ?_ <;> intro _
    | refine cD ?_ ?_ <;> intro _
    | refine dO (by kernel_rfl) ?_
    | refine kV ?_
    | refine Fin.q ?_ ?_
    | refine Fin.qn ?_ ?_
  obtain ⟨rfl⟩ := hy
  refine AW.seqG (fun y hy => AW.of_run (callX_sound _) mix ?_)
  repeat' first
    | simp (maxSteps := 1000000) only [go_sem, Int.reduceLT, Int.reduceLE, Int.reduceToNat, Int.reduceEq, Nat.reduceMul, ↓reduceIte, Nat.reduceLT, Nat.reduceLeDiff, Nat.reduceEqDiff, Nat.reduceAdd, Nat.reduceSub, Nat.reduceBEq, reduceCtorEq, *]
    | contradiction
    | refine wT ?_ ?_ <;> intro _
    | refine wF ?_ ?_ <;> intro _
    | refine cD ?_ ?_ <;> intro _
    | refine dO (by kernel_rfl) ?_
    | refine kF ?_
    | refine Fin.q ?_ ?_
    | refine Fin.qn ?_ ?_
  obtain ⟨rfl⟩ := hy
  refine AW.seqG (fun y hy => AW.of_run (callX_sound _) mix ?_)
  repeat' first
    | simp (maxSteps := 1000000) only [go_sem, Int.reduceLT, Int.reduceLE, Int.reduceToNat, Int.reduceEq, Nat.reduceMul, ↓reduceIte, Nat.reduceLT, Nat.reduceLeDiff, Nat.reduceEqDiff, Nat.reduceAdd, Nat.reduceSub, Nat.reduceBEq, reduceCtorEq, *]
    | contradiction
    | refine wT ?_ ?_ <;> intro _
    | refine wF ?_ ?_ <;> intro _
    | refine cD ?_ ?_ <;> intro _
    | refine dO (by kernel_rfl) ?_
    | refine Fin.q ?_ ?_
    | refine Fin.qn ?_ ?_
  obtain ⟨rfl⟩ := hy
  refine AW.seqG (fun y hy => AW.of_run (callX_sound _) mix ?_)
  repeat' first
    | simp (maxSteps := 1000000) only [go_sem, Int.reduceLT, Int.reduceLE, Int.reduceToNat, Int.reduceEq, Nat.reduceMul, ↓reduceIte, Nat.reduceLT, Nat.reduceLeDiff, Nat.reduceEqDiff, Nat.reduceAdd, Nat.reduceSub, Nat.reduceBEq, reduceCtorEq, *]
    | contradiction
    | refine wT ?_ ?_ <;> intro _
    | refine wF ?_ ?_ <;> intro _
    | refine cD ?_ ?_ <;> intro _
    | refine dO (by kernel_rfl) ?_
    | refine Fin.q ?_ ?_
    | refine Fin.qn ?_ ?_
  obtain ⟨rfl⟩ := hy
  refine AW.seqG (fun y hy => AW.fence (callX_sound _) mix 9 _ #[true, true, true, true, true, true, true, true, true, false, false, false, false, false] (by kernel_rfl) rfl rfl ?_)
  repeat' first
    | simp (maxSteps := 1000000) only [go_sem, Int.reduceLT, Int.reduceLE, Int.reduceToNat, Int.reduceEq, Nat.reduceMul, ↓reduceIte, Nat.reduceLT, Nat.reduceLeDiff, Nat.reduceEqDiff, Nat.reduceAdd, Nat.reduceSub, Nat.reduceBEq, reduceCtorEq, *, List.extract_toArray, List.extract_eq_take_drop, List.drop_zero, Nat.sub_zero, List.take_succ_cons, List.take_zero]
    | contradiction
    | refine wT ?_ ?_ <;> intro _
    | refine wF ?_ ?_ <;> intro _
    | refine cD ?_ ?_ <;> intro _
    | refine dO (by kernel_rfl) ?_
    | refine (kIns0 rfl) ?_
    | refine Fin.q ?_ ?_
    | refine Fin.qn ?_ ?_
  have zp : pureB (ents [e]) = true := ents_pure _
  have zl : ([e] : List En).length = 1 := rfl
  have zt : (ents [e]).take 1 = ents [e] := rfl
  refine ⟨⟨51, [(4, .ptr 2 1 0 0), (40, .agg s.row), (42, .int .i64 c), (47, .vs (ents [e]))], [none, none, some [zrow], none, none]⟩, Conv.trans (s1 := ⟨51, [(4, .ptr 2 1 0 0), (40, .agg s.row), (42, .int .i64 c), (47, .rs 4 4 0 1 1)], [none, none, some [zrow], none, some (ents [e])]⟩) (Conv.mk ?_ ?_ ?_ ?_ ?_) (Conv.freeze (b := 4) (by decide) ?_), ?_⟩
  iterate 5 (· simp (maxSteps := 1000000) only [go_sem, Int.reduceLT, Int.reduceLE, Int.reduceToNat, Int.reduceEq, Nat.reduceMul, ↓reduceIte, Nat.reduceLT, Nat.reduceLeDiff, Nat.reduceEqDiff, Nat.reduceAdd, Nat.reduceSub, Nat.reduceBEq, reduceCtorEq, zrow])
  · have zz : pureB [zrow] = true := rfl
    simp [AH.freeze, frzH, frzTm, trB, trL, tr, unb, hget, zz, zp, zl, zt, ents_len, Sc.row]
  have hl15 : ([e] : List En).length < 1000000000000000 := by simp
  refine ⟨runA_one (n := 4) (i := 9) (by kernel_rfl) rfl ?_⟩
  repeat' first
    | simp (maxSteps := 1000000) only [go_sem, Int.reduceLT, Int.reduceLE, Int.reduceToNat, Int.reduceEq, Nat.reduceMul, ↓reduceIte, Nat.reduceLT, Nat.reduceLeDiff, Nat.reduceEqDiff, Nat.reduceAdd, Nat.reduceSub, Nat.reduceBEq, reduceCtorEq, *]
    | contradiction
    | refine wT ?_ ?_ <;> intro _
    | refine wF ?_ ?_ <;> intro _
    | refine cD ?_ ?_ <;> intro _
    | refine dO (by kernel_rfl) ?_
    | refine (kcOf (s := s) (l := [e])) ?_
    | refine Fin.q ?_ ?_
    | refine Fin.qn ?_ ?_
  refine ⟨runA_two (n := 3) (i := 10) (i2 := 11) (by kernel_rfl) rfl rfl ?_ ?_⟩
  · repeat' first
      | simp (maxSteps := 1000000) only [go_sem, Int.reduceLT, Int.reduceLE, Int.reduceToNat, Int.reduceEq, Nat.reduceMul, ↓reduceIte, Nat.reduceLT, Nat.reduceLeDiff, Nat.reduceEqDiff, Nat.reduceAdd, Nat.reduceSub, Nat.reduceBEq, reduceCtorEq, *]
      | contradiction
      | refine wT ?_ ?_ <;> intro _
      | refine wF ?_ ?_ <;> intro _
      | refine cD ?_ ?_ <;> intro _
      | refine dO (by kernel_rfl) ?_
      | refine Fin.q ?_ ?_
      | refine Fin.qn ?_ ?_
    refine ⟨runA_one (n := 2) (i := 11) (by kernel_rfl) rfl ?_⟩
    repeat' first
      | simp (maxSteps := 1000000) only [go_sem, Int.reduceLT, Int.reduceLE, Int.reduceToNat, Int.reduceEq, Nat.reduceMul, ↓reduceIte, Nat.reduceLT, Nat.reduceLeDiff, Nat.reduceEqDiff, Nat.reduceAdd, Nat.reduceSub, Nat.reduceBEq, reduceCtorEq, *]
      | contradiction
      | refine wT ?_ ?_ <;> intro _
      | refine wF ?_ ?_ <;> intro _
      | refine cD ?_ ?_ <;> intro _
      | refine dO (by kernel_rfl) ?_
      | refine Fin.q ?_ ?_
      | refine Fin.qn ?_ ?_
    refine ⟨runA_one (n := 1) (i := 12) (by kernel_rfl) rfl ?_⟩
    repeat' first
      | simp (maxSteps := 1000000) only [go_sem, Int.reduceLT, Int.reduceLE, Int.reduceToNat, Int.reduceEq, Nat.reduceMul, ↓reduceIte, Nat.reduceLT, Nat.reduceLeDiff, Nat.reduceEqDiff, Nat.reduceAdd, Nat.reduceSub, Nat.reduceBEq, reduceCtorEq, *, zrow]
      | contradiction
      | refine wT ?_ ?_ <;> intro _
      | refine wF ?_ ?_ <;> intro _
      | refine cD ?_ ?_ <;> intro _
      | refine dO (by kernel_rfl) ?_
      | refine Fin.q ?_ ?_
      | refine Fin.qn ?_ ?_
    refine ⟨runA_one (n := 0) (i := 13) (by kernel_rfl) rfl ?_⟩
    repeat' first
      | simp (maxSteps := 1000000) only [go_sem, Int.reduceLT, Int.reduceLE, Int.reduceToNat, Int.reduceEq, Nat.reduceMul, ↓reduceIte, Nat.reduceLT, Nat.reduceLeDiff, Nat.reduceEqDiff, Nat.reduceAdd, Nat.reduceSub, Nat.reduceBEq, reduceCtorEq, *]
      | contradiction
      | refine wT ?_ ?_ <;> intro _
      | refine wF ?_ ?_ <;> intro _
      | refine cD ?_ ?_ <;> intro _
      | refine dO (by kernel_rfl) ?_
      | refine Fin.q ?_ ?_
      | refine Fin.qn ?_ ?_
    refine ⟨runA_nil (by kernel_rfl) ?_⟩
    obtain ⟨rfl⟩ := hy
    refine AW.of_run (callX_sound _) mix ?_
    repeat' first
      | simp (maxSteps := 1000000) only [go_sem, Int.reduceLT, Int.reduceLE, Int.reduceToNat, Int.reduceEq, Nat.reduceMul, ↓reduceIte, Nat.reduceLT, Nat.reduceLeDiff, Nat.reduceEqDiff, Nat.reduceAdd, Nat.reduceSub, Nat.reduceBEq, reduceCtorEq, *]
      | contradiction
      | refine wT ?_ ?_ <;> intro _
      | refine wF ?_ ?_ <;> intro _
      | refine cD ?_ ?_ <;> intro _
      | refine dO (by kernel_rfl) ?_
      | refine Fin.q ?_ ?_
      | refine Fin.qn ?_ ?_
  · repeat' first
      | simp (maxSteps := 1000000) only [go_sem, Int.reduceLT, Int.reduceLE, Int.reduceToNat, Int.reduceEq, Nat.reduceMul, ↓reduceIte, Nat.reduceLT, Nat.reduceLeDiff, Nat.reduceEqDiff, Nat.reduceAdd, Nat.reduceSub, Nat.reduceBEq, reduceCtorEq, *]
      | contradiction
      | refine wT ?_ ?_ <;> intro _
      | refine wF ?_ ?_ <;> intro _
      | refine cD ?_ ?_ <;> intro _
      | refine dO (by kernel_rfl) ?_
      | refine Fin.q ?_ ?_
      | refine Fin.qn ?_ ?_
    refine ⟨runA_one (n := 2) (i := 10) (by kernel_rfl) rfl ?_⟩
    repeat' first
      | simp (maxSteps := 1000000) only [go_sem, Int.reduceLT, Int.reduceLE, Int.reduceToNat, Int.reduceEq, Nat.reduceMul, ↓reduceIte, Nat.reduceLT, Nat.reduceLeDiff, Nat.reduceEqDiff, Nat.reduceAdd, Nat.reduceSub, Nat.reduceBEq, reduceCtorEq, *]
      | contradiction
      | refine wT ?_ ?_ <;> intro _
      | refine wF ?_ ?_ <;> intro _
      | refine cD ?_ ?_ <;> intro _
      | refine dO (by kernel_rfl) ?_
      | refine Fin.q ?_ ?_
      | refine Fin.qn ?_ ?_
    refine ⟨runA_one (n := 1) (i := 12) (by kernel_rfl) rfl ?_⟩
    repeat' first
      | simp (maxSteps := 1000000) only [go_sem, Int.reduceLT, Int.reduceLE, Int.reduceToNat, Int.reduceEq, Nat.reduceMul, ↓reduceIte, Nat.reduceLT, Nat.reduceLeDiff, Nat.reduceEqDiff, Nat.reduceAdd, Nat.reduceSub, Nat.reduceBEq, reduceCtorEq, *, zrow]
      | contradiction
      | refine wT ?_ ?_ <;> intro _
      | refine wF ?_ ?_ <;> intro _
      | refine cD ?_ ?_ <;> intro _
      | refine dO (by kernel_rfl) ?_
      | refine Fin.q ?_ ?_
      | refine Fin.qn ?_ ?_
    refine ⟨runA_one (n := 0) (i := 13) (by kernel_rfl) rfl ?_⟩
    repeat' first
      | simp (maxSteps := 1000000) only [go_sem, Int.reduceLT, Int.reduceLE, Int.reduceToNat, Int.reduceEq, Nat.reduceMul, ↓reduceIte, Nat.reduceLT, Nat.reduceLeDiff, Nat.reduceEqDiff, Nat.reduceAdd, Nat.reduceSub, Nat.reduceBEq, reduceCtorEq, *]
      | contradiction
      | refine wT ?_ ?_ <;> intro _
      | refine wF ?_ ?_ <;> intro _
      | refine cD ?_ ?_ <;> intro _
      | refine dO (by kernel_rfl) ?_
      | refine Fin.q ?_ ?_
      | refine Fin.qn ?_ ?_
    refine ⟨runA_nil (by kernel_rfl) ?_⟩
    obtain ⟨rfl⟩ := hy
    refine AW.of_run (callX_sound _) mix ?_
    repeat' first
      | simp (maxSteps := 1000000) only [go_sem, Int.reduceLT, Int.reduceLE, Int.reduceToNat, Int.reduceEq, Nat.reduceMul, ↓reduceIte, Nat.reduceLT, Nat.reduceLeDiff, Nat.reduceEqDiff, Nat.reduceAdd, Nat.reduceSub, Nat.reduceBEq, reduceCtorEq, *]
      | contradiction
      | refine wT ?_ ?_ <;> intro _
      | refine wF ?_ ?_ <;> intro _
      | refine cD ?_ ?_ <;> intro _
      | refine dO (by kernel_rfl) ?_
      | refine Fin.q ?_ ?_
      | refine Fin.qn ?_ ?_
set_option maxHeartbeats 4000000 in
set_option maxRecDepth 20000 in
theorem cTRem (s : Sc) (c : Int) (l : List En) (e : En) (P : Nat) (h : ofE s c l = 0) (h60 : l.length ≤ 60) (hP : P < l.length) (hv : e.ok s) (ha : At (ecmp s) l e P) (hm : hitE s l e P = true) : FC Tryz.prog 24 [.agg (ofT s c l).row, .agg e.row] [] (.tup [.agg (ofT s c (cutE l P)).row, .int .i64 (ofE s c (cutE l P))]) [] := by
  obtain ⟨h1, h2, h3, h4⟩ := ofT_ok h
  have hne : l ≠ [] := fun h => by rw [h] at hP; simp at hP
  have kC : ∀ {H : Heap} {slot : Nat} {K : D → List (Nat × Blk) → List (Nat × Blk) → Prop}, K (.int .i64 0) [] [] → @callB ⟨callX Tryz.prog⟩ 33 [.agg (⟨s, c, growF s c 32 0 (rootW s) l⟩ : Tr).row] H slot ⟨K⟩ := fun hK => h4 ▸ kChk h (by omega) hK
  have kV : ∀ {H : Heap} {slot : Nat} {K : D → List (Nat × Blk) → List (Nat × Blk) → Prop}, K (.bool true) [] [] → @callB ⟨callX Tryz.prog⟩ 50 [.agg s.row, .agg e.row] H slot ⟨K⟩ := fun hK => kcrValid (by rw [decide_eq_true hv]; exact hK)
  have kF : ∀ {H : Heap} {slot : Nat} {K : D → List (Nat × Blk) → List (Nat × Blk) → Prop}, K (.tup [.rs 4 slot 0 l.length l.length, .int .i64 P, .bool true]) [(slot, ents l)] [] → @callB ⟨callX Tryz.prog⟩ 51 [.agg (⟨s, c, growF s c 32 0 (rootW s) l⟩ : Tr).row, .agg e.row] H slot ⟨K⟩ := fun hK => h4 ▸ kFindO h h60 hne ha (by rw [hm]; exact hK)
  rw [h4]
  generalize growF s c 32 0 (rootW s) l = ns at *
  have wP := wrap1 (i := P) (by omega)
  have hl1000 : l.length ≤ 1000 := by omega
  clear h4 ha hv
  refine FC.of_body Tryz.func24 rfl rfl (by simp [Tryz.ntmps24]) ?_
  refine AW.seqG (fun y hy => AW.of_run (callX_sound _) mix ?_)
  repeat' first
    | simp (maxSteps := 1000000) only [go_sem, Int.reduceLT, Int.reduceLE, Int.reduceToNat, Int.reduceEq, Nat.reduceMul, ↓reduceIte, Nat.reduceLT, Nat.reduceLeDiff, Nat.reduceEqDiff, Nat.reduceAdd, Nat.reduceSub, Nat.reduceBEq, reduceCtorEq, *]
    | contradiction
    | refine wT ?_ ?_ <;> intro _
    | refine wF ?_ ?_ <;> intro _
    | refine cD ?_ ?_ <;> intro _
    | refine dO (by kernel_rfl) ?_
    | refine Fin.q ?_ ?_
    | refine Fin.qn ?_ ?_
  obtain ⟨rfl⟩ := hy
  refine AW.seqG (fun y hy => AW.of_run (callX_sound _) mix ?_)
  repeat' first
    | simp (maxSteps := 1000000) only [go_sem, Int.reduceLT, Int.reduceLE, Int.reduceToNat, Int.reduceEq, Nat.reduceMul, ↓reduceIte, Nat.reduceLT, Nat.reduceLeDiff, Nat.reduceEqDiff, Nat.reduceAdd, Nat.reduceSub, Nat.reduceBEq, reduceCtorEq, *]
    | contradiction
    | refine wT ?_ ?_ <;> intro _
    | refine wF ?_ ?_ <;> intro _
    | refine cD ?_ ?_ <;> intro _
    | refine dO (by kernel_rfl) ?_
    | refine kC ?_
    | refine Fin.q ?_ ?_
    | refine Fin.qn ?_ ?_
  obtain ⟨rfl⟩ := hy
  refine AW.seqG (fun y hy => AW.of_run (callX_sound _) mix ?_)
  repeat' first
    | simp (maxSteps := 1000000) only [go_sem, Int.reduceLT, Int.reduceLE, Int.reduceToNat, Int.reduceEq, Nat.reduceMul, ↓reduceIte, Nat.reduceLT, Nat.reduceLeDiff, Nat.reduceEqDiff, Nat.reduceAdd, Nat.reduceSub, Nat.reduceBEq, reduceCtorEq, *]
    | contradiction
    | refine wT ?_ ?_ <;> intro _
    | refine wF ?_ ?_ <;> intro _
    | refine cD ?_ ?_ <;> intro _
    | refine dO (by kernel_rfl) ?_
    | refine kV ?_
    | refine Fin.q ?_ ?_
    | refine Fin.qn ?_ ?_
  obtain ⟨rfl⟩ := hy
  refine AW.seqG (fun y hy => AW.of_run (callX_sound _) mix ?_)
  repeat' first
    | simp (maxSteps := 1000000) only [go_sem, Int.reduceLT, Int.reduceLE, Int.reduceToNat, Int.reduceEq, Nat.reduceMul, ↓reduceIte, Nat.reduceLT, Nat.reduceLeDiff, Nat.reduceEqDiff, Nat.reduceAdd, Nat.reduceSub, Nat.reduceBEq, reduceCtorEq, *]
    | contradiction
    | refine wT ?_ ?_ <;> intro _
    | refine wF ?_ ?_ <;> intro _
    | refine cD ?_ ?_ <;> intro _
    | refine dO (by kernel_rfl) ?_
    | refine kF ?_
    | refine Fin.q ?_ ?_
    | refine Fin.qn ?_ ?_
  obtain ⟨rfl⟩ := hy
  refine AW.seqG (fun y hy => AW.of_run (callX_sound _) mix ?_)
  repeat' first
    | simp (maxSteps := 1000000) only [go_sem, Int.reduceLT, Int.reduceLE, Int.reduceToNat, Int.reduceEq, Nat.reduceMul, ↓reduceIte, Nat.reduceLT, Nat.reduceLeDiff, Nat.reduceEqDiff, Nat.reduceAdd, Nat.reduceSub, Nat.reduceBEq, reduceCtorEq, *]
    | contradiction
    | refine wT ?_ ?_ <;> intro _
    | refine wF ?_ ?_ <;> intro _
    | refine cD ?_ ?_ <;> intro _
    | refine dO (by kernel_rfl) ?_
    | refine Fin.q ?_ ?_
    | refine Fin.qn ?_ ?_
  obtain ⟨rfl⟩ := hy
  refine AW.seqG (fun y hy => AW.fence (callX_sound _) mix 9 _ #[true, true, true, true, true, true, true, true, true, false, false, false, false, false] (by kernel_rfl) rfl rfl ?_)
  repeat' first
    | simp (maxSteps := 1000000) only [go_sem, Int.reduceLT, Int.reduceLE, Int.reduceToNat, Int.reduceEq, Nat.reduceMul, ↓reduceIte, Nat.reduceLT, Nat.reduceLeDiff, Nat.reduceEqDiff, Nat.reduceAdd, Nat.reduceSub, Nat.reduceBEq, reduceCtorEq, *, List.extract_toArray, List.extract_eq_take_drop, List.drop_zero, Nat.sub_zero, List.take_succ_cons, List.take_zero]
    | contradiction
    | refine wT ?_ ?_ <;> intro _
    | refine wF ?_ ?_ <;> intro _
    | refine cD ?_ ?_ <;> intro _
    | refine dO (by kernel_rfl) ?_
    | refine (kDel rfl hP hl1000) ?_
    | refine Fin.q ?_ ?_
    | refine Fin.qn ?_ ?_
  have zl := cutE_len (P := P) hP
  have zp : pureB (ents (cutE l P) ++ [[.zs, .zs, .int .i64 0, .int .i64 0]]) = true := by
    have := ents_pure (cutE l P)
    unfold pureB at this ⊢
    rw [List.all_append, this]
    rfl
  have zn : (ents (cutE l P) ++ [[D.zs, D.zs, D.int .i64 0, D.int .i64 0]]).length = l.length := by rw [List.length_append, ents_len, zl]; simp; omega
  have zt : (ents (cutE l P) ++ [[D.zs, D.zs, D.int .i64 0, D.int .i64 0]]).take (l.length - 1) = ents (cutE l P) := by
    rw [List.take_append_of_le_length (by rw [ents_len]; omega)]
    exact ents_take_all _ _ (by omega)
  refine ⟨⟨47, [(4, .ptr 2 1 0 0), (36, .agg s.row), (38, .int .i64 c), (43, .vs (ents (cutE l P)))], [none, none, some [zrow], none]⟩, Conv.trans (s1 := ⟨47, [(4, .ptr 2 1 0 0), (36, .agg s.row), (38, .int .i64 c), (43, .rs 4 3 0 (l.length - 1) l.length)], [none, none, some [zrow], some (ents (cutE l P) ++ [[.zs, .zs, .int .i64 0, .int .i64 0]])]⟩) (Conv.mk ?_ ?_ ?_ ?_ ?_) (Conv.freeze (b := 3) (by decide) ?_), ?_⟩
  iterate 5 (· simp (maxSteps := 1000000) only [go_sem, Int.reduceLT, Int.reduceLE, Int.reduceToNat, Int.reduceEq, Nat.reduceMul, ↓reduceIte, Nat.reduceLT, Nat.reduceLeDiff, Nat.reduceEqDiff, Nat.reduceAdd, Nat.reduceSub, Nat.reduceBEq, reduceCtorEq, zrow, List.all_append, List.all_cons, List.all_nil, D.refsL, D.refs, Bool.and_true, Bool.true_and])
  · have zz : pureB [zrow] = true := rfl
    simp [AH.freeze, frzH, frzTm, trB, trL, tr, unb, hget, zz, zp, zn, zt, Sc.row]
  have hl15 : (cutE l P).length < 1000000000000000 := by omega
  refine ⟨runA_one (n := 4) (i := 9) (by kernel_rfl) rfl ?_⟩
  repeat' first
    | simp (maxSteps := 1000000) only [go_sem, Int.reduceLT, Int.reduceLE, Int.reduceToNat, Int.reduceEq, Nat.reduceMul, ↓reduceIte, Nat.reduceLT, Nat.reduceLeDiff, Nat.reduceEqDiff, Nat.reduceAdd, Nat.reduceSub, Nat.reduceBEq, reduceCtorEq, *]
    | contradiction
    | refine wT ?_ ?_ <;> intro _
    | refine wF ?_ ?_ <;> intro _
    | refine cD ?_ ?_ <;> intro _
    | refine dO (by kernel_rfl) ?_
    | refine (kcOf (s := s) (l := cutE l P)) ?_
    | refine Fin.q ?_ ?_
    | refine Fin.qn ?_ ?_
  refine ⟨runA_two (n := 3) (i := 10) (i2 := 11) (by kernel_rfl) rfl rfl ?_ ?_⟩
  · repeat' first
      | simp (maxSteps := 1000000) only [go_sem, Int.reduceLT, Int.reduceLE, Int.reduceToNat, Int.reduceEq, Nat.reduceMul, ↓reduceIte, Nat.reduceLT, Nat.reduceLeDiff, Nat.reduceEqDiff, Nat.reduceAdd, Nat.reduceSub, Nat.reduceBEq, reduceCtorEq, *]
      | contradiction
      | refine wT ?_ ?_ <;> intro _
      | refine wF ?_ ?_ <;> intro _
      | refine cD ?_ ?_ <;> intro _
      | refine dO (by kernel_rfl) ?_
      | refine Fin.q ?_ ?_
      | refine Fin.qn ?_ ?_
    refine ⟨runA_one (n := 2) (i := 11) (by kernel_rfl) rfl ?_⟩
    repeat' first
      | simp (maxSteps := 1000000) only [go_sem, Int.reduceLT, Int.reduceLE, Int.reduceToNat, Int.reduceEq, Nat.reduceMul, ↓reduceIte, Nat.reduceLT, Nat.reduceLeDiff, Nat.reduceEqDiff, Nat.reduceAdd, Nat.reduceSub, Nat.reduceBEq, reduceCtorEq, *]
      | contradiction
      | refine wT ?_ ?_ <;> intro _
      | refine wF ?_ ?_ <;> intro _
      | refine cD ?_ ?_ <;> intro _
      | refine dO (by kernel_rfl) ?_
      | refine Fin.q ?_ ?_
      | refine Fin.qn ?_ ?_
    refine ⟨runA_one (n := 1) (i := 12) (by kernel_rfl) rfl ?_⟩
    repeat' first
      | simp (maxSteps := 1000000) only [go_sem, Int.reduceLT, Int.reduceLE, Int.reduceToNat, Int.reduceEq, Nat.reduceMul, ↓reduceIte, Nat.reduceLT, Nat.reduceLeDiff, Nat.reduceEqDiff, Nat.reduceAdd, Nat.reduceSub, Nat.reduceBEq, reduceCtorEq, *, zrow]
      | contradiction
      | refine wT ?_ ?_ <;> intro _
      | refine wF ?_ ?_ <;> intro _
      | refine cD ?_ ?_ <;> intro _
      | refine dO (by kernel_rfl) ?_
      | refine Fin.q ?_ ?_
      | refine Fin.qn ?_ ?_
    refine ⟨runA_one (n := 0) (i := 13) (by kernel_rfl) rfl ?_⟩
    repeat' first
      | simp (maxSteps := 1000000) only [go_sem, Int.reduceLT, Int.reduceLE, Int.reduceToNat, Int.reduceEq, Nat.reduceMul, ↓reduceIte, Nat.reduceLT, Nat.reduceLeDiff, Nat.reduceEqDiff, Nat.reduceAdd, Nat.reduceSub, Nat.reduceBEq, reduceCtorEq, *]
      | contradiction
      | refine wT ?_ ?_ <;> intro _
      | refine wF ?_ ?_ <;> intro _
      | refine cD ?_ ?_ <;> intro _
      | refine dO (by kernel_rfl) ?_
      | refine Fin.q ?_ ?_
      | refine Fin.qn ?_ ?_
    refine ⟨runA_nil (by kernel_rfl) ?_⟩
    obtain ⟨rfl⟩ := hy
    refine AW.of_run (callX_sound _) mix ?_
    repeat' first
      | simp (maxSteps := 1000000) only [go_sem, Int.reduceLT, Int.reduceLE, Int.reduceToNat, Int.reduceEq, Nat.reduceMul, ↓reduceIte, Nat.reduceLT, Nat.reduceLeDiff, Nat.reduceEqDiff, Nat.reduceAdd, Nat.reduceSub, Nat.reduceBEq, reduceCtorEq, *]
      | contradiction
      | refine wT ?_ ?_ <;> intro _
      | refine wF ?_ ?_ <;> intro _
      | refine cD ?_ ?_ <;> intro _
      | refine dO (by kernel_rfl) ?_
      | refine Fin.q ?_ ?_
      | refine Fin.qn ?_ ?_
  · repeat' first
      | simp (maxSteps := 1000000) only [go_sem, Int.reduceLT, Int.reduceLE, Int.reduceToNat, Int.reduceEq, Nat.reduceMul, ↓reduceIte, Nat.reduceLT, Nat.reduceLeDiff, Nat.reduceEqDiff, Nat.reduceAdd, Nat.reduceSub, Nat.reduceBEq, reduceCtorEq, *]
      | contradiction
      | refine wT ?_ ?_ <;> intro _
      | refine wF ?_ ?_ <;> intro _
      | refine cD ?_ ?_ <;> intro _
      | refine dO (by kernel_rfl) ?_
      | refine Fin.q ?_ ?_
      | refine Fin.qn ?_ ?_
    refine ⟨runA_one (n := 2) (i := 10) (by kernel_rfl) rfl ?_⟩
    repeat' first
      | simp (maxSteps := 1000000) only [go_sem, Int.reduceLT, Int.reduceLE, Int.reduceToNat, Int.reduceEq, Nat.reduceMul, ↓reduceIte, Nat.reduceLT, Nat.reduceLeDiff, Nat.reduceEqDiff, Nat.reduceAdd, Nat.reduceSub, Nat.reduceBEq, reduceCtorEq, *]
      | contradiction
      | refine wT ?_ ?_ <;> intro _
      | refine wF ?_ ?_ <;> intro _
      | refine cD ?_ ?_ <;> intro _
      | refine dO (by kernel_rfl) ?_
      | refine Fin.q ?_ ?_
      | refine Fin.qn ?_ ?_
    refine ⟨runA_one (n := 1) (i := 12) (by kernel_rfl) rfl ?_⟩
    repeat' first
      | simp (maxSteps := 1000000) only [go_sem, Int.reduceLT, Int.reduceLE, Int.reduceToNat, Int.reduceEq, Nat.reduceMul, ↓reduceIte, Nat.reduceLT, Nat.reduceLeDiff, Nat.reduceEqDiff, Nat.reduceAdd, Nat.reduceSub, Nat.reduceBEq, reduceCtorEq, *, zrow]
      | contradiction
      | refine wT ?_ ?_ <;> intro _
      | refine wF ?_ ?_ <;> intro _
      | refine cD ?_ ?_ <;> intro _
      | refine dO (by kernel_rfl) ?_
      | refine Fin.q ?_ ?_
      | refine Fin.qn ?_ ?_
    refine ⟨runA_one (n := 0) (i := 13) (by kernel_rfl) rfl ?_⟩
    repeat' first
      | simp (maxSteps := 1000000) only [go_sem, Int.reduceLT, Int.reduceLE, Int.reduceToNat, Int.reduceEq, Nat.reduceMul, ↓reduceIte, Nat.reduceLT, Nat.reduceLeDiff, Nat.reduceEqDiff, Nat.reduceAdd, Nat.reduceSub, Nat.reduceBEq, reduceCtorEq, *]
      | contradiction
      | refine wT ?_ ?_ <;> intro _
      | refine wF ?_ ?_ <;> intro _
      | refine cD ?_ ?_ <;> intro _
      | refine dO (by kernel_rfl) ?_
      | refine Fin.q ?_ ?_
      | refine Fin.qn ?_ ?_
    refine ⟨runA_nil (by kernel_rfl) ?_⟩
    obtain ⟨rfl⟩ := hy
    refine AW.of_run (callX_sound _) mix ?_
    repeat' first
      | simp (maxSteps := 1000000) only [go_sem, Int.reduceLT, Int.reduceLE, Int.reduceToNat, Int.reduceEq, Nat.reduceMul, ↓reduceIte, Nat.reduceLT, Nat.reduceLeDiff, Nat.reduceEqDiff, Nat.reduceAdd, Nat.reduceSub, Nat.reduceBEq, reduceCtorEq, *]
      | contradiction
      | refine wT ?_ ?_ <;> intro _
      | refine wF ?_ ?_ <;> intro _
      | refine cD ?_ ?_ <;> intro _
      | refine dO (by kernel_rfl) ?_
      | refine Fin.q ?_ ?_
      | refine Fin.qn ?_ ?_
theorem ecmp_0 {s : Sc} {x y : En} (hx : x.ok s) (hy : y.ok s) : ecmp s x y = 0 ↔ shuf x.w.s = shuf y.w.s ∧ x.p = y.p ∧ x.q = y.q := by
  unfold ecmp
  rw [wcmp_of hx hy]
  unfold or2 cmp3
  repeat' split
  all_goals omega
theorem ecmp_ne {s : Sc} {x y : En} (hx : x.ok s) (hy : y.ok s) (h : kle x y ∨ kle y x) : ecmp s x y ≠ 0 := fun h0 => by
  obtain ⟨h1, h2, h3⟩ := (ecmp_0 hx hy).1 h0
  unfold kle at h
  omega
theorem ecmp_same {s : Sc} {x : En} (hx : x.ok s) : ecmp s x x = 0 := (ecmp_0 hx hx).2 ⟨rfl, rfl, rfl⟩
/-- Valid, and ascending. -/
def okL (s : Sc) (l : List En) : Prop := (∀ e, e ∈ l → e.ok s) ∧ l.Pairwise kle
theorem okL_nil (s : Sc) : okL s [] := ⟨fun e h => by simp at h, List.Pairwise.nil⟩
theorem ofE_0 {s : Sc} {c : Int} {l : List En} (hs : s.ok) (h1 : 1 ≤ c) (h2 : c ≤ 64) (h : okL s l) (hl : l.length ≤ 2000) : ofE s c l = 0 := by
  unfold ofE
  rw [if_pos (emE_0.2 ⟨hs, h1, h2⟩), if_neg (by omega), if_pos (pw_sorted h.1 h.2)]
theorem ins_ok {s : Sc} {e : En} {l : List En} (h : okL s l) (he : e.ok s) (hd : ∀ x, x ∈ l → kle x e ∨ kle e x) :
    okL s (putE l (posE s e l) e) ∧ (putE l (posE s e l) e).Perm (e :: l) ∧ At (ecmp s) l e (posE s e l) ∧ hitE s l e (posE s e l) = false := by
  have hc : putE l (posE s e l) e = insE s e l := (insE_cut s e l).symm
  have hp := insE_perm s e l
  rw [hc]
  refine ⟨⟨fun x hx => ?_, insE_pw s e he l h.1 h.2 hd⟩, hp, ⟨posE_le s e l, fun k hk => posE_spec s e l h.2 h.1 he k hk⟩, ?_⟩
  · rcases List.mem_cons.1 (hp.subset hx) with rfl | hx
    · exact he
    · exact h.1 x hx
  · unfold hitE
    rw [decide_eq_false_iff_not]
    rintro ⟨h1, h2⟩
    have hm := getD_mem' h1
    exact ecmp_ne (h.1 _ hm) he (hd _ hm) h2
/-- An entry less. -/
theorem rem_ok {s : Sc} {e : En} {l : List En} (h : okL s l) (he : e ∈ l) :
    ∃ P, P < l.length ∧ At (ecmp s) l e P ∧ hitE s l e P = true ∧ okL s (cutE l P) ∧ l.Perm (e :: cutE l P) := by
  obtain ⟨A, B, rfl⟩ := List.append_of_mem he
  obtain ⟨hok, hp⟩ := h
  obtain ⟨pA, pB, pAB⟩ := List.pairwise_append.1 hp
  obtain ⟨eB, pB⟩ := List.pairwise_cons.1 pB
  have oe := hok e (by simp)
  have hcut : cutE (A ++ e :: B) A.length = A ++ B := by
    unfold cutE
    rw [List.take_append_of_le_length (Nat.le_refl _), List.take_length]
    congr 1
    rw [show A ++ e :: B = (A ++ [e]) ++ B from by simp, List.drop_append_of_le_length (by simp), List.drop_eq_nil_of_le (by simp), List.nil_append]
  have hget : (A ++ e :: B).getD A.length default = e := by simp [List.getD]
  refine ⟨A.length, by simp, ⟨by simp, fun k hk => ?_⟩, ?_, ?_, ?_⟩
  · rcases Nat.lt_trichotomy k A.length with h1 | h1 | h1
    · have hx : (A ++ e :: B).getD k default = A.getD k default := by simp [List.getD, List.getElem?_append_left h1]
      have hm := getD_mem' h1
      rw [hx]
      have := (ecmp_kle (hok _ (List.mem_append.2 (.inl hm))) oe).2 (pAB _ hm e (by simp))
      omega
    · subst h1
      rw [hget, ecmp_same oe]
      omega
    · have hk2 : k - A.length - 1 < B.length := by simp at hk; omega
      have hx : (A ++ e :: B).getD k default = B.getD (k - A.length - 1) default := by
        simp only [List.getD]
        rw [List.getElem?_append_right (by omega), show k - A.length = (k - A.length - 1) + 1 from by omega, List.getElem?_cons_succ]
        simp
      have hm := getD_mem' hk2
      rw [hx]
      have h2 := eB _ hm
      have h3 : ¬ ecmp s (B.getD (k - A.length - 1) default) e < 0 := fun hlt => kle_irr h2 ((ecmp_kle (hok _ (List.mem_append.2 (.inr (List.mem_cons_of_mem _ hm)))) oe).1 hlt)
      omega
  · unfold hitE
    rw [decide_eq_true_iff, hget]
    exact ⟨by simp, ecmp_same oe⟩
  · rw [hcut]
    exact ⟨fun x hx => hok x (by rcases List.mem_append.1 hx with h | h <;> simp [h]), List.pairwise_append.2 ⟨pA, pB, fun a ha b hb => pAB a ha b (by simp [hb])⟩⟩
  · rw [hcut]
    exact List.perm_middle
/-- The turned order. -/
def turnE (X : List En) (t i : Nat) : En := X.getD ((i + t) % X.length) default
theorem turn_perm (X : List En) (t : Nat) (hn : X ≠ []) : ((List.range X.length).map (turnE X t)).Perm X := by
  have hpos : 0 < X.length := List.length_pos_iff.2 hn
  have hr : t % X.length < X.length := Nat.mod_lt _ hpos
  have : (List.range X.length).map (turnE X t) = X.drop (t % X.length) ++ X.take (t % X.length) := by
    apply List.ext_getElem
    · simp; omega
    · intro i h1 h2
      simp only [List.length_map, List.length_range] at h1
      simp only [List.getElem_map, List.getElem_range, turnE, List.getD]
      rw [← Nat.add_mod_mod]
      rcases Nat.lt_or_ge (i + t % X.length) X.length with h | h
      · rw [Nat.mod_eq_of_lt h, List.getElem_append_left (by simp; omega), List.getElem_drop, List.getElem?_eq_getElem h]
        simp [Nat.add_comm]
      · rw [Nat.mod_eq_sub_mod h, Nat.mod_eq_of_lt (by omega), List.getElem_append_right (by simp; omega), List.getElem_take, List.getElem?_eq_getElem (by omega)]
        simp only [Option.getD_some, List.length_drop]
        congr 1
        omega
  rw [this]
  exact List.perm_append_comm.trans (by rw [List.take_append_drop])
theorem turn_apart {X : List En} (ha : apart X) {t i j : Nat} (hj : j < i) (hi : i < X.length) : kle (turnE X t j) (turnE X t i) ∨ kle (turnE X t i) (turnE X t j) := by
  have hpos : 0 < X.length := by omega
  have h1 : (j + t) % X.length < X.length := Nat.mod_lt _ hpos
  have h2 : (i + t) % X.length < X.length := Nat.mod_lt _ hpos
  have hne : (j + t) % X.length ≠ (i + t) % X.length := fun h => by
    have := Nat.sub_mod_eq_zero_of_mod_eq h.symm
    rw [show i + t - (j + t) = i - j from by omega, Nat.mod_eq_of_lt (by omega)] at this
    omega
  unfold turnE
  simp only [List.getD, List.getElem?_eq_getElem h1, List.getElem?_eq_getElem h2, Option.getD_some]
  rcases Nat.lt_or_gt_of_ne hne with h | h
  · exact List.pairwise_iff_getElem.1 ha _ _ h1 h2 h
  · exact (List.pairwise_iff_getElem.1 ha _ _ h2 h1 h).symm
/-- One entry more of those in turned order. -/
theorem turn_step {s : Sc} {X L : List En} {t i : Nat} (hX : ∀ e, e ∈ X → e.ok s) (ha : apart X) (hi : i < X.length) (hL : okL s L) (hp : L.Perm ((List.range i).map (turnE X t))) :
    (turnE X t i).ok s ∧ (∀ x, x ∈ L → kle x (turnE X t i) ∨ kle (turnE X t i) x) ∧ ∀ L' : List En, L'.Perm (turnE X t i :: L) → L'.Perm ((List.range (i + 1)).map (turnE X t)) := by
  have hpos : 0 < X.length := by omega
  refine ⟨hX _ (getD_mem' (Nat.mod_lt _ hpos)), fun x hx => ?_, fun L' h => ?_⟩
  · obtain ⟨j, hj, rfl⟩ := List.mem_map.1 (hp.subset hx)
    exact turn_apart ha (by simpa using hj) hi
  · rw [List.range_succ, List.map_append]
    refine h.trans ((hp.cons _).trans ?_)
    simp only [List.map_cons, List.map_nil]
    exact (List.perm_append_comm (l₁ := [turnE X t i])).trans (List.Perm.refl _)
/-- One entry less of those that come first. -/
theorem gone_step {s : Sc} {X R : List En} {i : Nat} (hi : i < X.length) (hR : okL s R) (hp : R.Perm (X.drop i)) :
    ∃ P, P < R.length ∧ At (ecmp s) R (X.getD i default) P ∧ hitE s R (X.getD i default) P = true ∧ okL s (cutE R P) ∧ (cutE R P).Perm (X.drop (i + 1)) := by
  have hd : X.drop i = X.getD i default :: X.drop (i + 1) := by
    rw [List.drop_eq_getElem_cons hi]
    simp [List.getD, hi]
  have hm : X.getD i default ∈ R := hp.symm.subset (by rw [hd]; simp)
  obtain ⟨P, h1, h2, h3, h4, h5⟩ := rem_ok hR hm
  refine ⟨P, h1, h2, h3, h4, ?_⟩
  have : (X.getD i default :: cutE R P).Perm (X.getD i default :: X.drop (i + 1)) := by rw [← hd]; exact h5.symm.trans hp
  exact List.Perm.cons_inv this
/-- What is left is sorted. -/
theorem left_is {s : Sc} {X R : List En} {k : Nat} (hX : ∀ e, e ∈ X → e.ok s) (ha : apart X) (hR : okL s R) (hp : R.Perm (X.drop k)) : R = srtO s (X.drop k) := by
  have h1 : ∀ e, e ∈ X.drop k → e.ok s := fun e he => hX e (List.mem_of_mem_drop he)
  have h2 : apart (X.drop k) := List.Pairwise.sublist (List.drop_sublist _ _) ha
  obtain ⟨q1, q2⟩ := srtO_is h1 h2
  exact kle_uniq (hp.trans q1.symm) hR.2 q2
theorem cTIns (s : Sc) (c : Int) (R : List En) (e : En) (hs : s.ok) (h1 : 1 ≤ c) (h2 : c ≤ 64) (hR : okL s R) (h60 : R.length ≤ 50) (he : e.ok s) (hd : ∀ x, x ∈ R → kle x e ∨ kle e x) : FC Tryz.prog 23 [.agg (ofT s c R).row, .agg e.row] [] (.tup [.agg (ofT s c (putE R (posE s e R) e)).row, .int .i64 0]) [] := by
  obtain ⟨q1, q2, q3, q4⟩ := ins_ok hR he hd
  have h0 := ofE_0 hs h1 h2 hR (by omega)
  have hl := q2.length_eq
  simp only [List.length_cons] at hl
  have h3 := ofE_0 hs h1 h2 q1 (by omega)
  rcases R with _ | ⟨x, R⟩
  · have := cTIns0 s c e h0 he
    have e1 : putE [] (posE s e []) e = [e] := rfl
    rw [e1] at h3 ⊢
    rw [h3] at this
    exact this
  · have := cTInsN s c (x :: R) e _ h0 (by omega) (by simp) he q3 q4
    rw [h3] at this
    exact this
theorem kTIns {s : Sc} {c : Int} {R : List En} {e : En} {H : Heap} {slot : Nat} {K : D → List (Nat × Blk) → List (Nat × Blk) → Prop} (hs : s.ok) (h1 : 1 ≤ c) (h2 : c ≤ 64) (hR : okL s R) (h60 : R.length ≤ 50) (he : e.ok s) (hd : ∀ x, x ∈ R → kle x e ∨ kle e x)
    (hK : K (.tup [.agg (ofT s c (putE R (posE s e R) e)).row, .int .i64 0]) [] []) : @callB ⟨callX Tryz.prog⟩ 23 [.agg (ofT s c R).row, .agg e.row] H slot ⟨K⟩ := call0 false (cTIns s c R e hs h1 h2 hR h60 he hd) rfl rfl (fun h => nomatch h) hK
theorem kTRem {s : Sc} {c : Int} {R : List En} {e : En} {P : Nat} {H : Heap} {slot : Nat} {K : D → List (Nat × Blk) → List (Nat × Blk) → Prop} (hs : s.ok) (h1 : 1 ≤ c) (h2 : c ≤ 64) (hR : okL s R) (h60 : R.length ≤ 50) (he : e.ok s) (hP : P < R.length) (ha : At (ecmp s) R e P) (hm : hitE s R e P = true) (hC : okL s (cutE R P))
    (hK : K (.tup [.agg (ofT s c (cutE R P)).row, .int .i64 0]) [] []) : @callB ⟨callX Tryz.prog⟩ 24 [.agg (ofT s c R).row, .agg e.row] H slot ⟨K⟩ := by
  have hl := cutE_len hP
  have h3 := ofE_0 hs h1 h2 hC (by omega)
  have := cTRem s c R e P (ofE_0 hs h1 h2 hR (by omega)) (by omega) hP he ha hm
  rw [h3] at this
  exact call0 false this rfl rfl (fun h => nomatch h) hK
theorem kEnts2 {L : List Int} {a q : Nat} {s : Sc} {most : Int} {H : Heap} (hH : hget H q = some [[V L, .int .i64 a]]) {slot : Nat} {K : D → List (Nat × Blk) → List (Nat × Blk) → Prop} (hs : s.ok) (hL : L.length ≤ 1000) (ha : a ≤ 1000) (hm : 0 ≤ most) (hm2 : most ≤ 1000) (hK : ∀ (l : List En) (b : Nat), (l.length : Int) ≤ most → (∀ e, e ∈ l → e.ok s) → apart l → b ≤ 1000 → K (.vs (ents l)) [(q, [[V L, .int .i64 b]])] [(q, [[V L, .int .i64 a]]), (q, [[V L, .int .i64 a]])]) : @callB ⟨callX Tryz.prog⟩ 14 [.ptr q 1 0 0, .agg s.row, .int .i64 most] H slot ⟨K⟩ := by
  have e : rdOf H ([q] ++ D.idsL [.ptr q 1 0 0, .agg s.row, .int .i64 most]) = [(q, [[V L, .int .i64 a]]), (q, [[V L, .int .i64 a]])] := by simp [D.idsL, D.ids, rdOf, hH, Sc.row]
  have h1 := hs.1.2.1
  have h2 := hs.1.2.2.2.1
  have hd := dv_lt L a (n := most + 1) (by omega)
  obtain ⟨m, hm'⟩ : ∃ m : Nat, s.len = m := ⟨s.len.toNat, by omega⟩
  obtain ⟨n, hn'⟩ : ∃ n : Nat, s.pcs = n := ⟨s.pcs.toNat, by omega⟩
  obtain ⟨c, hc'⟩ : ∃ c : Nat, dv L a (most + 1) = c := ⟨(dv L a (most + 1)).toNat, by omega⟩
  have hf := cEnts L a s m n c most hs hm' hn' hL ha hm hm2 hc'
  have hb := enA_le L m n (da L a (most + 1)) (da_le _ _ _ ha hL) hL c
  have hl : ((rangeE (enE L s m n (da L a (most + 1)) c) c).length : Int) ≤ most := by rw [rangeE_len]; omega
  have hk := hK _ _ hl (enE_ok L s m n _ c hs hn' (by omega)) (enE_apart L s m n _ c) hb
  generalize rangeE (enE L s m n (da L a (most + 1)) c) c = x at *
  generalize enA L m n (da L a (most + 1)) c = y at *
  refine callX2 [q] hf (by simp) ?_ ?_ ⟨by simp, by simp⟩ (r' := .vs (ents x)) (outs' := [[[V L, .int .i64 y]]]) rfl ?_ ?_
  · simp [trL, tr, pos, Sc.row]
  · rw [e]; simp [insA, AH.look, trB, pureB, D.isPur]
  · simp [backB, trB, pureB, D.isPur]
  · rw [e]; exact hk
theorem es_flat {ns : List Nd} {x : Nd} (h : x ∈ ns) : x.es.length ≤ (flatE ns).length := by
  induction ns with
  | nil => simp at h
  | cons n ns ih =>
    simp only [flatE, List.length_append]
    rcases List.mem_cons.1 h with rfl | h
    · omega
    · have := ih h; omega
theorem sameT {s : Sc} {c : Int} {l : List En} (hs : s.ok) (h : ofE s c l = 0) (h64 : l.length ≤ 64) : FC Tryz.prog 25 [.agg (ofT s c l).row, .agg (ofT s c l).row] [] (.bool true) [] := by
  obtain ⟨h1, h2, h3, h4⟩ := ofT_ok h
  have hf := flatE_growF s c 32 0 (rootW s) l (sorted_ord hs h3)
  have hgl := growF_len s c (emE_0.1 h1).2.1 32 0 (rootW s) l
  have hrw := len8 (root_ok hs)
  have hln := growF_lens s c 32 0 (rootW s) l (by omega) (by omega) (by omega) (fun x hx => ok_lens (sorted_at h3 hx))
  have hcu := hs.1.2.2.2.2.2.2
  rw [h4]
  refine cSTr ⟨s, c, growF s c 32 0 (rootW s) l⟩ (by show s.cuts.length ≤ 4294967296; omega) (by show (growF s c 32 0 (rootW s) l).length ≤ 1000000; omega) (fun x hx => ⟨hln x hx, ?_⟩)
  have := es_flat hx
  simp only [hf] at this
  omega
set_option maxHeartbeats 8000000 in
set_option maxRecDepth 20000 in
theorem cOLaw (h9 : FC Tryz.prog 9 [] [] (.bool true) []) (L : List Int) (b1 b2 b3 : Nat) (hb1 : b1 ≤ 255) (hb2 : b2 ≤ 255) (hb3 : b3 ≤ 255) : FC Tryz.prog 5 [V L, .int .u8 b1, .int .u8 b2, .int .u8 b3] [] (.bool true) [] := by
  have kAw : ∀ {H : Heap} {slot : Nat} {K : D → List (Nat × Blk) → List (Nat × Blk) → Prop}, K (.bool true) [] [] → @callB ⟨callX Tryz.prog⟩ 9 [] H slot ⟨K⟩ := fun hK => call0 true h9 rfl rfl (fun _ => rfl) hK
  clear h9
  by_cases hF : L.length ≤ 400
  · have hL : L.length ≤ 1000 := by omega
    have d0 := dv_lt L 0 (n := 5) (by decide)
    have a0 : da L 0 5 ≤ 1000 := da_le _ _ _ (by omega) hL
    obtain ⟨len, hlen⟩ : ∃ len, 2 + dv L 0 5 = len := ⟨_, rfl⟩
    obtain ⟨p, hp⟩ : ∃ p, preS L (da L 0 5) len = p := ⟨_, rfl⟩
    have hpo := pre_ok L (da L 0 5) len (by omega) hL a0
    rw [hp] at hpo
    have hso := scOf_ok (L := L) hpo (by omega) (by omega)
    have hap := posC_le L p.step p.a hpo.ha hL p.cnt.toNat
    have hl2 : 2 ≤ len := by omega
    have hl32 : len ≤ 32 := by omega
    have kS : ∀ {q : Nat} {H : Heap} (hH : hget H q = some [[V L, .int .i64 (da L 0 5)]]) {slot : Nat} {K : D → List (Nat × Blk) → List (Nat × Blk) → Prop}, K (.agg (scOf L p len).row) [(q, [[V L, .int .i64 (posC L p.step p.a p.cnt.toNat)]])] [(q, [[V L, .int .i64 (da L 0 5)]]), (q, [[V L, .int .i64 (da L 0 5)]])] → @callB ⟨callX Tryz.prog⟩ 11 [.ptr q 1 0 0, .int .i64 len] H slot ⟨K⟩ := fun hH _ _ hK => kSch hH p hp hK hL a0 hl2 hl32
    generalize scOf L p len = s at *
    generalize posC L p.step p.a p.cnt.toNat = a at *
    clear hp hpo
    have t1 : ((b1 : Int)).tmod 5 = ((b1 % 5 : Nat) : Int) := rfl
    obtain ⟨e1, he1⟩ : ∃ e : Nat, b1 % 5 = e := ⟨_, rfl⟩
    rw [he1] at t1
    have u0 : IntKind.i64.wrap (b1 : Int) = (b1 : Int) := by rw [wrapS] <;> omega
    have u2 : IntKind.i64.wrap (b2 : Int) = (b2 : Int) := by rw [wrapS] <;> omega
    have u3 : IntKind.i64.wrap (b3 : Int) = (b3 : Int) := by rw [wrapS] <;> omega
    have w1 : IntKind.i64.wrap (e1 : Int) = (e1 : Int) := by rw [wrapS] <;> omega
    obtain ⟨c, hc⟩ : ∃ c, 1 + (e1 : Int) = c := ⟨_, rfl⟩
    have w3 : IntKind.i64.wrap c = c := by rw [wrapS] <;> omega
    have c1 : 1 ≤ c := by omega
    have c2 : c ≤ 64 := by omega
    have o0 := ofE_0 hso c1 c2 (okL_nil s) (by simp)
    have kN : ∀ {H : Heap} {slot : Nat} {K : D → List (Nat × Blk) → List (Nat × Blk) → Prop}, K (.tup [.agg (ofT s c []).row, .int .i64 0]) [] [] → @callB ⟨callX Tryz.prog⟩ 22 [.agg s.row, .int .i64 c] H slot ⟨K⟩ := fun hK => kcTNew (by rw [o0]; exact hK)
    have u5 : (Tryz.prog.underlying 5).isSome = true := by kernel_rfl
    refine FC.of_run mix Tryz.func5 rfl rfl (by simp [Tryz.ntmps5]) ?_
    repeat' first
      | simp (maxSteps := 1000000) only [go_sem, Int.reduceLT, Int.reduceLE, Int.reduceToNat, Int.reduceEq, Nat.reduceMul, ↓reduceIte, Nat.reduceLT, Nat.reduceLeDiff, Nat.reduceEqDiff, Nat.reduceAdd, Nat.reduceSub, Nat.reduceBEq, reduceCtorEq, *]
      | contradiction
      | refine wT ?_ ?_ <;> intro _
      | refine wF ?_ ?_ <;> intro _
      | refine cD ?_ ?_ <;> intro _
      | refine dO (by kernel_rfl) ?_
      | refine kcFew ?_
      | refine kNew ?_
      | refine (kLength (a := 0) rfl (ha := Nat.zero_le 1000)) ?_
      | refine (kS rfl) ?_
      | refine Fin.q ?_ ?_
      | refine Fin.qn ?_ ?_
    refine kEnts2 (s := s) rfl hso hL hap (by decide) (by decide) fun l b hl hok hapart hb => ?_
    repeat' first
      | simp (maxSteps := 1000000) only [go_sem, Int.reduceLT, Int.reduceLE, Int.reduceToNat, Int.reduceEq, Nat.reduceMul, ↓reduceIte, Nat.reduceLT, Nat.reduceLeDiff, Nat.reduceEqDiff, Nat.reduceAdd, Nat.reduceSub, Nat.reduceBEq, reduceCtorEq, *]
      | contradiction
      | refine wT ?_ ?_ <;> intro _
      | refine wF ?_ ?_ <;> intro _
      | refine cD ?_ ?_ <;> intro _
      | refine dO (by kernel_rfl) ?_
      | refine kN ?_
      | refine Fin.q ?_ ?_
      | refine Fin.qn ?_ ?_
    clear kS kN u0 he1 t1 w1 w3 hc hb hL d0 a0 hlen hl2 hl32 hap hb1 hF
    have hl16 : l.length ≤ 16 := by omega
    clear hl
    refine AW.loopx (σ := Nat × List En) mix (fun p => ⟨122, [(15, .int .i64 (p.1 : Int)), (14, .int .i64 0), (13, .ptr 38 1 0 0), (12, .int .i64 c), (11, .vs (ents l)), (10, .ptr 25 1 0 0), (8, .bool false), (3, .int .u8 b3), (2, .int .u8 b2)], [none, none, none, none, none, none, none, none, none, none, none, none, none, none, none, none, none, none, none, none, none, none, none, none, none, some [s.row], none, none, none, none, none, none, none, none, none, none, none, none, some [(ofT s c p.2).row]]⟩) (fun p => p.1 ≤ l.length ∧ okL s p.2 ∧ p.2.Perm ((List.range p.1).map (turnE l b2))) (fun p => l.length - p.1) (0, []) ⟨Nat.zero_le _, okL_nil s, List.Perm.refl _⟩ (Conv.mk ?_ ?_ ?_ ?_ ?_) ?_
    iterate 5 (· (simp (maxSteps := 1000000) only [go_sem, Int.reduceLT, Int.reduceLE, Int.reduceToNat, Int.reduceEq, Nat.reduceMul, ↓reduceIte, Nat.reduceLT, Nat.reduceLeDiff, Nat.reduceEqDiff, Nat.reduceAdd, Nat.reduceSub, Nat.reduceBEq, reduceCtorEq]) <;> (first | rfl | (simp [ints]; done) | (simp [*]; done) | ((repeat' (first | rfl | apply And.intro)); done)))
    intro ⟨i, R⟩ ⟨hi, hR, hpR⟩
    simp only at hi hR hpR
    have hRl := hpR.length_eq
    rw [List.length_map, List.length_range] at hRl
    have hv := wrap1 (i := i) (by omega)
    by_cases h : i < l.length
    · obtain ⟨he, hd, hnx⟩ := turn_step hok hapart h hR hpR
      have hm : (i + b2) % l.length < l.length := Nat.mod_lt _ (by omega)
      have hx := ents_get hm
      obtain ⟨q1, q2, _, _⟩ := ins_ok hR he hd
      have hn2 : i + 1 ≤ l.length ∧ okL s (putE R (posE s (turnE l b2 i) R) (turnE l b2 i)) ∧ (putE R (posE s (turnE l b2 i) R) (turnE l b2 i)).Perm ((List.range (i + 1)).map (turnE l b2)) := ⟨by omega, q1, hnx _ q2⟩
      have h50 : R.length ≤ 50 := by omega
      have v1 : IntKind.i64.wrap ((i : Int) + (b2 : Int)) = ((i + b2 : Nat) : Int) := by rw [wrapS] <;> omega
      have v2 : (((i + b2 : Nat) : Int)).tmod (l.length : Int) = (((i + b2) % l.length : Nat) : Int) := rfl
      have v3 : IntKind.i64.wrap ((((i + b2) % l.length : Nat)) : Int) = (((i + b2) % l.length : Nat) : Int) := by rw [wrapS] <;> omega
      have v4 : ((l.length : Int) = 0) = False := by simp only [eq_iff_iff, iff_false]; omega
      have v5 : ((l.length : Int) = -1) = False := by simp only [eq_iff_iff, iff_false]; omega
      have hte : l.getD ((i + b2) % l.length) default = turnE l b2 i := rfl
      rw [hte] at hx
      generalize turnE l b2 i = e at *
      generalize (i + b2) % l.length = m at *
      clear kAw hapart hok hRl hpR hnx q1 q2
      repeat' first
        | simp (maxSteps := 1000000) only [go_sem, Int.reduceLT, Int.reduceLE, Int.reduceToNat, Int.reduceEq, Nat.reduceMul, ↓reduceIte, Nat.reduceLT, Nat.reduceLeDiff, Nat.reduceEqDiff, Nat.reduceAdd, Nat.reduceSub, Nat.reduceBEq, reduceCtorEq, *, rowlen]
        | contradiction
        | refine wT ?_ ?_ <;> intro _
        | refine wF ?_ ?_ <;> intro _
        | refine cD ?_ ?_ <;> intro _
        | refine dO (by kernel_rfl) ?_
        | refine (kTIns hso c1 c2 hR h50 he hd) ?_
        | (refine ⟨(i + 1, putE R (posE s e R) e), ?_, ?_, Conv.mk ?_ ?_ ?_ ?_ ?_⟩; (· (first | omega | (simp only; omega) | (simp only [List.length_nil, List.length_cons]; omega))); (· (exact hn2)))
        | refine Fin.q ?_ ?_
        | refine Fin.qn ?_ ?_
    · have hil : i = l.length := by omega
      subst hil
      have hz : ((l.length : Int) < (l.length : Int)) = False := by simp only [eq_iff_iff, iff_false]; omega
      have hR0 : R.Perm l := by
        rcases l with _ | ⟨x, l⟩
        · simpa using hpR
        · exact hpR.trans (turn_perm _ _ (by simp))
      clear hpR hRl hi h hv
      by_cases hpos : 0 < l.length
      · have z1 : IntKind.i64.wrap ((l.length : Int) + 1) = ((l.length + 1 : Nat) : Int) := wrap1 (by omega)
        have z2 : ((b3 : Int)).tmod ((l.length + 1 : Nat) : Int) = ((b3 % (l.length + 1) : Nat) : Int) := rfl
        have hk : b3 % (l.length + 1) ≤ l.length := by have := Nat.mod_lt b3 (show 0 < l.length + 1 by omega); omega
        have z3 : IntKind.i64.wrap (((b3 % (l.length + 1) : Nat)) : Int) = ((b3 % (l.length + 1) : Nat) : Int) := by rw [wrapS] <;> omega
        have z4 : (((l.length + 1 : Nat) : Int) = 0) = False := by simp only [eq_iff_iff, iff_false]; omega
        have z5 : (((l.length + 1 : Nat) : Int) = -1) = False := by simp only [eq_iff_iff, iff_false]; omega
        have z6 : ((l.length : Int) > 0) = True := by simp only [eq_iff_iff, iff_true]; omega
        generalize b3 % (l.length + 1) = k at *
        repeat' first
          | simp (maxSteps := 1000000) only [go_sem, Int.reduceLT, Int.reduceLE, Int.reduceToNat, Int.reduceEq, Nat.reduceMul, ↓reduceIte, Nat.reduceLT, Nat.reduceLeDiff, Nat.reduceEqDiff, Nat.reduceAdd, Nat.reduceSub, Nat.reduceBEq, reduceCtorEq, *]
          | contradiction
          | refine wT ?_ ?_ <;> intro _
          | refine wF ?_ ?_ <;> intro _
          | refine cD ?_ ?_ <;> intro _
          | refine dO (by kernel_rfl) ?_
          | refine Fin.q ?_ ?_
          | refine Fin.qn ?_ ?_
        clear z1 z2 z3 z4 z5 z6
        refine AW.loopx (σ := Nat × List En) mix (fun p => ⟨122, [(19, .int .i64 (p.1 : Int)), (18, .int .i64 (k : Int)), (14, .int .i64 0), (13, .ptr 38 1 0 0), (12, .int .i64 c), (11, .vs (ents l)), (10, .ptr 25 1 0 0), (8, .bool false)], [none, none, none, none, none, none, none, none, none, none, none, none, none, none, none, none, none, none, none, none, none, none, none, none, none, some [s.row], none, none, none, none, none, none, none, none, none, none, none, none, some [(ofT s c p.2).row]]⟩) (fun p => p.1 ≤ k ∧ okL s p.2 ∧ p.2.Perm (l.drop p.1)) (fun p => k - p.1) (0, R) ⟨Nat.zero_le _, hR, hR0⟩ (Conv.mk ?_ ?_ ?_ ?_ ?_) ?_
        iterate 5 (· (simp (maxSteps := 1000000) only [go_sem, Int.reduceLT, Int.reduceLE, Int.reduceToNat, Int.reduceEq, Nat.reduceMul, ↓reduceIte, Nat.reduceLT, Nat.reduceLeDiff, Nat.reduceEqDiff, Nat.reduceAdd, Nat.reduceSub, Nat.reduceBEq, reduceCtorEq]) <;> (first | rfl | (simp [ints]; done) | (simp [*]; done) | ((repeat' (first | rfl | apply And.intro)); done)))
        clear hR hR0
        intro ⟨j, R⟩ ⟨hj, hR, hpR⟩
        simp only at hj hR hpR
        have hRl := hpR.length_eq
        rw [List.length_drop] at hRl
        have hv := wrap1 (i := j) (by omega)
        by_cases h : j < k
        · have hjl : j < l.length := by omega
          obtain ⟨P, g1, g2, g3, g4, g5⟩ := gone_step hjl hR hpR
          have he := hok _ (getD_mem' hjl)
          have hx := ents_get hjl
          have hnx : j + 1 ≤ k ∧ okL s (cutE R P) ∧ (cutE R P).Perm (l.drop (j + 1)) := ⟨by omega, g4, g5⟩
          have h50 : R.length ≤ 50 := by omega
          generalize l.getD j default = e at *
          clear kAw hapart hok hRl hpR
          repeat' first
            | simp (maxSteps := 1000000) only [go_sem, Int.reduceLT, Int.reduceLE, Int.reduceToNat, Int.reduceEq, Nat.reduceMul, ↓reduceIte, Nat.reduceLT, Nat.reduceLeDiff, Nat.reduceEqDiff, Nat.reduceAdd, Nat.reduceSub, Nat.reduceBEq, reduceCtorEq, *, rowlen]
            | contradiction
            | refine wT ?_ ?_ <;> intro _
            | refine wF ?_ ?_ <;> intro _
            | refine cD ?_ ?_ <;> intro _
            | refine dO (by kernel_rfl) ?_
            | refine (kTRem hso c1 c2 hR h50 he g1 g2 g3 g4) ?_
            | (refine ⟨(j + 1, cutE R P), ?_, ?_, Conv.mk ?_ ?_ ?_ ?_ ?_⟩; (· (first | omega | (simp only; omega) | (simp only [List.length_nil, List.length_cons]; omega))); (· (exact hnx)))
            | refine Fin.q ?_ ?_
            | refine Fin.qn ?_ ?_
        · have hjk : j = k := by omega
          subst hjk
          have hz : ((j : Int) < (j : Int)) = False := by simp only [eq_iff_iff, iff_false]; omega
          have hRM := left_is hok hapart hR hpR
          have hofR := ofE_0 hso c1 c2 hR (by omega)
          have hsl : (l.drop j).length ≤ 2000 := by rw [List.length_drop]; omega
          have kR : ∀ {H : Heap} {slot : Nat} {K : D → List (Nat × Blk) → List (Nat × Blk) → Prop}, K (.vs (ents R)) [] [] → @callB ⟨callX Tryz.prog⟩ 13 [.agg s.row, .vs (ents (l.drop j))] H slot ⟨K⟩ := fun hK => kcSrt (by rw [← hRM]; exact hK) hso hsl
          have kO1 : ∀ {H : Heap} {slot : Nat} {K : D → List (Nat × Blk) → List (Nat × Blk) → Prop}, K (.tup [.agg (ofT s c R).row, .int .i64 0]) [] [] → @callB ⟨callX Tryz.prog⟩ 15 [.agg s.row, .int .i64 c, .vs (ents R)] H slot ⟨K⟩ := fun hK => kcOf (by rw [hofR]; exact hK) (by omega)
          have kSm : ∀ {H : Heap} {slot : Nat} {K : D → List (Nat × Blk) → List (Nat × Blk) → Prop}, K (.bool true) [] [] → @callB ⟨callX Tryz.prog⟩ 25 [.agg (ofT s c R).row, .agg (ofT s c R).row] H slot ⟨K⟩ := fun hK => call0 true (sameT hso hofR (by omega)) rfl rfl (fun _ => rfl) hK
          have hld : List.drop j (ents l) = ents (l.drop j) := by simp [ents]
          have hlt : List.take l.length (ents l) = ents l := ents_take_all _ _ (Nat.le_refl _)
          have hjl : j ≤ l.length := hk
          clear hapart hok hRl hpR hRM hR h
          generalize ofT s c R = y at *
          repeat' first
            | simp (maxSteps := 1000000) only [go_sem, Int.reduceLT, Int.reduceLE, Int.reduceToNat, Int.reduceEq, Nat.reduceMul, ↓reduceIte, Nat.reduceLT, Nat.reduceLeDiff, Nat.reduceEqDiff, Nat.reduceAdd, Nat.reduceSub, Nat.reduceBEq, reduceCtorEq, *, ents_len, List.drop_zero, Nat.le_refl, true_and, and_true, imp_self, and_self]
            | contradiction
            | refine wT ?_ ?_ <;> intro _
            | refine wF ?_ ?_ <;> intro _
            | refine cD ?_ ?_ <;> intro _
            | refine dO (by kernel_rfl) ?_
            | refine kR ?_
            | refine kO1 ?_
            | refine kSm ?_
            | refine kAw ?_
            | refine Fin.q ?_ ?_
            | refine Fin.qn ?_ ?_
      · have z6 : ((l.length : Int) > 0) = False := by simp only [eq_iff_iff, iff_false]; omega
        have hk : 0 ≤ l.length := Nat.zero_le _
        repeat' first
          | simp (maxSteps := 1000000) only [go_sem, Int.reduceLT, Int.reduceLE, Int.reduceToNat, Int.reduceEq, Nat.reduceMul, ↓reduceIte, Nat.reduceLT, Nat.reduceLeDiff, Nat.reduceEqDiff, Nat.reduceAdd, Nat.reduceSub, Nat.reduceBEq, reduceCtorEq, *]
          | contradiction
          | refine wT ?_ ?_ <;> intro _
          | refine wF ?_ ?_ <;> intro _
          | refine cD ?_ ?_ <;> intro _
          | refine dO (by kernel_rfl) ?_
          | refine Fin.q ?_ ?_
          | refine Fin.qn ?_ ?_
        clear z6
        refine AW.loopx (σ := Nat × List En) mix (fun p => ⟨122, [(19, .int .i64 (p.1 : Int)), (18, .int .i64 0), (14, .int .i64 0), (13, .ptr 38 1 0 0), (12, .int .i64 c), (11, .vs (ents l)), (10, .ptr 25 1 0 0), (8, .bool false)], [none, none, none, none, none, none, none, none, none, none, none, none, none, none, none, none, none, none, none, none, none, none, none, none, none, some [s.row], none, none, none, none, none, none, none, none, none, none, none, none, some [(ofT s c p.2).row]]⟩) (fun p => p.1 ≤ 0 ∧ okL s p.2 ∧ p.2.Perm (l.drop p.1)) (fun p => 0 - p.1) (0, R) ⟨Nat.zero_le _, hR, hR0⟩ (Conv.mk ?_ ?_ ?_ ?_ ?_) ?_
        iterate 5 (· (simp (maxSteps := 1000000) only [go_sem, Int.reduceLT, Int.reduceLE, Int.reduceToNat, Int.reduceEq, Nat.reduceMul, ↓reduceIte, Nat.reduceLT, Nat.reduceLeDiff, Nat.reduceEqDiff, Nat.reduceAdd, Nat.reduceSub, Nat.reduceBEq, reduceCtorEq]) <;> (first | rfl | (simp [ints]; done) | (simp [*]; done) | ((repeat' (first | rfl | apply And.intro)); done)))
        clear hR hR0
        intro ⟨j, R⟩ ⟨hj, hR, hpR⟩
        simp only at hj hR hpR
        have hRl := hpR.length_eq
        rw [List.length_drop] at hRl
        have hv := wrap1 (i := j) (by omega)
        by_cases h : j < 0
        · omega
        · have hjk : j = 0 := by omega
          subst hjk
          have hz : (((0 : Nat) : Int) < 0) = False := by simp
          have hRM := left_is hok hapart hR hpR
          have hofR := ofE_0 hso c1 c2 hR (by omega)
          have hsl : (l.drop 0).length ≤ 2000 := by rw [List.length_drop]; omega
          have kR : ∀ {H : Heap} {slot : Nat} {K : D → List (Nat × Blk) → List (Nat × Blk) → Prop}, K (.vs (ents R)) [] [] → @callB ⟨callX Tryz.prog⟩ 13 [.agg s.row, .vs (ents (l.drop 0))] H slot ⟨K⟩ := fun hK => kcSrt (by rw [← hRM]; exact hK) hso hsl
          have kO1 : ∀ {H : Heap} {slot : Nat} {K : D → List (Nat × Blk) → List (Nat × Blk) → Prop}, K (.tup [.agg (ofT s c R).row, .int .i64 0]) [] [] → @callB ⟨callX Tryz.prog⟩ 15 [.agg s.row, .int .i64 c, .vs (ents R)] H slot ⟨K⟩ := fun hK => kcOf (by rw [hofR]; exact hK) (by omega)
          have kSm : ∀ {H : Heap} {slot : Nat} {K : D → List (Nat × Blk) → List (Nat × Blk) → Prop}, K (.bool true) [] [] → @callB ⟨callX Tryz.prog⟩ 25 [.agg (ofT s c R).row, .agg (ofT s c R).row] H slot ⟨K⟩ := fun hK => call0 true (sameT hso hofR (by omega)) rfl rfl (fun _ => rfl) hK
          have hld : List.drop 0 (ents l) = ents (l.drop 0) := by simp [ents]
          have hlt : List.take l.length (ents l) = ents l := ents_take_all _ _ (Nat.le_refl _)
          have hjl : 0 ≤ l.length := hk
          clear hapart hok hRl hpR hRM hR h
          generalize ofT s c R = y at *
          repeat' first
            | simp (maxSteps := 1000000) only [go_sem, Int.reduceLT, Int.reduceLE, Int.reduceToNat, Int.reduceEq, Nat.reduceMul, ↓reduceIte, Nat.reduceLT, Nat.reduceLeDiff, Nat.reduceEqDiff, Nat.reduceAdd, Nat.reduceSub, Nat.reduceBEq, reduceCtorEq, *, ents_len, List.drop_zero, Nat.le_refl, true_and, and_true, imp_self, and_self]
            | contradiction
            | refine wT ?_ ?_ <;> intro _
            | refine wF ?_ ?_ <;> intro _
            | refine cD ?_ ?_ <;> intro _
            | refine dO (by kernel_rfl) ?_
            | refine kR ?_
            | refine kO1 ?_
            | refine kSm ?_
            | refine kAw ?_
            | refine Fin.q ?_ ?_
            | refine Fin.qn ?_ ?_
  · have hF2 : ¬ L.length ≤ 400 := hF
    refine FC.of_run mix Tryz.func5 rfl rfl (by simp [Tryz.ntmps5]) ?_
    repeat' first
      | simp (maxSteps := 1000000) only [go_sem, Int.reduceLT, Int.reduceLE, Int.reduceToNat, Int.reduceEq, Nat.reduceMul, ↓reduceIte, Nat.reduceLT, Nat.reduceLeDiff, Nat.reduceEqDiff, Nat.reduceAdd, Nat.reduceSub, Nat.reduceBEq, reduceCtorEq, *]
      | contradiction
      | refine wT ?_ ?_ <;> intro _
      | refine wF ?_ ?_ <;> intro _
      | refine cD ?_ ?_ <;> intro _
      | refine dO (by kernel_rfl) ?_
      | refine kcFew ?_
      | refine kAw ?_
      | refine Fin.q ?_ ?_
      | refine Fin.qn ?_ ?_
end TR
/- The row of TreeOrder. -/
open Go Go.Proofs Go.Proofs.YtjfgnmicjhjofaaGreat Go.AH Go.ChangeShapes Go.WideShapes Go.ChangeAt Go.RowKit
set_option linter.unusedVariables false
namespace TR
set_option maxRecDepth 100000 in
theorem lifted5 (h9 : FC Tryz.prog 9 [] [] (.bool true) []) (os : Os) (started : os.Started) (H : Type) (enc : TypeId × Value → H) :
    ReturnsInHanded {} Tryz.checked os 5 .any (Rows.treeOrderSpec.pre6 enc Tryz.prog Tryz.f5 Rows.treeOrderRow.domain false) (Rows.treeOrderSpec.post enc Tryz.prog Tryz.f5 false true false false) := by
  refine returnsInHanded_of_change (C := Tryz.checked) own started (by kernel_rfl) Tryz.func5
    (ChangeSpec.witness6 (enc := enc) (C := Tryz.checked) false ⟨#[], #[.slice none 0 0, .int .u8 0, .int .u8 0, .int .u8 0], []⟩ 8 (by kernel_rfl) (by kernel_rfl) (by kernel_rfl) (by kernel_rfl)) ?_
  intro W base args ds gs before hval0 hW hcnd _
  have hval : ∀ (j : Nat) t v, Tryz.f5.params[j]? = some t → args[j]? = some v → Value.okWide Tryz.prog W .any base t v := hval0
  have hW' := hW
  obtain ⟨p, q, hA0, hV, rfl, hfz, hnd⟩ := hW
  have hA : DataW.TrodAll enc Tryz.prog W 0 (fun _ => true) true Tryz.f5.params.toList args.toList ds p := hA0
  rw [Tryz.params5] at hA hval
  obtain ⟨v0, vs0, d0, ds0, p0, q0, hargs, rfl, rfl, h0, r0⟩ := trodAll_cons hA
  obtain ⟨v1, vs1, d1, ds1, p1, q1, rfl, rfl, rfl, h1, r1⟩ := trodAll_cons r0
  obtain ⟨v2, vs2, d2, ds2, p2, q2, rfl, rfl, rfl, h2, r2⟩ := trodAll_cons r1
  obtain ⟨v3, vs3, d3, ds3, p3, q3, rfl, rfl, rfl, h3, r3⟩ := trodAll_cons r2
  obtain ⟨rfl, rfl, rfl⟩ := trodAll_nil r3
  obtain rfl : args = #[v0, v1, v2, v3] := by cases args; simp_all
  obtain ⟨rfl, rfl⟩ := trodVars_none hV
  have k0 := h0
  have k1 := h1
  have k2 := h2
  have k3 := h3
  have lt0 : ∀ x ∈ p0, x.block < W.heap.size := by obtain ⟨m, hm⟩ := k0; exact DataW.trod_lt m _ _ _ hm
  have lt1 : ∀ x ∈ p1, x.block < W.heap.size := by obtain ⟨m, hm⟩ := k1; exact DataW.trod_lt m _ _ _ hm
  have lt2 : ∀ x ∈ p2, x.block < W.heap.size := by obtain ⟨m, hm⟩ := k2; exact DataW.trod_lt m _ _ _ hm
  have lt3 : ∀ x ∈ p3, x.block < W.heap.size := by obtain ⟨m, hm⟩ := k3; exact DataW.trod_lt m _ _ _ hm
  obtain ⟨sa, sl, sc, rfl⟩ := okWide_slice uq22 (hval 0 22 v0 rfl rfl)
  obtain ⟨n1, rfl⟩ := okWide_int uq5 (hval 1 5 v1 rfl rfl)
  obtain ⟨n2, rfl⟩ := okWide_int uq5 (hval 2 5 v2 rfl rfl)
  obtain ⟨n3, rfl⟩ := okWide_int uq5 (hval 3 5 v3 rfl rfl)
  obtain ⟨fuel0, hf0⟩ := h0
  obtain ⟨fuel1, hf1⟩ := h1
  obtain ⟨fuel2, hf2⟩ := h2
  obtain ⟨fuel3, hf3⟩ := h3
  obtain ⟨L, hrel⟩ := in_ints hf0
  obtain ⟨b1, hb1, e1⟩ := in_u8 hf1
  obtain ⟨b2, hb2, e2⟩ := in_u8 hf2
  obtain ⟨b3, hb3, e3⟩ := in_u8 hf3
  cases e1
  cases e2
  cases e3
  clear hA0 hval0
  refine (law_below (cOLaw h9 L b1 b2 b3 hb1 hb2 hb3) (vs := #[.slice sa sl sc, .int .u8 (b1 : Int), .int .u8 (b2 : Int), .int .u8 (b3 : Int)]) ⟨rfl, fun i x v hx hv => ?_⟩).mono fun e' W' ⟨he, bel⟩ => ?_
  · match i, hx, hv with
    | 0, hx, hv => cases hx; cases hv; exact hrel
    | 1, hx, hv => cases hx; cases hv; exact .pur _ _ (.int _ _)
    | 2, hx, hv => cases hx; cases hv; exact .pur _ _ (.int _ _)
    | 3, hx, hv => cases hx; cases hv; exact .pur _ _ (.int _ _)
    | i + 4, hx, hv => cases hx
  subst he
  exact ⟨_, rfl, _, _, _, [], _, [], hW', trodAll_mk1 (shut_bool uq4 _), (trodAll_cons_mk (Below.trod laidOut (by kernel_rfl) (of_decide_eq_true (by kernel_rfl)) k0 bel lt0) (trodAll_cons_mk (Below.trod laidOut (by kernel_rfl) (of_decide_eq_true (by kernel_rfl)) k1 bel lt1) (trodAll_cons_mk (Below.trod laidOut (by kernel_rfl) (of_decide_eq_true (by kernel_rfl)) k2 bel lt2) (trodAll_cons_mk (Below.trod laidOut (by kernel_rfl) (of_decide_eq_true (by kernel_rfl)) k3 bel lt3) trodAll_mk0)))), rfl, bel.frame _, fun h => by cases h⟩
set_option maxRecDepth 100000 in
theorem over5 (h9 : FC Tryz.prog 9 [] [] (.bool true) []) : Rows.treeOrderRow.holds Tryz.pinned (OpenSpec.ofChange Rows.treeOrderSpec) :=
  OpenClaim.holds_of_wide 5 Tryz.f5 rfl rfl rfl rfl rfl rfl rfl ⟨rfl, rfl, rfl, rfl, rfl⟩ rfl rfl rfl rfl rfl (by kernel_rfl) Tryz.func5 (by kernel_rfl)
    (of_decide_eq_true (by kernel_rfl)) (by unfold Func.isWrapper; first | (rw [if_pos (by decide +kernel)]; kernel_rfl) | (rw [if_neg (by decide +kernel)]; exact ⟨rfl, rfl⟩))
    (fun os started H enc _ => lifted5 h9 os started H enc)
end TR


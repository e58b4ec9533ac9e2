/- The tree walked: part d. -/
import Derived.Test.YtmhkanhgmfolhaaGreatTc
/- Schemes that are drawn. -/
open Go Go.Proofs Go.AH
set_option linter.unusedSimpArgs false
set_option linter.unusedVariables false
namespace TR
/-- What is drawn before the cuts. -/
structure Pre where
  k : Int
  b : Int
  g : Int
  pcs : Int
  at0 : Int
  step : Int
  cnt : Int
  a : Nat
def pre1 (L : List Int) (a : Nat) (len : Int) : Nat := da L (mkA L a) (min len 4)
def preS (L : List Int) (a : Nat) (len : Int) : Pre :=
  if mkK L a = 3 then
    (fun (q : Nat) => ⟨mkK L a, mkB L a, mkG L a, 1 + dv L (mkA L a) (min len 4), -60 + dv L q 20, 5 + dv L (da L q 20) 12, dv L (da L (da L q 20) 12) 16, da L (da L (da L q 20) 12) 16⟩) (da L (da L (pre1 L a len) 10) 4)
  else (fun (q : Nat) => ⟨mkK L a, mkB L a, mkG L a, 1 + dv L (mkA L a) (min len 4), -6 - dv L (pre1 L a len) 10, 1 + dv L (da L (pre1 L a len) 10) 4, dv L q 16, da L q 16⟩) (da L (da L (pre1 L a len) 10) 4)
structure PreOK (p : Pre) (len : Int) : Prop where
  m : mOK p.k p.b p.g
  p1 : 1 ≤ p.pcs
  p2 : p.pcs ≤ 4
  p3 : p.pcs ≤ len
  a1 : -60 ≤ p.at0
  a2 : p.at0 ≤ -6
  s1 : 1 ≤ p.step
  s2 : p.step ≤ 16
  c1 : 0 ≤ p.cnt
  c2 : p.cnt ≤ 15
  ha : p.a ≤ 1000
theorem pre_ok (L : List Int) (a : Nat) (len : Int) (h : 2 ≤ len) (hL : L.length ≤ 1000) (ha : a ≤ 1000) : PreOK (preS L a len) len := by
  have m := mk_ok L a
  have b1 := dv_lt L (mkA L a) (n := min len 4) (by omega)
  have q1 : pre1 L a len ≤ 1000 := da_le _ _ _ (mkA_le L a ha hL) hL
  unfold preS
  split
  · have q2 := da_le L _ 4 (da_le L _ 10 q1 hL) hL
    generalize da L (da L (pre1 L a len) 10) 4 = q at *
    have b2 := dv_lt L q (n := 20) (by decide)
    have b3 := dv_lt L (da L q 20) (n := 12) (by decide)
    have b4 := dv_lt L (da L (da L q 20) 12) (n := 16) (by decide)
    exact ⟨m, by simp only; omega, by simp only; omega, by simp only; omega, by simp only; omega, by simp only; omega, by simp only; omega, by simp only; omega, by simp only; omega, by simp only; omega, da_le _ _ _ (da_le _ _ _ (da_le _ _ _ q2 hL) hL) hL⟩
  · have b2 := dv_lt L (pre1 L a len) (n := 10) (by decide)
    have b3 := dv_lt L (da L (pre1 L a len) 10) (n := 4) (by decide)
    have q2 := da_le L _ 4 (da_le L _ 10 q1 hL) hL
    generalize da L (da L (pre1 L a len) 10) 4 = q at *
    have b4 := dv_lt L q (n := 16) (by decide)
    exact ⟨m, by simp only; omega, by simp only; omega, by simp only; omega, by simp only; omega, by simp only; omega, by simp only; omega, by simp only; omega, by simp only; omega, by simp only; omega, da_le _ _ _ q2 hL⟩
/-- The places in the deck, and the cuts. -/
def posC (L : List Int) (st : Int) (a : Nat) : Nat → Nat
  | 0 => a
  | j + 1 => da L (posC L st a j) (2 * st)
def cutC (L : List Int) (st : Int) (a : Nat) (t : Int) : Nat → Int
  | 0 => t
  | j + 1 => cutC L st a t j + 1 + dv L (posC L st a j) (2 * st)
theorem posC_le (L : List Int) (st : Int) (a : Nat) (h : a ≤ 1000) (hL : L.length ≤ 1000) : ∀ j, posC L st a j ≤ 1000
  | 0 => h
  | j + 1 => da_le _ _ _ (posC_le L st a h hL j) hL
theorem cutC_bnd (L : List Int) (st : Int) (a : Nat) (t : Int) (h1 : 1 ≤ st) (h2 : st ≤ 16) : ∀ j, t ≤ cutC L st a t j ∧ cutC L st a t j ≤ t + 32 * j
  | 0 => by simp [cutC]
  | j + 1 => by
    have := cutC_bnd L st a t h1 h2 j
    have := dv_lt L (posC L st a j) (n := 2 * st) (by omega)
    simp only [cutC]
    omega
def scOf (L : List Int) (p : Pre) (len : Int) : Sc := ⟨p.k, p.b, p.g, len, p.pcs, rangeF (cutC L p.step p.a p.at0) p.cnt.toNat⟩
theorem scOf_ok {L : List Int} {p : Pre} {len : Int} (h : PreOK p len) (h2 : 2 ≤ len) (h3 : len ≤ 32) : (scOf L p len).ok := by
  obtain ⟨m, p1, p2, p3, a1, a2, s1, s2, c1, c2, ha⟩ := h
  refine ⟨⟨m, h2, h3, p1, by show p.pcs ≤ 8; omega, p3, by simp only [scOf, rangeF_len]; omega⟩, fun i hi => ?_⟩
  simp only [scOf, rangeF_len] at hi
  unfold cutOK
  simp only [scOf]
  rw [rangeF_get _ hi]
  have := cutC_bnd L p.step p.a p.at0 s1 s2 i
  refine ⟨by omega, by omega, fun h0 => ?_⟩
  rw [rangeF_get _ (by omega)]
  obtain ⟨j, rfl⟩ : ∃ j, i = j + 1 := ⟨i - 1, by omega⟩
  have := dv_lt L (posC L p.step p.a j) (n := 2 * p.step) (by omega)
  simp only [cutC, Nat.add_sub_cancel]
  omega
def stSc (L : List Int) (p : Pre) (len : Int) : Nat → St
  | 0 => ⟨54, [(8, .int .i64 p.cnt), (6, .int .i64 p.at0), (7, .int .i64 p.step), (5, .ptr 26 1 0 0), (4, .ptr 1 1 0 0), (0, .ptr 0 1 0 0)], [some [[V L, .int .i64 p.a]], some [[.int .i64 0, .int .i64 0, .int .i64 0, .int .i64 0, .int .i64 0, .zs]], none, none, none, none, none, none, none, none, none, none, none, none, none, none, none, none, none, none, none, none, none, none, none, none, some [[.int .i64 p.k, .int .i64 p.b, .int .i64 p.g, .int .i64 len, .int .i64 p.pcs, .zs]]]⟩
  | j + 1 => ⟨54, [(8, .int .i64 (p.cnt - ((j + 1 : Nat) : Int))), (6, .int .i64 (cutC L p.step p.a p.at0 (j + 1))), (7, .int .i64 p.step), (5, .ptr 26 1 0 0), (4, .ptr 1 1 0 0), (0, .ptr 0 1 0 0)], [some [[V L, .int .i64 (posC L p.step p.a (j + 1))]], some [[.int .i64 0, .int .i64 0, .int .i64 0, .int .i64 0, .int .i64 0, .zs]], none, none, none, none, none, none, none, none, none, none, none, none, none, none, none, none, none, none, none, none, none, none, none, none, some [[.int .i64 p.k, .int .i64 p.b, .int .i64 p.g, .int .i64 len, .int .i64 p.pcs, .rs 1 28 0 (j + 1) (j + 1)]], none, some (ints (rangeF (cutC L p.step p.a p.at0) (j + 1)))]⟩
set_option maxHeartbeats 4000000 in
set_option maxRecDepth 20000 in
theorem cSch (L : List Int) (a : Nat) (len : Int) (h2 : 2 ≤ len) (h32 : len ≤ 32) (hL : L.length ≤ 1000) (ha : a ≤ 1000) (p : Pre) (hpe : preS L a len = p) : FC Tryz.prog 11 [.ptr 0 1 0 0, .int .i64 len] [[[V L, .int .i64 a]]] (.agg (scOf L p len).row) [[[V L, .int .i64 (posC L p.step p.a p.cnt.toNat)]]] := by
  have hp := pre_ok L a len h2 hL ha
  rw [hpe] at hp
  have b1 := dv_lt L (mkA L a) (n := min len 4) (by omega)
  have hm : (if 4 < len then 4 else len) = min len 4 := by omega
  have hn : min len 4 < 1000000 := by omega
  have hmk := mkA_le L a ha hL
  have w1 : IntKind.i64.wrap (1 + dv L (mkA L a) (min len 4)) = 1 + dv L (mkA L a) (min len 4) := by rw [wrapS] <;> omega
  have hp1 : da L (mkA L a) (min len 4) = pre1 L a len := rfl
  have hq1 : pre1 L a len ≤ 1000 := da_le _ _ _ hmk hL
  clear b1
  by_cases h3 : mkK L a = 3
  · have hpx : p = ⟨mkK L a, mkB L a, mkG L a, 1 + dv L (mkA L a) (min len 4), -60 + dv L (da L (da L (pre1 L a len) 10) 4) 20, 5 + dv L (da L (da L (da L (pre1 L a len) 10) 4) 20) 12, dv L (da L (da L (da L (da L (pre1 L a len) 10) 4) 20) 12) 16, da L (da L (da L (da L (da L (pre1 L a len) 10) 4) 20) 12) 16⟩ := by rw [← hpe]; unfold preS; rw [if_pos h3]
    have q1 : p.k = mkK L a := by rw [hpx]
    have q2 : p.b = mkB L a := by rw [hpx]
    have q3 : p.g = mkG L a := by rw [hpx]
    have q4 : p.pcs = 1 + dv L (mkA L a) (min len 4) := by rw [hpx]
    have q5 : p.at0 = -60 + dv L (da L (da L (pre1 L a len) 10) 4) 20 := by rw [hpx]
    have q6 : p.step = 5 + dv L (da L (da L (da L (pre1 L a len) 10) 4) 20) 12 := by rw [hpx]
    have q7 : p.cnt = dv L (da L (da L (da L (da L (pre1 L a len) 10) 4) 20) 12) 16 := by rw [hpx]
    have q8 : p.a = da L (da L (da L (da L (da L (pre1 L a len) 10) 4) 20) 12) 16 := by rw [hpx]
    have c2 := dv_lt L (da L (da L (pre1 L a len) 10) 4) (n := 20) (by decide)
    have c3 := dv_lt L (da L (da L (da L (pre1 L a len) 10) 4) 20) (n := 12) (by decide)
    have u1 : IntKind.i64.wrap (-60 + dv L (da L (da L (pre1 L a len) 10) 4) 20) = -60 + dv L (da L (da L (pre1 L a len) 10) 4) 20 := by rw [wrapS] <;> omega
    have u2 : IntKind.i64.wrap (5 + dv L (da L (da L (da L (pre1 L a len) 10) 4) 20) 12) = 5 + dv L (da L (da L (da L (pre1 L a len) 10) 4) 20) 12 := by rw [wrapS] <;> omega
    have u3 := w1
    clear hpx hpe c2 c3
    refine FC.of_run mix Tryz.func11 rfl rfl (by simp [Tryz.ntmps11]) ?_
    repeat' first
      | simp (maxSteps := 1000000) only [go_sem, Int.reduceLT, Int.reduceLE, Int.reduceToNat, Int.reduceEq, Nat.reduceMul, ↓reduceIte, Nat.reduceLT, Nat.reduceLeDiff, Nat.reduceEqDiff, Nat.reduceAdd, Nat.reduceSub, Nat.reduceBEq, reduceCtorEq, *]
      | contradiction
      | refine wT ?_ ?_ <;> intro _
      | refine wF ?_ ?_ <;> intro _
      | refine cD ?_ ?_ <;> intro _
      | refine dO (by kernel_rfl) ?_
      | refine (kNext rfl) ?_
      | refine (kMeas rfl) ?_
      | refine Fin.q ?_ ?_
      | refine Fin.qn ?_ ?_
    refine AW.loopx (σ := Nat) mix (stSc L p len) (fun j => (j : Int) ≤ p.cnt) (fun j => p.cnt.toNat - j) 0 hp.c1 (Conv.mk ?_ ?_ ?_ ?_ ?_) ?_
    iterate 5 (· simp (maxSteps := 1000000) only [go_sem, Int.reduceLT, Int.reduceLE, Int.reduceToNat, Int.reduceEq, Nat.reduceMul, ↓reduceIte, Nat.reduceLT, Nat.reduceLeDiff, Nat.reduceEqDiff, Nat.reduceAdd, Nat.reduceSub, Nat.reduceBEq, reduceCtorEq, stSc, q1, q2, q3, q4, q5, q6, q7, q8, u1, u2, u3, h3])
    clear q1 q2 q3 q4 q5 q6 q7 q8 u1 u2 u3
    intro j hj
    obtain ⟨_, _, _, _, a1, a2, s1, s2, c1, c2, hpa⟩ := hp
    have hC : j + 1 ≤ capMax := by unfold capMax; omega
    have hC2 : j + 1 + 1 ≤ capMax := by unfold capMax; omega
    have hpos := posC_le L p.step p.a hpa hL j
    have hb := cutC_bnd L p.step p.a p.at0 s1 s2 j
    have hd := dv_lt L (posC L p.step p.a j) (n := 2 * p.step) (by omega)
    have ws : IntKind.i64.wrap (2 * p.step) = 2 * p.step := by rw [wrapS] <;> omega
    have wc1 : IntKind.i64.wrap (cutC L p.step p.a p.at0 j + 1) = cutC L p.step p.a p.at0 j + 1 := by rw [wrapS] <;> omega
    have wc2 : IntKind.i64.wrap (cutC L p.step p.a p.at0 j + 1 + dv L (posC L p.step p.a j) (2 * p.step)) = cutC L p.step p.a p.at0 (j + 1) := by rw [wrapS] <;> (try simp only [cutC]) <;> omega
    have hn2 : 2 * p.step < 1000000 := by omega
    have hpp : da L (posC L p.step p.a j) (2 * p.step) = posC L p.step p.a (j + 1) := rfl
    rcases j with _ | j
    · have z1 : cutC L p.step p.a p.at0 0 = p.at0 := rfl
      have z2 : posC L p.step p.a 0 = p.a := rfl
      rw [z1] at wc1 wc2
      rw [z2] at wc2 hpp hpos
      have zf : [[D.int .i64 p.at0]] = ints (rangeF (cutC L p.step p.a p.at0) 1) := rfl
      by_cases h : 0 < p.cnt
      · have hw : IntKind.i64.wrap (p.cnt - 1) = p.cnt - ((0 + 1 : Nat) : Int) := by rw [wrapS] <;> omega
        clear hb hd z1 z2
        simp only [stSc]
        repeat' first
          | simp (maxSteps := 1000000) only [go_sem, Int.reduceLT, Int.reduceLE, Int.reduceToNat, Int.reduceEq, Nat.reduceMul, ↓reduceIte, Nat.reduceLT, Nat.reduceLeDiff, Nat.reduceEqDiff, Nat.reduceAdd, Nat.reduceSub, Nat.reduceBEq, reduceCtorEq, *, stSc, Nat.zero_add, List.length_singleton, List.isEmpty_cons, List.length_cons, List.length_nil]
          | contradiction
          | refine wT ?_ ?_ <;> intro _
          | refine wF ?_ ?_ <;> intro _
          | refine cD ?_ ?_ <;> intro _
          | refine dO (by kernel_rfl) ?_
          | refine (kNext rfl) ?_
          | (refine ⟨1, ?_, ?_, Conv.mk ?_ ?_ ?_ ?_ ?_⟩; (· (first | omega | (simp only; omega) | (simp only [List.length_nil, List.length_cons]; omega))); (· (omega)))
          | refine Fin.q ?_ ?_
          | refine Fin.qn ?_ ?_
      · have hz : p.cnt = 0 := by omega
        have e1 : scOf L p len = ⟨p.k, p.b, p.g, len, p.pcs, []⟩ := by unfold scOf; rw [hz]; rfl
        have e2 : posC L p.step p.a p.cnt.toNat = p.a := by rw [hz]; rfl
        rw [e1, e2]
        clear hb hd z1 z2 e1 e2
        simp only [stSc]
        repeat' first
          | simp (maxSteps := 1000000) only [go_sem, Int.reduceLT, Int.reduceLE, Int.reduceToNat, Int.reduceEq, Nat.reduceMul, ↓reduceIte, Nat.reduceLT, Nat.reduceLeDiff, Nat.reduceEqDiff, Nat.reduceAdd, Nat.reduceSub, Nat.reduceBEq, reduceCtorEq, *]
          | contradiction
          | refine wT ?_ ?_ <;> intro _
          | refine wF ?_ ?_ <;> intro _
          | refine cD ?_ ?_ <;> intro _
          | refine dO (by kernel_rfl) ?_
          | ((first | refine Fin.q ?_ ?_ | refine Fin.qn ?_ ?_) <;> ((try simp (maxSteps := 1000000) only [go_sem, Int.reduceLT, Int.reduceLE, Int.reduceToNat, Int.reduceEq, Nat.reduceMul, ↓reduceIte, Nat.reduceLT, Nat.reduceLeDiff, Nat.reduceEqDiff, Nat.reduceAdd, Nat.reduceSub, Nat.reduceBEq, reduceCtorEq, *]) <;> (first | done | rfl)))
    · by_cases h : ((j + 1 : Nat) : Int) < p.cnt
      · have hw : IntKind.i64.wrap (p.cnt - ((j + 1 : Nat) : Int) - 1) = p.cnt - ((j + 1 + 1 : Nat) : Int) := by rw [wrapS] <;> omega
        have hlt : (0 < p.cnt - ((j + 1 : Nat) : Int)) = True := by simp only [eq_iff_iff, iff_true]; omega
        clear hb hd
        simp only [stSc]
        repeat' first
          | simp (maxSteps := 1000000) only [go_sem, Int.reduceLT, Int.reduceLE, Int.reduceToNat, Int.reduceEq, Nat.reduceMul, ↓reduceIte, Nat.reduceLT, Nat.reduceLeDiff, Nat.reduceEqDiff, Nat.reduceAdd, Nat.reduceSub, Nat.reduceBEq, reduceCtorEq, *, stSc, snocF, rangeF_len, takeF, no_succ_le, Nat.zero_add, List.isEmpty_cons, List.length_cons, List.length_nil, List.drop_zero, eq_self]
          | contradiction
          | refine wT ?_ ?_ <;> intro _
          | refine wF ?_ ?_ <;> intro _
          | refine cD ?_ ?_ <;> intro _
          | refine dO (by kernel_rfl) ?_
          | refine (kNext rfl) ?_
          | (refine ⟨j + 1 + 1, ?_, ?_, Conv.mk ?_ ?_ ?_ ?_ ?_⟩; (· (first | omega | (simp only; omega) | (simp only [List.length_nil, List.length_cons]; omega))); (· (omega)))
          | refine Fin.q ?_ ?_
          | refine Fin.qn ?_ ?_
      · have hz : p.cnt.toNat = j + 1 := by omega
        have hlt : (0 < p.cnt - ((j + 1 : Nat) : Int)) = False := by simp only [eq_iff_iff, iff_false]; omega
        have e1 : scOf L p len = ⟨p.k, p.b, p.g, len, p.pcs, rangeF (cutC L p.step p.a p.at0) (j + 1)⟩ := by unfold scOf; rw [hz]
        rw [e1, hz]
        clear hb hd e1 hz
        simp only [stSc]
        repeat' first
          | simp (maxSteps := 1000000) only [go_sem, Int.reduceLT, Int.reduceLE, Int.reduceToNat, Int.reduceEq, Nat.reduceMul, ↓reduceIte, Nat.reduceLT, Nat.reduceLeDiff, Nat.reduceEqDiff, Nat.reduceAdd, Nat.reduceSub, Nat.reduceBEq, reduceCtorEq, *, rangeF_len, takeF, List.drop_zero, Nat.zero_add, eq_self, no_succ_le, Nat.lt_irrefl]
          | contradiction
          | refine wT ?_ ?_ <;> intro _
          | refine wF ?_ ?_ <;> intro _
          | refine cD ?_ ?_ <;> intro _
          | refine dO (by kernel_rfl) ?_
          | refine Fin.q ?_ ?_
          | refine Fin.qn ?_ ?_
  · have hpx : p = ⟨mkK L a, mkB L a, mkG L a, 1 + dv L (mkA L a) (min len 4), -6 - dv L (pre1 L a len) 10, 1 + dv L (da L (pre1 L a len) 10) 4, dv L (da L (da L (pre1 L a len) 10) 4) 16, da L (da L (da L (pre1 L a len) 10) 4) 16⟩ := by rw [← hpe]; unfold preS; rw [if_neg h3]
    have q1 : p.k = mkK L a := by rw [hpx]
    have q2 : p.b = mkB L a := by rw [hpx]
    have q3 : p.g = mkG L a := by rw [hpx]
    have q4 : p.pcs = 1 + dv L (mkA L a) (min len 4) := by rw [hpx]
    have q5 : p.at0 = -6 - dv L (pre1 L a len) 10 := by rw [hpx]
    have q6 : p.step = 1 + dv L (da L (pre1 L a len) 10) 4 := by rw [hpx]
    have q7 : p.cnt = dv L (da L (da L (pre1 L a len) 10) 4) 16 := by rw [hpx]
    have q8 : p.a = da L (da L (da L (pre1 L a len) 10) 4) 16 := by rw [hpx]
    have c2 := dv_lt L (pre1 L a len) (n := 10) (by decide)
    have c3 := dv_lt L (da L (pre1 L a len) 10) (n := 4) (by decide)
    have u1 : IntKind.i64.wrap (-6 - dv L (pre1 L a len) 10) = -6 - dv L (pre1 L a len) 10 := by rw [wrapS] <;> omega
    have u2 : IntKind.i64.wrap (1 + dv L (da L (pre1 L a len) 10) 4) = 1 + dv L (da L (pre1 L a len) 10) 4 := by rw [wrapS] <;> omega
    have u3 := w1
    clear hpx hpe c2 c3
    refine FC.of_run mix Tryz.func11 rfl rfl (by simp [Tryz.ntmps11]) ?_
    repeat' first
      | simp (maxSteps := 1000000) only [go_sem, Int.reduceLT, Int.reduceLE, Int.reduceToNat, Int.reduceEq, Nat.reduceMul, ↓reduceIte, Nat.reduceLT, Nat.reduceLeDiff, Nat.reduceEqDiff, Nat.reduceAdd, Nat.reduceSub, Nat.reduceBEq, reduceCtorEq, *]
      | contradiction
      | refine wT ?_ ?_ <;> intro _
      | refine wF ?_ ?_ <;> intro _
      | refine cD ?_ ?_ <;> intro _
      | refine dO (by kernel_rfl) ?_
      | refine (kNext rfl) ?_
      | refine (kMeas rfl) ?_
      | refine Fin.q ?_ ?_
      | refine Fin.qn ?_ ?_
    refine AW.loopx (σ := Nat) mix (stSc L p len) (fun j => (j : Int) ≤ p.cnt) (fun j => p.cnt.toNat - j) 0 hp.c1 (Conv.mk ?_ ?_ ?_ ?_ ?_) ?_
    iterate 5 (· simp (maxSteps := 1000000) only [go_sem, Int.reduceLT, Int.reduceLE, Int.reduceToNat, Int.reduceEq, Nat.reduceMul, ↓reduceIte, Nat.reduceLT, Nat.reduceLeDiff, Nat.reduceEqDiff, Nat.reduceAdd, Nat.reduceSub, Nat.reduceBEq, reduceCtorEq, stSc, q1, q2, q3, q4, q5, q6, q7, q8, u1, u2, u3])
    clear q1 q2 q3 q4 q5 q6 q7 q8 u1 u2 u3
    intro j hj
    obtain ⟨_, _, _, _, a1, a2, s1, s2, c1, c2, hpa⟩ := hp
    have hC : j + 1 ≤ capMax := by unfold capMax; omega
    have hC2 : j + 1 + 1 ≤ capMax := by unfold capMax; omega
    have hpos := posC_le L p.step p.a hpa hL j
    have hb := cutC_bnd L p.step p.a p.at0 s1 s2 j
    have hd := dv_lt L (posC L p.step p.a j) (n := 2 * p.step) (by omega)
    have ws : IntKind.i64.wrap (2 * p.step) = 2 * p.step := by rw [wrapS] <;> omega
    have wc1 : IntKind.i64.wrap (cutC L p.step p.a p.at0 j + 1) = cutC L p.step p.a p.at0 j + 1 := by rw [wrapS] <;> omega
    have wc2 : IntKind.i64.wrap (cutC L p.step p.a p.at0 j + 1 + dv L (posC L p.step p.a j) (2 * p.step)) = cutC L p.step p.a p.at0 (j + 1) := by rw [wrapS] <;> (try simp only [cutC]) <;> omega
    have hn2 : 2 * p.step < 1000000 := by omega
    have hpp : da L (posC L p.step p.a j) (2 * p.step) = posC L p.step p.a (j + 1) := rfl
    rcases j with _ | j
    · have z1 : cutC L p.step p.a p.at0 0 = p.at0 := rfl
      have z2 : posC L p.step p.a 0 = p.a := rfl
      rw [z1] at wc1 wc2
      rw [z2] at wc2 hpp hpos
      have zf : [[D.int .i64 p.at0]] = ints (rangeF (cutC L p.step p.a p.at0) 1) := rfl
      by_cases h : 0 < p.cnt
      · have hw : IntKind.i64.wrap (p.cnt - 1) = p.cnt - ((0 + 1 : Nat) : Int) := by rw [wrapS] <;> omega
        clear hb hd z1 z2
        simp only [stSc]
        repeat' first
          | simp (maxSteps := 1000000) only [go_sem, Int.reduceLT, Int.reduceLE, Int.reduceToNat, Int.reduceEq, Nat.reduceMul, ↓reduceIte, Nat.reduceLT, Nat.reduceLeDiff, Nat.reduceEqDiff, Nat.reduceAdd, Nat.reduceSub, Nat.reduceBEq, reduceCtorEq, *, stSc, Nat.zero_add, List.length_singleton, List.isEmpty_cons, List.length_cons, List.length_nil]
          | contradiction
          | refine wT ?_ ?_ <;> intro _
          | refine wF ?_ ?_ <;> intro _
          | refine cD ?_ ?_ <;> intro _
          | refine dO (by kernel_rfl) ?_
          | refine (kNext rfl) ?_
          | (refine ⟨1, ?_, ?_, Conv.mk ?_ ?_ ?_ ?_ ?_⟩; (· (first | omega | (simp only; omega) | (simp only [List.length_nil, List.length_cons]; omega))); (· (omega)))
          | refine Fin.q ?_ ?_
          | refine Fin.qn ?_ ?_
      · have hz : p.cnt = 0 := by omega
        have e1 : scOf L p len = ⟨p.k, p.b, p.g, len, p.pcs, []⟩ := by unfold scOf; rw [hz]; rfl
        have e2 : posC L p.step p.a p.cnt.toNat = p.a := by rw [hz]; rfl
        rw [e1, e2]
        clear hb hd z1 z2 e1 e2
        simp only [stSc]
        repeat' first
          | simp (maxSteps := 1000000) only [go_sem, Int.reduceLT, Int.reduceLE, Int.reduceToNat, Int.reduceEq, Nat.reduceMul, ↓reduceIte, Nat.reduceLT, Nat.reduceLeDiff, Nat.reduceEqDiff, Nat.reduceAdd, Nat.reduceSub, Nat.reduceBEq, reduceCtorEq, *]
          | contradiction
          | refine wT ?_ ?_ <;> intro _
          | refine wF ?_ ?_ <;> intro _
          | refine cD ?_ ?_ <;> intro _
          | refine dO (by kernel_rfl) ?_
          | ((first | refine Fin.q ?_ ?_ | refine Fin.qn ?_ ?_) <;> ((try simp (maxSteps := 1000000) only [go_sem, Int.reduceLT, Int.reduceLE, Int.reduceToNat, Int.reduceEq, Nat.reduceMul, ↓reduceIte, Nat.reduceLT, Nat.reduceLeDiff, Nat.reduceEqDiff, Nat.reduceAdd, Nat.reduceSub, Nat.reduceBEq, reduceCtorEq, *]) <;> (first | done | rfl)))
    · by_cases h : ((j + 1 : Nat) : Int) < p.cnt
      · have hw : IntKind.i64.wrap (p.cnt - ((j + 1 : Nat) : Int) - 1) = p.cnt - ((j + 1 + 1 : Nat) : Int) := by rw [wrapS] <;> omega
        have hlt : (0 < p.cnt - ((j + 1 : Nat) : Int)) = True := by simp only [eq_iff_iff, iff_true]; omega
        clear hb hd
        simp only [stSc]
        repeat' first
          | simp (maxSteps := 1000000) only [go_sem, Int.reduceLT, Int.reduceLE, Int.reduceToNat, Int.reduceEq, Nat.reduceMul, ↓reduceIte, Nat.reduceLT, Nat.reduceLeDiff, Nat.reduceEqDiff, Nat.reduceAdd, Nat.reduceSub, Nat.reduceBEq, reduceCtorEq, *, stSc, snocF, rangeF_len, takeF, no_succ_le, Nat.zero_add, List.isEmpty_cons, List.length_cons, List.length_nil, List.drop_zero, eq_self]
          | contradiction
          | refine wT ?_ ?_ <;> intro _
          | refine wF ?_ ?_ <;> intro _
          | refine cD ?_ ?_ <;> intro _
          | refine dO (by kernel_rfl) ?_
          | refine (kNext rfl) ?_
          | (refine ⟨j + 1 + 1, ?_, ?_, Conv.mk ?_ ?_ ?_ ?_ ?_⟩; (· (first | omega | (simp only; omega) | (simp only [List.length_nil, List.length_cons]; omega))); (· (omega)))
          | refine Fin.q ?_ ?_
          | refine Fin.qn ?_ ?_
      · have hz : p.cnt.toNat = j + 1 := by omega
        have hlt : (0 < p.cnt - ((j + 1 : Nat) : Int)) = False := by simp only [eq_iff_iff, iff_false]; omega
        have e1 : scOf L p len = ⟨p.k, p.b, p.g, len, p.pcs, rangeF (cutC L p.step p.a p.at0) (j + 1)⟩ := by unfold scOf; rw [hz]
        rw [e1, hz]
        clear hb hd e1 hz
        simp only [stSc]
        repeat' first
          | simp (maxSteps := 1000000) only [go_sem, Int.reduceLT, Int.reduceLE, Int.reduceToNat, Int.reduceEq, Nat.reduceMul, ↓reduceIte, Nat.reduceLT, Nat.reduceLeDiff, Nat.reduceEqDiff, Nat.reduceAdd, Nat.reduceSub, Nat.reduceBEq, reduceCtorEq, *, rangeF_len, takeF, List.drop_zero, Nat.zero_add, eq_self, no_succ_le, Nat.lt_irrefl]
          | contradiction
          | refine wT ?_ ?_ <;> intro _
          | refine wF ?_ ?_ <;> intro _
          | refine cD ?_ ?_ <;> intro _
          | refine dO (by kernel_rfl) ?_
          | refine Fin.q ?_ ?_
          | refine Fin.qn ?_ ?_
theorem kSch {L : List Int} {a q : Nat} {len : Int} {H : Heap} (hH : hget H q = some [[V L, .int .i64 a]]) {slot : Nat} {K : D → List (Nat × Blk) → List (Nat × Blk) → Prop} (p : Pre) (hpe : preS L a len = p) (hK : K (.agg (scOf L p len).row) [(q, [[V L, .int .i64 (posC L p.step p.a p.cnt.toNat)]])] [(q, [[V L, .int .i64 a]]), (q, [[V L, .int .i64 a]])]) (hL : L.length ≤ 1000 := by assumption) (ha : a ≤ 1000 := by first | assumption | (repeat' first | assumption | apply da_le)) (h2 : 2 ≤ len := by first | assumption | omega) (h32 : len ≤ 32 := by first | assumption | omega) : @callB ⟨callX Tryz.prog⟩ 11 [.ptr q 1 0 0, .int .i64 len] H slot ⟨K⟩ := by
  have e : rdOf H ([q] ++ D.idsL [.ptr q 1 0 0, .int .i64 len]) = [(q, [[V L, .int .i64 a]]), (q, [[V L, .int .i64 a]])] := by simp [D.idsL, D.ids, rdOf, hH]
  refine callX2 [q] (cSch L a len h2 h32 hL ha p hpe) (by simp) ?_ ?_ ⟨by simp, by simp⟩ (r' := .agg (scOf L p len).row) (outs' := [[[V L, .int .i64 (posC L p.step p.a p.cnt.toNat)]]]) rfl ?_ ?_
  · simp [trL, tr, pos]
  · rw [e]; simp [insA, AH.look, trB, pureB, D.isPur]
  · simp [backB, trB, pureB, D.isPur, Sc.row, V]
  · rw [e]; exact hK
end TR

/- Entries that are drawn. -/
open Go Go.Proofs Go.AH
set_option linter.unusedSimpArgs false
set_option linter.unusedVariables false
namespace TR
/-- The deck's place after j samples, and after j numbers under m. -/
def sN (L : List Int) (a : Nat) : Nat → Nat
  | 0 => a
  | j + 1 => sa L (sN L a j)
def nN (L : List Int) (m : Int) (a : Nat) : Nat → Nat
  | 0 => a
  | j + 1 => da L (nN L m a j) m
theorem sN_le (L : List Int) (a : Nat) (h : a ≤ 1000) (hL : L.length ≤ 1000) : ∀ j, sN L a j ≤ 1000
  | 0 => h
  | j + 1 => sa_le _ _ (sN_le L a h hL j) hL
theorem nN_le (L : List Int) (m : Int) (a : Nat) (h : a ≤ 1000) (hL : L.length ≤ 1000) : ∀ j, nN L m a j ≤ 1000
  | 0 => h
  | j + 1 => da_le _ _ _ (nN_le L m a h hL j) hL
def smV (L : List Int) (a : Nat) (j : Nat) : Int := sv L (sN L a j)
def noV (L : List Int) (a : Nat) (j : Nat) : Int := dv L (nN L 16 a j) 16
theorem smp_ok (L : List Int) (a m : Nat) (h2 : 2 ≤ m) (h32 : m ≤ 32) : smp (rangeF (smV L a) m) := by
  refine ⟨by rw [rangeF_len]; exact h2, by rw [rangeF_len]; exact h32, fun i hi => ?_⟩
  rw [rangeF_len] at hi
  rw [rangeF_get _ hi]
  exact sv_in _ _
/-- What a round draws. -/
def rdX (L : List Int) (a m : Nat) : List Int := rangeF (smV L a) m
def rdS (L : List Int) (s : Sc) (a m n : Nat) : List Int := if dv L (sN L a m) 6 = 5 then rangeF (noV L (da L (sN L a m) 6)) n else rangeF (symV s (rdX L a m) n) n
def rdA (L : List Int) (a m n : Nat) : Nat := if dv L (sN L a m) 6 = 5 then nN L 16 (da L (sN L a m) 6) n else da L (sN L a m) 6
def rdE (L : List Int) (s : Sc) (a m n : Nat) (t : Int) : En := ⟨⟨rdS L s a m n, rangeF fourV n⟩, dv L (rdA L a m n) 3, t⟩
def enA (L : List Int) (m n : Nat) (a : Nat) : Nat → Nat
  | 0 => a
  | j + 1 => da L (rdA L (enA L m n a j) m n) 3
def enE (L : List Int) (s : Sc) (m n : Nat) (a : Nat) (c : Int) (j : Nat) : En := rdE L s (enA L m n a j) m n (c - (j : Int))
def rangeE (f : Nat → En) (n : Nat) : List En := (List.range n).map f
theorem rangeE_len (f : Nat → En) (n : Nat) : (rangeE f n).length = n := by simp [rangeE]
theorem rangeE_snoc (f : Nat → En) (n : Nat) : rangeE f n ++ [f n] = rangeE f (n + 1) := by simp [rangeE, List.range_succ]
theorem takeE (f : Nat → En) (n : Nat) : (ents (rangeE f n)).take n = ents (rangeE f n) := by
  rw [List.take_of_length_le]; simp [ents, rangeE]
theorem rdA_le (L : List Int) (a m n : Nat) (h : a ≤ 1000) (hL : L.length ≤ 1000) : rdA L a m n ≤ 1000 := by
  unfold rdA
  have h1 := da_le L _ 6 (sN_le L a h hL m) hL
  split
  · exact nN_le _ _ _ h1 hL _
  · exact h1
theorem enA_le (L : List Int) (m n a : Nat) (h : a ≤ 1000) (hL : L.length ≤ 1000) : ∀ j, enA L m n a j ≤ 1000
  | 0 => h
  | j + 1 => da_le _ _ _ (rdA_le _ _ _ _ (enA_le L m n a h hL j) hL) hL
/-- A word whose first j symbols are noise. -/
def mixF (f g : Nat → Int) (j i : Nat) : Int := if i < j then f i else g i
theorem mixF_0 (f g : Nat → Int) : mixF f g 0 = g := by funext i; simp [mixF]
theorem mixF_n (f g : Nat → Int) (n : Nat) : rangeF (mixF f g n) n = rangeF f n := by
  apply List.map_congr_left
  intro i hi
  simp only [List.mem_range] at hi
  simp [mixF, hi]
theorem mixF_set (f g : Nat → Int) {n j : Nat} : (ints (rangeF (mixF f g j) n)).set j [.int .i64 (f j)] = ints (rangeF (mixF f g (j + 1)) n) := by
  rw [set_ints]
  congr 1
  apply List.ext_getElem?
  intro i
  simp only [rangeF, List.getElem?_set, List.length_map, List.length_range, List.getElem?_map]
  split
  · rename_i h
    subst h
    split
    · rename_i h; simp [h, mixF]
    · rename_i h; simp [h]
  · by_cases h : i < n
    · simp only [h, List.getElem?_range, Option.map_some, mixF]
      by_cases h2 : i < j
      · rw [if_pos h2, if_pos (by omega)]
      · rw [if_neg h2, if_neg (by omega)]
    · simp [h]
theorem kSampleD {L : List Int} {a : Nat} {q : Nat} {H : Heap} (hH : hget H q = some [[V L, .int .i64 a]]) {slot : Nat} {K : D → List (Nat × Blk) → List (Nat × Blk) → Prop} (hK : K (.int .i64 (sv L a)) [(q, [[V L, .int .i64 (sa L a)]])] [(q, [[V L, .int .i64 a]]), (q, [[V L, .int .i64 a]])]) (hL : L.length ≤ 1000 := by assumption) (ha : a ≤ 1000 := by first | assumption | (repeat' first | assumption | apply da_le)) : @callB ⟨callX Tryz.prog⟩ 49 [.ptr q 1 0 0] H slot ⟨K⟩ := by
  have e : rdOf H ([q] ++ D.idsL [.ptr q 1 0 0]) = [(q, [[V L, .int .i64 a]]), (q, [[V L, .int .i64 a]])] := by simp [D.idsL, D.ids, rdOf, hH]
  refine callX2 [q] (cSampleD L a hL ha) (by simp) ?_ ?_ ⟨by simp, by simp⟩ (r' := .int .i64 (sv L a)) (outs' := [[[V L, .int .i64 (sa L a)]]]) rfl ?_ ?_
  · simp [trL, tr, pos]
  · rw [e]; simp [insA, AH.look, trB, pureB, D.isPur]
  · simp [backB, trB, pureB, D.isPur]
  · rw [e]; exact hK
theorem callOT {P : Program} {f : FuncId} {vals : List D} {H : Heap} {slot : Nat} {K : D → List (Nat × Blk) → List (Nat × Blk) → Prop} {args' : List D} {r r' : D} {outs outs' : List Blk} (hf : FC P f args' [] r outs) (ha : trL (pos []) true true true (look (rdOf H (D.idsL vals))) vals = some args')
    (hr : tr (fun i => (slotsOf slot)[i]?) false false false (fun _ => none) r = some r') (hb : backB [] slot outs = some outs') (hl : outs.length ≤ 12) (ht : r'.flat = true ∧ ∀ o, o ∈ outs' → flatB o = true) (hK : K r' ((slotsOf slot).zip outs') (rdOf H (D.idsL vals))) : @callB ⟨callX P⟩ f vals H slot ⟨K⟩ :=
  .inl ⟨[], true, true, args', [], r, r', outs, outs', by simp, ha, rfl, hf, by simpa using hl, hr, hb, fun _ => ht, hK⟩
theorem kOfR {s : Sc} {x : List Int} {n m q : Nat} {H : Heap} (hH : hget H q = some (ints x)) (hs : s.ok) (hx : smp x) (hl : isLen s x) (hp : s.pcs = n) (hm : x.length = m) {slot : Nat} {K : D → List (Nat × Blk) → List (Nat × Blk) → Prop} (hK : K (.tup [.agg [.rs 1 slot 0 n n, .rs 1 (slot + 1) 0 n n], .int .i64 0]) [(slot, ints (rangeF (symV s x n) n)), (slot + 1, ints (rangeF fourV n))] [(q, ints x)]) : @callB ⟨callX Tryz.prog⟩ 38 [.agg [.int .i64 s.kind, .int .i64 s.band, .int .i64 s.gap, .int .i64 m, .int .i64 n, V s.cuts], .rs 1 q 0 m m] H slot ⟨K⟩ := by
  have e : rdOf H (D.idsL [.agg [.int .i64 s.kind, .int .i64 s.band, .int .i64 s.gap, .int .i64 m, .int .i64 n, V s.cuts], .rs 1 q 0 m m]) = [(q, ints x)] := by simp [D.idsL, D.ids, rdOf, hH]
  have hl' : s.len = m := by unfold isLen at hl; omega
  refine callOT (cOfR s x n hs hx hl hp) ?_ (r' := .tup [.agg [.rs 1 slot 0 n n, .rs 1 (slot + 1) 0 n n], .int .i64 0]) (outs' := [ints (rangeF (symV s x n) n), ints (rangeF fourV n)]) ?_ ?_ (by simp) ?_ ?_
  · rw [e]
    simp [trL, tr, pos, AH.look, Sc.row, hl', hp, ← hm, pureB, ints_pure, ints_len, take_ints]
  · simp [tr, trL, slotsOf]
  · simp [backB, trB, pureB, ints_pure]
  · simp [D.flat, D.flatL, flatB, ints]
  · rw [e]; simpa [slotsOf] using hK
theorem trRow_snoc (ρ : Nat → Option Nat) (nn : Bool) (get : Nat → Option Blk) (r : List D) (l : List En) : trRow ρ true nn get (ents l ++ [r]) = (match trL ρ true false nn get r with | some x => some (ents l ++ [x]) | none => none) := by
  induction l with
  | nil =>
    simp only [ents, List.map_nil, List.nil_append, trRow]
    cases trL ρ true false nn get r <;> rfl
  | cons e l ih =>
    simp only [ents] at ih
    simp only [ents, List.map_cons, List.cons_append, trRow, ih]
    cases trL ρ true false nn get r <;> simp [En.row, trL, tr]
theorem ents_refs1 (ok : Nat → Bool) (l : List En) (r : List D) : ((ents l ++ [r]).all (D.refsL ok)) = D.refsL ok r := by rw [List.all_append, ents_refs]; simp
theorem ents_pure1 (l : List En) (r : List D) : pureB (ents l ++ [r]) = r.all D.isPur := by unfold pureB; rw [List.all_append, ents_pure]; simp
def stE (L : List Int) (s : Sc) (m n b c : Nat) : Nat → St
  | 0 => ⟨65, [(8, .int .i64 c), (7, .zs), (6, .zs), (4, .ptr 1 1 0 0), (0, .ptr 0 1 0 0)], [some [[V L, .int .i64 b]], some [[.int .i64 s.kind, .int .i64 s.band, .int .i64 s.gap, .int .i64 m, .int .i64 n, V s.cuts]]]⟩
  | j + 1 => ⟨65, [(8, .int .i64 ((c : Int) - ((j + 1 : Nat) : Int))), (7, .rs 4 42 0 (j + 1) (j + 1)), (6, .zs), (4, .ptr 1 1 0 0), (0, .ptr 0 1 0 0)], [some [[V L, .int .i64 (enA L m n b (j + 1))]], some [[.int .i64 s.kind, .int .i64 s.band, .int .i64 s.gap, .int .i64 m, .int .i64 n, V s.cuts]], none, none, none, none, none, none, none, none, none, none, none, none, none, none, none, none, none, none, none, none, none, none, none, none, none, none, none, none, none, none, none, none, none, none, none, none, none, none, none, none, some (ents (rangeE (enE L s m n b c) (j + 1)))]⟩
def stI (L : List Int) (m n : Nat) (s : Sc) (a q : Nat) (t : Int) (t7 : D) (hx hy : Heap) : Nat → St
  | 0 => ⟨65, [(10, .int .i64 0), (9, .zs), (8, .int .i64 t), (7, t7), (6, .zs), (4, .ptr 1 1 0 0), (0, .ptr 0 1 0 0)], some [[V L, .int .i64 a]] :: some [[.int .i64 s.kind, .int .i64 s.band, .int .i64 s.gap, .int .i64 m, .int .i64 n, V s.cuts]] :: hx⟩
  | k + 1 => ⟨65, [(10, .int .i64 ((k + 1 : Nat) : Int)), (9, .rs 1 q 0 (k + 1) (k + 1)), (8, .int .i64 t), (7, t7), (6, .zs), (4, .ptr 1 1 0 0), (0, .ptr 0 1 0 0)], some [[V L, .int .i64 (sN L a (k + 1))]] :: some [[.int .i64 s.kind, .int .i64 s.band, .int .i64 s.gap, .int .i64 m, .int .i64 n, V s.cuts]] :: (hy ++ [some (ints (rangeF (smV L a) (k + 1)))])⟩
def stN (L : List Int) (m n : Nat) (s : Sc) (a q : Nat) (t : Int) (t7 : D) (g : Nat → Int) (hy : Heap) (k : Nat) : St :=
  ⟨65, [(13, .int .i64 (k : Int)), (11, .ptr (q + 13) 1 0 0), (8, .int .i64 t), (7, t7), (6, .zs), (4, .ptr 1 1 0 0), (0, .ptr 0 1 0 0)], some [[V L, .int .i64 (nN L 16 a k)]] :: some [[.int .i64 s.kind, .int .i64 s.band, .int .i64 s.gap, .int .i64 m, .int .i64 n, V s.cuts]] :: (hy ++ [none, some (ints (rangeF (mixF (noV L a) g k) n)), some (ints (rangeF fourV n)), none, none, none, none, none, none, none, none, none, none, some [[.rs 1 (q + 1) 0 n n, .rs 1 (q + 2) 0 n n]]])⟩
def stZ (n : Nat) (s : Sc) (t : Int) (d : Blk) (r1 r2 : D) (x1 x2 : Option Blk) (j : Nat) (hx hz : Heap) (hl : Option Blk) : St := ⟨65, [(8, .int .i64 t), (7, .rs 4 42 0 (j + 1) (j + 1)), (6, .zs), (4, .ptr 1 1 0 0), (0, .ptr 0 1 0 0)], some d :: some [[.int .i64 s.kind, .int .i64 s.band, .int .i64 s.gap, .int .i64 s.len, .int .i64 n, V s.cuts]] :: (hx ++ [x1, x2] ++ hz ++ [hl])⟩
set_option maxHeartbeats 4000000 in
set_option maxRecDepth 20000 in
theorem cEnts (L : List Int) (a : Nat) (s : Sc) (m n c : Nat) (most : Int) (hs : s.ok) (hsl : s.len = m) (hn : s.pcs = n) (hL : L.length ≤ 1000) (ha : a ≤ 1000) (hm : 0 ≤ most) (hm2 : most ≤ 1000) (hc : dv L a (most + 1) = c) : FC Tryz.prog 22 [.ptr 0 1 0 0, .agg s.row, .int .i64 most] [[[V L, .int .i64 a]]] (.vs (ents (rangeE (enE L s m n (da L a (most + 1)) c) c))) [[[V L, .int .i64 (enA L m n (da L a (most + 1)) c)]]] := by
  have m2 : 2 ≤ m := by have := hs.1.2.1; omega
  have m32 : m ≤ 32 := by have := hs.1.2.2.1; omega
  have n1 : 1 ≤ n := by have := hs.1.2.2.2.1; omega
  have n8 : n ≤ 8 := by have := hs.1.2.2.2.2.1; omega
  have hw : IntKind.i64.wrap (most + 1) = most + 1 := by rw [wrapS] <;> omega
  have hp1 : 1 ≤ most + 1 ∧ most + 1 ≤ 1001 := by omega
  have hcl := dv_lt L a (n := most + 1) (by omega)
  rw [hc] at hcl
  have hc9 : c ≤ 1000 := by omega
  have b1 : da L a (most + 1) ≤ 1000 := da_le _ _ _ ha hL
  refine FC.of_run mix Tryz.func22 rfl rfl (by simp [Tryz.ntmps22]) ?_
  repeat' first
    | simp (maxSteps := 1000000) only [go_sem, Int.reduceLT, Int.reduceLE, Int.reduceToNat, Int.reduceEq, Nat.reduceMul, ↓reduceIte, Nat.reduceLT, Nat.reduceLeDiff, Nat.reduceEqDiff, Nat.reduceAdd, Nat.reduceSub, Nat.reduceBEq, reduceCtorEq, *]
    | contradiction
    | refine wT ?_ ?_ <;> intro _
    | refine wF ?_ ?_ <;> intro _
    | refine cD ?_ ?_ <;> intro _
    | refine dO (by kernel_rfl) ?_
    | refine (kNext rfl) ?_
    | refine Fin.q ?_ ?_
    | refine Fin.qn ?_ ?_
  generalize da L a (most + 1) = b at *
  refine AW.loopx (σ := Nat) mix (stE L s m n b c) (fun j => j ≤ c) (fun j => c - j) 0 (Nat.zero_le _) (Conv.mk ?_ ?_ ?_ ?_ ?_) ?_
  iterate 5 (· simp (maxSteps := 1000000) only [go_sem, Int.reduceLT, Int.reduceLE, Int.reduceToNat, Int.reduceEq, Nat.reduceMul, ↓reduceIte, Nat.reduceLT, Nat.reduceLeDiff, Nat.reduceEqDiff, Nat.reduceAdd, Nat.reduceSub, Nat.reduceBEq, reduceCtorEq, stE, enA])
  clear hw hp1 hcl hc hm hm2 ha most
  intro j hj
  have hC : j + 1 ≤ capMax := by unfold capMax; omega
  have a1 := enA_le L m n b b1 hL j

  rcases j with _ | j
  · by_cases h : 0 < c
    · obtain ⟨a, hae⟩ : ∃ a, enA L m n b 0 = a := ⟨_, rfl⟩
      obtain ⟨t, hte⟩ : ∃ t, (c : Int) = t := ⟨_, rfl⟩
      have hA : enA L m n b 1 = da L (rdA L a m n) 3 := by rw [← hae]; rfl
      have hE : ents (rangeE (enE L s m n b c) 1) = [(rdE L s a m n t).row] := by rw [← hae, ← hte]; simp [rangeE, ents, enE]
      have wt : IntKind.i64.wrap (t - 1) = (c : Int) - ((0 + 1 : Nat) : Int) := by rw [wrapS] <;> omega
      have e1 : ((c : Int) > 0) = True := by simp only [eq_iff_iff, iff_true]; omega
      have e2 : (t > 0) = True := by rw [← hte]; exact e1
      rw [hae] at a1
      have hb0 : b = a := hae
      simp only [stE]
      rw [hte, hb0]
      clear e1
      simp only [hb0, hte] at hA hE
      repeat' first
        | simp (maxSteps := 1000000) only [go_sem, Int.reduceLT, Int.reduceLE, Int.reduceToNat, Int.reduceEq, Nat.reduceMul, ↓reduceIte, Nat.reduceLT, Nat.reduceLeDiff, Nat.reduceEqDiff, Nat.reduceAdd, Nat.reduceSub, Nat.reduceBEq, reduceCtorEq, *]
        | contradiction
        | refine wT ?_ ?_ <;> intro _
        | refine wF ?_ ?_ <;> intro _
        | refine cD ?_ ?_ <;> intro _
        | refine dO (by kernel_rfl) ?_
        | refine Fin.q ?_ ?_
        | refine Fin.qn ?_ ?_
      have hx := smp_ok L a m m2 m32
      have hil : isLen s (rangeF (smV L a) m) := by unfold isLen; rw [rangeF_len, hsl]
      refine AW.loopx (σ := Nat) mix (stI L m n s a 15 t .zs [] [none, none, none, none, none, none, none, none, none, none, none, none, none]) (fun k => k ≤ m) (fun k => m - k) 0 (Nat.zero_le _) (Conv.mk ?_ ?_ ?_ ?_ ?_) ?_
      iterate 5 (· simp (maxSteps := 1000000) only [go_sem, Int.reduceLT, Int.reduceLE, Int.reduceToNat, Int.reduceEq, Nat.reduceMul, ↓reduceIte, Nat.reduceLT, Nat.reduceLeDiff, Nat.reduceEqDiff, Nat.reduceAdd, Nat.reduceSub, Nat.reduceBEq, reduceCtorEq, stI, sN])
      intro k hk
      have hCk : k + 1 ≤ capMax := by unfold capMax; omega
      have hsN := sN_le L a a1 hL k
      rcases k with _ | k
      · have z2 : sN L a 0 = a := rfl
        have z3 : [[D.int .i64 (sv L a)]] = ints (rangeF (smV L a) 1) := rfl
        have z4 : sa L a = sN L a 1 := rfl
        have m1 : 0 < m := by omega
        have w01 : IntKind.i64.wrap (0 + 1) = ((0 + 1 : Nat) : Int) := by decide
        clear hE hA wt
        simp only [stI]
        repeat' first
          | simp (maxSteps := 1000000) only [go_sem, Int.reduceLT, Int.reduceLE, Int.reduceToNat, Int.reduceEq, Nat.reduceMul, ↓reduceIte, Nat.reduceLT, Nat.reduceLeDiff, Nat.reduceEqDiff, Nat.reduceAdd, Nat.reduceSub, Nat.reduceBEq, reduceCtorEq, *, stI, Nat.zero_add, List.length_singleton, List.isEmpty_cons, List.length_cons, List.length_nil]
          | contradiction
          | refine wT ?_ ?_ <;> intro _
          | refine wF ?_ ?_ <;> intro _
          | refine cD ?_ ?_ <;> intro _
          | refine dO (by kernel_rfl) ?_
          | refine (kSampleD rfl) ?_
          | (refine ⟨1, ?_, ?_, Conv.mk ?_ ?_ ?_ ?_ ?_⟩; (· (first | omega | (simp only; omega) | (simp only [List.length_nil, List.length_cons]; omega))); (· (omega)))
          | refine Fin.q ?_ ?_
          | refine Fin.qn ?_ ?_
      · by_cases h5 : k + 1 < m
        · have hwk : IntKind.i64.wrap (((k + 1 : Nat) : Int) + 1) = ((k + 1 + 1 : Nat) : Int) := by rw [wrapS] <;> omega
          have z3 : [D.int .i64 (sv L (sN L a (k + 1)))] = [.int .i64 (smV L a (k + 1))] := rfl
          have z4 : sa L (sN L a (k + 1)) = sN L a (k + 1 + 1) := rfl
          clear hE hA wt
          simp only [stI]
          repeat' first
            | simp (maxSteps := 1000000) only [go_sem, Int.reduceLT, Int.reduceLE, Int.reduceToNat, Int.reduceEq, Nat.reduceMul, ↓reduceIte, Nat.reduceLT, Nat.reduceLeDiff, Nat.reduceEqDiff, Nat.reduceAdd, Nat.reduceSub, Nat.reduceBEq, reduceCtorEq, *, stI, snocF, rangeF_len, takeF, no_succ_le, Nat.zero_add, List.isEmpty_cons, List.length_cons, List.length_nil, List.drop_zero, eq_self]
            | contradiction
            | refine wT ?_ ?_ <;> intro _
            | refine wF ?_ ?_ <;> intro _
            | refine cD ?_ ?_ <;> intro _
            | refine dO (by kernel_rfl) ?_
            | refine (kSampleD rfl) ?_
            | (refine ⟨k + 1 + 1, ?_, ?_, Conv.mk ?_ ?_ ?_ ?_ ?_⟩; (· (first | omega | (simp only; omega) | (simp only [List.length_nil, List.length_cons]; omega))); (· (omega)))
            | refine Fin.q ?_ ?_
            | refine Fin.qn ?_ ?_
        · have hz : k + 1 = m := by omega
          simp only [stI]
          rw [hz] at hsN ⊢
          clear hz hCk
          have hlm : (m < m) = False := by simp
          by_cases h6 : dv L (sN L a m) 6 = 5
          · have eA : rdA L a m n = nN L 16 (da L (sN L a m) 6) n := by unfold rdA; rw [if_pos h6]
            have eS : rdS L s a m n = rangeF (noV L (da L (sN L a m) 6)) n := by unfold rdS; rw [if_pos h6]
            simp only [rdE, eA, eS] at hA hE
            have a6 := da_le L _ 6 hsN hL
            repeat' first
              | simp (maxSteps := 1000000) only [go_sem, Int.reduceLT, Int.reduceLE, Int.reduceToNat, Int.reduceEq, Nat.reduceMul, ↓reduceIte, Nat.reduceLT, Nat.reduceLeDiff, Nat.reduceEqDiff, Nat.reduceAdd, Nat.reduceSub, Nat.reduceBEq, reduceCtorEq, *, rangeF_len, ents_len, rangeE_len, takeE, no_succ_le, List.isEmpty_cons, List.drop_zero, eq_self]
              | contradiction
              | refine wT ?_ ?_ <;> intro _
              | refine wF ?_ ?_ <;> intro _
              | refine cD ?_ ?_ <;> intro _
              | refine dO (by kernel_rfl) ?_
              | refine (kOfR rfl hs hx hil hn (rangeF_len _ _)) ?_
              | refine (kNext rfl) ?_
              | refine Fin.q ?_ ?_
              | refine Fin.qn ?_ ?_
            generalize da L (sN L a m) 6 = a6v at *
            refine AW.loopx (σ := Nat) mix (stN L m n s a6v 15 t .zs (symV s (rangeF (smV L a) m) n) [none, none, none, none, none, none, none, none, none, none, none, none, none]) (fun k => k ≤ n) (fun k => n - k) 0 (Nat.zero_le _) (Conv.mk ?_ ?_ ?_ ?_ ?_) ?_
            iterate 5 (· (simp (maxSteps := 1000000) only [go_sem, Int.reduceLT, Int.reduceLE, Int.reduceToNat, Int.reduceEq, Nat.reduceMul, ↓reduceIte, Nat.reduceLT, Nat.reduceLeDiff, Nat.reduceEqDiff, Nat.reduceAdd, Nat.reduceSub, Nat.reduceBEq, reduceCtorEq, stN, nN, mixF_0]) <;> rfl)
            intro i hi
            have hiN := nN_le L 16 a6v a6 hL i
            by_cases h7 : i < n
            · have hwi : IntKind.i64.wrap ((i : Int) + 1) = ((i + 1 : Nat) : Int) := by rw [wrapS] <;> omega
              have z5 : [D.int .i64 (dv L (nN L 16 a6v i) 16)] = [.int .i64 (noV L a6v i)] := rfl
              have hg := getF (mixF (noV L a6v) (symV s (rangeF (smV L a) m) n) i) h7
              have z6 : da L (nN L 16 a6v i) 16 = nN L 16 a6v (i + 1) := rfl
              clear hA hE wt
              simp only [stN]
              repeat' first
                | simp (maxSteps := 1000000) only [go_sem, Int.reduceLT, Int.reduceLE, Int.reduceToNat, Int.reduceEq, Nat.reduceMul, ↓reduceIte, Nat.reduceLT, Nat.reduceLeDiff, Nat.reduceEqDiff, Nat.reduceAdd, Nat.reduceSub, Nat.reduceBEq, reduceCtorEq, *, stN, mixF_set, rangeF_len, List.drop_one, List.tail_cons, List.length_singleton, List.length_cons, List.length_nil, Nat.le_refl]
                | contradiction
                | refine wT ?_ ?_ <;> intro _
                | refine wF ?_ ?_ <;> intro _
                | refine cD ?_ ?_ <;> intro _
                | refine dO (by kernel_rfl) ?_
                | refine (kNext rfl) ?_
                | (refine ⟨i + 1, ?_, ?_, Conv.mk ?_ ?_ ?_ ?_ ?_⟩; (· (first | omega | (simp only; omega) | (simp only [List.length_nil, List.length_cons]; omega))); (· (omega)))
                | refine Fin.q ?_ ?_
                | refine Fin.qn ?_ ?_
            · have hz : n = i := by omega
              subst hz
              simp only [stN, mixF_n]
              have hln : (n < n) = False := by simp
              repeat' first
                | simp (maxSteps := 1000000) only [go_sem, Int.reduceLT, Int.reduceLE, Int.reduceToNat, Int.reduceEq, Nat.reduceMul, ↓reduceIte, Nat.reduceLT, Nat.reduceLeDiff, Nat.reduceEqDiff, Nat.reduceAdd, Nat.reduceSub, Nat.reduceBEq, reduceCtorEq, *, stN, rangeF_len, ents_len, rangeE_len, takeE, no_succ_le, List.isEmpty_cons, List.drop_zero, eq_self]
                | contradiction
                | refine wT ?_ ?_ <;> intro _
                | refine wF ?_ ?_ <;> intro _
                | refine cD ?_ ?_ <;> intro _
                | refine dO (by kernel_rfl) ?_
                | refine (kNext rfl) ?_
                | refine Fin.q ?_ ?_
                | refine Fin.qn ?_ ?_
              have hwt : IntKind.i64.wrap (t - 1) = (c : Int) - ((0 + 1 : Nat) : Int) := wt
              refine ⟨0 + 1, by omega, by omega, Conv.trans (s1 := ⟨65, [(8, .int .i64 (t - ((0 + 1 : Nat) : Int))), (7, .rs 4 42 0 (0 + 1) (0 + 1)), (6, .zs), (4, .ptr 1 1 0 0), (0, .ptr 0 1 0 0)], [some [[V L, .int .i64 (da L (nN L 16 a6v n) 3)]], some [[.int .i64 s.kind, .int .i64 s.band, .int .i64 s.gap, .int .i64 m, .int .i64 n, V s.cuts]], none, none, none, none, none, none, none, none, none, none, none, none, none, none, some (ints (rangeF (noV L a6v) n)), some (ints (rangeF fourV n)), none, none, none, none, none, none, none, none, none, none, none, none, none, none, none, none, none, none, none, none, none, none, none, none, some [[.rs 1 16 0 n n, .rs 1 17 0 n n, .int .i64 (dv L (nN L 16 a6v n) 3), .int .i64 t]]]⟩) (Conv.mk ?_ ?_ ?_ ?_ ?_) (Conv.trans (s1 := ⟨65, [(8, .int .i64 (t - ((0 + 1 : Nat) : Int))), (7, .rs 4 42 0 (0 + 1) (0 + 1)), (6, .zs), (4, .ptr 1 1 0 0), (0, .ptr 0 1 0 0)], [some [[V L, .int .i64 (da L (nN L 16 a6v n) 3)]], some [[.int .i64 s.kind, .int .i64 s.band, .int .i64 s.gap, .int .i64 m, .int .i64 n, V s.cuts]], none, none, none, none, none, none, none, none, none, none, none, none, none, none, none, some (ints (rangeF fourV n)), none, none, none, none, none, none, none, none, none, none, none, none, none, none, none, none, none, none, none, none, none, none, none, none, some [[V (rangeF (noV L a6v) n), .rs 1 17 0 n n, .int .i64 (dv L (nN L 16 a6v n) 3), .int .i64 t]]]⟩) (Conv.freeze (b := 16) (by decide) ?_) (Conv.trans (s1 := ⟨65, [(8, .int .i64 (t - ((0 + 1 : Nat) : Int))), (7, .rs 4 42 0 (0 + 1) (0 + 1)), (6, .zs), (4, .ptr 1 1 0 0), (0, .ptr 0 1 0 0)], [some [[V L, .int .i64 (da L (nN L 16 a6v n) 3)]], some [[.int .i64 s.kind, .int .i64 s.band, .int .i64 s.gap, .int .i64 m, .int .i64 n, V s.cuts]], none, none, none, none, none, none, none, none, none, none, none, none, none, none, none, none, none, none, none, none, none, none, none, none, none, none, none, none, none, none, none, none, none, none, none, none, none, none, none, none, some [[V (rangeF (noV L a6v) n), V (rangeF fourV n), .int .i64 (dv L (nN L 16 a6v n) 3), .int .i64 t]]]⟩) (Conv.freeze (b := 17) (by decide) ?_) (Conv.mk ?_ ?_ ?_ ?_ ?_)))⟩
              iterate 5 (· simp (maxSteps := 1000000) only [go_sem, Int.reduceLT, Int.reduceLE, Int.reduceToNat, Int.reduceEq, Nat.reduceMul, ↓reduceIte, Nat.reduceLT, Nat.reduceLeDiff, Nat.reduceEqDiff, Nat.reduceAdd, Nat.reduceSub, Nat.reduceBEq, reduceCtorEq, wt, hte, hA, hE, rdE, ents_refs1, D.refsL, D.refs, Bool.and_true, Bool.true_and, List.length_append, ents_len, rangeE_len])
              iterate 2 (· simp [AH.freeze, frzH, trRow_snoc, ents_pure1, ents_pure, frzTm, trB, trRow, trL, tr, unb, hget, pureB, ints_pure, ints_len, rangeF_len, takeF, D.isPur])
              iterate 5 (· simp (maxSteps := 1000000) only [go_sem, Int.reduceLT, Int.reduceLE, Int.reduceToNat, Int.reduceEq, Nat.reduceMul, ↓reduceIte, Nat.reduceLT, Nat.reduceLeDiff, Nat.reduceEqDiff, Nat.reduceAdd, Nat.reduceSub, Nat.reduceBEq, reduceCtorEq, stE, wt, hte, hA, hE, ents_refs1, D.refsL, D.refs, Bool.and_true, Bool.true_and, En.row, List.append_nil, List.nil_append])
          · have eA : rdA L a m n = da L (sN L a m) 6 := by unfold rdA; rw [if_neg h6]
            have eS : rdS L s a m n = rangeF (symV s (rangeF (smV L a) m) n) n := by unfold rdS; rw [if_neg h6]; rfl
            simp only [rdE, eA, eS] at hA hE
            repeat' first
              | simp (maxSteps := 1000000) only [go_sem, Int.reduceLT, Int.reduceLE, Int.reduceToNat, Int.reduceEq, Nat.reduceMul, ↓reduceIte, Nat.reduceLT, Nat.reduceLeDiff, Nat.reduceEqDiff, Nat.reduceAdd, Nat.reduceSub, Nat.reduceBEq, reduceCtorEq, *, rangeF_len, ents_len, rangeE_len, takeE, no_succ_le, List.isEmpty_cons, List.drop_zero, eq_self]
              | contradiction
              | refine wT ?_ ?_ <;> intro _
              | refine wF ?_ ?_ <;> intro _
              | refine cD ?_ ?_ <;> intro _
              | refine dO (by kernel_rfl) ?_
              | refine (kOfR rfl hs hx hil hn (rangeF_len _ _)) ?_
              | refine (kNext rfl) ?_
              | refine Fin.q ?_ ?_
              | refine Fin.qn ?_ ?_
            have hwt : IntKind.i64.wrap (t - 1) = (c : Int) - ((0 + 1 : Nat) : Int) := wt
            refine ⟨0 + 1, by omega, by omega, Conv.trans (s1 := ⟨65, [(8, .int .i64 (t - ((0 + 1 : Nat) : Int))), (7, .rs 4 42 0 (0 + 1) (0 + 1)), (6, .zs), (4, .ptr 1 1 0 0), (0, .ptr 0 1 0 0)], [some [[V L, .int .i64 (da L (da L (sN L a m) 6) 3)]], some [[.int .i64 s.kind, .int .i64 s.band, .int .i64 s.gap, .int .i64 m, .int .i64 n, V s.cuts]], none, none, none, none, none, none, none, none, none, none, none, none, none, none, some (ints (rangeF (symV s (rangeF (smV L a) m) n) n)), some (ints (rangeF fourV n)), none, none, none, none, none, none, none, none, none, none, none, none, none, none, none, none, none, none, none, none, none, none, none, none, some [[.rs 1 16 0 n n, .rs 1 17 0 n n, .int .i64 (dv L (da L (sN L a m) 6) 3), .int .i64 t]]]⟩) (Conv.mk ?_ ?_ ?_ ?_ ?_) (Conv.trans (s1 := ⟨65, [(8, .int .i64 (t - ((0 + 1 : Nat) : Int))), (7, .rs 4 42 0 (0 + 1) (0 + 1)), (6, .zs), (4, .ptr 1 1 0 0), (0, .ptr 0 1 0 0)], [some [[V L, .int .i64 (da L (da L (sN L a m) 6) 3)]], some [[.int .i64 s.kind, .int .i64 s.band, .int .i64 s.gap, .int .i64 m, .int .i64 n, V s.cuts]], none, none, none, none, none, none, none, none, none, none, none, none, none, none, none, some (ints (rangeF fourV n)), none, none, none, none, none, none, none, none, none, none, none, none, none, none, none, none, none, none, none, none, none, none, none, none, some [[V (rangeF (symV s (rangeF (smV L a) m) n) n), .rs 1 17 0 n n, .int .i64 (dv L (da L (sN L a m) 6) 3), .int .i64 t]]]⟩) (Conv.freeze (b := 16) (by decide) ?_) (Conv.trans (s1 := ⟨65, [(8, .int .i64 (t - ((0 + 1 : Nat) : Int))), (7, .rs 4 42 0 (0 + 1) (0 + 1)), (6, .zs), (4, .ptr 1 1 0 0), (0, .ptr 0 1 0 0)], [some [[V L, .int .i64 (da L (da L (sN L a m) 6) 3)]], some [[.int .i64 s.kind, .int .i64 s.band, .int .i64 s.gap, .int .i64 m, .int .i64 n, V s.cuts]], none, none, none, none, none, none, none, none, none, none, none, none, none, none, none, none, none, none, none, none, none, none, none, none, none, none, none, none, none, none, none, none, none, none, none, none, none, none, none, none, some [[V (rangeF (symV s (rangeF (smV L a) m) n) n), V (rangeF fourV n), .int .i64 (dv L (da L (sN L a m) 6) 3), .int .i64 t]]]⟩) (Conv.freeze (b := 17) (by decide) ?_) (Conv.mk ?_ ?_ ?_ ?_ ?_)))⟩
            iterate 5 (· simp (maxSteps := 1000000) only [go_sem, Int.reduceLT, Int.reduceLE, Int.reduceToNat, Int.reduceEq, Nat.reduceMul, ↓reduceIte, Nat.reduceLT, Nat.reduceLeDiff, Nat.reduceEqDiff, Nat.reduceAdd, Nat.reduceSub, Nat.reduceBEq, reduceCtorEq, wt, hte, hA, hE, rdE, ents_refs1, D.refsL, D.refs, Bool.and_true, Bool.true_and, List.length_append, ents_len, rangeE_len])
            iterate 2 (· simp [AH.freeze, frzH, trRow_snoc, ents_pure1, ents_pure, frzTm, trB, trRow, trL, tr, unb, hget, pureB, ints_pure, ints_len, rangeF_len, takeF, D.isPur])
            iterate 5 (· simp (maxSteps := 1000000) only [go_sem, Int.reduceLT, Int.reduceLE, Int.reduceToNat, Int.reduceEq, Nat.reduceMul, ↓reduceIte, Nat.reduceLT, Nat.reduceLeDiff, Nat.reduceEqDiff, Nat.reduceAdd, Nat.reduceSub, Nat.reduceBEq, reduceCtorEq, stE, wt, hte, hA, hE, ents_refs1, D.refsL, D.refs, Bool.and_true, Bool.true_and, En.row, List.append_nil, List.nil_append])
    · have hz : c = 0 := by omega
      subst hz
      simp only [stE]
      repeat' first
        | simp (maxSteps := 1000000) only [go_sem, Int.reduceLT, Int.reduceLE, Int.reduceToNat, Int.reduceEq, Nat.reduceMul, ↓reduceIte, Nat.reduceLT, Nat.reduceLeDiff, Nat.reduceEqDiff, Nat.reduceAdd, Nat.reduceSub, Nat.reduceBEq, reduceCtorEq, *, enA]
        | contradiction
        | refine wT ?_ ?_ <;> intro _
        | refine wF ?_ ?_ <;> intro _
        | refine cD ?_ ?_ <;> intro _
        | refine dO (by kernel_rfl) ?_
        | ((first | refine Fin.q ?_ ?_ | refine Fin.qn ?_ ?_) <;> ((try simp (maxSteps := 1000000) only [go_sem, Int.reduceLT, Int.reduceLE, Int.reduceToNat, Int.reduceEq, Nat.reduceMul, ↓reduceIte, Nat.reduceLT, Nat.reduceLeDiff, Nat.reduceEqDiff, Nat.reduceAdd, Nat.reduceSub, Nat.reduceBEq, reduceCtorEq, *, enA]) <;> (first | done | rfl)))
  · by_cases h : j + 1 < c
    · obtain ⟨a, hae⟩ : ∃ a, enA L m n b (j + 1) = a := ⟨_, rfl⟩
      obtain ⟨t, hte⟩ : ∃ t, (c : Int) - ((j + 1 : Nat) : Int) = t := ⟨_, rfl⟩
      have hA : enA L m n b (j + 1 + 1) = da L (rdA L a m n) 3 := by rw [← hae]; rfl
      have hE : ents (rangeE (enE L s m n b c) (j + 1 + 1)) = ents (rangeE (enE L s m n b c) (j + 1)) ++ [(rdE L s a m n t).row] := by rw [← hae, ← hte, ← rangeE_snoc]; simp [ents, enE]
      have wt : IntKind.i64.wrap (t - 1) = (c : Int) - ((j + 1 + 1 : Nat) : Int) := by rw [wrapS] <;> omega
      have e2 : (t > 0) = True := by simp only [eq_iff_iff, iff_true]; omega
      rw [hae] at a1
      simp only [stE]
      rw [hte, hae]
      repeat' first
        | simp (maxSteps := 1000000) only [go_sem, Int.reduceLT, Int.reduceLE, Int.reduceToNat, Int.reduceEq, Nat.reduceMul, ↓reduceIte, Nat.reduceLT, Nat.reduceLeDiff, Nat.reduceEqDiff, Nat.reduceAdd, Nat.reduceSub, Nat.reduceBEq, reduceCtorEq, *]
        | contradiction
        | refine wT ?_ ?_ <;> intro _
        | refine wF ?_ ?_ <;> intro _
        | refine cD ?_ ?_ <;> intro _
        | refine dO (by kernel_rfl) ?_
        | refine Fin.q ?_ ?_
        | refine Fin.qn ?_ ?_
      have hx := smp_ok L a m m2 m32
      have hil : isLen s (rangeF (smV L a) m) := by unfold isLen; rw [rangeF_len, hsl]
      refine AW.loopx (σ := Nat) mix (stI L m n s a 56 t (.rs 4 42 0 (j + 1) (j + 1)) [none, none, none, none, none, none, none, none, none, none, none, none, none, none, none, none, none, none, none, none, none, none, none, none, none, none, none, none, none, none, none, none, none, none, none, none, none, none, none, none, some (ents (rangeE (enE L s m n b c) (j + 1)))] [none, none, none, none, none, none, none, none, none, none, none, none, none, none, none, none, none, none, none, none, none, none, none, none, none, none, none, none, none, none, none, none, none, none, none, none, none, none, none, none, some (ents (rangeE (enE L s m n b c) (j + 1))), none, none, none, none, none, none, none, none, none, none, none, none, none]) (fun k => k ≤ m) (fun k => m - k) 0 (Nat.zero_le _) (Conv.mk ?_ ?_ ?_ ?_ ?_) ?_
      iterate 5 (· simp (maxSteps := 1000000) only [go_sem, Int.reduceLT, Int.reduceLE, Int.reduceToNat, Int.reduceEq, Nat.reduceMul, ↓reduceIte, Nat.reduceLT, Nat.reduceLeDiff, Nat.reduceEqDiff, Nat.reduceAdd, Nat.reduceSub, Nat.reduceBEq, reduceCtorEq, stI, sN])
      intro k hk
      have hCk : k + 1 ≤ capMax := by unfold capMax; omega
      have hsN := sN_le L a a1 hL k
      rcases k with _ | k
      · have z2 : sN L a 0 = a := rfl
        have z3 : [[D.int .i64 (sv L a)]] = ints (rangeF (smV L a) 1) := rfl
        have z4 : sa L a = sN L a 1 := rfl
        have m1 : 0 < m := by omega
        have w01 : IntKind.i64.wrap (0 + 1) = ((0 + 1 : Nat) : Int) := by decide
        clear hE hA wt
        simp only [stI]
        repeat' first
          | simp (maxSteps := 1000000) only [go_sem, Int.reduceLT, Int.reduceLE, Int.reduceToNat, Int.reduceEq, Nat.reduceMul, ↓reduceIte, Nat.reduceLT, Nat.reduceLeDiff, Nat.reduceEqDiff, Nat.reduceAdd, Nat.reduceSub, Nat.reduceBEq, reduceCtorEq, *, stI, Nat.zero_add, List.length_singleton, List.isEmpty_cons, List.length_cons, List.length_nil]
          | contradiction
          | refine wT ?_ ?_ <;> intro _
          | refine wF ?_ ?_ <;> intro _
          | refine cD ?_ ?_ <;> intro _
          | refine dO (by kernel_rfl) ?_
          | refine (kSampleD rfl) ?_
          | (refine ⟨1, ?_, ?_, Conv.mk ?_ ?_ ?_ ?_ ?_⟩; (· (first | omega | (simp only; omega) | (simp only [List.length_nil, List.length_cons]; omega))); (· (omega)))
          | refine Fin.q ?_ ?_
          | refine Fin.qn ?_ ?_
      · by_cases h5 : k + 1 < m
        · have hwk : IntKind.i64.wrap (((k + 1 : Nat) : Int) + 1) = ((k + 1 + 1 : Nat) : Int) := by rw [wrapS] <;> omega
          have z3 : [D.int .i64 (sv L (sN L a (k + 1)))] = [.int .i64 (smV L a (k + 1))] := rfl
          have z4 : sa L (sN L a (k + 1)) = sN L a (k + 1 + 1) := rfl
          clear hE hA wt
          simp only [stI]
          repeat' first
            | simp (maxSteps := 1000000) only [go_sem, Int.reduceLT, Int.reduceLE, Int.reduceToNat, Int.reduceEq, Nat.reduceMul, ↓reduceIte, Nat.reduceLT, Nat.reduceLeDiff, Nat.reduceEqDiff, Nat.reduceAdd, Nat.reduceSub, Nat.reduceBEq, reduceCtorEq, *, stI, snocF, rangeF_len, takeF, no_succ_le, Nat.zero_add, List.isEmpty_cons, List.length_cons, List.length_nil, List.drop_zero, eq_self]
            | contradiction
            | refine wT ?_ ?_ <;> intro _
            | refine wF ?_ ?_ <;> intro _
            | refine cD ?_ ?_ <;> intro _
            | refine dO (by kernel_rfl) ?_
            | refine (kSampleD rfl) ?_
            | (refine ⟨k + 1 + 1, ?_, ?_, Conv.mk ?_ ?_ ?_ ?_ ?_⟩; (· (first | omega | (simp only; omega) | (simp only [List.length_nil, List.length_cons]; omega))); (· (omega)))
            | refine Fin.q ?_ ?_
            | refine Fin.qn ?_ ?_
        · have hz : k + 1 = m := by omega
          simp only [stI]
          rw [hz] at hsN ⊢
          clear hz hCk
          have hlm : (m < m) = False := by simp
          by_cases h6 : dv L (sN L a m) 6 = 5
          · have eA : rdA L a m n = nN L 16 (da L (sN L a m) 6) n := by unfold rdA; rw [if_pos h6]
            have eS : rdS L s a m n = rangeF (noV L (da L (sN L a m) 6)) n := by unfold rdS; rw [if_pos h6]
            simp only [rdE, eA, eS] at hA hE
            have a6 := da_le L _ 6 hsN hL
            repeat' first
              | simp (maxSteps := 1000000) only [go_sem, Int.reduceLT, Int.reduceLE, Int.reduceToNat, Int.reduceEq, Nat.reduceMul, ↓reduceIte, Nat.reduceLT, Nat.reduceLeDiff, Nat.reduceEqDiff, Nat.reduceAdd, Nat.reduceSub, Nat.reduceBEq, reduceCtorEq, *, rangeF_len, ents_len, rangeE_len, takeE, no_succ_le, List.isEmpty_cons, List.drop_zero, eq_self]
              | contradiction
              | refine wT ?_ ?_ <;> intro _
              | refine wF ?_ ?_ <;> intro _
              | refine cD ?_ ?_ <;> intro _
              | refine dO (by kernel_rfl) ?_
              | refine (kOfR rfl hs hx hil hn (rangeF_len _ _)) ?_
              | refine (kNext rfl) ?_
              | refine Fin.q ?_ ?_
              | refine Fin.qn ?_ ?_
            generalize da L (sN L a m) 6 = a6v at *
            refine AW.loopx (σ := Nat) mix (stN L m n s a6v 56 t (.rs 4 42 0 (j + 1) (j + 1)) (symV s (rangeF (smV L a) m) n) [none, none, none, none, none, none, none, none, none, none, none, none, none, none, none, none, none, none, none, none, none, none, none, none, none, none, none, none, none, none, none, none, none, none, none, none, none, none, none, none, some (ents (rangeE (enE L s m n b c) (j + 1))), none, none, none, none, none, none, none, none, none, none, none, none, none]) (fun k => k ≤ n) (fun k => n - k) 0 (Nat.zero_le _) (Conv.mk ?_ ?_ ?_ ?_ ?_) ?_
            iterate 5 (· (simp (maxSteps := 1000000) only [go_sem, Int.reduceLT, Int.reduceLE, Int.reduceToNat, Int.reduceEq, Nat.reduceMul, ↓reduceIte, Nat.reduceLT, Nat.reduceLeDiff, Nat.reduceEqDiff, Nat.reduceAdd, Nat.reduceSub, Nat.reduceBEq, reduceCtorEq, stN, nN, mixF_0]) <;> rfl)
            intro i hi
            have hiN := nN_le L 16 a6v a6 hL i
            by_cases h7 : i < n
            · have hwi : IntKind.i64.wrap ((i : Int) + 1) = ((i + 1 : Nat) : Int) := by rw [wrapS] <;> omega
              have z5 : [D.int .i64 (dv L (nN L 16 a6v i) 16)] = [.int .i64 (noV L a6v i)] := rfl
              have hg := getF (mixF (noV L a6v) (symV s (rangeF (smV L a) m) n) i) h7
              have z6 : da L (nN L 16 a6v i) 16 = nN L 16 a6v (i + 1) := rfl
              clear hA hE wt
              simp only [stN]
              repeat' first
                | simp (maxSteps := 1000000) only [go_sem, Int.reduceLT, Int.reduceLE, Int.reduceToNat, Int.reduceEq, Nat.reduceMul, ↓reduceIte, Nat.reduceLT, Nat.reduceLeDiff, Nat.reduceEqDiff, Nat.reduceAdd, Nat.reduceSub, Nat.reduceBEq, reduceCtorEq, *, stN, mixF_set, rangeF_len, List.drop_one, List.tail_cons, List.length_singleton, List.length_cons, List.length_nil, Nat.le_refl]
                | contradiction
                | refine wT ?_ ?_ <;> intro _
                | refine wF ?_ ?_ <;> intro _
                | refine cD ?_ ?_ <;> intro _
                | refine dO (by kernel_rfl) ?_
                | refine (kNext rfl) ?_
                | (refine ⟨i + 1, ?_, ?_, Conv.mk ?_ ?_ ?_ ?_ ?_⟩; (· (first | omega | (simp only; omega) | (simp only [List.length_nil, List.length_cons]; omega))); (· (omega)))
                | refine Fin.q ?_ ?_
                | refine Fin.qn ?_ ?_
            · have hz : n = i := by omega
              subst hz
              simp only [stN, mixF_n]
              have hln : (n < n) = False := by simp
              repeat' first
                | simp (maxSteps := 1000000) only [go_sem, Int.reduceLT, Int.reduceLE, Int.reduceToNat, Int.reduceEq, Nat.reduceMul, ↓reduceIte, Nat.reduceLT, Nat.reduceLeDiff, Nat.reduceEqDiff, Nat.reduceAdd, Nat.reduceSub, Nat.reduceBEq, reduceCtorEq, *, stN, rangeF_len, ents_len, rangeE_len, takeE, no_succ_le, List.isEmpty_cons, List.drop_zero, eq_self]
                | contradiction
                | refine wT ?_ ?_ <;> intro _
                | refine wF ?_ ?_ <;> intro _
                | refine cD ?_ ?_ <;> intro _
                | refine dO (by kernel_rfl) ?_
                | refine (kNext rfl) ?_
                | refine Fin.q ?_ ?_
                | refine Fin.qn ?_ ?_
              have hwt : IntKind.i64.wrap (t - 1) = (c : Int) - ((j + 1 + 1 : Nat) : Int) := wt
              refine ⟨j + 1 + 1, by omega, by omega, Conv.trans (s1 := ⟨65, [(8, .int .i64 ((c : Int) - ((j + 1 + 1 : Nat) : Int))), (7, .rs 4 42 0 (j + 1 + 1) (j + 1 + 1)), (6, .zs), (4, .ptr 1 1 0 0), (0, .ptr 0 1 0 0)], [some [[V L, .int .i64 (da L (nN L 16 a6v n) 3)]], some [[.int .i64 s.kind, .int .i64 s.band, .int .i64 s.gap, .int .i64 m, .int .i64 n, V s.cuts]], none, none, none, none, none, none, none, none, none, none, none, none, none, none, none, none, none, none, none, none, none, none, none, none, none, none, none, none, none, none, none, none, none, none, none, none, none, none, none, none, some (ents (rangeE (enE L s m n b c) (j + 1)) ++ [[.rs 1 57 0 n n, .rs 1 58 0 n n, .int .i64 (dv L (nN L 16 a6v n) 3), .int .i64 t]]), none, none, none, none, none, none, none, none, none, none, none, none, none, none, some (ints (rangeF (noV L a6v) n)), some (ints (rangeF fourV n))]⟩) (Conv.mk ?_ ?_ ?_ ?_ ?_) (Conv.trans (s1 := ⟨65, [(8, .int .i64 ((c : Int) - ((j + 1 + 1 : Nat) : Int))), (7, .rs 4 42 0 (j + 1 + 1) (j + 1 + 1)), (6, .zs), (4, .ptr 1 1 0 0), (0, .ptr 0 1 0 0)], [some [[V L, .int .i64 (da L (nN L 16 a6v n) 3)]], some [[.int .i64 s.kind, .int .i64 s.band, .int .i64 s.gap, .int .i64 m, .int .i64 n, V s.cuts]], none, none, none, none, none, none, none, none, none, none, none, none, none, none, none, none, none, none, none, none, none, none, none, none, none, none, none, none, none, none, none, none, none, none, none, none, none, none, none, none, some (ents (rangeE (enE L s m n b c) (j + 1)) ++ [[V (rangeF (noV L a6v) n), .rs 1 58 0 n n, .int .i64 (dv L (nN L 16 a6v n) 3), .int .i64 t]]), none, none, none, none, none, none, none, none, none, none, none, none, none, none, none, some (ints (rangeF fourV n))]⟩) (Conv.freeze (b := 57) (by decide) ?_) (Conv.trans (s1 := ⟨65, [(8, .int .i64 ((c : Int) - ((j + 1 + 1 : Nat) : Int))), (7, .rs 4 42 0 (j + 1 + 1) (j + 1 + 1)), (6, .zs), (4, .ptr 1 1 0 0), (0, .ptr 0 1 0 0)], [some [[V L, .int .i64 (da L (nN L 16 a6v n) 3)]], some [[.int .i64 s.kind, .int .i64 s.band, .int .i64 s.gap, .int .i64 m, .int .i64 n, V s.cuts]], none, none, none, none, none, none, none, none, none, none, none, none, none, none, none, none, none, none, none, none, none, none, none, none, none, none, none, none, none, none, none, none, none, none, none, none, none, none, none, none, some (ents (rangeE (enE L s m n b c) (j + 1)) ++ [[V (rangeF (noV L a6v) n), V (rangeF fourV n), .int .i64 (dv L (nN L 16 a6v n) 3), .int .i64 t]]), none, none, none, none, none, none, none, none, none, none, none, none, none, none, none, none]⟩) (Conv.freeze (b := 58) (by decide) ?_) (Conv.mk ?_ ?_ ?_ ?_ ?_)))⟩
              iterate 5 (· simp (maxSteps := 1000000) only [go_sem, Int.reduceLT, Int.reduceLE, Int.reduceToNat, Int.reduceEq, Nat.reduceMul, ↓reduceIte, Nat.reduceLT, Nat.reduceLeDiff, Nat.reduceEqDiff, Nat.reduceAdd, Nat.reduceSub, Nat.reduceBEq, reduceCtorEq, wt, hte, hA, hE, rdE, ents_refs1, D.refsL, D.refs, Bool.and_true, Bool.true_and, List.length_append, ents_len, rangeE_len])
              iterate 2 (· simp [AH.freeze, frzH, trRow_snoc, ents_pure1, ents_pure, frzTm, trB, trRow, trL, tr, unb, hget, pureB, ints_pure, ints_len, rangeF_len, takeF, D.isPur])
              iterate 5 (· simp (maxSteps := 1000000) only [go_sem, Int.reduceLT, Int.reduceLE, Int.reduceToNat, Int.reduceEq, Nat.reduceMul, ↓reduceIte, Nat.reduceLT, Nat.reduceLeDiff, Nat.reduceEqDiff, Nat.reduceAdd, Nat.reduceSub, Nat.reduceBEq, reduceCtorEq, stE, wt, hte, hA, hE, ents_refs1, D.refsL, D.refs, Bool.and_true, Bool.true_and, En.row, List.append_nil, List.nil_append])
          · have eA : rdA L a m n = da L (sN L a m) 6 := by unfold rdA; rw [if_neg h6]
            have eS : rdS L s a m n = rangeF (symV s (rangeF (smV L a) m) n) n := by unfold rdS; rw [if_neg h6]; rfl
            simp only [rdE, eA, eS] at hA hE
            repeat' first
              | simp (maxSteps := 1000000) only [go_sem, Int.reduceLT, Int.reduceLE, Int.reduceToNat, Int.reduceEq, Nat.reduceMul, ↓reduceIte, Nat.reduceLT, Nat.reduceLeDiff, Nat.reduceEqDiff, Nat.reduceAdd, Nat.reduceSub, Nat.reduceBEq, reduceCtorEq, *, rangeF_len, ents_len, rangeE_len, takeE, no_succ_le, List.isEmpty_cons, List.drop_zero, eq_self]
              | contradiction
              | refine wT ?_ ?_ <;> intro _
              | refine wF ?_ ?_ <;> intro _
              | refine cD ?_ ?_ <;> intro _
              | refine dO (by kernel_rfl) ?_
              | refine (kOfR rfl hs hx hil hn (rangeF_len _ _)) ?_
              | refine (kNext rfl) ?_
              | refine Fin.q ?_ ?_
              | refine Fin.qn ?_ ?_
            have hwt : IntKind.i64.wrap (t - 1) = (c : Int) - ((j + 1 + 1 : Nat) : Int) := wt
            refine ⟨j + 1 + 1, by omega, by omega, Conv.trans (s1 := ⟨65, [(8, .int .i64 ((c : Int) - ((j + 1 + 1 : Nat) : Int))), (7, .rs 4 42 0 (j + 1 + 1) (j + 1 + 1)), (6, .zs), (4, .ptr 1 1 0 0), (0, .ptr 0 1 0 0)], [some [[V L, .int .i64 (da L (da L (sN L a m) 6) 3)]], some [[.int .i64 s.kind, .int .i64 s.band, .int .i64 s.gap, .int .i64 m, .int .i64 n, V s.cuts]], none, none, none, none, none, none, none, none, none, none, none, none, none, none, none, none, none, none, none, none, none, none, none, none, none, none, none, none, none, none, none, none, none, none, none, none, none, none, none, none, some (ents (rangeE (enE L s m n b c) (j + 1)) ++ [[.rs 1 57 0 n n, .rs 1 58 0 n n, .int .i64 (dv L (da L (sN L a m) 6) 3), .int .i64 t]]), none, none, none, none, none, none, none, none, none, none, none, none, none, none, some (ints (rangeF (symV s (rangeF (smV L a) m) n) n)), some (ints (rangeF fourV n))]⟩) (Conv.mk ?_ ?_ ?_ ?_ ?_) (Conv.trans (s1 := ⟨65, [(8, .int .i64 ((c : Int) - ((j + 1 + 1 : Nat) : Int))), (7, .rs 4 42 0 (j + 1 + 1) (j + 1 + 1)), (6, .zs), (4, .ptr 1 1 0 0), (0, .ptr 0 1 0 0)], [some [[V L, .int .i64 (da L (da L (sN L a m) 6) 3)]], some [[.int .i64 s.kind, .int .i64 s.band, .int .i64 s.gap, .int .i64 m, .int .i64 n, V s.cuts]], none, none, none, none, none, none, none, none, none, none, none, none, none, none, none, none, none, none, none, none, none, none, none, none, none, none, none, none, none, none, none, none, none, none, none, none, none, none, none, none, some (ents (rangeE (enE L s m n b c) (j + 1)) ++ [[V (rangeF (symV s (rangeF (smV L a) m) n) n), .rs 1 58 0 n n, .int .i64 (dv L (da L (sN L a m) 6) 3), .int .i64 t]]), none, none, none, none, none, none, none, none, none, none, none, none, none, none, none, some (ints (rangeF fourV n))]⟩) (Conv.freeze (b := 57) (by decide) ?_) (Conv.trans (s1 := ⟨65, [(8, .int .i64 ((c : Int) - ((j + 1 + 1 : Nat) : Int))), (7, .rs 4 42 0 (j + 1 + 1) (j + 1 + 1)), (6, .zs), (4, .ptr 1 1 0 0), (0, .ptr 0 1 0 0)], [some [[V L, .int .i64 (da L (da L (sN L a m) 6) 3)]], some [[.int .i64 s.kind, .int .i64 s.band, .int .i64 s.gap, .int .i64 m, .int .i64 n, V s.cuts]], none, none, none, none, none, none, none, none, none, none, none, none, none, none, none, none, none, none, none, none, none, none, none, none, none, none, none, none, none, none, none, none, none, none, none, none, none, none, none, none, some (ents (rangeE (enE L s m n b c) (j + 1)) ++ [[V (rangeF (symV s (rangeF (smV L a) m) n) n), V (rangeF fourV n), .int .i64 (dv L (da L (sN L a m) 6) 3), .int .i64 t]]), none, none, none, none, none, none, none, none, none, none, none, none, none, none, none, none]⟩) (Conv.freeze (b := 58) (by decide) ?_) (Conv.mk ?_ ?_ ?_ ?_ ?_)))⟩
            iterate 5 (· simp (maxSteps := 1000000) only [go_sem, Int.reduceLT, Int.reduceLE, Int.reduceToNat, Int.reduceEq, Nat.reduceMul, ↓reduceIte, Nat.reduceLT, Nat.reduceLeDiff, Nat.reduceEqDiff, Nat.reduceAdd, Nat.reduceSub, Nat.reduceBEq, reduceCtorEq, wt, hte, hA, hE, rdE, ents_refs1, D.refsL, D.refs, Bool.and_true, Bool.true_and, List.length_append, ents_len, rangeE_len])
            iterate 2 (· simp [AH.freeze, frzH, trRow_snoc, ents_pure1, ents_pure, frzTm, trB, trRow, trL, tr, unb, hget, pureB, ints_pure, ints_len, rangeF_len, takeF, D.isPur])
            iterate 5 (· simp (maxSteps := 1000000) only [go_sem, Int.reduceLT, Int.reduceLE, Int.reduceToNat, Int.reduceEq, Nat.reduceMul, ↓reduceIte, Nat.reduceLT, Nat.reduceLeDiff, Nat.reduceEqDiff, Nat.reduceAdd, Nat.reduceSub, Nat.reduceBEq, reduceCtorEq, stE, wt, hte, hA, hE, ents_refs1, D.refsL, D.refs, Bool.and_true, Bool.true_and, En.row, List.append_nil, List.nil_append])
    · have hz : c = j + 1 := by omega
      subst hz
      have e2 : (((j + 1 : Nat) : Int) - ((j + 1 : Nat) : Int) > 0) = False := by simp only [eq_iff_iff, iff_false]; omega
      simp only [stE]
      repeat' first
        | simp (maxSteps := 1000000) only [go_sem, Int.reduceLT, Int.reduceLE, Int.reduceToNat, Int.reduceEq, Nat.reduceMul, ↓reduceIte, Nat.reduceLT, Nat.reduceLeDiff, Nat.reduceEqDiff, Nat.reduceAdd, Nat.reduceSub, Nat.reduceBEq, reduceCtorEq, *, ents_len, rangeE_len, takeE, List.drop_zero, Nat.zero_add, eq_self, no_succ_le, Nat.lt_irrefl]
        | contradiction
        | refine wT ?_ ?_ <;> intro _
        | refine wF ?_ ?_ <;> intro _
        | refine cD ?_ ?_ <;> intro _
        | refine dO (by kernel_rfl) ?_
        | ((first | refine Fin.q ?_ ?_ | refine Fin.qn ?_ ?_) <;> ((try simp (maxSteps := 1000000) only [go_sem, Int.reduceLT, Int.reduceLE, Int.reduceToNat, Int.reduceEq, Nat.reduceMul, ↓reduceIte, Nat.reduceLT, Nat.reduceLeDiff, Nat.reduceEqDiff, Nat.reduceAdd, Nat.reduceSub, Nat.reduceBEq, reduceCtorEq, *, ents_len, rangeE_len, takeE, List.drop_zero, Nat.zero_add, eq_self, no_succ_le, Nat.lt_irrefl]) <;> (first | done | rfl)))
end TR

/- The reference's copies and single runs. -/
open Go Go.Proofs Go.AH
set_option linter.unusedSimpArgs false
set_option linter.unusedVariables false
namespace TR
def Wd.lens (w : Wd) : Prop := w.s.length ≤ 4294967296 ∧ w.b.length ≤ 4294967296
set_option maxHeartbeats 2000000 in
set_option maxRecDepth 20000 in
theorem cCopyW (w : Wd) (h : w.lens) : FC Tryz.prog 136 [.agg w.row] [] (.agg w.row) [] := by
  refine FC.of_run mix Tryz.func136 rfl rfl (by simp [Tryz.ntmps136]) ?_
  obtain ⟨h1, h2⟩ := h
  obtain ⟨ws, wb⟩ := w
  rcases ws with _ | ⟨x, ws⟩ <;> rcases wb with _ | ⟨y, wb⟩ <;> simp only [List.length_cons] at h1 h2
  · repeat' first
      | simp (maxSteps := 1000000) only [go_sem, Int.reduceLT, Int.reduceLE, Int.reduceToNat, Int.reduceEq, Nat.reduceMul, ↓reduceIte, Nat.reduceLT, Nat.reduceLeDiff, Nat.reduceEqDiff, Nat.reduceAdd, Nat.reduceSub, Nat.reduceBEq, reduceCtorEq, *, ints_cons, ints_nil, List.isEmpty_cons, List.isEmpty_nil, List.append_nil, List.nil_append, List.take_length, List.drop_zero, List.length_cons, List.length_nil]
      | contradiction
      | refine wT ?_ ?_ <;> intro _
      | refine wF ?_ ?_ <;> intro _
      | refine cD ?_ ?_ <;> intro _
      | refine dO (by kernel_rfl) ?_
      | ((first | refine Fin.q ?_ ?_ | refine Fin.qn ?_ ?_) <;> ((try simp (maxSteps := 1000000) only [go_sem, Int.reduceLT, Int.reduceLE, Int.reduceToNat, Int.reduceEq, Nat.reduceMul, ↓reduceIte, Nat.reduceLT, Nat.reduceLeDiff, Nat.reduceEqDiff, Nat.reduceAdd, Nat.reduceSub, Nat.reduceBEq, reduceCtorEq, *, ints_cons, ints_nil, List.isEmpty_cons, List.isEmpty_nil, List.append_nil, List.nil_append, List.take_length, List.drop_zero, List.length_cons, List.length_nil]) <;> (first | done | rfl)))
  · have c2 : wb.length + 1 ≤ capMax := h2
    repeat' first
      | simp (maxSteps := 1000000) only [go_sem, Int.reduceLT, Int.reduceLE, Int.reduceToNat, Int.reduceEq, Nat.reduceMul, ↓reduceIte, Nat.reduceLT, Nat.reduceLeDiff, Nat.reduceEqDiff, Nat.reduceAdd, Nat.reduceSub, Nat.reduceBEq, reduceCtorEq, *, ints_cons, ints_nil, List.isEmpty_cons, List.isEmpty_nil, List.append_nil, List.nil_append, List.take_length, List.drop_zero, List.length_cons, List.length_nil]
      | contradiction
      | refine wT ?_ ?_ <;> intro _
      | refine wF ?_ ?_ <;> intro _
      | refine cD ?_ ?_ <;> intro _
      | refine dO (by kernel_rfl) ?_
      | ((first | refine Fin.q ?_ ?_ | refine Fin.qn ?_ ?_) <;> ((try simp (maxSteps := 1000000) only [go_sem, Int.reduceLT, Int.reduceLE, Int.reduceToNat, Int.reduceEq, Nat.reduceMul, ↓reduceIte, Nat.reduceLT, Nat.reduceLeDiff, Nat.reduceEqDiff, Nat.reduceAdd, Nat.reduceSub, Nat.reduceBEq, reduceCtorEq, *, ints_cons, ints_nil, List.isEmpty_cons, List.isEmpty_nil, List.append_nil, List.nil_append, List.take_length, List.drop_zero, List.length_cons, List.length_nil]) <;> (first | done | rfl)))
  · have c1 : ws.length + 1 ≤ capMax := h1
    repeat' first
      | simp (maxSteps := 1000000) only [go_sem, Int.reduceLT, Int.reduceLE, Int.reduceToNat, Int.reduceEq, Nat.reduceMul, ↓reduceIte, Nat.reduceLT, Nat.reduceLeDiff, Nat.reduceEqDiff, Nat.reduceAdd, Nat.reduceSub, Nat.reduceBEq, reduceCtorEq, *, ints_cons, ints_nil, List.isEmpty_cons, List.isEmpty_nil, List.append_nil, List.nil_append, List.take_length, List.drop_zero, List.length_cons, List.length_nil]
      | contradiction
      | refine wT ?_ ?_ <;> intro _
      | refine wF ?_ ?_ <;> intro _
      | refine cD ?_ ?_ <;> intro _
      | refine dO (by kernel_rfl) ?_
      | ((first | refine Fin.q ?_ ?_ | refine Fin.qn ?_ ?_) <;> ((try simp (maxSteps := 1000000) only [go_sem, Int.reduceLT, Int.reduceLE, Int.reduceToNat, Int.reduceEq, Nat.reduceMul, ↓reduceIte, Nat.reduceLT, Nat.reduceLeDiff, Nat.reduceEqDiff, Nat.reduceAdd, Nat.reduceSub, Nat.reduceBEq, reduceCtorEq, *, ints_cons, ints_nil, List.isEmpty_cons, List.isEmpty_nil, List.append_nil, List.nil_append, List.take_length, List.drop_zero, List.length_cons, List.length_nil]) <;> (first | done | rfl)))
  · have c1 : ws.length + 1 ≤ capMax := h1
    have c2 : wb.length + 1 ≤ capMax := h2
    repeat' first
      | simp (maxSteps := 1000000) only [go_sem, Int.reduceLT, Int.reduceLE, Int.reduceToNat, Int.reduceEq, Nat.reduceMul, ↓reduceIte, Nat.reduceLT, Nat.reduceLeDiff, Nat.reduceEqDiff, Nat.reduceAdd, Nat.reduceSub, Nat.reduceBEq, reduceCtorEq, *, ints_cons, ints_nil, List.isEmpty_cons, List.isEmpty_nil, List.append_nil, List.nil_append, List.take_length, List.drop_zero, List.length_cons, List.length_nil]
      | contradiction
      | refine wT ?_ ?_ <;> intro _
      | refine wF ?_ ?_ <;> intro _
      | refine cD ?_ ?_ <;> intro _
      | refine dO (by kernel_rfl) ?_
      | ((first | refine Fin.q ?_ ?_ | refine Fin.qn ?_ ?_) <;> ((try simp (maxSteps := 1000000) only [go_sem, Int.reduceLT, Int.reduceLE, Int.reduceToNat, Int.reduceEq, Nat.reduceMul, ↓reduceIte, Nat.reduceLT, Nat.reduceLeDiff, Nat.reduceEqDiff, Nat.reduceAdd, Nat.reduceSub, Nat.reduceBEq, reduceCtorEq, *, ints_cons, ints_nil, List.isEmpty_cons, List.isEmpty_nil, List.append_nil, List.nil_append, List.take_length, List.drop_zero, List.length_cons, List.length_nil]) <;> (first | done | rfl)))
set_option maxRecDepth 20000 in
theorem kcCopyW {w : Wd} {H : Heap} {slot : Nat} {K : D → List (Nat × Blk) → List (Nat × Blk) → Prop} (hK : K (.agg w.row) [] []) (h : w.lens := by first | assumption | omega) : @callB ⟨callX Tryz.prog⟩ 136 [.agg w.row] H slot ⟨K⟩ := by
  have he0 : rdOf H (D.idsL [.agg w.row]) = [] := by simp (maxSteps := 1000000) only [go_sem, Int.reduceLT, Int.reduceLE, Int.reduceToNat, Int.reduceEq, Nat.reduceMul, ↓reduceIte, Nat.reduceLT, Nat.reduceLeDiff, Nat.reduceEqDiff, Nat.reduceAdd, Nat.reduceSub, Nat.reduceBEq, reduceCtorEq]
  refine call0 false (cCopyW w h) ?_ ?_ (fun h => nomatch h) (by rw [he0]; exact hK)
  iterate 2 (· simp (maxSteps := 1000000) only [go_sem, Int.reduceLT, Int.reduceLE, Int.reduceToNat, Int.reduceEq, Nat.reduceMul, ↓reduceIte, Nat.reduceLT, Nat.reduceLeDiff, Nat.reduceEqDiff, Nat.reduceAdd, Nat.reduceSub, Nat.reduceBEq, reduceCtorEq])
theorem take_snoc {α : Type} {l : List α} {i : Nat} (d : α) (h : i < l.length) : l.take (i + 1) = l.take i ++ [l.getD i d] := by
  rw [List.take_add_one]; simp [List.getElem?_eq_getElem h, List.getD]
theorem take_succE {l : List En} {i : Nat} (h : i < l.length) : ents (l.take i) ++ [[V (l.getD i default).w.s, V (l.getD i default).w.b, .int .i64 (l.getD i default).p, .int .i64 (l.getD i default).q]] = ents (l.take (i + 1)) := by
  rw [take_snoc default h]
  simp only [ents, List.map_append, List.map_cons, List.map_nil]
  rfl
theorem take_1E {l : List En} (h : 0 < l.length) : [[V (l.getD 0 default).w.s, V (l.getD 0 default).w.b, .int .i64 (l.getD 0 default).p, .int .i64 (l.getD 0 default).q]] = ents (l.take 1) := by
  have := take_succE h
  simpa [ents] using this
theorem take_lenE {l : List En} {i : Nat} (h : i ≤ l.length) : (ents (l.take i)).length = i := by simp [ents, h]
theorem take_selfE {l : List En} {i : Nat} (h : i ≤ l.length) : (ents (l.take i)).take i = ents (l.take i) := by
  rw [List.take_of_length_le]; simp [ents]; omega
def stCp (l : List En) : Nat → St
  | 0 => ⟨27, [(4, .int .i64 0), (3, .zs), (0, .vs (ents l))], []⟩
  | i + 1 => ⟨27, [(4, .int .i64 ((i + 1 : Nat) : Int)), (3, .rs 4 13 0 (i + 1) (i + 1)), (0, .vs (ents l))], [none, none, none, none, none, none, none, none, none, none, none, none, none, some (ents (l.take (i + 1)))]⟩
set_option maxHeartbeats 2000000 in
set_option maxRecDepth 20000 in
theorem cCopyR (l : List En) (hl : l.length ≤ 4294967290) (hw : ∀ i, i < l.length → (l.getD i default).lens) : FC Tryz.prog 87 [.vs (ents l)] [] (.vs (ents l)) [] := by
  refine FC.of_run mix Tryz.func87 rfl rfl (by simp [Tryz.ntmps87]) ?_
  repeat' first
    | simp (maxSteps := 1000000) only [go_sem, Int.reduceLT, Int.reduceLE, Int.reduceToNat, Int.reduceEq, Nat.reduceMul, ↓reduceIte, Nat.reduceLT, Nat.reduceLeDiff, Nat.reduceEqDiff, Nat.reduceAdd, Nat.reduceSub, Nat.reduceBEq, reduceCtorEq, *]
    | contradiction
    | refine wT ?_ ?_ <;> intro _
    | refine wF ?_ ?_ <;> intro _
    | refine cD ?_ ?_ <;> intro _
    | refine dO (by kernel_rfl) ?_
    | refine Fin.q ?_ ?_
    | refine Fin.qn ?_ ?_
  refine AW.loopx (σ := Nat) mix (stCp l) (fun i => i ≤ l.length) (fun i => l.length - i) 0 (Nat.zero_le _) (Conv.mk ?_ ?_ ?_ ?_ ?_) ?_
  iterate 5 (· simp (maxSteps := 1000000) only [go_sem, Int.reduceLT, Int.reduceLE, Int.reduceToNat, Int.reduceEq, Nat.reduceMul, ↓reduceIte, Nat.reduceLT, Nat.reduceLeDiff, Nat.reduceEqDiff, Nat.reduceAdd, Nat.reduceSub, Nat.reduceBEq, reduceCtorEq, stCp])
  intro i hi
  have hC : i + 1 ≤ capMax := by unfold capMax; omega
  have hv := wrap1 (i := i) (by omega)
  by_cases h : i < l.length
  · have hx := ents_get h
    have e1 : (l.getD i default).w.lens := hw i h
    clear hw
    rcases i with _ | i
    · have z3 := take_1E h
      have z4 : (l.take 1).length = 1 := by simp; omega
      have z5 : (ents (l.take 1)).isEmpty = false := by rw [← z3]; rfl
      have z6 : (ents (l.take 1)).take 1 = ents (l.take 1) := by rw [← z3]; rfl
      have w01 : IntKind.i64.wrap (0 + 1) = ((0 + 1 : Nat) : Int) := by decide
      simp only [stCp]
      clear hv
      repeat' first
        | simp (maxSteps := 1000000) only [go_sem, Int.reduceLT, Int.reduceLE, Int.reduceToNat, Int.reduceEq, Nat.reduceMul, ↓reduceIte, Nat.reduceLT, Nat.reduceLeDiff, Nat.reduceEqDiff, Nat.reduceAdd, Nat.reduceSub, Nat.reduceBEq, reduceCtorEq, *, stCp, En.row, Nat.zero_add, List.length_singleton, List.isEmpty_cons, List.length_cons, List.length_nil]
        | contradiction
        | refine wT ?_ ?_ <;> intro _
        | refine wF ?_ ?_ <;> intro _
        | refine cD ?_ ?_ <;> intro _
        | refine dO (by kernel_rfl) ?_
        | refine kcCopyW ?_
        | (refine ⟨1, ?_, ?_, Conv.mk ?_ ?_ ?_ ?_ ?_⟩; (· (first | omega | (simp only; omega) | (simp only [List.length_nil, List.length_cons]; omega))); (· (omega)))
        | refine Fin.q ?_ ?_
        | refine Fin.qn ?_ ?_
    · have z3 := take_succE h
      have z4 := take_lenE (l := l) (i := i + 1) hi
      have z5 := take_selfE (l := l) (i := i + 1) hi
      simp only [stCp]
      repeat' first
        | simp (maxSteps := 1000000) only [go_sem, Int.reduceLT, Int.reduceLE, Int.reduceToNat, Int.reduceEq, Nat.reduceMul, ↓reduceIte, Nat.reduceLT, Nat.reduceLeDiff, Nat.reduceEqDiff, Nat.reduceAdd, Nat.reduceSub, Nat.reduceBEq, reduceCtorEq, *, stCp, En.row, no_succ_le, List.isEmpty_cons, List.length_cons, List.length_nil, List.drop_zero, eq_self]
        | contradiction
        | refine wT ?_ ?_ <;> intro _
        | refine wF ?_ ?_ <;> intro _
        | refine cD ?_ ?_ <;> intro _
        | refine dO (by kernel_rfl) ?_
        | refine kcCopyW ?_
        | (refine ⟨i + 1 + 1, ?_, ?_, Conv.mk ?_ ?_ ?_ ?_ ?_⟩; (· (first | omega | (simp only; omega) | (simp only [List.length_nil, List.length_cons]; omega))); (· (omega)))
        | refine Fin.q ?_ ?_
        | refine Fin.qn ?_ ?_
  · have hz : i = l.length := by omega
    clear hw
    rcases i with _ | i
    · have : l = [] := List.eq_nil_of_length_eq_zero hz.symm
      subst this
      clear hz hv hl hi h
      simp only [stCp]
      repeat' first
        | simp (maxSteps := 1000000) only [go_sem, Int.reduceLT, Int.reduceLE, Int.reduceToNat, Int.reduceEq, Nat.reduceMul, ↓reduceIte, Nat.reduceLT, Nat.reduceLeDiff, Nat.reduceEqDiff, Nat.reduceAdd, Nat.reduceSub, Nat.reduceBEq, reduceCtorEq, *, List.length_nil]
        | contradiction
        | refine wT ?_ ?_ <;> intro _
        | refine wF ?_ ?_ <;> intro _
        | refine cD ?_ ?_ <;> intro _
        | refine dO (by kernel_rfl) ?_
        | ((first | refine Fin.q ?_ ?_ | refine Fin.qn ?_ ?_) <;> ((try simp (maxSteps := 1000000) only [go_sem, Int.reduceLT, Int.reduceLE, Int.reduceToNat, Int.reduceEq, Nat.reduceMul, ↓reduceIte, Nat.reduceLT, Nat.reduceLeDiff, Nat.reduceEqDiff, Nat.reduceAdd, Nat.reduceSub, Nat.reduceBEq, reduceCtorEq, *, List.length_nil]) <;> (first | done | rfl)))
    · have z4 : (ents l).length = i + 1 := by rw [ents_len]; exact hz.symm
      have z5 : (ents l).take (i + 1) = ents l := by rw [List.take_of_length_le]; omega
      have z6 : l.take (i + 1) = l := by rw [List.take_of_length_le]; omega
      have z7 : (((i + 1 : Nat) : Int) < (l.length : Int)) = False := by simp only [eq_iff_iff, iff_false]; omega
      clear hz hv
      simp only [stCp, z6]
      repeat' first
        | simp (maxSteps := 1000000) only [go_sem, Int.reduceLT, Int.reduceLE, Int.reduceToNat, Int.reduceEq, Nat.reduceMul, ↓reduceIte, Nat.reduceLT, Nat.reduceLeDiff, Nat.reduceEqDiff, Nat.reduceAdd, Nat.reduceSub, Nat.reduceBEq, reduceCtorEq, *, List.drop_zero, Nat.zero_add, eq_self, no_succ_le, Nat.lt_irrefl]
        | contradiction
        | refine wT ?_ ?_ <;> intro _
        | refine wF ?_ ?_ <;> intro _
        | refine cD ?_ ?_ <;> intro _
        | refine dO (by kernel_rfl) ?_
        | ((first | refine Fin.q ?_ ?_ | refine Fin.qn ?_ ?_) <;> ((try simp (maxSteps := 1000000) only [go_sem, Int.reduceLT, Int.reduceLE, Int.reduceToNat, Int.reduceEq, Nat.reduceMul, ↓reduceIte, Nat.reduceLT, Nat.reduceLeDiff, Nat.reduceEqDiff, Nat.reduceAdd, Nat.reduceSub, Nat.reduceBEq, reduceCtorEq, *, List.drop_zero, Nat.zero_add, eq_self, no_succ_le, Nat.lt_irrefl]) <;> (first | done | rfl)))
set_option maxRecDepth 20000 in
theorem kcCopyR {l : List En} {H : Heap} {slot : Nat} {K : D → List (Nat × Blk) → List (Nat × Blk) → Prop} (hK : K (.vs (ents l)) [] []) (hl : l.length ≤ 4294967290 := by first | assumption | omega) (hw : ∀ i, i < l.length → (l.getD i default).lens := by first | assumption | omega) : @callB ⟨callX Tryz.prog⟩ 87 [.vs (ents l)] H slot ⟨K⟩ := by
  have he0 : rdOf H (D.idsL [.vs (ents l)]) = [] := by simp (maxSteps := 1000000) only [go_sem, Int.reduceLT, Int.reduceLE, Int.reduceToNat, Int.reduceEq, Nat.reduceMul, ↓reduceIte, Nat.reduceLT, Nat.reduceLeDiff, Nat.reduceEqDiff, Nat.reduceAdd, Nat.reduceSub, Nat.reduceBEq, reduceCtorEq]
  refine call0 false (cCopyR l hl hw) ?_ ?_ (fun h => nomatch h) (by rw [he0]; exact hK)
  iterate 2 (· simp (maxSteps := 1000000) only [go_sem, Int.reduceLT, Int.reduceLE, Int.reduceToNat, Int.reduceEq, Nat.reduceMul, ↓reduceIte, Nat.reduceLT, Nat.reduceLeDiff, Nat.reduceEqDiff, Nat.reduceAdd, Nat.reduceSub, Nat.reduceBEq, reduceCtorEq])
/-- Runs of runs. -/
def lls (l : List (List En)) : List (List D) := l.map fun e => [.vs (ents e)]
def sing (l : List En) : List (List En) := l.map fun e => [e]
theorem lls_len (l : List (List En)) : (lls l).length = l.length := by simp [lls]
theorem drop_take1 {l : List En} {i : Nat} (h : i < l.length) : ((ents l).drop i).take 1 = ents [l.getD i default] := by
  rw [List.drop_eq_getElem_cons (by rw [ents_len]; exact h)]
  simp [ents, List.getD, List.getElem?_eq_getElem h]
theorem take_succS {l : List En} {i : Nat} (h : i < l.length) : lls (sing (l.take i)) ++ [[.vs (ents [l.getD i default])]] = lls (sing (l.take (i + 1))) := by
  rw [take_snoc default h]
  simp only [lls, sing, List.map_append, List.map_cons, List.map_nil]
theorem sing_len (l : List En) : (sing l).length = l.length := by simp [sing]
theorem lls_pure (l : List (List En)) : ((lls l).all fun r => r.all D.isPur) = true := by simp [lls, D.isPur]
theorem lls_refs (ok : Nat → Bool) (l : List (List En)) : ((lls l).all (D.refsL ok)) = true := by simp [lls, D.refsL, D.refs]
attribute [go_sem] lls_pure lls_refs lls_len
end TR

/- The reference's merge sort. -/
open Go Go.Proofs Go.AH
set_option linter.unusedSimpArgs false
set_option linter.unusedVariables false
namespace TR
def stSi (l : List En) : Nat → St
  | 0 => ⟨20, [(4, .int .i64 0), (3, .zs), (0, .vs (ents l))], []⟩
  | i + 1 => ⟨20, [(4, .int .i64 ((i + 1 : Nat) : Int)), (3, .rs 1 1 0 (i + 1) (i + 1)), (0, .vs (ents l))], [none, some (lls (sing (l.take (i + 1))))]⟩
theorem take_lenS {l : List En} {i : Nat} (h : i ≤ l.length) : (lls (sing (l.take i))).length = i := by simp [lls, sing, h]
theorem take_selfS {l : List En} {i : Nat} (h : i ≤ l.length) : (lls (sing (l.take i))).take i = lls (sing (l.take i)) := by
  rw [List.take_of_length_le]; simp [lls, sing]; omega
set_option maxHeartbeats 2000000 in
set_option maxRecDepth 20000 in
theorem cSing (l : List En) (hl : l.length ≤ 4294967290) : FC Tryz.prog 86 [.vs (ents l)] [] (.vs (lls (sing l))) [] := by
  refine FC.of_run mix Tryz.func86 rfl rfl (by simp [Tryz.ntmps86]) ?_
  repeat' first
    | simp (maxSteps := 1000000) only [go_sem, Int.reduceLT, Int.reduceLE, Int.reduceToNat, Int.reduceEq, Nat.reduceMul, ↓reduceIte, Nat.reduceLT, Nat.reduceLeDiff, Nat.reduceEqDiff, Nat.reduceAdd, Nat.reduceSub, Nat.reduceBEq, reduceCtorEq, *]
    | contradiction
    | refine wT ?_ ?_ <;> intro _
    | refine wF ?_ ?_ <;> intro _
    | refine cD ?_ ?_ <;> intro _
    | refine dO (by kernel_rfl) ?_
    | refine Fin.q ?_ ?_
    | refine Fin.qn ?_ ?_
  refine AW.loopx (σ := Nat) mix (stSi l) (fun i => i ≤ l.length) (fun i => l.length - i) 0 (Nat.zero_le _) (Conv.mk ?_ ?_ ?_ ?_ ?_) ?_
  iterate 5 (· simp (maxSteps := 1000000) only [go_sem, Int.reduceLT, Int.reduceLE, Int.reduceToNat, Int.reduceEq, Nat.reduceMul, ↓reduceIte, Nat.reduceLT, Nat.reduceLeDiff, Nat.reduceEqDiff, Nat.reduceAdd, Nat.reduceSub, Nat.reduceBEq, reduceCtorEq, stSi])
  intro i hi
  have hC : i + 1 ≤ capMax := by unfold capMax; omega
  have hv := wrap1 (i := i) (by omega)
  by_cases h : i < l.length
  · have hx : ((ents l).take (i + 1)).drop i = ents [l.getD i default] := by rw [List.drop_take, show i + 1 - i = 1 by omega]; exact drop_take1 h
    have hll := Nat.le_refl l.length
    have hs2 : i + 1 ≤ l.length := h
    have hi1 : i ≤ i + 1 := by omega
    have hi2 : i + 1 - i = 1 := by omega
    rcases i with _ | i
    · have hx0 : (ents l).take 1 = ents [l.getD 0 default] := hx
      have z3 := take_succS h
      have z3' : [[D.vs (ents [l.getD 0 default])]] = lls (sing (l.take 1)) := z3
      have z5 : (lls (sing (l.take 1))).isEmpty = false := by rw [← z3']; rfl
      have z6 : (lls (sing (l.take 1))).take 1 = lls (sing (l.take 1)) := by rw [← z3']; rfl
      have z7 : (sing (l.take 1)).length = 1 := by rw [sing_len]; simp; omega
      have w01 : IntKind.i64.wrap (0 + 1) = ((0 + 1 : Nat) : Int) := by decide
      simp only [stSi]
      clear hv z3
      repeat' first
        | simp (maxSteps := 1000000) only [go_sem, Int.reduceLT, Int.reduceLE, Int.reduceToNat, Int.reduceEq, Nat.reduceMul, ↓reduceIte, Nat.reduceLT, Nat.reduceLeDiff, Nat.reduceEqDiff, Nat.reduceAdd, Nat.reduceSub, Nat.reduceBEq, reduceCtorEq, *, stSi, ents_len, Nat.zero_add, List.drop_zero, List.length_singleton, List.isEmpty_cons, List.length_cons, List.length_nil]
        | contradiction
        | refine wT ?_ ?_ <;> intro _
        | refine wF ?_ ?_ <;> intro _
        | refine cD ?_ ?_ <;> intro _
        | refine dO (by kernel_rfl) ?_
        | (refine ⟨1, ?_, ?_, Conv.mk ?_ ?_ ?_ ?_ ?_⟩; (· (first | omega | (simp only; omega) | (simp only [List.length_nil, List.length_cons]; omega))); (· (omega)))
        | refine Fin.q ?_ ?_
        | refine Fin.qn ?_ ?_
    · have z3 := take_succS h
      have z4 := take_lenS (l := l) (i := i + 1) hi
      have z5 := take_selfS (l := l) (i := i + 1) hi
      simp only [stSi]
      repeat' first
        | simp (maxSteps := 1000000) only [go_sem, Int.reduceLT, Int.reduceLE, Int.reduceToNat, Int.reduceEq, Nat.reduceMul, ↓reduceIte, Nat.reduceLT, Nat.reduceLeDiff, Nat.reduceEqDiff, Nat.reduceAdd, Nat.reduceSub, Nat.reduceBEq, reduceCtorEq, *, stSi, ents_len, no_succ_le, List.isEmpty_cons, List.length_cons, List.length_nil, List.drop_zero, eq_self]
        | contradiction
        | refine wT ?_ ?_ <;> intro _
        | refine wF ?_ ?_ <;> intro _
        | refine cD ?_ ?_ <;> intro _
        | refine dO (by kernel_rfl) ?_
        | (refine ⟨i + 1 + 1, ?_, ?_, Conv.mk ?_ ?_ ?_ ?_ ?_⟩; (· (first | omega | (simp only; omega) | (simp only [List.length_nil, List.length_cons]; omega))); (· (omega)))
        | refine Fin.q ?_ ?_
        | refine Fin.qn ?_ ?_
  · have hz : i = l.length := by omega
    rcases i with _ | i
    · have : l = [] := List.eq_nil_of_length_eq_zero hz.symm
      subst this
      clear hz hv hl hi h
      simp only [stSi]
      repeat' first
        | simp (maxSteps := 1000000) only [go_sem, Int.reduceLT, Int.reduceLE, Int.reduceToNat, Int.reduceEq, Nat.reduceMul, ↓reduceIte, Nat.reduceLT, Nat.reduceLeDiff, Nat.reduceEqDiff, Nat.reduceAdd, Nat.reduceSub, Nat.reduceBEq, reduceCtorEq, *, List.length_nil]
        | contradiction
        | refine wT ?_ ?_ <;> intro _
        | refine wF ?_ ?_ <;> intro _
        | refine cD ?_ ?_ <;> intro _
        | refine dO (by kernel_rfl) ?_
        | ((first | refine Fin.q ?_ ?_ | refine Fin.qn ?_ ?_) <;> ((try simp (maxSteps := 1000000) only [go_sem, Int.reduceLT, Int.reduceLE, Int.reduceToNat, Int.reduceEq, Nat.reduceMul, ↓reduceIte, Nat.reduceLT, Nat.reduceLeDiff, Nat.reduceEqDiff, Nat.reduceAdd, Nat.reduceSub, Nat.reduceBEq, reduceCtorEq, *, List.length_nil]) <;> (first | done | rfl)))
    · have z6 : l.take (i + 1) = l := by rw [List.take_of_length_le]; omega
      have z4 : (lls (sing l)).length = i + 1 := by rw [lls_len, sing_len]; exact hz.symm
      have z5 : (lls (sing l)).take (i + 1) = lls (sing l) := by rw [List.take_of_length_le]; omega
      have z7 : (((i + 1 : Nat) : Int) < (l.length : Int)) = False := by simp only [eq_iff_iff, iff_false]; omega
      clear hz hv
      simp only [stSi, z6]
      repeat' first
        | simp (maxSteps := 1000000) only [go_sem, Int.reduceLT, Int.reduceLE, Int.reduceToNat, Int.reduceEq, Nat.reduceMul, ↓reduceIte, Nat.reduceLT, Nat.reduceLeDiff, Nat.reduceEqDiff, Nat.reduceAdd, Nat.reduceSub, Nat.reduceBEq, reduceCtorEq, *, List.drop_zero, Nat.zero_add, eq_self, no_succ_le, Nat.lt_irrefl]
        | contradiction
        | refine wT ?_ ?_ <;> intro _
        | refine wF ?_ ?_ <;> intro _
        | refine cD ?_ ?_ <;> intro _
        | refine dO (by kernel_rfl) ?_
        | ((first | refine Fin.q ?_ ?_ | refine Fin.qn ?_ ?_) <;> ((try simp (maxSteps := 1000000) only [go_sem, Int.reduceLT, Int.reduceLE, Int.reduceToNat, Int.reduceEq, Nat.reduceMul, ↓reduceIte, Nat.reduceLT, Nat.reduceLeDiff, Nat.reduceEqDiff, Nat.reduceAdd, Nat.reduceSub, Nat.reduceBEq, reduceCtorEq, *, List.drop_zero, Nat.zero_add, eq_self, no_succ_le, Nat.lt_irrefl]) <;> (first | done | rfl)))
set_option maxRecDepth 20000 in
theorem kcSing {l : List En} {H : Heap} {slot : Nat} {K : D → List (Nat × Blk) → List (Nat × Blk) → Prop} (hK : K (.vs (lls (sing l))) [] []) (hl : l.length ≤ 4294967290 := by first | assumption | omega) : @callB ⟨callX Tryz.prog⟩ 86 [.vs (ents l)] H slot ⟨K⟩ := by
  have he0 : rdOf H (D.idsL [.vs (ents l)]) = [] := by simp (maxSteps := 1000000) only [go_sem, Int.reduceLT, Int.reduceLE, Int.reduceToNat, Int.reduceEq, Nat.reduceMul, ↓reduceIte, Nat.reduceLT, Nat.reduceLeDiff, Nat.reduceEqDiff, Nat.reduceAdd, Nat.reduceSub, Nat.reduceBEq, reduceCtorEq]
  refine call0 false (cSing l hl) ?_ ?_ (fun h => nomatch h) (by rw [he0]; exact hK)
  iterate 2 (· simp (maxSteps := 1000000) only [go_sem, Int.reduceLT, Int.reduceLE, Int.reduceToNat, Int.reduceEq, Nat.reduceMul, ↓reduceIte, Nat.reduceLT, Nat.reduceLeDiff, Nat.reduceEqDiff, Nat.reduceAdd, Nat.reduceSub, Nat.reduceBEq, reduceCtorEq])
end TR

/- The reference's merge. -/
open Go Go.Proofs Go.AH
set_option linter.unusedSimpArgs false
set_option linter.unusedVariables false
namespace TR
def lt (s : Sc) (a b : En) : Bool := decide (ecmp s a b < 0)
def mrg (s : Sc) (x y : List En) : List En := List.merge x y (lt s)
def stTw (s : Sc) : List En × List En × List En → St
  | ([], x, y) => ⟨51, [(7, .zs), (6, .zs), (3, .ptr 0 1 0 0), (2, .vs (ents y)), (1, .vs (ents x))], [some [s.row]]⟩
  | (e :: acc, x, y) => ⟨51, [(7, .rs 4 2 0 (acc.length + 1) (acc.length + 1)), (6, .zs), (3, .ptr 0 1 0 0), (2, .vs (ents y)), (1, .vs (ents x))], [some [s.row], none, some (ents (e :: acc))]⟩
def InvM (s : Sc) (M : List En) (p : List En × List En × List En) : Prop := p.1 ++ mrg s p.2.1 p.2.2 = M ∧ p.1.length + p.2.1.length + p.2.2.length ≤ 1000000
theorem mrg_nl (s : Sc) (y : List En) : mrg s [] y = y := List.nil_merge ..
theorem mrg_nr (s : Sc) (x : List En) : mrg s x [] = x := List.merge_right ..
theorem mrg_len (s : Sc) (x y : List En) : (mrg s x y).length = x.length + y.length := List.length_merge ..
theorem ents_take_all (l : List En) (n : Nat) (h : l.length ≤ n) : (ents l).take n = ents l := by rw [List.take_of_length_le]; rw [ents_len]; exact h
theorem ents_consR (x : En) (l : List En) : ents (x :: l) = [V x.w.s, V x.w.b, .int .i64 x.p, .int .i64 x.q] :: ents l := rfl
set_option maxHeartbeats 2000000 in
set_option maxRecDepth 20000 in
theorem cMg2 (s : Sc) (x y : List En) (hl : x.length + y.length ≤ 1000000) : FC Tryz.prog 83 [.agg s.row, .vs (ents x), .vs (ents y)] [] (.vs (ents (mrg s x y))) [] := by
  refine FC.of_run mix Tryz.func83 rfl rfl (by simp [Tryz.ntmps83]) ?_
  repeat' first
    | simp (maxSteps := 1000000) only [go_sem, Int.reduceLT, Int.reduceLE, Int.reduceToNat, Int.reduceEq, Nat.reduceMul, ↓reduceIte, Nat.reduceLT, Nat.reduceLeDiff, Nat.reduceEqDiff, Nat.reduceAdd, Nat.reduceSub, Nat.reduceBEq, reduceCtorEq, *]
    | contradiction
    | refine wT ?_ ?_ <;> intro _
    | refine wF ?_ ?_ <;> intro _
    | refine cD ?_ ?_ <;> intro _
    | refine dO (by kernel_rfl) ?_
    | refine Fin.q ?_ ?_
    | refine Fin.qn ?_ ?_
  obtain ⟨M, hM⟩ : ∃ M, mrg s x y = M := ⟨_, rfl⟩
  rw [hM]
  refine AW.loopx (σ := List En × List En × List En) mix (stTw s) (InvM s M) (fun p => p.2.1.length + p.2.2.length) ([], x, y) ⟨hM, by simpa using hl⟩ (Conv.mk ?_ ?_ ?_ ?_ ?_) ?_
  iterate 5 (· simp (maxSteps := 1000000) only [go_sem, Int.reduceLT, Int.reduceLE, Int.reduceToNat, Int.reduceEq, Nat.reduceMul, ↓reduceIte, Nat.reduceLT, Nat.reduceLeDiff, Nat.reduceEqDiff, Nat.reduceAdd, Nat.reduceSub, Nat.reduceBEq, reduceCtorEq, stTw])
  clear hM hl x y
  intro ⟨acc, x, y⟩ ⟨hi, hl⟩
  simp only at hi hl
  rcases acc with _ | ⟨e, acc⟩ <;> rcases x with _ | ⟨a, x⟩ <;> rcases y with _ | ⟨b, y⟩
  · simp only [mrg_nl, mrg_nr, List.nil_append, List.length_cons, List.length_nil] at hi hl
    subst hi
    simp only [stTw]
    repeat' first
      | simp (maxSteps := 1000000) only [go_sem, Int.reduceLT, Int.reduceLE, Int.reduceToNat, Int.reduceEq, Nat.reduceMul, ↓reduceIte, Nat.reduceLT, Nat.reduceLeDiff, Nat.reduceEqDiff, Nat.reduceAdd, Nat.reduceSub, Nat.reduceBEq, reduceCtorEq, *, ents_nil, List.length_nil]
      | contradiction
      | refine wT ?_ ?_ <;> intro _
      | refine wF ?_ ?_ <;> intro _
      | refine cD ?_ ?_ <;> intro _
      | refine dO (by kernel_rfl) ?_
      | ((first | refine Fin.q ?_ ?_ | refine Fin.qn ?_ ?_) <;> ((try simp (maxSteps := 1000000) only [go_sem, Int.reduceLT, Int.reduceLE, Int.reduceToNat, Int.reduceEq, Nat.reduceMul, ↓reduceIte, Nat.reduceLT, Nat.reduceLeDiff, Nat.reduceEqDiff, Nat.reduceAdd, Nat.reduceSub, Nat.reduceBEq, reduceCtorEq, *, ents_nil, List.length_nil]) <;> (first | done | rfl)))
  · simp only [mrg_nl, mrg_nr, List.nil_append, List.length_cons, List.length_nil] at hi hl
    have hC : 1 ≤ capMax := by decide
    have hnx : InvM s M ([b], [], y) := ⟨by simpa [mrg_nl] using hi, by simp; omega⟩
    clear hi
    have z3 : [[V b.w.s, V b.w.b, .int .i64 b.p, .int .i64 b.q]] = ents [b] := rfl
    have z6 : (ents [b]).isEmpty = false := rfl
    have z7 : (ents [b]).take 1 = ents [b] := rfl
    have heb : ents (b :: y) = [V b.w.s, V b.w.b, .int .i64 b.p, .int .i64 b.q] :: ents y := rfl
    have hnb : (((y.length + 1 : Nat) : Int) = 0) = False := by simp only [eq_iff_iff, iff_false]; omega
    have h00 : (((0 : Nat) : Int) = 0) = True := by simp
    have h01 : (0 < ((0 : Nat) : Int)) = False := by simp
    simp only [stTw]
    repeat' first
      | simp (maxSteps := 1000000) only [go_sem, Int.reduceLT, Int.reduceLE, Int.reduceToNat, Int.reduceEq, Nat.reduceMul, ↓reduceIte, Nat.reduceLT, Nat.reduceLeDiff, Nat.reduceEqDiff, Nat.reduceAdd, Nat.reduceSub, Nat.reduceBEq, reduceCtorEq, *, stTw, ents_nil, Nat.le_refl, and_self, true_and, Option.isSome_none, imp_self, En.row, List.length_cons, List.length_nil, List.length_append, List.isEmpty_cons, List.drop_zero, List.drop_succ_cons, Nat.zero_add, Nat.succ_pos, no_succ_le, eq_self, List.getElem?_cons_zero, List.take_length]
      | contradiction
      | refine wT ?_ ?_ <;> intro _
      | refine wF ?_ ?_ <;> intro _
      | refine cD ?_ ?_ <;> intro _
      | refine dO (by kernel_rfl) ?_
      | (refine ⟨([b], [], y), ?_, ?_, Conv.mk ?_ ?_ ?_ ?_ ?_⟩; (· (first | omega | (simp only; omega) | (simp only [List.length_nil, List.length_cons]; omega))); (· (exact hnx)))
      | refine Fin.q ?_ ?_
      | refine Fin.qn ?_ ?_
  · simp only [mrg_nl, mrg_nr, List.nil_append, List.length_cons, List.length_nil] at hi hl
    have hC : 1 ≤ capMax := by decide
    have hnx : InvM s M ([a], x, []) := ⟨by simpa [mrg_nr] using hi, by simp; omega⟩
    clear hi
    have z3 : [[V a.w.s, V a.w.b, .int .i64 a.p, .int .i64 a.q]] = ents [a] := rfl
    have z6 : (ents [a]).isEmpty = false := rfl
    have z7 : (ents [a]).take 1 = ents [a] := rfl
    have hea : ents (a :: x) = [V a.w.s, V a.w.b, .int .i64 a.p, .int .i64 a.q] :: ents x := rfl
    have hna : (((x.length + 1 : Nat) : Int) = 0) = False := by simp only [eq_iff_iff, iff_false]; omega
    have h00 : (((0 : Nat) : Int) = 0) = True := by simp
    have h01 : (0 < ((0 : Nat) : Int)) = False := by simp
    simp only [stTw]
    repeat' first
      | simp (maxSteps := 1000000) only [go_sem, Int.reduceLT, Int.reduceLE, Int.reduceToNat, Int.reduceEq, Nat.reduceMul, ↓reduceIte, Nat.reduceLT, Nat.reduceLeDiff, Nat.reduceEqDiff, Nat.reduceAdd, Nat.reduceSub, Nat.reduceBEq, reduceCtorEq, *, stTw, ents_nil, Nat.le_refl, and_self, true_and, Option.isSome_none, imp_self, En.row, List.length_cons, List.length_nil, List.length_append, List.isEmpty_cons, List.drop_zero, List.drop_succ_cons, Nat.zero_add, Nat.succ_pos, no_succ_le, eq_self, List.getElem?_cons_zero, List.take_length]
      | contradiction
      | refine wT ?_ ?_ <;> intro _
      | refine wF ?_ ?_ <;> intro _
      | refine cD ?_ ?_ <;> intro _
      | refine dO (by kernel_rfl) ?_
      | (refine ⟨([a], x, []), ?_, ?_, Conv.mk ?_ ?_ ?_ ?_ ?_⟩; (· (first | omega | (simp only; omega) | (simp only [List.length_nil, List.length_cons]; omega))); (· (exact hnx)))
      | refine Fin.q ?_ ?_
      | refine Fin.qn ?_ ?_
  · simp only [List.nil_append, List.length_cons, List.length_nil] at hi hl
    have hC : 1 ≤ capMax := by decide
    by_cases hlt : ecmp s a b < 0
    · have hm : mrg s (a :: x) (b :: y) = a :: mrg s x (b :: y) := by unfold mrg; rw [List.cons_merge_cons]; simp [lt, hlt]
      have hnx : InvM s M ([a], x, (b :: y)) := ⟨by rw [hm] at hi; simpa using hi, by simp; omega⟩
      clear hi hm
      have z3 : [[V a.w.s, V a.w.b, .int .i64 a.p, .int .i64 a.q]] = ents [a] := rfl
      have z6 : (ents [a]).isEmpty = false := rfl
      have z7 : (ents [a]).take 1 = ents [a] := rfl
      have hea : ents (a :: x) = [V a.w.s, V a.w.b, .int .i64 a.p, .int .i64 a.q] :: ents x := rfl
      have hna : (((x.length + 1 : Nat) : Int) = 0) = False := by simp only [eq_iff_iff, iff_false]; omega
      have heb : ents (b :: y) = [V b.w.s, V b.w.b, .int .i64 b.p, .int .i64 b.q] :: ents y := rfl
      have hnb : (((y.length + 1 : Nat) : Int) = 0) = False := by simp only [eq_iff_iff, iff_false]; omega
      have h00 : (((0 : Nat) : Int) = 0) = True := by simp
      have h01 : (0 < ((0 : Nat) : Int)) = False := by simp
      simp only [stTw]
      repeat' first
        | simp (maxSteps := 1000000) only [go_sem, Int.reduceLT, Int.reduceLE, Int.reduceToNat, Int.reduceEq, Nat.reduceMul, ↓reduceIte, Nat.reduceLT, Nat.reduceLeDiff, Nat.reduceEqDiff, Nat.reduceAdd, Nat.reduceSub, Nat.reduceBEq, reduceCtorEq, *, stTw, ents_nil, Nat.le_refl, and_self, true_and, Option.isSome_none, imp_self, En.row, List.length_cons, List.length_nil, List.length_append, List.isEmpty_cons, List.drop_zero, List.drop_succ_cons, Nat.zero_add, Nat.succ_pos, no_succ_le, eq_self, List.getElem?_cons_zero, List.take_length]
        | contradiction
        | refine wT ?_ ?_ <;> intro _
        | refine wF ?_ ?_ <;> intro _
        | refine cD ?_ ?_ <;> intro _
        | refine dO (by kernel_rfl) ?_
        | refine kceLessR ?_
        | (refine ⟨([a], x, (b :: y)), ?_, ?_, Conv.mk ?_ ?_ ?_ ?_ ?_⟩; (· (first | omega | (simp only; omega) | (simp only [List.length_nil, List.length_cons]; omega))); (· (exact hnx)))
        | refine Fin.q ?_ ?_
        | refine Fin.qn ?_ ?_
    · have hm : mrg s (a :: x) (b :: y) = b :: mrg s (a :: x) y := by unfold mrg; rw [List.cons_merge_cons]; simp [lt, hlt]
      have hnx : InvM s M ([b], (a :: x), y) := ⟨by rw [hm] at hi; simpa using hi, by simp; omega⟩
      clear hi hm
      have z3 : [[V b.w.s, V b.w.b, .int .i64 b.p, .int .i64 b.q]] = ents [b] := rfl
      have z6 : (ents [b]).isEmpty = false := rfl
      have z7 : (ents [b]).take 1 = ents [b] := rfl
      have hea : ents (a :: x) = [V a.w.s, V a.w.b, .int .i64 a.p, .int .i64 a.q] :: ents x := rfl
      have hna : (((x.length + 1 : Nat) : Int) = 0) = False := by simp only [eq_iff_iff, iff_false]; omega
      have heb : ents (b :: y) = [V b.w.s, V b.w.b, .int .i64 b.p, .int .i64 b.q] :: ents y := rfl
      have hnb : (((y.length + 1 : Nat) : Int) = 0) = False := by simp only [eq_iff_iff, iff_false]; omega
      have h00 : (((0 : Nat) : Int) = 0) = True := by simp
      have h01 : (0 < ((0 : Nat) : Int)) = False := by simp
      simp only [stTw]
      repeat' first
        | simp (maxSteps := 1000000) only [go_sem, Int.reduceLT, Int.reduceLE, Int.reduceToNat, Int.reduceEq, Nat.reduceMul, ↓reduceIte, Nat.reduceLT, Nat.reduceLeDiff, Nat.reduceEqDiff, Nat.reduceAdd, Nat.reduceSub, Nat.reduceBEq, reduceCtorEq, *, stTw, ents_nil, Nat.le_refl, and_self, true_and, Option.isSome_none, imp_self, En.row, List.length_cons, List.length_nil, List.length_append, List.isEmpty_cons, List.drop_zero, List.drop_succ_cons, Nat.zero_add, Nat.succ_pos, no_succ_le, eq_self, List.getElem?_cons_zero, List.take_length]
        | contradiction
        | refine wT ?_ ?_ <;> intro _
        | refine wF ?_ ?_ <;> intro _
        | refine cD ?_ ?_ <;> intro _
        | refine dO (by kernel_rfl) ?_
        | refine kceLessR ?_
        | (refine ⟨([b], (a :: x), y), ?_, ?_, Conv.mk ?_ ?_ ?_ ?_ ?_⟩; (· (first | omega | (simp only; omega) | (simp only [List.length_nil, List.length_cons]; omega))); (· (exact hnx)))
        | refine Fin.q ?_ ?_
        | refine Fin.qn ?_ ?_
  · simp only [mrg_nl, mrg_nr, List.nil_append, List.length_cons, List.length_nil] at hi hl
    have hi : e :: acc = M := by simpa using hi
    subst hi
    have z4 : (ents (e :: acc)).take (acc.length + 1) = ents (e :: acc) := ents_take_all _ _ (by simp)
    have z5 : (ents (e :: acc)).length = acc.length + 1 := by simp [ents]
    simp only [stTw]
    repeat' first
      | simp (maxSteps := 1000000) only [go_sem, Int.reduceLT, Int.reduceLE, Int.reduceToNat, Int.reduceEq, Nat.reduceMul, ↓reduceIte, Nat.reduceLT, Nat.reduceLeDiff, Nat.reduceEqDiff, Nat.reduceAdd, Nat.reduceSub, Nat.reduceBEq, reduceCtorEq, *, ents_nil, List.length_nil, List.drop_zero, Nat.zero_add, eq_self]
      | contradiction
      | refine wT ?_ ?_ <;> intro _
      | refine wF ?_ ?_ <;> intro _
      | refine cD ?_ ?_ <;> intro _
      | refine dO (by kernel_rfl) ?_
      | ((first | refine Fin.q ?_ ?_ | refine Fin.qn ?_ ?_) <;> ((try simp (maxSteps := 1000000) only [go_sem, Int.reduceLT, Int.reduceLE, Int.reduceToNat, Int.reduceEq, Nat.reduceMul, ↓reduceIte, Nat.reduceLT, Nat.reduceLeDiff, Nat.reduceEqDiff, Nat.reduceAdd, Nat.reduceSub, Nat.reduceBEq, reduceCtorEq, *, ents_nil, List.length_nil, List.drop_zero, Nat.zero_add, eq_self]) <;> (first | done | rfl)))
  · simp only [mrg_nl, mrg_nr, List.nil_append, List.length_cons, List.length_nil] at hi hl
    have hC : acc.length + 1 + 1 ≤ capMax := by unfold capMax; omega
    have hnx : InvM s M (e :: (acc ++ [b]), [], y) := ⟨by simpa [mrg_nl] using hi, by simp; omega⟩
    clear hi
    have z3 : ents (e :: acc) ++ [[V b.w.s, V b.w.b, .int .i64 b.p, .int .i64 b.q]] = ents (e :: (acc ++ [b])) := by simp [ents, En.row]
    have z4 : (ents (e :: acc)).take (acc.length + 1) = ents (e :: acc) := ents_take_all _ _ (by simp)
    have z5 : (ents (e :: acc)).length = acc.length + 1 := by simp [ents]
    have heb : ents (b :: y) = [V b.w.s, V b.w.b, .int .i64 b.p, .int .i64 b.q] :: ents y := rfl
    have hnb : (((y.length + 1 : Nat) : Int) = 0) = False := by simp only [eq_iff_iff, iff_false]; omega
    have h00 : (((0 : Nat) : Int) = 0) = True := by simp
    have h01 : (0 < ((0 : Nat) : Int)) = False := by simp
    simp only [stTw]
    repeat' first
      | simp (maxSteps := 1000000) only [go_sem, Int.reduceLT, Int.reduceLE, Int.reduceToNat, Int.reduceEq, Nat.reduceMul, ↓reduceIte, Nat.reduceLT, Nat.reduceLeDiff, Nat.reduceEqDiff, Nat.reduceAdd, Nat.reduceSub, Nat.reduceBEq, reduceCtorEq, *, stTw, ents_nil, Nat.le_refl, and_self, true_and, Option.isSome_none, imp_self, En.row, List.length_cons, List.length_nil, List.length_append, List.isEmpty_cons, List.drop_zero, List.drop_succ_cons, Nat.zero_add, Nat.succ_pos, no_succ_le, eq_self, List.getElem?_cons_zero, List.take_length]
      | contradiction
      | refine wT ?_ ?_ <;> intro _
      | refine wF ?_ ?_ <;> intro _
      | refine cD ?_ ?_ <;> intro _
      | refine dO (by kernel_rfl) ?_
      | (refine ⟨(e :: (acc ++ [b]), [], y), ?_, ?_, Conv.mk ?_ ?_ ?_ ?_ ?_⟩; (· (first | omega | (simp only; omega) | (simp only [List.length_nil, List.length_cons]; omega))); (· (exact hnx)))
      | refine Fin.q ?_ ?_
      | refine Fin.qn ?_ ?_
  · simp only [mrg_nl, mrg_nr, List.nil_append, List.length_cons, List.length_nil] at hi hl
    have hC : acc.length + 1 + 1 ≤ capMax := by unfold capMax; omega
    have hnx : InvM s M (e :: (acc ++ [a]), x, []) := ⟨by simpa [mrg_nr] using hi, by simp; omega⟩
    clear hi
    have z3 : ents (e :: acc) ++ [[V a.w.s, V a.w.b, .int .i64 a.p, .int .i64 a.q]] = ents (e :: (acc ++ [a])) := by simp [ents, En.row]
    have z4 : (ents (e :: acc)).take (acc.length + 1) = ents (e :: acc) := ents_take_all _ _ (by simp)
    have z5 : (ents (e :: acc)).length = acc.length + 1 := by simp [ents]
    have hea : ents (a :: x) = [V a.w.s, V a.w.b, .int .i64 a.p, .int .i64 a.q] :: ents x := rfl
    have hna : (((x.length + 1 : Nat) : Int) = 0) = False := by simp only [eq_iff_iff, iff_false]; omega
    have h00 : (((0 : Nat) : Int) = 0) = True := by simp
    have h01 : (0 < ((0 : Nat) : Int)) = False := by simp
    simp only [stTw]
    repeat' first
      | simp (maxSteps := 1000000) only [go_sem, Int.reduceLT, Int.reduceLE, Int.reduceToNat, Int.reduceEq, Nat.reduceMul, ↓reduceIte, Nat.reduceLT, Nat.reduceLeDiff, Nat.reduceEqDiff, Nat.reduceAdd, Nat.reduceSub, Nat.reduceBEq, reduceCtorEq, *, stTw, ents_nil, Nat.le_refl, and_self, true_and, Option.isSome_none, imp_self, En.row, List.length_cons, List.length_nil, List.length_append, List.isEmpty_cons, List.drop_zero, List.drop_succ_cons, Nat.zero_add, Nat.succ_pos, no_succ_le, eq_self, List.getElem?_cons_zero, List.take_length]
      | contradiction
      | refine wT ?_ ?_ <;> intro _
      | refine wF ?_ ?_ <;> intro _
      | refine cD ?_ ?_ <;> intro _
      | refine dO (by kernel_rfl) ?_
      | (refine ⟨(e :: (acc ++ [a]), x, []), ?_, ?_, Conv.mk ?_ ?_ ?_ ?_ ?_⟩; (· (first | omega | (simp only; omega) | (simp only [List.length_nil, List.length_cons]; omega))); (· (exact hnx)))
      | refine Fin.q ?_ ?_
      | refine Fin.qn ?_ ?_
  · simp only [List.nil_append, List.length_cons, List.length_nil] at hi hl
    have hC : acc.length + 1 + 1 ≤ capMax := by unfold capMax; omega
    by_cases hlt : ecmp s a b < 0
    · have hm : mrg s (a :: x) (b :: y) = a :: mrg s x (b :: y) := by unfold mrg; rw [List.cons_merge_cons]; simp [lt, hlt]
      have hnx : InvM s M (e :: (acc ++ [a]), x, (b :: y)) := ⟨by rw [hm] at hi; simpa using hi, by simp; omega⟩
      clear hi hm
      have z3 : ents (e :: acc) ++ [[V a.w.s, V a.w.b, .int .i64 a.p, .int .i64 a.q]] = ents (e :: (acc ++ [a])) := by simp [ents, En.row]
      have z4 : (ents (e :: acc)).take (acc.length + 1) = ents (e :: acc) := ents_take_all _ _ (by simp)
      have z5 : (ents (e :: acc)).length = acc.length + 1 := by simp [ents]
      have hea : ents (a :: x) = [V a.w.s, V a.w.b, .int .i64 a.p, .int .i64 a.q] :: ents x := rfl
      have hna : (((x.length + 1 : Nat) : Int) = 0) = False := by simp only [eq_iff_iff, iff_false]; omega
      have heb : ents (b :: y) = [V b.w.s, V b.w.b, .int .i64 b.p, .int .i64 b.q] :: ents y := rfl
      have hnb : (((y.length + 1 : Nat) : Int) = 0) = False := by simp only [eq_iff_iff, iff_false]; omega
      have h00 : (((0 : Nat) : Int) = 0) = True := by simp
      have h01 : (0 < ((0 : Nat) : Int)) = False := by simp
      simp only [stTw]
      repeat' first
        | simp (maxSteps := 1000000) only [go_sem, Int.reduceLT, Int.reduceLE, Int.reduceToNat, Int.reduceEq, Nat.reduceMul, ↓reduceIte, Nat.reduceLT, Nat.reduceLeDiff, Nat.reduceEqDiff, Nat.reduceAdd, Nat.reduceSub, Nat.reduceBEq, reduceCtorEq, *, stTw, ents_nil, Nat.le_refl, and_self, true_and, Option.isSome_none, imp_self, En.row, List.length_cons, List.length_nil, List.length_append, List.isEmpty_cons, List.drop_zero, List.drop_succ_cons, Nat.zero_add, Nat.succ_pos, no_succ_le, eq_self, List.getElem?_cons_zero, List.take_length]
        | contradiction
        | refine wT ?_ ?_ <;> intro _
        | refine wF ?_ ?_ <;> intro _
        | refine cD ?_ ?_ <;> intro _
        | refine dO (by kernel_rfl) ?_
        | refine kceLessR ?_
        | (refine ⟨(e :: (acc ++ [a]), x, (b :: y)), ?_, ?_, Conv.mk ?_ ?_ ?_ ?_ ?_⟩; (· (first | omega | (simp only; omega) | (simp only [List.length_nil, List.length_cons]; omega))); (· (exact hnx)))
        | refine Fin.q ?_ ?_
        | refine Fin.qn ?_ ?_
    · have hm : mrg s (a :: x) (b :: y) = b :: mrg s (a :: x) y := by unfold mrg; rw [List.cons_merge_cons]; simp [lt, hlt]
      have hnx : InvM s M (e :: (acc ++ [b]), (a :: x), y) := ⟨by rw [hm] at hi; simpa using hi, by simp; omega⟩
      clear hi hm
      have z3 : ents (e :: acc) ++ [[V b.w.s, V b.w.b, .int .i64 b.p, .int .i64 b.q]] = ents (e :: (acc ++ [b])) := by simp [ents, En.row]
      have z4 : (ents (e :: acc)).take (acc.length + 1) = ents (e :: acc) := ents_take_all _ _ (by simp)
      have z5 : (ents (e :: acc)).length = acc.length + 1 := by simp [ents]
      have hea : ents (a :: x) = [V a.w.s, V a.w.b, .int .i64 a.p, .int .i64 a.q] :: ents x := rfl
      have hna : (((x.length + 1 : Nat) : Int) = 0) = False := by simp only [eq_iff_iff, iff_false]; omega
      have heb : ents (b :: y) = [V b.w.s, V b.w.b, .int .i64 b.p, .int .i64 b.q] :: ents y := rfl
      have hnb : (((y.length + 1 : Nat) : Int) = 0) = False := by simp only [eq_iff_iff, iff_false]; omega
      have h00 : (((0 : Nat) : Int) = 0) = True := by simp
      have h01 : (0 < ((0 : Nat) : Int)) = False := by simp
      simp only [stTw]
      repeat' first
        | simp (maxSteps := 1000000) only [go_sem, Int.reduceLT, Int.reduceLE, Int.reduceToNat, Int.reduceEq, Nat.reduceMul, ↓reduceIte, Nat.reduceLT, Nat.reduceLeDiff, Nat.reduceEqDiff, Nat.reduceAdd, Nat.reduceSub, Nat.reduceBEq, reduceCtorEq, *, stTw, ents_nil, Nat.le_refl, and_self, true_and, Option.isSome_none, imp_self, En.row, List.length_cons, List.length_nil, List.length_append, List.isEmpty_cons, List.drop_zero, List.drop_succ_cons, Nat.zero_add, Nat.succ_pos, no_succ_le, eq_self, List.getElem?_cons_zero, List.take_length]
        | contradiction
        | refine wT ?_ ?_ <;> intro _
        | refine wF ?_ ?_ <;> intro _
        | refine cD ?_ ?_ <;> intro _
        | refine dO (by kernel_rfl) ?_
        | refine kceLessR ?_
        | (refine ⟨(e :: (acc ++ [b]), (a :: x), y), ?_, ?_, Conv.mk ?_ ?_ ?_ ?_ ?_⟩; (· (first | omega | (simp only; omega) | (simp only [List.length_nil, List.length_cons]; omega))); (· (exact hnx)))
        | refine Fin.q ?_ ?_
        | refine Fin.qn ?_ ?_
set_option maxRecDepth 20000 in
theorem kcMg2 {s : Sc} {x y : List En} {H : Heap} {slot : Nat} {K : D → List (Nat × Blk) → List (Nat × Blk) → Prop} (hK : K (.vs (ents (mrg s x y))) [] []) (hl : x.length + y.length ≤ 1000000 := by first | assumption | omega) : @callB ⟨callX Tryz.prog⟩ 83 [.agg s.row, .vs (ents x), .vs (ents y)] H slot ⟨K⟩ := by
  have he0 : rdOf H (D.idsL [.agg s.row, .vs (ents x), .vs (ents y)]) = [] := by simp (maxSteps := 1000000) only [go_sem, Int.reduceLT, Int.reduceLE, Int.reduceToNat, Int.reduceEq, Nat.reduceMul, ↓reduceIte, Nat.reduceLT, Nat.reduceLeDiff, Nat.reduceEqDiff, Nat.reduceAdd, Nat.reduceSub, Nat.reduceBEq, reduceCtorEq]
  refine call0 false (cMg2 s x y hl) ?_ ?_ (fun h => nomatch h) (by rw [he0]; exact hK)
  iterate 2 (· simp (maxSteps := 1000000) only [go_sem, Int.reduceLT, Int.reduceLE, Int.reduceToNat, Int.reduceEq, Nat.reduceMul, ↓reduceIte, Nat.reduceLT, Nat.reduceLeDiff, Nat.reduceEqDiff, Nat.reduceAdd, Nat.reduceSub, Nat.reduceBEq, reduceCtorEq])
end TR

/- The reference's sort. -/
open Go Go.Proofs Go.AH
set_option linter.unusedSimpArgs false
set_option linter.unusedVariables false
namespace TR
def allF (s : Sc) : Nat → List (List En) → List En
  | 0, _ => []
  | d + 1, L => if L.length ≤ 1 then L.getD 0 [] else mrg s (allF s d (L.take (L.length / 2))) (allF s d (L.drop (L.length / 2)))
def ones (L : List (List En)) : Prop := ∀ e, e ∈ L → e.length = 1
theorem ones_take {L : List (List En)} (h : ones L) (n : Nat) : ones (L.take n) := fun e he => h e (List.mem_of_mem_take he)
theorem ones_drop {L : List (List En)} (h : ones L) (n : Nat) : ones (L.drop n) := fun e he => h e (List.mem_of_mem_drop he)
theorem allF_len (s : Sc) : ∀ d (L : List (List En)), ones L → (allF s d L).length ≤ L.length
  | 0, L, h => by simp [allF]
  | d + 1, L, h => by
    unfold allF
    split
    · rcases L with _ | ⟨e, L⟩
      · simp
      · simp [h e (by simp)]
    · rw [mrg_len]
      have h1 := allF_len s d _ (ones_take h (L.length / 2))
      have h2 := allF_len s d _ (ones_drop h (L.length / 2))
      simp only [List.length_take, List.length_drop] at h1 h2
      omega
theorem lls_take (L : List (List En)) (n : Nat) : (lls L).take n = lls (L.take n) := by simp [lls, List.map_take]
theorem lls_drop (L : List (List En)) (n : Nat) : (lls L).drop n = lls (L.drop n) := by simp [lls, List.map_drop]
theorem lls_all (L : List (List En)) : ((lls L).all fun r => r.length == 1) = true := by simp [lls]
theorem kAllH {s : Sc} {x : List (List En)} {y : List En} (hf : FC Tryz.prog 45 [.agg s.row, .vs (lls x)] [] (.vs (ents y)) []) {H : Heap} {slot : Nat} {K : D → List (Nat × Blk) → List (Nat × Blk) → Prop} (hK : K (.vs (ents y)) [] []) : @callB ⟨callX Tryz.prog⟩ 45 [.agg s.row, .vs (lls x)] H slot ⟨K⟩ := call0 false hf rfl rfl (fun h => nomatch h) hK
set_option maxHeartbeats 2000000 in
set_option maxRecDepth 20000 in
theorem cAll (s : Sc) : ∀ d (L : List (List En)), ones L → L.length ≤ d → L.length ≤ 1000000 → FC Tryz.prog 45 [.agg s.row, .vs (lls L)] [] (.vs (ents (allF s (d + 1) L))) []
  | d, L, h1, hd, hl => by
    rcases hL : L with _ | ⟨e, _ | ⟨e2, L2⟩⟩
    · have : allF s (d + 1) [] = [] := by simp [allF]
      rw [this]
      refine FC.of_run mix Tryz.func45 rfl rfl (by simp [Tryz.ntmps45]) ?_
      repeat' first
        | simp (maxSteps := 1000000) only [go_sem, Int.reduceLT, Int.reduceLE, Int.reduceToNat, Int.reduceEq, Nat.reduceMul, ↓reduceIte, Nat.reduceLT, Nat.reduceLeDiff, Nat.reduceEqDiff, Nat.reduceAdd, Nat.reduceSub, Nat.reduceBEq, reduceCtorEq, *, lls, List.map_nil, List.length_nil]
        | contradiction
        | refine wT ?_ ?_ <;> intro _
        | refine wF ?_ ?_ <;> intro _
        | refine cD ?_ ?_ <;> intro _
        | refine dO (by kernel_rfl) ?_
        | ((first | refine Fin.q ?_ ?_ | refine Fin.qn ?_ ?_) <;> ((try simp (maxSteps := 1000000) only [go_sem, Int.reduceLT, Int.reduceLE, Int.reduceToNat, Int.reduceEq, Nat.reduceMul, ↓reduceIte, Nat.reduceLT, Nat.reduceLeDiff, Nat.reduceEqDiff, Nat.reduceAdd, Nat.reduceSub, Nat.reduceBEq, reduceCtorEq, *, lls, List.map_nil, List.length_nil]) <;> (first | done | rfl)))
    · have he : e.length = 1 := h1 e (by rw [hL]; simp)
      rcases e with _ | ⟨x, _ | ⟨y, e⟩⟩
      · simp at he
      · have : allF s (d + 1) [[x]] = [x] := by simp [allF]
        rw [this]
        have hC : 1 ≤ capMax := by decide
        refine FC.of_run mix Tryz.func45 rfl rfl (by simp [Tryz.ntmps45]) ?_
        repeat' first
          | simp (maxSteps := 1000000) only [go_sem, Int.reduceLT, Int.reduceLE, Int.reduceToNat, Int.reduceEq, Nat.reduceMul, ↓reduceIte, Nat.reduceLT, Nat.reduceLeDiff, Nat.reduceEqDiff, Nat.reduceAdd, Nat.reduceSub, Nat.reduceBEq, reduceCtorEq, *, lls, List.map_nil, List.map_cons, List.length_cons, List.length_nil, ents_consR, ents_nil, List.isEmpty_cons, List.getElem?_cons_zero, List.drop_zero]
          | contradiction
          | refine wT ?_ ?_ <;> intro _
          | refine wF ?_ ?_ <;> intro _
          | refine cD ?_ ?_ <;> intro _
          | refine dO (by kernel_rfl) ?_
          | ((first | refine Fin.q ?_ ?_ | refine Fin.qn ?_ ?_) <;> ((try simp (maxSteps := 1000000) only [go_sem, Int.reduceLT, Int.reduceLE, Int.reduceToNat, Int.reduceEq, Nat.reduceMul, ↓reduceIte, Nat.reduceLT, Nat.reduceLeDiff, Nat.reduceEqDiff, Nat.reduceAdd, Nat.reduceSub, Nat.reduceBEq, reduceCtorEq, *, lls, List.map_nil, List.map_cons, List.length_cons, List.length_nil, ents_consR, ents_nil, List.isEmpty_cons, List.getElem?_cons_zero, List.drop_zero]) <;> (first | done | rfl)))
      · simp at he
    · rcases d with _ | d
      · rw [hL] at hd; simp at hd
      · rw [← hL]
        have h2 : 2 ≤ L.length := by rw [hL]; simp
        have e1 : allF s (d + 1 + 1) L = mrg s (allF s (d + 1) (L.take (L.length / 2))) (allF s (d + 1) (L.drop (L.length / 2))) := by
          rw [allF, if_neg (by omega)]
        have i1 := cAll s d (L.take (L.length / 2)) (ones_take h1 _) (by simp; omega) (by simp; omega)
        have i2 := cAll s d (L.drop (L.length / 2)) (ones_drop h1 _) (by simp; omega) (by simp; omega)
        have n1 := allF_len s (d + 1) _ (ones_take h1 (L.length / 2))
        have n2 := allF_len s (d + 1) _ (ones_drop h1 (L.length / 2))
        simp only [List.length_take, List.length_drop] at n1 n2
        have hq : IntKind.i64.wrap ((L.length : Int).tdiv 2) = ((L.length / 2 : Nat) : Int) := by
          have : (L.length : Int).tdiv 2 = ((L.length / 2 : Nat) : Int) := by rw [show (2 : Int) = ((2 : Nat) : Int) from rfl, Int.ofNat_tdiv]
          rw [this, wrapS] <;> omega
        have m1 : L.length / 2 ≤ L.length := by omega
        have t1 := lls_take L (L.length / 2)
        have t2 := lls_drop L (L.length / 2)
        have t3 : (lls L).take L.length = lls L := List.take_of_length_le (by rw [lls_len]; exact Nat.le_refl _)
        have z0 : ((L.length : Int) = 0) = False := by simp only [eq_iff_iff, iff_false]; omega
        have z1 : ((L.length : Int) = 1) = False := by simp only [eq_iff_iff, iff_false]; omega
        have z2 : (0 : Int) ≤ ((L.length / 2 : Nat) : Int) := by omega
        have hml : (allF s (d + 1) (L.take (L.length / 2))).length + (allF s (d + 1) (L.drop (L.length / 2))).length ≤ 1000000 := by omega
        rw [e1]
        clear hL h1 hd hl h2 e1 n1 n2
        generalize allF s (d + 1) (L.take (L.length / 2)) = A at *
        generalize allF s (d + 1) (L.drop (L.length / 2)) = B at *
        generalize L.length / 2 = q at *
        refine FC.of_run mix Tryz.func45 rfl rfl (by simp [Tryz.ntmps45]) ?_
        repeat' first
          | simp (maxSteps := 1000000) only [go_sem, Int.reduceLT, Int.reduceLE, Int.reduceToNat, Int.reduceEq, Nat.reduceMul, ↓reduceIte, Nat.reduceLT, Nat.reduceLeDiff, Nat.reduceEqDiff, Nat.reduceAdd, Nat.reduceSub, Nat.reduceBEq, reduceCtorEq, *, Int.toNat_natCast, Nat.le_refl, lls_all, or_true, Option.isSome_none, imp_self, true_and, and_self]
          | contradiction
          | refine wT ?_ ?_ <;> intro _
          | refine wF ?_ ?_ <;> intro _
          | refine cD ?_ ?_ <;> intro _
          | refine dO (by kernel_rfl) ?_
          | refine (kAllH i1) ?_
          | refine (kAllH i2) ?_
          | refine kcMg2 ?_
          | refine Fin.q ?_ ?_
          | refine Fin.qn ?_ ?_
theorem kcAll {s : Sc} {L : List (List En)} {H : Heap} {slot : Nat} {K : D → List (Nat × Blk) → List (Nat × Blk) → Prop} (hK : K (.vs (ents (allF s (L.length + 1) L))) [] []) (h1 : ones L) (hl : L.length ≤ 1000000) : @callB ⟨callX Tryz.prog⟩ 45 [.agg s.row, .vs (lls L)] H slot ⟨K⟩ := call0 false (cAll s _ L h1 (Nat.le_refl _) hl) rfl rfl (fun h => nomatch h) hK
def okAll (s : Sc) (l : List En) : Prop := ∀ q, q < l.length → (l.getD q default).ok s
instance (s : Sc) (l : List En) : Decidable (okAll s l) := by unfold okAll; infer_instance
def allS (s : Sc) (l : List En) : List En := allF s ((sing l).length + 1) (sing l)
def srt (s : Sc) (l : List En) : Prop := s.ok ∧ l.length ≤ 2000 ∧ okAll s l ∧ sorted s (allS s l)
instance (s : Sc) (l : List En) : Decidable (srt s l) := by unfold srt; infer_instance
/-- What Sort hands out, at runs of 8 and a fan of 2. -/
def srtF (s : Sc) (l : List En) : List En := if srt s l then allS s l else []
def st1 (l : List En) : D := .agg []
theorem sing_ones (l : List En) : ones (sing l) := fun e he => by
  simp only [sing, List.mem_map] at he
  obtain ⟨x, _, h⟩ := he
  rw [← h]; rfl
theorem allS_len (s : Sc) (l : List En) : (allS s l).length ≤ l.length := by
  unfold allS
  exact Nat.le_trans (allF_len s ((sing l).length + 1) (sing l) (sing_ones l)) (by rw [sing_len]; exact Nat.le_refl _)
end TR

/- The reference's Sort. -/
open Go Go.Proofs Go.AH
set_option linter.unusedSimpArgs false
set_option linter.unusedVariables false
namespace TR
def ps (r : Nat) : Nat := if 2 ≤ r then ps ((r + 1) / 2) + 1 else 0
termination_by r
decreasing_by omega
theorem ps_le (r : Nat) : ps r ≤ r := by
  induction r using Nat.strongRecOn with
  | _ r ih =>
    unfold ps
    split
    · have := ih ((r + 1) / 2) (by omega)
      omega
    · omega
def runs (n : Nat) : Nat := (n + 7) / 8
def srtD (s : Sc) (l : List En) : D :=
  if okAll s l then (if sorted s (allS s l) then .tup [.vs (ents (allS s l)), .agg [.int .i64 (runs l.length), .int .i64 (ps (runs l.length)), .int .i64 ((l.length * (1 + ps (runs l.length)) : Nat) : Int)], .int .i64 0] else .tup [.vs (ents []), .agg [.int .i64 0, .int .i64 0, .int .i64 0], .int .i64 14])
  else .tup [.vs (ents []), .agg [.int .i64 0, .int .i64 0, .int .i64 0], .int .i64 10]
set_option maxHeartbeats 4000000 in
set_option maxRecDepth 20000 in
theorem cSort26 (s : Sc) (l : List En) (hs : s.ok) (hl : l.length ≤ 2000) : FC Tryz.prog 48 [.agg s.row, .vs (ents l), .int .i64 8, .int .i64 2] [] (srtD s l) [] := by
  have hl2 : ((l.length : Int) > 2000) = False := by simp only [eq_iff_iff, iff_false]; omega
  have hs1 : s.ok = True := eq_true hs
  refine FC.of_run mix Tryz.func48 rfl rfl (by simp [Tryz.ntmps48]) ?_
  repeat' first
    | simp (maxSteps := 1000000) only [go_sem, Int.reduceLT, Int.reduceLE, Int.reduceToNat, Int.reduceEq, Nat.reduceMul, ↓reduceIte, Nat.reduceLT, Nat.reduceLeDiff, Nat.reduceEqDiff, Nat.reduceAdd, Nat.reduceSub, Nat.reduceBEq, reduceCtorEq, *]
    | contradiction
    | refine wT ?_ ?_ <;> intro _
    | refine wF ?_ ?_ <;> intro _
    | refine cD ?_ ?_ <;> intro _
    | refine dO (by kernel_rfl) ?_
    | refine kcwCheckR ?_
    | refine Fin.q ?_ ?_
    | refine Fin.qn ?_ ?_
  refine AW.loopx (σ := Nat) mix (fun i => ⟨96, [(12, .int .i64 i), (10, .int .i64 0), (9, .ptr 1 1 0 0), (8, .zs), (4, .ptr 0 1 0 0), (3, .int .i64 2), (2, .int .i64 8), (1, .vs (ents l))], [some [s.row], some [[.int .i64 0, .int .i64 0, .int .i64 0]]]⟩) (fun i => i ≤ l.length ∧ ∀ q, q < i → (l.getD q default).ok s) (fun i => l.length - i) 0 ⟨by omega, fun q h => by omega⟩ (Conv.mk ?_ ?_ ?_ ?_ ?_) ?_
  iterate 5 (· (simp (maxSteps := 1000000) only [go_sem, Int.reduceLT, Int.reduceLE, Int.reduceToNat, Int.reduceEq, Nat.reduceMul, ↓reduceIte, Nat.reduceLT, Nat.reduceLeDiff, Nat.reduceEqDiff, Nat.reduceAdd, Nat.reduceSub, Nat.reduceBEq, reduceCtorEq]) <;> (first | rfl | (simp [ints]; done) | (simp [*]; done) | ((repeat' (first | rfl | apply And.intro)); done)))
  intro i ⟨hi, hq⟩
  have hv := wrap1 (i := i) (by omega)
  by_cases h : i < l.length
  · have hx := ents_get h
    by_cases hk : (l.getD i default).ok s
    · repeat' first
        | simp (maxSteps := 1000000) only [go_sem, Int.reduceLT, Int.reduceLE, Int.reduceToNat, Int.reduceEq, Nat.reduceMul, ↓reduceIte, Nat.reduceLT, Nat.reduceLeDiff, Nat.reduceEqDiff, Nat.reduceAdd, Nat.reduceSub, Nat.reduceBEq, reduceCtorEq, *]
        | contradiction
        | refine wT ?_ ?_ <;> intro _
        | refine wF ?_ ?_ <;> intro _
        | refine cD ?_ ?_ <;> intro _
        | refine dO (by kernel_rfl) ?_
        | refine kcrValidR ?_
        | (refine ⟨i + 1, ?_, ?_, Conv.mk ?_ ?_ ?_ ?_ ?_⟩; (· (first | omega | (simp only; omega) | (simp only [List.length_nil, List.length_cons]; omega))); (· (exact ⟨by omega, fun q h => by rcases (by omega : q < i ∨ q = i) with h | h; exact hq q h; exact h ▸ hk⟩)))
        | refine Fin.q ?_ ?_
        | refine Fin.qn ?_ ?_
    · have hno : ¬ okAll s l := fun h2 => hk (h2 i h)
      unfold srtD
      rw [if_neg hno]
      clear hq
      repeat' first
        | simp (maxSteps := 1000000) only [go_sem, Int.reduceLT, Int.reduceLE, Int.reduceToNat, Int.reduceEq, Nat.reduceMul, ↓reduceIte, Nat.reduceLT, Nat.reduceLeDiff, Nat.reduceEqDiff, Nat.reduceAdd, Nat.reduceSub, Nat.reduceBEq, reduceCtorEq, *, ents_nil]
        | contradiction
        | refine wT ?_ ?_ <;> intro _
        | refine wF ?_ ?_ <;> intro _
        | refine cD ?_ ?_ <;> intro _
        | refine dO (by kernel_rfl) ?_
        | refine kcrValidR ?_
        | ((first | refine Fin.q ?_ ?_ | refine Fin.qn ?_ ?_) <;> ((try simp (maxSteps := 1000000) only [go_sem, Int.reduceLT, Int.reduceLE, Int.reduceToNat, Int.reduceEq, Nat.reduceMul, ↓reduceIte, Nat.reduceLT, Nat.reduceLeDiff, Nat.reduceEqDiff, Nat.reduceAdd, Nat.reduceSub, Nat.reduceBEq, reduceCtorEq, *, ents_nil]) <;> (first | done | rfl)))
  · have hz : i = l.length := by omega
    have hok : okAll s l := fun q h => hq q (by omega)
    have hsl : l.length ≤ 4294967290 := by omega
    have ho := sing_ones l
    have hsn : (sing l).length ≤ 1000000 := by rw [sing_len]; omega
    have hal := allS_len s l
    have ha1 : (allS s l).length < 1000000000000000 := by omega
    clear hq
    unfold srtD
    rw [if_pos hok]
    have hlx : ((i : Int) < (l.length : Int)) = False := by simp only [eq_iff_iff, iff_false]; omega
    clear hz hok h hi hv
    have kA : ∀ {H : Heap} {slot : Nat} {K : D → List (Nat × Blk) → List (Nat × Blk) → Prop}, K (.vs (ents (allS s l))) [] [] → @callB ⟨callX Tryz.prog⟩ 45 [.agg s.row, .vs (lls (sing l))] H slot ⟨K⟩ := fun hK => kcAll hK ho hsn
    by_cases hso : sorted s (allS s l)
    · rw [if_pos hso]
      have hw : ∀ i, i < (allS s l).length → ((allS s l).getD i default).lens := fun i hi => ok_lens (hso i hi).1
      have hR : IntKind.i64.wrap ((IntKind.i64.wrap (IntKind.i64.wrap ((l.length : Int) + 8) - 1)).tdiv 8) = ((runs l.length : Nat) : Int) := by
        have h1 : IntKind.i64.wrap ((l.length : Int) + 8) = (l.length : Int) + 8 := by rw [wrapS] <;> omega
        have h2 : IntKind.i64.wrap ((l.length : Int) + 8 - 1) = ((l.length + 7 : Nat) : Int) := by rw [wrapS] <;> omega
        have h3 : ((l.length + 7 : Nat) : Int).tdiv 8 = (((l.length + 7) / 8 : Nat) : Int) := rfl
        rw [h1, h2, h3, wrapS]
        · rfl
        · omega
        · omega
      have hRb : runs l.length ≤ 251 := by unfold runs; omega
      generalize runs l.length = R at *
      have hal2 : (allS s l).length ≤ 4294967290 := by omega
      have hps := ps_le R
      obtain ⟨P, hP⟩ : ∃ P, ps R = P := ⟨_, rfl⟩
      rw [hP] at hps
      have hPb : P ≤ 251 := by omega
      repeat' first
        | simp (maxSteps := 1000000) only [go_sem, Int.reduceLT, Int.reduceLE, Int.reduceToNat, Int.reduceEq, Nat.reduceMul, ↓reduceIte, Nat.reduceLT, Nat.reduceLeDiff, Nat.reduceEqDiff, Nat.reduceAdd, Nat.reduceSub, Nat.reduceBEq, reduceCtorEq, *]
        | contradiction
        | refine wT ?_ ?_ <;> intro _
        | refine wF ?_ ?_ <;> intro _
        | refine cD ?_ ?_ <;> intro _
        | refine dO (by kernel_rfl) ?_
        | refine kcSing ?_
        | refine kA ?_
        | refine kcSortedR ?_
        | refine Fin.q ?_ ?_
        | refine Fin.qn ?_ ?_
      refine AW.loopx (σ := Nat × Nat) mix (fun x => ⟨96, [(15, .int .i64 (x.1 : Int)), (14, .ptr 2 1 0 0), (13, .vs (ents (allS s l))), (10, .int .i64 0), (9, .ptr 1 1 0 0), (8, .zs), (4, .ptr 0 1 0 0), (3, .int .i64 2), (1, .vs (ents l))], [some [s.row], some [[.int .i64 0, .int .i64 0, .int .i64 0]], some [[.int .i64 R, .int .i64 (x.2 : Int), .int .i64 0]]]⟩) (fun x => x.2 + ps x.1 = P ∧ x.1 ≤ 251) (fun x => x.1) (R, 0) ⟨by simpa using hP, hRb⟩ (Conv.mk ?_ ?_ ?_ ?_ ?_) ?_
      iterate 5 (· (simp (maxSteps := 1000000) only [go_sem, Int.reduceLT, Int.reduceLE, Int.reduceToNat, Int.reduceEq, Nat.reduceMul, ↓reduceIte, Nat.reduceLT, Nat.reduceLeDiff, Nat.reduceEqDiff, Nat.reduceAdd, Nat.reduceSub, Nat.reduceBEq, reduceCtorEq]) <;> (first | rfl | (simp [ints]; done) | (simp [*]; done) | ((repeat' (first | rfl | apply And.intro)); done)))
      clear hR hlx hRb hl2
      intro ⟨r, p⟩ ⟨hi, hr⟩
      simp only at hi hr
      by_cases h : 2 ≤ r
      · have e1 : ((r : Int) > 1) = True := by simp only [eq_iff_iff, iff_true]; omega
        have e2 : IntKind.i64.wrap ((IntKind.i64.wrap (IntKind.i64.wrap ((r : Int) + 2) - 1)).tdiv 2) = (((r + 1) / 2 : Nat) : Int) := by
          have h1 : IntKind.i64.wrap ((r : Int) + 2) = (r : Int) + 2 := by rw [wrapS] <;> omega
          have h2 : IntKind.i64.wrap ((r : Int) + 2 - 1) = ((r + 1 : Nat) : Int) := by rw [wrapS] <;> omega
          have h3 : ((r + 1 : Nat) : Int).tdiv 2 = (((r + 1) / 2 : Nat) : Int) := rfl
          rw [h1, h2, h3, wrapS] <;> omega
        have e3 : IntKind.i64.wrap ((p : Int) + 1) = ((p + 1 : Nat) : Int) := wrap1 (by omega)
        have hm : (r + 1) / 2 < r := by omega
        have hnx : (p + 1) + ps ((r + 1) / 2) = P := by rw [ps, if_pos h] at hi; omega
        have hnx2 : (r + 1) / 2 ≤ 251 := by omega
        clear hi
        generalize (r + 1) / 2 = r2 at *
        repeat' first
          | simp (maxSteps := 1000000) only [go_sem, Int.reduceLT, Int.reduceLE, Int.reduceToNat, Int.reduceEq, Nat.reduceMul, ↓reduceIte, Nat.reduceLT, Nat.reduceLeDiff, Nat.reduceEqDiff, Nat.reduceAdd, Nat.reduceSub, Nat.reduceBEq, reduceCtorEq, *]
          | contradiction
          | refine wT ?_ ?_ <;> intro _
          | refine wF ?_ ?_ <;> intro _
          | refine cD ?_ ?_ <;> intro _
          | refine dO (by kernel_rfl) ?_
          | (refine ⟨(r2, p + 1), ?_, ?_, Conv.mk ?_ ?_ ?_ ?_ ?_⟩; (· (first | omega | (simp only; omega) | (simp only [List.length_nil, List.length_cons]; omega))); (· (exact ⟨hnx, hnx2⟩)))
          | refine Fin.q ?_ ?_
          | refine Fin.qn ?_ ?_
      · have e1 : ((r : Int) > 1) = False := by simp only [eq_iff_iff, iff_false]; omega
        have e0 : p = P := by rw [ps, if_neg h] at hi; omega
        subst e0
        have hmul : l.length * (1 + p) ≤ 2000 * 252 := Nat.mul_le_mul hl (by omega)
        have e3 : IntKind.i64.wrap (1 + (p : Int)) = ((1 + p : Nat) : Int) := by rw [wrapS] <;> omega
        have e4 : IntKind.i64.wrap ((l.length : Int) * ((1 + p : Nat) : Int)) = ((l.length * (1 + p) : Nat) : Int) := by rw [show (l.length : Int) * ((1 + p : Nat) : Int) = ((l.length * (1 + p) : Nat) : Int) by rw [Int.natCast_mul], wrapS] <;> omega
        clear hmul hi hr h hps hP
        repeat' first
          | simp (maxSteps := 1000000) only [go_sem, Int.reduceLT, Int.reduceLE, Int.reduceToNat, Int.reduceEq, Nat.reduceMul, ↓reduceIte, Nat.reduceLT, Nat.reduceLeDiff, Nat.reduceEqDiff, Nat.reduceAdd, Nat.reduceSub, Nat.reduceBEq, reduceCtorEq, *]
          | contradiction
          | refine wT ?_ ?_ <;> intro _
          | refine wF ?_ ?_ <;> intro _
          | refine cD ?_ ?_ <;> intro _
          | refine dO (by kernel_rfl) ?_
          | refine kcCopyR ?_
          | refine Fin.q ?_ ?_
          | refine Fin.qn ?_ ?_
    · rw [if_neg hso]
      repeat' first
        | simp (maxSteps := 1000000) only [go_sem, Int.reduceLT, Int.reduceLE, Int.reduceToNat, Int.reduceEq, Nat.reduceMul, ↓reduceIte, Nat.reduceLT, Nat.reduceLeDiff, Nat.reduceEqDiff, Nat.reduceAdd, Nat.reduceSub, Nat.reduceBEq, reduceCtorEq, *, ents_nil]
        | contradiction
        | refine wT ?_ ?_ <;> intro _
        | refine wF ?_ ?_ <;> intro _
        | refine cD ?_ ?_ <;> intro _
        | refine dO (by kernel_rfl) ?_
        | refine kcSing ?_
        | refine kA ?_
        | refine kcSortedR ?_
        | ((first | refine Fin.q ?_ ?_ | refine Fin.qn ?_ ?_) <;> ((try simp (maxSteps := 1000000) only [go_sem, Int.reduceLT, Int.reduceLE, Int.reduceToNat, Int.reduceEq, Nat.reduceMul, ↓reduceIte, Nat.reduceLT, Nat.reduceLeDiff, Nat.reduceEqDiff, Nat.reduceAdd, Nat.reduceSub, Nat.reduceBEq, reduceCtorEq, *, ents_nil]) <;> (first | done | rfl)))
def srtO (s : Sc) (l : List En) : List En := if okAll s l then (if sorted s (allS s l) then allS s l else []) else []
theorem kSort26 {s : Sc} {l : List En} {H : Heap} {slot : Nat} {K : D → List (Nat × Blk) → List (Nat × Blk) → Prop} (hs : s.ok) (hl : l.length ≤ 2000) (hK : ∀ a b c d : Int, K (.tup [.vs (ents (srtO s l)), .agg [.int .i64 a, .int .i64 b, .int .i64 c], .int .i64 d]) [] []) : @callB ⟨callX Tryz.prog⟩ 48 [.agg s.row, .vs (ents l), .int .i64 8, .int .i64 2] H slot ⟨K⟩ := by
  refine call0 false (cSort26 s l hs hl) rfl (r' := srtD s l) ?_ (fun h => nomatch h) ?_
  · unfold srtD; split
    · split <;> rfl
    · rfl
  · have e : rdOf H (D.idsL [.agg s.row, .vs (ents l), .int .i64 8, .int .i64 2]) = [] := by simp [D.idsL, D.ids, rdOf, Sc.row]
    rw [e]
    unfold srtD
    unfold srtO at hK
    split
    · rename_i h
      rw [if_pos h] at hK
      split
      · rename_i h2
        rw [if_pos h2] at hK
        exact hK _ _ _ _
      · rename_i h2
        rw [if_neg h2] at hK
        exact hK _ _ _ _
    · rename_i h
      rw [if_neg h] at hK
      exact hK _ _ _ _
set_option maxHeartbeats 2000000 in
set_option maxRecDepth 20000 in
theorem cSrt (s : Sc) (l : List En) (hs : s.ok) (hl : l.length ≤ 2000) : FC Tryz.prog 23 [.agg s.row, .vs (ents l)] [] (.vs (ents (srtO s l))) [] := by
  refine FC.of_run mix Tryz.func23 rfl rfl (by simp [Tryz.ntmps23]) ?_
  repeat' first
    | simp (maxSteps := 1000000) only [go_sem, Int.reduceLT, Int.reduceLE, Int.reduceToNat, Int.reduceEq, Nat.reduceMul, ↓reduceIte, Nat.reduceLT, Nat.reduceLeDiff, Nat.reduceEqDiff, Nat.reduceAdd, Nat.reduceSub, Nat.reduceBEq, reduceCtorEq, *]
    | contradiction
    | refine wT ?_ ?_ <;> intro _
    | refine wF ?_ ?_ <;> intro _
    | refine cD ?_ ?_ <;> intro _
    | refine dO (by kernel_rfl) ?_
    | refine Fin.q ?_ ?_
    | refine Fin.qn ?_ ?_
  refine kSort26 hs hl fun a b c d => ?_
  generalize srtO s l = x
  repeat' first
    | simp (maxSteps := 1000000) only [go_sem, Int.reduceLT, Int.reduceLE, Int.reduceToNat, Int.reduceEq, Nat.reduceMul, ↓reduceIte, Nat.reduceLT, Nat.reduceLeDiff, Nat.reduceEqDiff, Nat.reduceAdd, Nat.reduceSub, Nat.reduceBEq, reduceCtorEq, *]
    | contradiction
    | refine wT ?_ ?_ <;> intro _
    | refine wF ?_ ?_ <;> intro _
    | refine cD ?_ ?_ <;> intro _
    | refine dO (by kernel_rfl) ?_
    | refine Fin.q ?_ ?_
    | refine Fin.qn ?_ ?_
set_option maxRecDepth 20000 in
theorem kcSrt {s : Sc} {l : List En} {H : Heap} {slot : Nat} {K : D → List (Nat × Blk) → List (Nat × Blk) → Prop} (hK : K (.vs (ents (srtO s l))) [] []) (hs : s.ok := by first | assumption | omega) (hl : l.length ≤ 2000 := by first | assumption | omega) : @callB ⟨callX Tryz.prog⟩ 23 [.agg s.row, .vs (ents l)] H slot ⟨K⟩ := by
  have he0 : rdOf H (D.idsL [.agg s.row, .vs (ents l)]) = [] := by simp (maxSteps := 1000000) only [go_sem, Int.reduceLT, Int.reduceLE, Int.reduceToNat, Int.reduceEq, Nat.reduceMul, ↓reduceIte, Nat.reduceLT, Nat.reduceLeDiff, Nat.reduceEqDiff, Nat.reduceAdd, Nat.reduceSub, Nat.reduceBEq, reduceCtorEq]
  refine call0 false (cSrt s l hs hl) ?_ ?_ (fun h => nomatch h) (by rw [he0]; exact hK)
  iterate 2 (· simp (maxSteps := 1000000) only [go_sem, Int.reduceLT, Int.reduceLE, Int.reduceToNat, Int.reduceEq, Nat.reduceMul, ↓reduceIte, Nat.reduceLT, Nat.reduceLeDiff, Nat.reduceEqDiff, Nat.reduceAdd, Nat.reduceSub, Nat.reduceBEq, reduceCtorEq])
theorem srtO_sorted (s : Sc) (l : List En) : sorted s (srtO s l) := by
  unfold srtO
  split
  · split
    · assumption
    · intro i hi; simp at hi
  · intro i hi; simp at hi
theorem srtO_len (s : Sc) (l : List En) : (srtO s l).length ≤ l.length := by
  unfold srtO
  split
  · split
    · exact allS_len s l
    · simp
  · simp
end TR

/- The entries of a tree. -/
open Go Go.Proofs Go.AH
set_option linter.unusedSimpArgs false
set_option linter.unusedVariables false
namespace TR
def flatE : List Nd → List En
  | [] => []
  | n :: ns => n.es ++ flatE ns
theorem flatE_app (a b : List Nd) : flatE (a ++ b) = flatE a ++ flatE b := by
  induction a with
  | nil => rfl
  | cons n a ih => simp only [List.cons_append, flatE, ih, List.append_assoc]
theorem flatE_snoc {ns : List Nd} {i : Nat} (h : i < ns.length) : flatE (ns.take (i + 1)) = flatE (ns.take i) ++ (ns.getD i default).es := by
  rw [take_snoc default h, flatE_app]
  simp [flatE]
theorem flatE_take_le (ns : List Nd) (i : Nat) : (flatE (ns.take i)).length ≤ (flatE ns).length := by
  have : flatE ns = flatE (ns.take i) ++ flatE (ns.drop i) := by rw [← flatE_app, List.take_append_drop]
  rw [this]; simp
def stEn (t : Tr) : Nat × List En → St
  | (0, []) => ⟨19, [(9, .int .i64 0), (8, .int .i64 t.ns.length), (7, .vs (nods t.ns)), (3, .zs), (2, .zs), (1, .ptr 0 1 0 0)], [some [t.row]]⟩
  | (i + 1, []) => ⟨19, [(9, .int .i64 ((i + 1 : Nat) : Int)), (8, .int .i64 t.ns.length), (7, .vs (nods t.ns)), (3, .nils), (2, .zs), (1, .ptr 0 1 0 0)], [some [t.row]]⟩
  | (i, e :: acc) => ⟨19, [(9, .int .i64 (i : Int)), (8, .int .i64 t.ns.length), (7, .vs (nods t.ns)), (3, .rs 4 2 0 (acc.length + 1) (acc.length + 1)), (2, .zs), (1, .ptr 0 1 0 0)], [some [t.row], none, some (ents (e :: acc))]⟩
set_option maxHeartbeats 2000000 in
set_option maxRecDepth 20000 in
theorem cEntr (t : Tr) (hn : t.ns.length ≤ 1000000) (hl : (flatE t.ns).length ≤ 1000000) : FC Tryz.prog 89 [.agg t.row] [] (.vs (ents (flatE t.ns))) [] := by
  refine FC.of_run mix Tryz.func89 rfl rfl (by simp [Tryz.ntmps89]) ?_
  repeat' first
    | simp (maxSteps := 1000000) only [go_sem, Int.reduceLT, Int.reduceLE, Int.reduceToNat, Int.reduceEq, Nat.reduceMul, ↓reduceIte, Nat.reduceLT, Nat.reduceLeDiff, Nat.reduceEqDiff, Nat.reduceAdd, Nat.reduceSub, Nat.reduceBEq, reduceCtorEq, *, nods_len]
    | contradiction
    | refine wT ?_ ?_ <;> intro _
    | refine wF ?_ ?_ <;> intro _
    | refine cD ?_ ?_ <;> intro _
    | refine dO (by kernel_rfl) ?_
    | refine Fin.q ?_ ?_
    | refine Fin.qn ?_ ?_
  refine AW.loopx (σ := Nat × List En) mix (stEn t) (fun p => p.1 ≤ t.ns.length ∧ p.2 = flatE (t.ns.take p.1)) (fun p => t.ns.length - p.1) (0, []) ⟨Nat.zero_le _, rfl⟩ (Conv.mk ?_ ?_ ?_ ?_ ?_) ?_
  iterate 5 (· (simp (maxSteps := 1000000) only [go_sem, Int.reduceLT, Int.reduceLE, Int.reduceToNat, Int.reduceEq, Nat.reduceMul, ↓reduceIte, Nat.reduceLT, Nat.reduceLeDiff, Nat.reduceEqDiff, Nat.reduceAdd, Nat.reduceSub, Nat.reduceBEq, reduceCtorEq, stEn]) <;> rfl)
  intro ⟨i, acc⟩ ⟨hi, ha⟩
  simp only at hi ha
  have hv := wrap1 (i := i) (by omega)
  have hfl := flatE_take_le t.ns (i + 1)
  by_cases h : i < t.ns.length
  · have hx := nods_get h
    have hf := flatE_snoc h
    rw [← ha] at hf
    rw [hf, List.length_append] at hfl
    rcases hes : (t.ns.getD i default).es with _ | ⟨x, xs⟩ <;> rw [hes] at hf hfl
    · rw [List.append_nil] at hf
      rcases acc with _ | ⟨e, acc⟩
      · clear ha
        rcases i with _ | i
        · have w01 : IntKind.i64.wrap (0 + 1) = ((0 + 1 : Nat) : Int) := by decide
          clear hv
          simp only [stEn]
          repeat' first
            | simp (maxSteps := 1000000) only [go_sem, Int.reduceLT, Int.reduceLE, Int.reduceToNat, Int.reduceEq, Nat.reduceMul, ↓reduceIte, Nat.reduceLT, Nat.reduceLeDiff, Nat.reduceEqDiff, Nat.reduceAdd, Nat.reduceSub, Nat.reduceBEq, reduceCtorEq, *, stEn, Nd.row, ents_nil, List.isEmpty_nil, List.append_nil]
            | contradiction
            | refine wT ?_ ?_ <;> intro _
            | refine wF ?_ ?_ <;> intro _
            | refine cD ?_ ?_ <;> intro _
            | refine dO (by kernel_rfl) ?_
            | (refine ⟨(0 + 1, []), ?_, ?_, Conv.mk ?_ ?_ ?_ ?_ ?_⟩; (· (first | omega | (simp only; omega) | (simp only [List.length_nil, List.length_cons]; omega))); (· (exact ⟨h, hf.symm⟩)))
            | refine Fin.q ?_ ?_
            | refine Fin.qn ?_ ?_
        · simp only [stEn]
          repeat' first
            | simp (maxSteps := 1000000) only [go_sem, Int.reduceLT, Int.reduceLE, Int.reduceToNat, Int.reduceEq, Nat.reduceMul, ↓reduceIte, Nat.reduceLT, Nat.reduceLeDiff, Nat.reduceEqDiff, Nat.reduceAdd, Nat.reduceSub, Nat.reduceBEq, reduceCtorEq, *, stEn, Nd.row, ents_nil, List.isEmpty_nil, List.append_nil]
            | contradiction
            | refine wT ?_ ?_ <;> intro _
            | refine wF ?_ ?_ <;> intro _
            | refine cD ?_ ?_ <;> intro _
            | refine dO (by kernel_rfl) ?_
            | (refine ⟨(i + 1 + 1, []), ?_, ?_, Conv.mk ?_ ?_ ?_ ?_ ?_⟩; (· (first | omega | (simp only; omega) | (simp only [List.length_nil, List.length_cons]; omega))); (· (exact ⟨h, hf.symm⟩)))
            | refine Fin.q ?_ ?_
            | refine Fin.qn ?_ ?_
      · simp only [stEn]
        clear ha
        repeat' first
          | simp (maxSteps := 1000000) only [go_sem, Int.reduceLT, Int.reduceLE, Int.reduceToNat, Int.reduceEq, Nat.reduceMul, ↓reduceIte, Nat.reduceLT, Nat.reduceLeDiff, Nat.reduceEqDiff, Nat.reduceAdd, Nat.reduceSub, Nat.reduceBEq, reduceCtorEq, *, stEn, Nd.row, ents_nil, List.isEmpty_nil, List.append_nil]
          | contradiction
          | refine wT ?_ ?_ <;> intro _
          | refine wF ?_ ?_ <;> intro _
          | refine cD ?_ ?_ <;> intro _
          | refine dO (by kernel_rfl) ?_
          | (refine ⟨(i + 1, e :: acc), ?_, ?_, Conv.mk ?_ ?_ ?_ ?_ ?_⟩; (· (first | omega | (simp only; omega) | (simp only [List.length_nil, List.length_cons]; omega))); (· (exact ⟨h, hf.symm⟩)))
          | refine Fin.q ?_ ?_
          | refine Fin.qn ?_ ?_
    · have hC : xs.length + 1 ≤ capMax := by unfold capMax; simp only [List.length_cons] at hfl; omega
      rcases acc with _ | ⟨e, acc⟩
      · rw [List.nil_append] at hf
        clear ha
        rcases i with _ | i
        · have w01 : IntKind.i64.wrap (0 + 1) = ((0 + 1 : Nat) : Int) := by decide
          clear hv
          simp only [stEn]
          repeat' first
            | simp (maxSteps := 1000000) only [go_sem, Int.reduceLT, Int.reduceLE, Int.reduceToNat, Int.reduceEq, Nat.reduceMul, ↓reduceIte, Nat.reduceLT, Nat.reduceLeDiff, Nat.reduceEqDiff, Nat.reduceAdd, Nat.reduceSub, Nat.reduceBEq, reduceCtorEq, *, stEn, Nd.row, ents_cons, List.isEmpty_cons, List.length_cons, ents_len, List.nil_append, List.take_length]
            | contradiction
            | refine wT ?_ ?_ <;> intro _
            | refine wF ?_ ?_ <;> intro _
            | refine cD ?_ ?_ <;> intro _
            | refine dO (by kernel_rfl) ?_
            | (refine ⟨(0 + 1, x :: xs), ?_, ?_, Conv.mk ?_ ?_ ?_ ?_ ?_⟩; (· (first | omega | (simp only; omega) | (simp only [List.length_nil, List.length_cons]; omega))); (· (exact ⟨h, hf.symm⟩)))
            | refine Fin.q ?_ ?_
            | refine Fin.qn ?_ ?_
        · simp only [stEn]
          repeat' first
            | simp (maxSteps := 1000000) only [go_sem, Int.reduceLT, Int.reduceLE, Int.reduceToNat, Int.reduceEq, Nat.reduceMul, ↓reduceIte, Nat.reduceLT, Nat.reduceLeDiff, Nat.reduceEqDiff, Nat.reduceAdd, Nat.reduceSub, Nat.reduceBEq, reduceCtorEq, *, stEn, Nd.row, ents_cons, List.isEmpty_cons, List.length_cons, ents_len, List.nil_append, List.take_length]
            | contradiction
            | refine wT ?_ ?_ <;> intro _
            | refine wF ?_ ?_ <;> intro _
            | refine cD ?_ ?_ <;> intro _
            | refine dO (by kernel_rfl) ?_
            | (refine ⟨(i + 1 + 1, x :: xs), ?_, ?_, Conv.mk ?_ ?_ ?_ ?_ ?_⟩; (· (first | omega | (simp only; omega) | (simp only [List.length_nil, List.length_cons]; omega))); (· (exact ⟨h, hf.symm⟩)))
            | refine Fin.q ?_ ?_
            | refine Fin.qn ?_ ?_
      · have hC2 : acc.length + 1 + (xs.length + 1) ≤ capMax := by unfold capMax; simp only [List.length_cons] at hfl; omega
        have z4 : (ents (e :: acc)).take (acc.length + 1) = ents (e :: acc) := ents_take_all _ _ (by simp)
        have z5 : (ents (e :: acc)).length = acc.length + 1 := by simp [ents]
        have z6 : ents (e :: acc) ++ ents (x :: xs) = ents (e :: (acc ++ x :: xs)) := by simp [ents]
        have z7 : (ents (x :: xs)).isEmpty = false := rfl
        have z8 : (ents (x :: xs)).length = xs.length + 1 := by simp [ents]
        have z9 : (acc.length + 1 + (xs.length + 1) ≤ acc.length + 1) = False := by simp only [eq_iff_iff, iff_false]; omega
        have z10 : (acc ++ x :: xs).length + 1 = acc.length + 1 + (xs.length + 1) := by simp; omega
        simp only [stEn]
        clear ha
        repeat' first
          | simp (maxSteps := 1000000) only [go_sem, Int.reduceLT, Int.reduceLE, Int.reduceToNat, Int.reduceEq, Nat.reduceMul, ↓reduceIte, Nat.reduceLT, Nat.reduceLeDiff, Nat.reduceEqDiff, Nat.reduceAdd, Nat.reduceSub, Nat.reduceBEq, reduceCtorEq, *, stEn, Nd.row, ents_len, List.drop_zero, eq_self]
          | contradiction
          | refine wT ?_ ?_ <;> intro _
          | refine wF ?_ ?_ <;> intro _
          | refine cD ?_ ?_ <;> intro _
          | refine dO (by kernel_rfl) ?_
          | (refine ⟨(i + 1, e :: (acc ++ x :: xs)), ?_, ?_, Conv.mk ?_ ?_ ?_ ?_ ?_⟩; (· (first | omega | (simp only; omega) | (simp only [List.length_nil, List.length_cons]; omega))); (· (exact ⟨h, hf.symm⟩)))
          | refine Fin.q ?_ ?_
          | refine Fin.qn ?_ ?_
  · have hz : t.ns.take i = t.ns := by rw [List.take_of_length_le]; omega
    rw [hz] at ha
    rw [← ha]
    clear ha hz
    rcases acc with _ | ⟨e, acc⟩
    · rcases i with _ | i
      · simp only [stEn]
        have h0 : (0 < (t.ns.length : Int)) = False := by simp only [eq_iff_iff, iff_false]; omega
        have h1 : (0 < t.ns.length) = False := by simp only [eq_iff_iff, iff_false]; omega
        repeat' first
          | simp (maxSteps := 1000000) only [go_sem, Int.reduceLT, Int.reduceLE, Int.reduceToNat, Int.reduceEq, Nat.reduceMul, ↓reduceIte, Nat.reduceLT, Nat.reduceLeDiff, Nat.reduceEqDiff, Nat.reduceAdd, Nat.reduceSub, Nat.reduceBEq, reduceCtorEq, *, ents_nil]
          | contradiction
          | refine wT ?_ ?_ <;> intro _
          | refine wF ?_ ?_ <;> intro _
          | refine cD ?_ ?_ <;> intro _
          | refine dO (by kernel_rfl) ?_
          | ((first | refine Fin.q ?_ ?_ | refine Fin.qn ?_ ?_) <;> ((try simp (maxSteps := 1000000) only [go_sem, Int.reduceLT, Int.reduceLE, Int.reduceToNat, Int.reduceEq, Nat.reduceMul, ↓reduceIte, Nat.reduceLT, Nat.reduceLeDiff, Nat.reduceEqDiff, Nat.reduceAdd, Nat.reduceSub, Nat.reduceBEq, reduceCtorEq, *, ents_nil]) <;> (first | done | rfl)))
      · simp only [stEn]
        repeat' first
          | simp (maxSteps := 1000000) only [go_sem, Int.reduceLT, Int.reduceLE, Int.reduceToNat, Int.reduceEq, Nat.reduceMul, ↓reduceIte, Nat.reduceLT, Nat.reduceLeDiff, Nat.reduceEqDiff, Nat.reduceAdd, Nat.reduceSub, Nat.reduceBEq, reduceCtorEq, *, ents_nil]
          | contradiction
          | refine wT ?_ ?_ <;> intro _
          | refine wF ?_ ?_ <;> intro _
          | refine cD ?_ ?_ <;> intro _
          | refine dO (by kernel_rfl) ?_
          | ((first | refine Fin.q ?_ ?_ | refine Fin.qn ?_ ?_) <;> ((try simp (maxSteps := 1000000) only [go_sem, Int.reduceLT, Int.reduceLE, Int.reduceToNat, Int.reduceEq, Nat.reduceMul, ↓reduceIte, Nat.reduceLT, Nat.reduceLeDiff, Nat.reduceEqDiff, Nat.reduceAdd, Nat.reduceSub, Nat.reduceBEq, reduceCtorEq, *, ents_nil]) <;> (first | done | rfl)))
    · have z4 : (ents (e :: acc)).take (acc.length + 1) = ents (e :: acc) := ents_take_all _ _ (by simp)
      have z5 : (ents (e :: acc)).length = acc.length + 1 := by simp [ents]
      simp only [stEn]
      repeat' first
        | simp (maxSteps := 1000000) only [go_sem, Int.reduceLT, Int.reduceLE, Int.reduceToNat, Int.reduceEq, Nat.reduceMul, ↓reduceIte, Nat.reduceLT, Nat.reduceLeDiff, Nat.reduceEqDiff, Nat.reduceAdd, Nat.reduceSub, Nat.reduceBEq, reduceCtorEq, *, List.drop_zero, eq_self, Nat.zero_add]
        | contradiction
        | refine wT ?_ ?_ <;> intro _
        | refine wF ?_ ?_ <;> intro _
        | refine cD ?_ ?_ <;> intro _
        | refine dO (by kernel_rfl) ?_
        | ((first | refine Fin.q ?_ ?_ | refine Fin.qn ?_ ?_) <;> ((try simp (maxSteps := 1000000) only [go_sem, Int.reduceLT, Int.reduceLE, Int.reduceToNat, Int.reduceEq, Nat.reduceMul, ↓reduceIte, Nat.reduceLT, Nat.reduceLeDiff, Nat.reduceEqDiff, Nat.reduceAdd, Nat.reduceSub, Nat.reduceBEq, reduceCtorEq, *, List.drop_zero, eq_self, Nat.zero_add]) <;> (first | done | rfl)))
set_option maxRecDepth 20000 in
theorem kcEntr {t : Tr} {H : Heap} {slot : Nat} {K : D → List (Nat × Blk) → List (Nat × Blk) → Prop} (hK : K (.vs (ents (flatE t.ns))) [] []) (hn : t.ns.length ≤ 1000000 := by first | assumption | omega) (hl : (flatE t.ns).length ≤ 1000000 := by first | assumption | omega) : @callB ⟨callX Tryz.prog⟩ 89 [.agg t.row] H slot ⟨K⟩ := by
  have he0 : rdOf H (D.idsL [.agg t.row]) = [] := by simp (maxSteps := 1000000) only [go_sem, Int.reduceLT, Int.reduceLE, Int.reduceToNat, Int.reduceEq, Nat.reduceMul, ↓reduceIte, Nat.reduceLT, Nat.reduceLeDiff, Nat.reduceEqDiff, Nat.reduceAdd, Nat.reduceSub, Nat.reduceBEq, reduceCtorEq]
  refine call0 false (cEntr t hn hl) ?_ ?_ (fun h => nomatch h) (by rw [he0]; exact hK)
  iterate 2 (· simp (maxSteps := 1000000) only [go_sem, Int.reduceLT, Int.reduceLE, Int.reduceToNat, Int.reduceEq, Nat.reduceMul, ↓reduceIte, Nat.reduceLT, Nat.reduceLeDiff, Nat.reduceEqDiff, Nat.reduceAdd, Nat.reduceSub, Nat.reduceBEq, reduceCtorEq])
end TR

/- Plain laws of what grow makes. -/
open Go Go.Proofs Go.AH
set_option linter.unusedSimpArgs false
set_option linter.unusedVariables false
namespace TR
theorem pre_filter {α : Type} {p : α → Bool} : ∀ {l : List α}, pre p l → l.filter p ++ l.filter (fun x => !p x) = l
  | [], _ => rfl
  | x :: l, h => by
    have h' : pre p l := fun i j hij y z hy hz => h (i + 1) (j + 1) (by omega) y z (by simpa using hy) (by simpa using hz)
    have ih := pre_filter h'
    by_cases hp : p x = true
    · simp [hp, ih]
    · have hn : ∀ y, y ∈ l → p y = false := fun y hy => by
        obtain ⟨j, hj⟩ := List.getElem?_of_mem hy
        rcases hpy : p y with _ | _
        · rfl
        · exact absurd (h 0 (j + 1) (by omega) x y (by simp) (by simpa using hj) hpy) hp
      have e1 : l.filter p = [] := List.filter_eq_nil_iff.2 fun y hy => by simp [hn y hy]
      have e2 : l.filter (fun x => !p x) = l := List.filter_eq_self.2 fun y hy => by simp [hn y hy]
      simp [hp, e1, e2]
theorem flatE_growF (s : Sc) (c : Int) : ∀ (d a : Nat) (w : Wd) (l : List En), Ord s d w l → flatE (growF s c d a w l) = l
  | 0, a, w, l, _ => by simp [growF, flatE]
  | d + 1, a, w, l, ho => by
    by_cases h : (l.length : Int) ≤ c ∨ fewestF w.b w.b.length < 0
    · rw [growF, if_pos h]; simp [flatE]
    · obtain ⟨h1, h2⟩ := not_or.1 h
      obtain ⟨p, hp⟩ : ∃ p : Nat, fewestF w.b w.b.length = p := ⟨(fewestF w.b w.b.length).toNat, by omega⟩
      rcases ho with ho | ⟨o1, o2, o3⟩
      · exact absurd ho h2
      · rw [hp] at o1 o2 o3
        rw [growF_split h1 hp]
        simp only [flatE, List.nil_append, flatE_app]
        rw [flatE_growF s c d _ _ _ (by simpa using o2), flatE_growF s c d _ _ _ (by simpa using o3)]
        exact pre_filter o1
theorem growF_lens (s : Sc) (c : Int) : ∀ (d a : Nat) (w : Wd) (l : List En), w.s.length ≤ 100 → w.b.length ≤ 100 → l.length ≤ 2000 → (∀ x, x ∈ l → x.lens) → ∀ n, n ∈ growF s c d a w l → n.lens
  | 0, a, w, l, h1, h2, h3, h4, n, hn => by
    simp only [growF, List.mem_singleton] at hn
    subst hn
    exact ⟨by simp only; omega, by simp only; omega, by simp only; omega, h4⟩
  | d + 1, a, w, l, h1, h2, h3, h4, n, hn => by
    by_cases h : (l.length : Int) ≤ c ∨ fewestF w.b w.b.length < 0
    · rw [growF, if_pos h] at hn
      simp only [List.mem_singleton] at hn
      subst hn
      exact ⟨by simp only; omega, by simp only; omega, by simp only; omega, h4⟩
    · obtain ⟨k1, k2⟩ := not_or.1 h
      obtain ⟨p, hp⟩ : ∃ p : Nat, fewestF w.b w.b.length = p := ⟨(fewestF w.b w.b.length).toNat, by omega⟩
      rw [growF_split k1 hp] at hn
      have hw : ∀ b, (w.with p b).s.length ≤ 100 ∧ (w.with p b).b.length ≤ 100 := fun b => by simp [Wd.with]; omega
      have hf : ∀ q : En → Bool, (l.filter q).length ≤ 2000 := fun q => Nat.le_trans (List.length_filter_le _ _) h3
      have hm : ∀ q : En → Bool, ∀ x, x ∈ l.filter q → x.lens := fun q x hx => h4 x (List.mem_filter.1 hx).1
      simp only [List.mem_cons, List.mem_append] at hn
      rcases hn with hn | hn | hn
      · subst hn
        exact ⟨by simp only; omega, by simp only; omega, by simp, by simp⟩
      · exact growF_lens s c d _ _ _ (hw 0).1 (hw 0).2 (hf _) (hm _) n hn
      · exact growF_lens s c d _ _ _ (hw 1).1 (hw 1).2 (hf _) (hm _) n hn
/-- Entries by what they are ordered by. -/
def kle (x y : En) : Prop := shuf x.w.s < shuf y.w.s ∨ shuf x.w.s = shuf y.w.s ∧ (x.p < y.p ∨ x.p = y.p ∧ x.q < y.q)
theorem ecmp_kle {s : Sc} {x y : En} (hx : x.ok s) (hy : y.ok s) : ecmp s x y < 0 ↔ kle x y := by
  rw [ecmp_lt, wcmp_of hx hy]
  unfold cmp3 kle
  split
  · omega
  · split <;> omega
theorem kle_trans {x y z : En} (h : kle x y) (g : kle y z) : kle x z := by
  unfold kle at *; omega
theorem kle_irr {x y : En} (h : kle x y) : ¬ kle y x := by
  unfold kle at *; omega
theorem getD_mem' {l : List En} {i : Nat} (h : i < l.length) : l.getD i default ∈ l := by
  simp [List.getD, h]
theorem sorted_kle {s : Sc} {l : List En} (h : sorted s l) (i : Nat) : ∀ k, i + (k + 1) < l.length → kle (l.getD i default) (l.getD (i + (k + 1)) default)
  | 0, hk => by
    have := (h (i + 1) hk).2 (by omega)
    rw [show i + 1 - 1 = i by omega] at this
    exact (ecmp_kle (h i (by omega)).1 (h (i + 1) hk).1).1 this
  | k + 1, hk => by
    have h1 := sorted_kle h i k (by omega)
    have := (h (i + (k + 1 + 1)) hk).2 (by omega)
    rw [show i + (k + 1 + 1) - 1 = i + (k + 1) by omega] at this
    exact kle_trans h1 ((ecmp_kle (h (i + (k + 1)) (by omega)).1 (h (i + (k + 1 + 1)) hk).1).1 this)
theorem sorted_asc {s : Sc} {l : List En} (h : sorted s l) : ascBy (ecmp s) l := by
  intro i j hij hj hlt
  have h1 := (ecmp_kle (h j hj).1 (h i (by omega)).1).1 hlt
  obtain ⟨k, rfl⟩ : ∃ k, j = i + (k + 1) := ⟨j - i - 1, by omega⟩
  exact kle_irr (sorted_kle h i k hj) h1
end TR

/- tree.Check at the trees of Of. -/
open Go Go.Proofs Go.AH
set_option linter.unusedSimpArgs false
set_option linter.unusedVariables false
namespace TR
set_option maxRecDepth 20000 in
theorem cChk1 (t : Tr) (e : En) : FC Tryz.prog 90 [.agg e.row, .ip t.row] [] (.bool (decide (¬ e.ok t.sc))) [] := by
  have hd : (!decide (e.ok t.sc)) = decide (¬ e.ok t.sc) := by simp
  refine FC.of_run mix Tryz.func90 rfl rfl (by simp [Tryz.ntmps90]) ?_
  repeat' first
    | simp (maxSteps := 1000000) only [go_sem, Int.reduceLT, Int.reduceLE, Int.reduceToNat, Int.reduceEq, Nat.reduceMul, ↓reduceIte, Nat.reduceLT, Nat.reduceLeDiff, Nat.reduceEqDiff, Nat.reduceAdd, Nat.reduceSub, Nat.reduceBEq, reduceCtorEq, *]
    | contradiction
    | refine wT ?_ ?_ <;> intro _
    | refine wF ?_ ?_ <;> intro _
    | refine cD ?_ ?_ <;> intro _
    | refine dO (by kernel_rfl) ?_
    | refine (kcrValid (s := t.sc) (e := e)) ?_
    | ((first | refine Fin.q ?_ ?_ | refine Fin.qn ?_ ?_) <;> ((try simp (maxSteps := 1000000) only [go_sem, Int.reduceLT, Int.reduceLE, Int.reduceToNat, Int.reduceEq, Nat.reduceMul, ↓reduceIte, Nat.reduceLT, Nat.reduceLeDiff, Nat.reduceEqDiff, Nat.reduceAdd, Nat.reduceSub, Nat.reduceBEq, reduceCtorEq, *]) <;> (first | done | rfl)))
set_option maxRecDepth 20000 in
theorem cChk2 (t : Tr) (x y : En) : FC Tryz.prog 91 [.agg x.row, .agg y.row, .ip t.row] [] (.int .i64 (ecmp t.sc x y)) [] := by
  refine FC.of_run mix Tryz.func91 rfl rfl (by simp [Tryz.ntmps91]) ?_
  repeat' first
    | simp (maxSteps := 1000000) only [go_sem, Int.reduceLT, Int.reduceLE, Int.reduceToNat, Int.reduceEq, Nat.reduceMul, ↓reduceIte, Nat.reduceLT, Nat.reduceLeDiff, Nat.reduceEqDiff, Nat.reduceAdd, Nat.reduceSub, Nat.reduceBEq, reduceCtorEq, *]
    | contradiction
    | refine wT ?_ ?_ <;> intro _
    | refine wF ?_ ?_ <;> intro _
    | refine cD ?_ ?_ <;> intro _
    | refine dO (by kernel_rfl) ?_
    | refine (kceCmp (s := t.sc)) ?_
    | refine Fin.q ?_ ?_
    | refine Fin.qn ?_ ?_
theorem nods_pure1 (t : Tr) : pureB [t.row] = true := by simp [pureB, Tr.row, D.isPur]
theorem kContT {t : Tr} {l : List En} {q : Nat} {H : Heap} (hH : hget H q = some [t.row]) {slot : Nat} {K : D → List (Nat × Blk) → List (Nat × Blk) → Prop} (hl : l.length ≤ 2000) (hok : ∀ x, x ∈ l → x.ok t.sc) (hK : K (.bool false) [] [(q, [t.row])]) : @callB ⟨callX Tryz.prog⟩ 65 [.vs (ents l), .fn 90 [.ptr q 1 0 0]] H slot ⟨K⟩ := by
  have e : rdOf H (D.idsL [.vs (ents l), .fn 90 [.ptr q 1 0 0]]) = [(q, [t.row])] := by simp [D.idsL, D.ids, rdOf, hH]
  have hb : decide (∃ x, x ∈ l ∧ ¬ x.ok t.sc) = false := by simp only [decide_eq_false_iff_not, not_exists, not_and, Decidable.not_not]; exact hok
  refine call0 true (cCont_en l 90 [.ip t.row] (fun x => ¬ x.ok t.sc) (by omega) (caps1 _) (fun x => cChk1 t x)) ?_ rfl (fun _ => rfl) ?_
  · rw [e]
    simp [trL, tr, pos, AH.look, nods_pure1]
  · rw [e, hb]; exact hK
theorem kSortT {t : Tr} {l : List En} {q : Nat} {H : Heap} (hH : hget H q = some [t.row]) {slot : Nat} {K : D → List (Nat × Blk) → List (Nat × Blk) → Prop} (hl : l.length ≤ 64) (hs : sorted t.sc l) (hK : K (.tup []) [] [(q, [t.row])]) : @callB ⟨callX Tryz.prog⟩ 57 [.vs (ents l), .fn 91 [.ptr q 1 0 0]] H slot ⟨K⟩ := by
  have e : rdOf H (D.idsL [.vs (ents l), .fn 91 [.ptr q 1 0 0]]) = [(q, [t.row])] := by simp [D.idsL, D.ids, rdOf, hH]
  refine call0 true (cSort 91 t.row (ecmp t.sc) l ⟨fun x y => cChk2 t x y, sorted_asc hs, by omega⟩ hl) ?_ rfl (fun _ => rfl) ?_
  · rw [e]
    simp [trL, tr, pos, AH.look, nods_pure1]
  · rw [e]; exact hK
theorem ofT_ok {s : Sc} {c : Int} {l : List En} (h : ofE s c l = 0) : emE s c = 0 ∧ l.length ≤ 2000 ∧ sorted s l ∧ ofT s c l = ⟨s, c, growF s c 32 0 (rootW s) l⟩ := by
  have h0 := h
  unfold ofE at h
  split at h
  · rename_i h1
    split at h
    · omega
    · split at h
      · exact ⟨h1, by omega, by assumption, by unfold ofT; rw [if_pos h0]⟩
      · omega
  · exact absurd h (by assumption)
set_option maxHeartbeats 4000000 in
set_option maxRecDepth 20000 in
theorem cChk (s : Sc) (c : Int) (l : List En) (h : ofE s c l = 0) (h64 : l.length ≤ 64) : FC Tryz.prog 50 [.agg (ofT s c l).row] [] (.int .i64 0) [] := by
  obtain ⟨h1, h2, h3, h4⟩ := ofT_ok h
  have hs := (emE_0.1 h1).1
  have ho := sorted_ord hs h3
  have hf := flatE_growF s c 32 0 (rootW s) l ho
  have hgl := growF_len s c (emE_0.1 h1).2.1 32 0 (rootW s) l
  have hrw := len8 (root_ok hs)
  have hln := growF_lens s c 32 0 (rootW s) l (by omega) (by omega) (by omega) (fun x hx => ok_lens (sorted_at h3 hx))
  rw [h4]
  have kO : ∀ {H : Heap} {slot : Nat} {K : D → List (Nat × Blk) → List (Nat × Blk) → Prop}, K (.tup [.agg (⟨s, c, growF s c 32 0 (rootW s) l⟩ : Tr).row, .int .i64 0]) [] [] → @callB ⟨callX Tryz.prog⟩ 34 [.agg s.row, .int .i64 c, .vs (ents l)] H slot ⟨K⟩ := fun hK => kcOf (by rw [h, h4]; exact hK) (by omega)
  generalize growF s c 32 0 (rootW s) l = ns at *
  have g1 : ns.length ≤ 4294967296 := by omega
  have g2 : ns.length ≤ 1000000 := by omega
  have g3 : (flatE ns).length ≤ 1000000 := by rw [hf]; omega
  have g4 : l.length ≤ 4294967296 := by omega
  have g5 : ∀ x, x ∈ l → x.ok s := fun x hx => sorted_at h3 hx
  have hd : decide (ns = ns) = true := decide_eq_true rfl
  clear hgl hrw ho h4
  refine FC.of_run mix Tryz.func50 rfl rfl (by simp [Tryz.ntmps50]) ?_
  repeat' first
    | simp (maxSteps := 1000000) only [go_sem, Int.reduceLT, Int.reduceLE, Int.reduceToNat, Int.reduceEq, Nat.reduceMul, ↓reduceIte, Nat.reduceLT, Nat.reduceLeDiff, Nat.reduceEqDiff, Nat.reduceAdd, Nat.reduceSub, Nat.reduceBEq, reduceCtorEq, *, if_pos]
    | contradiction
    | refine wT ?_ ?_ <;> intro _
    | refine wF ?_ ?_ <;> intro _
    | refine cD ?_ ?_ <;> intro _
    | refine dO (by kernel_rfl) ?_
    | refine kempty ?_
    | refine (kcEntr (t := ⟨s, c, ns⟩)) ?_
    | refine kCloneE ?_
    | refine (kContT (t := ⟨s, c, ns⟩) rfl h2 g5) ?_
    | refine (kSortT (t := ⟨s, c, ns⟩) rfl h64 h3) ?_
    | refine kO ?_
    | refine (kEqN g1 hln) ?_
    | refine Fin.q ?_ ?_
    | refine Fin.qn ?_ ?_
end TR

/- tree.Check at its calls. -/
open Go Go.Proofs Go.AH
set_option linter.unusedSimpArgs false
set_option linter.unusedVariables false
namespace TR
theorem kChk {s : Sc} {c : Int} {l : List En} {H : Heap} {slot : Nat} {K : D → List (Nat × Blk) → List (Nat × Blk) → Prop} (h : ofE s c l = 0) (h64 : l.length ≤ 64) (hK : K (.int .i64 0) [] []) : @callB ⟨callX Tryz.prog⟩ 50 [.agg (ofT s c l).row] H slot ⟨K⟩ := call0 false (cChk s c l h h64) rfl rfl (fun h => nomatch h) hK
end TR


/- The tree walked: part c. -/
import Derived.Test.YtjfgnmicjhjofaaGreatTb
import Derived.Test.YtjfgnmicjhjofaaGreatAhZ
/- tree.empty and tree.Of. -/
open Go Go.Proofs Go.AH
set_option linter.unusedSimpArgs false
set_option linter.unusedVariables false
namespace TR
def zrow : List D := [.int .i64 0, .int .i64 0, .int .i64 0, .int .i64 0, .int .i64 0, .zs, .int .i64 0, .zs]
def emE (s : Sc) (c : Int) : Int := if s.ok then (if 1 ≤ c ∧ c ≤ 64 then 0 else 24) else 10
set_option maxHeartbeats 2000000 in
set_option maxRecDepth 20000 in
theorem cempty (s : Sc) (c : Int) : FC Tryz.prog 37 [.agg s.row, .int .i64 c] [] (.tup [.agg (if emE s c = 0 then trow0 s c else zrow), .int .i64 (emE s c)]) [] := by
  by_cases h1 : s.ok
  · have hl : s.cuts.length ≤ 4294967296 := by have := h1.1.2.2.2.2.2.2; omega
    by_cases h2 : 1 ≤ c ∧ c ≤ 64
    · have e : emE s c = 0 := by simp [emE, h1, h2]
      rw [e, if_pos rfl]
      refine FC.of_run mix Tryz.func37 rfl rfl (by simp [Tryz.ntmps37]) ?_
      repeat' first
        | simp (maxSteps := 1000000) only [go_sem, Int.reduceLT, Int.reduceLE, Int.reduceToNat, Int.reduceEq, Nat.reduceMul, ↓reduceIte, Nat.reduceLT, Nat.reduceLeDiff, Nat.reduceEqDiff, Nat.reduceAdd, Nat.reduceSub, Nat.reduceBEq, reduceCtorEq, *, true_and, and_true]
        | contradiction
        | refine wntB_decT (fun _ => ?_) (fun _ => ?_)
        | refine wntB_decF (fun _ => ?_) (fun _ => ?_)
        | refine cndB_dec (fun _ => ?_) (fun _ => ?_)
        | refine drawnB_ok (by kernel_rfl) ?_
        | refine kcwCheck ?_
        | refine kccap ?_
        | refine kClone ?_
        | ((first | refine Fin.q0 ?_ ?_ | refine Fin.qn ?_ ?_) <;> ((try simp (maxSteps := 1000000) only [go_sem, Int.reduceLT, Int.reduceLE, Int.reduceToNat, Int.reduceEq, Nat.reduceMul, ↓reduceIte, Nat.reduceLT, Nat.reduceLeDiff, Nat.reduceEqDiff, Nat.reduceAdd, Nat.reduceSub, Nat.reduceBEq, reduceCtorEq, *, true_and, and_true]) <;> (skip)))
    · have e : emE s c = 24 := by simp [emE, h1, h2]
      rw [e, if_neg (by decide)]
      refine FC.of_run mix Tryz.func37 rfl rfl (by simp [Tryz.ntmps37]) ?_
      repeat' first
        | simp (maxSteps := 1000000) only [go_sem, Int.reduceLT, Int.reduceLE, Int.reduceToNat, Int.reduceEq, Nat.reduceMul, ↓reduceIte, Nat.reduceLT, Nat.reduceLeDiff, Nat.reduceEqDiff, Nat.reduceAdd, Nat.reduceSub, Nat.reduceBEq, reduceCtorEq, *]
        | contradiction
        | refine wntB_decT (fun _ => ?_) (fun _ => ?_)
        | refine wntB_decF (fun _ => ?_) (fun _ => ?_)
        | refine cndB_dec (fun _ => ?_) (fun _ => ?_)
        | refine drawnB_ok (by kernel_rfl) ?_
        | refine kcwCheck ?_
        | refine kccap ?_
        | ((first | refine Fin.q0 ?_ ?_ | refine Fin.qn ?_ ?_) <;> ((try simp (maxSteps := 1000000) only [go_sem, Int.reduceLT, Int.reduceLE, Int.reduceToNat, Int.reduceEq, Nat.reduceMul, ↓reduceIte, Nat.reduceLT, Nat.reduceLeDiff, Nat.reduceEqDiff, Nat.reduceAdd, Nat.reduceSub, Nat.reduceBEq, reduceCtorEq, *]) <;> (first | done | rfl)))
  · have e : emE s c = 10 := by simp [emE, h1]
    rw [e, if_neg (by decide)]
    refine FC.of_run mix Tryz.func37 rfl rfl (by simp [Tryz.ntmps37]) ?_
    repeat' first
      | simp (maxSteps := 1000000) only [go_sem, Int.reduceLT, Int.reduceLE, Int.reduceToNat, Int.reduceEq, Nat.reduceMul, ↓reduceIte, Nat.reduceLT, Nat.reduceLeDiff, Nat.reduceEqDiff, Nat.reduceAdd, Nat.reduceSub, Nat.reduceBEq, reduceCtorEq, *]
      | contradiction
      | refine wntB_decT (fun _ => ?_) (fun _ => ?_)
      | refine wntB_decF (fun _ => ?_) (fun _ => ?_)
      | refine cndB_dec (fun _ => ?_) (fun _ => ?_)
      | refine drawnB_ok (by kernel_rfl) ?_
      | refine kcwCheck ?_
      | ((first | refine Fin.q0 ?_ ?_ | refine Fin.qn ?_ ?_) <;> ((try simp (maxSteps := 1000000) only [go_sem, Int.reduceLT, Int.reduceLE, Int.reduceToNat, Int.reduceEq, Nat.reduceMul, ↓reduceIte, Nat.reduceLT, Nat.reduceLeDiff, Nat.reduceEqDiff, Nat.reduceAdd, Nat.reduceSub, Nat.reduceBEq, reduceCtorEq, *]) <;> (first | done | rfl)))
theorem kempty {s : Sc} {c : Int} {H : Heap} {slot : Nat} {K : D → List (Nat × Blk) → List (Nat × Blk) → Prop} (hK : K (.tup [.agg (if emE s c = 0 then trow0 s c else zrow), .int .i64 (emE s c)]) [] []) : @callB ⟨callX Tryz.prog⟩ 37 [.agg s.row, .int .i64 c] H slot ⟨K⟩ := by
  refine call0 false (cempty s c) rfl ?_ (fun h => nomatch h) hK
  split <;> rfl
end TR

/- Entries that ascend are in order at each split. -/
open Go Go.Proofs Go.AH
set_option linter.unusedSimpArgs false
set_option linter.unusedVariables false
namespace TR
theorem pre_pairwise {α : Type} {p : α → Bool} {l : List α} (h : l.Pairwise fun x y => p y = true → p x = true) : pre p l := by
  intro i j hij x y hx hy hp
  obtain ⟨h1, rfl⟩ := List.getElem?_eq_some_iff.1 hx
  obtain ⟨h2, rfl⟩ := List.getElem?_eq_some_iff.1 hy
  exact List.pairwise_iff_getElem.1 h i j h1 h2 hij hp
theorem pow_split {x : Int} {b j : Nat} (hb : b ≤ 4) (hj : j < b) : x / 2 ^ (3 - j) = x / 2 ^ (4 - b) / 2 ^ (b - 1 - j) := by
  rw [Int.ediv_ediv_of_nonneg (Int.le_of_lt (Int.pow_pos (by decide))), ← Int.pow_add]
  congr 2
  omega
theorem bits_eq {x y : Int} {b : Nat} (hb : b ≤ 4) (h : x / 2 ^ (4 - b) = y / 2 ^ (4 - b)) {j : Nat} (hj : j < b) : bitAt x (3 - j) = bitAt y (3 - j) := by
  unfold bitAt
  rw [pow_split hb hj, pow_split hb hj, h]
theorem inn_eq {b : Nat} {x y : List Int} {n : Int} : ∀ (i : Nat), (∀ q, q < i → bitAt (x.getD q 0) b = bitAt (y.getD q 0) b) → inn b x i n = inn b y i n
  | 0, _ => rfl
  | i + 1, h => by
    simp only [inn]
    rw [inn_eq i (fun q hq => h q (by omega)), h i (by omega)]
theorem out_eq {x y : List Int} (hl : x.length = y.length) : ∀ (k : Nat), (∀ j q, j < k → q < x.length → bitAt (x.getD q 0) (3 - j) = bitAt (y.getD q 0) (3 - j)) → out x k = out y k
  | 0, _ => rfl
  | k + 1, h => by
    simp only [out]
    rw [out_eq hl k (fun j q hj hq => h j q (by omega) hq), ← hl]
    exact inn_eq _ (fun q hq => h k q (by omega) hq)
/-- The bits of a word are dealt out evenly: `k + 1` to the pieces before `p`, `k` to the others. -/
structure Bal (s : Sc) (w : Wd) (k p : Nat) : Prop where
  ok : w.ok s
  hp : p < w.b.length
  lo : ∀ q, q < p → w.b.getD q 0 = ((k + 1 : Nat) : Int)
  hi : ∀ q, p ≤ q → q < w.b.length → w.b.getD q 0 = (k : Int)
theorem bal_fewest {b : List Int} {k p : Nat} (hk : k < 4) (lo : ∀ q, q < p → b.getD q 0 = ((k + 1 : Nat) : Int)) (hi : ∀ q, p ≤ q → q < b.length → b.getD q 0 = (k : Int)) : ∀ i, i ≤ b.length → fewestF b i = if p < i then (p : Int) else if 0 < i ∧ k < 3 then 0 else -1
  | 0, _ => by simp [fewestF]
  | i + 1, hl => by
    have ih := bal_fewest hk lo hi i (by omega)
    simp only [fewestF]
    rw [ih]
    unfold better
    by_cases h1 : p < i
    · have e1 := hi i (by omega) (by omega)
      have e2 := hi p (by omega) (by omega)
      rw [if_pos h1, if_pos (by omega : p < i + 1), e1, Int.toNat_natCast, e2, if_neg (by omega)]
    · rw [if_neg h1]
      by_cases h2 : p = i
      · subst h2
        have e1 := hi p (by omega) (by omega)
        rw [if_pos (by omega : p < p + 1), e1]
        by_cases h3 : 0 < p ∧ k < 3
        · rw [if_pos h3]
          have e2 := lo 0 h3.1
          rw [show Int.toNat 0 = 0 from rfl, e2, if_pos (by omega)]
        · rw [if_neg h3, if_pos (by omega)]
      · have e1 := lo i (by omega)
        rw [if_neg (by omega : ¬ p < i + 1), e1]
        by_cases h3 : 0 < i ∧ k < 3
        · rw [if_pos h3, if_pos (by omega : 0 < i + 1 ∧ k < 3)]
          have e2 := lo 0 (by omega)
          rw [show Int.toNat 0 = 0 from rfl, e2, if_neg (by omega)]
        · rw [if_neg h3]
          by_cases h4 : k < 3
          · have : i = 0 := by omega
            subst this
            rw [if_pos (by omega), if_pos (by omega)]
            rfl
          · rw [if_neg (by omega), if_neg (by omega)]
theorem bal_full {b : List Int} (h : ∀ q, q < b.length → b.getD q 0 = 4) : ∀ i, i ≤ b.length → fewestF b i = -1
  | 0, _ => rfl
  | i + 1, hl => by
    simp only [fewestF]
    rw [bal_full h i (by omega)]
    unfold better
    rw [h i (by omega), if_neg (by omega)]
/-- What a word says of the words that belong to it. -/
theorem has_at {s : Sc} {w f : Wd} (h : w.has s f) {q : Nat} (hq : q < w.b.length) {k : Nat} (hk : k ≤ 4) (hb : w.b.getD q 0 = (k : Int)) : f.s.getD q 0 / 2 ^ (4 - k) = w.s.getD q 0 := by
  have := h.2.2.2 q hq
  unfold fits at this
  rw [hb, show (4 - (k : Int)).toNat = 4 - k by omega] at this
  exact this
theorem asc_left {s : Sc} {w x y : Wd} {k p : Nat} (hB : Bal s w k p) (hk : k < 4) (hx : w.has s x) (hy : w.has s y) (hle : shuf x.s ≤ shuf y.s) (hl : (w.with p 0).has s y) : (w.with p 0).has s x := by
  have lw := len8 hB.ok
  have lx := len8 hx.2.1
  have ly := len8 hy.2.1
  have hp := hB.hp
  have hps : p < w.s.length := by omega
  have bp := hB.hi p (Nat.le_refl _) hp
  have hbw : (w.with p 0).b.getD p 0 = ((k + 1 : Nat) : Int) := by simp only [Wd.with, getD_set hp, if_true, bp]; omega
  have y1 := has_at hl (q := p) (by simpa [Wd.with] using hp) (by omega) hbw
  have xb := has_at hx hp (by omega) bp
  have yb := has_at hy hp (by omega) bp
  have sw : (w.with p 0).s.getD p 0 = 2 * w.s.getD p 0 + 0 := by simp only [Wd.with, getD_set hps, if_true]
  have hbits : ∀ q, q < w.b.length → ∀ j : Nat, (j : Int) < w.b.getD q 0 → bitAt (x.s.getD q 0) (3 - j) = bitAt (y.s.getD q 0) (3 - j) := by
    intro q hq j hj
    by_cases h : q < p
    · have e := hB.lo q h
      rw [e] at hj
      exact bits_eq (b := k + 1) (by omega) ((has_at hx hq (k := k + 1) (by omega) e).trans (has_at hy hq (k := k + 1) (by omega) e).symm) (by omega)
    · have e := hB.hi q (by omega) hq
      rw [e] at hj
      exact bits_eq (b := k) (by omega) ((has_at hx hq (k := k) (by omega) e).trans (has_at hy hq (k := k) (by omega) e).symm) (by omega)
  have hxy : x.s.length = y.s.length := by omega
  have ho : out x.s k = out y.s k := out_eq hxy k (fun j q hj hq => hbits q (by omega) j (by
    by_cases h : q < p
    · rw [hB.lo q h]; omega
    · rw [hB.hi q (by omega) (by omega)]; omega))
  have hn : inn (3 - k) x.s p (out x.s k) = inn (3 - k) y.s p (out y.s k) := by
    rw [ho]
    exact inn_eq p (fun q hq => hbits q (by omega) k (by rw [hB.lo q hq]; omega))
  have d1 : ∀ z : Int, z / 2 ^ (4 - k) = z / 2 ^ (4 - (k + 1)) / 2 := fun z => by
    rw [Int.ediv_ediv_of_nonneg (Int.le_of_lt (Int.pow_pos (by decide))), show (4 - k) = (4 - (k + 1)) + 1 by omega, Int.pow_succ]
  have e3 : (3 - k) = 4 - (k + 1) := by omega
  have hbit : ¬ bitAt (y.s.getD p 0) (3 - k) < bitAt (x.s.getD p 0) (3 - k) := fun h => by
    have := shuf_lt hxy.symm hk (by omega) ho.symm hn.symm h
    omega
  unfold bitAt at hbit
  rw [e3] at hbit
  have dx := d1 (x.s.getD p 0)
  have dy := d1 (y.s.getD p 0)
  refine ⟨with_ok hB.ok hp (by rw [bp]; omega) (by omega) (by omega), hx.2.1, hx.2.2.1, fun q hq => ?_⟩
  have hq' : q < w.b.length := by simpa [Wd.with] using hq
  by_cases h : q = p
  · subst h
    unfold fits
    rw [hbw, show (4 - ((k + 1 : Nat) : Int)).toNat = 4 - (k + 1) by omega, sw]
    rw [sw] at y1
    omega
  · have := hx.2.2.2 q hq'
    unfold fits at this ⊢
    simp only [Wd.with, getD_set hp, getD_set hps, if_neg h]
    exact this
theorem has_right {s : Sc} {w x : Wd} {k p : Nat} (hB : Bal s w k p) (hk : k < 4) (hx : w.has s x) (hl : ¬ (w.with p 0).has s x) : (w.with p 1).has s x := by
  have lw := len8 hB.ok
  have hp := hB.hp
  have hps : p < w.s.length := by omega
  have bp := hB.hi p (Nat.le_refl _) hp
  have xb := has_at hx hp (by omega) bp
  have hbw : ∀ b, (w.with p b).b.getD p 0 = ((k + 1 : Nat) : Int) := fun b => by simp only [Wd.with, getD_set hp, if_true, bp]; omega
  have sw : ∀ b, (w.with p b).s.getD p 0 = 2 * w.s.getD p 0 + b := fun b => by simp only [Wd.with, getD_set hps, if_true]
  have d1 : ∀ z : Int, z / 2 ^ (4 - k) = z / 2 ^ (4 - (k + 1)) / 2 := fun z => by
    rw [Int.ediv_ediv_of_nonneg (Int.le_of_lt (Int.pow_pos (by decide))), show (4 - k) = (4 - (k + 1)) + 1 by omega, Int.pow_succ]
  have dx := d1 (x.s.getD p 0)
  have oth : ∀ b q, q < w.b.length → q ≠ p → fits (w.with p b) x q := fun b q hq h => by
    have := hx.2.2.2 q hq
    unfold fits at this ⊢
    simp only [Wd.with, getD_set hp, getD_set hps, if_neg h]
    exact this
  have at_p : ∀ b, fits (w.with p b) x p ↔ x.s.getD p 0 / 2 ^ (4 - (k + 1)) = 2 * w.s.getD p 0 + b := fun b => by
    unfold fits
    rw [hbw, show (4 - ((k + 1 : Nat) : Int)).toNat = 4 - (k + 1) by omega, sw]
  refine ⟨with_ok hB.ok hp (by rw [bp]; omega) (by omega) (by omega), hx.2.1, hx.2.2.1, fun q hq => ?_⟩
  have hq' : q < w.b.length := by simpa [Wd.with] using hq
  by_cases h : q = p
  · subst h
    rw [at_p]
    have h0 : ¬ x.s.getD q 0 / 2 ^ (4 - (k + 1)) = 2 * w.s.getD q 0 + 0 := fun h => hl ⟨with_ok hB.ok hp (by rw [bp]; omega) (by omega) (by omega), hx.2.1, hx.2.2.1, fun r hr => by
      have hr' : r < w.b.length := by simpa [Wd.with] using hr
      by_cases e : r = q
      · subst e; exact (at_p 0).2 h
      · exact oth 0 r hr' e⟩
    omega
  · exact oth 1 q hq' h
theorem bal_with {s : Sc} {w : Wd} {k p : Nat} (hB : Bal s w k p) (hk : k < 4) {b : Int} (h0 : 0 ≤ b) (h1 : b ≤ 1) : if p + 1 < w.b.length then Bal s (w.with p b) k (p + 1) else Bal s (w.with p b) (k + 1) 0 := by
  have hp := hB.hp
  have bp := hB.hi p (Nat.le_refl _) hp
  have ho := with_ok (bit := b) hB.ok hp (by rw [bp]; omega) h0 h1
  have hlen : (w.with p b).b.length = w.b.length := by simp [Wd.with]
  have hb : ∀ q, (w.with p b).b.getD q 0 = if q = p then ((k + 1 : Nat) : Int) else w.b.getD q 0 := fun q => by
    simp only [Wd.with, getD_set hp]
    split
    · rw [bp]; omega
    · rfl
  split
  · refine ⟨ho, by omega, fun q hq => ?_, fun q h1 h2 => ?_⟩
    · rw [hb]
      split
      · rfl
      · exact hB.lo q (by omega)
    · rw [hb, if_neg (by omega)]
      exact hB.hi q (by omega) (by omega)
  · refine ⟨ho, by omega, fun q hq => by omega, fun q h1 h2 => ?_⟩
    rw [hb]
    split
    · rfl
    · exact hB.lo q (by omega)
theorem ord_of (s : Sc) : ∀ (d : Nat) (w : Wd) (k p : Nat) (l : List En), Bal s w k p → k ≤ 4 → w.b.length * (4 - k) ≤ d + p → (∀ x, x ∈ l → w.has s x.w) → l.Pairwise (fun x y => shuf x.w.s ≤ shuf y.w.s) → Ord s d w l
  | d, w, k, p, l, hB, hk4, hd, hl, ha => by
    by_cases hk : k = 4
    · subst hk
      have hp0 : p = 0 := by
        cases p with
        | zero => rfl
        | succ p =>
          have h1 := hB.lo 0 (by omega)
          have h2 := hB.ok.2.2.2 0 (by have := hB.hp; omega)
          unfold bitOK at h2
          omega
      have hf : fewestF w.b w.b.length < 0 := by
        rw [bal_full (fun q hq => by have := hB.hi q (by omega) hq; simpa using this) _ (Nat.le_refl _)]
        decide
      cases d with
      | zero => exact hf
      | succ d => exact .inl hf
    · have hk' : k < 4 := by omega
      have hp := hB.hp
      have hf : fewestF w.b w.b.length = (p : Int) := by
        rw [bal_fewest hk' hB.lo hB.hi _ (Nat.le_refl _), if_pos hp]
      have hlen : ∀ b, (w.with p b).b.length = w.b.length := fun b => by simp [Wd.with]
      have hmul : w.b.length * (4 - k) = w.b.length * (4 - (k + 1)) + w.b.length := by
        rw [show 4 - k = (4 - (k + 1)) + 1 by omega, Nat.mul_add, Nat.mul_one]
      cases d with
      | zero =>
        have : w.b.length ≤ w.b.length * (4 - k) := Nat.le_mul_of_pos_right _ (by omega)
        omega
      | succ d =>
        have rcs : ∀ (b : Int) (l' : List En), 0 ≤ b → b ≤ 1 → (∀ x, x ∈ l' → (w.with p b).has s x.w) → l'.Pairwise (fun x y => shuf x.w.s ≤ shuf y.w.s) → Ord s d (w.with p b) l' := by
          intro b l' h0 h1 hl' ha'
          have := bal_with hB hk' h0 h1
          split at this
          · exact ord_of s d _ k (p + 1) l' this hk4 (by rw [hlen]; omega) hl' ha'
          · exact ord_of s d _ (k + 1) 0 l' this (by omega) (by rw [hlen]; omega) hl' ha'
        refine .inr ?_
        rw [hf, Int.toNat_natCast]
        refine ⟨pre_pairwise ?_, rcs 0 _ (by omega) (by omega) (fun x hx => by simpa using (List.mem_filter.1 hx).2) (ha.filter _), rcs 1 _ (by omega) (by omega) (fun x hx => ?_) (ha.filter _)⟩
        · refine (List.Pairwise.and_mem.1 ha).imp ?_
          rintro x y ⟨hx, hy, hxy⟩ h
          exact decide_eq_true (asc_left hB hk' (hl x hx) (hl y hy) hxy (of_decide_eq_true h))
        · obtain ⟨h1, h2⟩ := List.mem_filter.1 hx
          exact has_right hB hk' (hl x h1) (by simpa using h2)
end TR

/- Sorted entries: what is known of them; and tree.Of. -/
open Go Go.Proofs Go.AH
set_option linter.unusedSimpArgs false
set_option linter.unusedVariables false
namespace TR
theorem wcmp_of {s : Sc} {x y : En} (hx : x.ok s) (hy : y.ok s) : wcmp s x.w y.w = cmp3 (shuf x.w.s) (shuf y.w.s) := if_pos ⟨⟨hx.1, hx.2.1⟩, ⟨hy.1, hy.2.1⟩⟩
theorem ecmp_le {s : Sc} {x y : En} (hx : x.ok s) (hy : y.ok s) (h : ecmp s x y < 0) : shuf x.w.s ≤ shuf y.w.s := by
  rw [ecmp_lt, wcmp_of hx hy] at h
  unfold cmp3 at h
  (repeat' split at h) <;> omega
theorem sorted_at {s : Sc} {l : List En} (h : sorted s l) {e : En} (he : e ∈ l) : e.ok s := by
  obtain ⟨i, hi⟩ := List.getElem?_of_mem he
  obtain ⟨h1, rfl⟩ := List.getElem?_eq_some_iff.1 hi
  have := (h i h1).1
  simpa [List.getD, h1] using this
theorem sorted_shuf {s : Sc} {l : List En} (h : sorted s l) : l.Pairwise fun x y => shuf x.w.s ≤ shuf y.w.s := by
  rw [List.pairwise_iff_getElem]
  have : ∀ (d i : Nat) (h1 : i < l.length) (h2 : i + d < l.length), shuf l[i].w.s ≤ shuf l[i + d].w.s := by
    intro d
    induction d with
    | zero => intro i h1 h2; exact Int.le_refl _
    | succ d ih =>
      intro i h1 h2
      have e1 := ih i h1 (by omega)
      have e2 := (h (i + d + 1) (by omega)).2 (by omega)
      have e3 : (l.getD (i + d + 1 - 1) default) = l[i + d] := by simp [List.getD, show i + d < l.length by omega]
      have e4 : (l.getD (i + d + 1) default) = l[i + d + 1] := by simp [List.getD, show i + d + 1 < l.length by omega]
      rw [e3, e4] at e2
      have := ecmp_le (sorted_at h (List.getElem_mem _)) (sorted_at h (List.getElem_mem _)) e2
      exact Int.le_trans e1 this
  intro i j h1 h2 hij
  have := this (j - i) i h1 (by omega)
  simpa [show i + (j - i) = j by omega] using this
theorem root_ok {s : Sc} (hs : s.ok) : (rootW s).ok s := by
  have h1 := hs.1.2.2.2.1
  refine ⟨hs, by simp [rootW, zeros]; omega, by simp [rootW, zeros]; omega, fun p hp => ?_⟩
  have hp' : p < s.pcs.toNat := by simpa [rootW, zeros] using hp
  simp [bitOK, rootW, zeros, List.getD, hp']
theorem root_zero {s : Sc} {q : Nat} (hq : q < (rootW s).b.length) : (rootW s).b.getD q 0 = 0 ∧ (rootW s).s.getD q 0 = 0 := by
  have hp' : q < s.pcs.toNat := by simpa [rootW, zeros] using hq
  simp [rootW, zeros, List.getD, hp']
theorem root_has {s : Sc} {e : En} (he : e.ok s) : (rootW s).has s e.w := by
  have hs := he.1.1
  have l1 := len8 (root_ok hs)
  have l2 := len8 he.1
  refine ⟨root_ok hs, he.1, he.2.1, fun q hq => ?_⟩
  obtain ⟨e1, e2⟩ := root_zero hq
  have := (fok_syms he.1 he.2.1).2 q (by omega)
  unfold fits
  rw [e1, e2]
  show e.w.s.getD q 0 / 16 = 0
  omega
theorem sorted_ord {s : Sc} {l : List En} (hs : s.ok) (h : sorted s l) : Ord s 32 (rootW s) l := by
  have l1 := len8 (root_ok hs)
  have h1 := hs.1.2.2.2.1
  exact ord_of s 32 (rootW s) 0 0 l ⟨root_ok hs, by omega, fun q hq => by omega, fun q _ hq => (root_zero hq).1⟩ (by omega) (by omega) (fun x hx => root_has (sorted_at h hx)) (sorted_shuf h)
theorem ok_lens {s : Sc} {e : En} (he : e.ok s) : e.lens := by
  have := len8 he.1
  exact ⟨by omega, by omega⟩
/-- What Of answers. -/
def ofE (s : Sc) (c : Int) (l : List En) : Int := if emE s c = 0 then (if 2000 < l.length then 4 else if sorted s l then 0 else 6) else emE s c
def zeroT : Tr := ⟨⟨0, 0, 0, 0, 0, []⟩, 0, []⟩
def ofT (s : Sc) (c : Int) (l : List En) : Tr := if ofE s c l = 0 then ⟨s, c, growF s c 32 0 (rootW s) l⟩ else zeroT
theorem emE_0 {s : Sc} {c : Int} : emE s c = 0 ↔ s.ok ∧ 1 ≤ c ∧ c ≤ 64 := by
  unfold emE
  split
  · split
    · simp_all
    · simp_all
  · simp_all
set_option maxHeartbeats 2000000 in
set_option maxRecDepth 20000 in
theorem cOf (s : Sc) (c : Int) (l : List En) (hl : l.length < 1000000000000000) : FC Tryz.prog 15 [.agg s.row, .int .i64 c, .vs (ents l)] [] (.tup [.agg (ofT s c l).row, .int .i64 (ofE s c l)]) [] := by
  refine FC.of_run mix Tryz.func15 rfl rfl (by simp [Tryz.ntmps15]) ?_
  by_cases h1 : emE s c = 0
  · by_cases h2 : 2000 < l.length
    · have e : ofE s c l = 4 := by simp [ofE, h1, h2]
      rw [ofT, e, if_neg (by decide)]
      have h3 : (2000 : Int) < l.length := by omega
      repeat' first
        | simp (maxSteps := 1000000) only [go_sem, Int.reduceLT, Int.reduceLE, Int.reduceToNat, Int.reduceEq, Nat.reduceMul, ↓reduceIte, Nat.reduceLT, Nat.reduceLeDiff, Nat.reduceEqDiff, Nat.reduceAdd, Nat.reduceSub, Nat.reduceBEq, reduceCtorEq, *, if_pos]
        | contradiction
        | refine wntB_decT (fun _ => ?_) (fun _ => ?_)
        | refine wntB_decF (fun _ => ?_) (fun _ => ?_)
        | refine cndB_dec (fun _ => ?_) (fun _ => ?_)
        | refine drawnB_ok (by kernel_rfl) ?_
        | refine kempty ?_
        | ((first | refine Fin.q ?_ ?_ | refine Fin.qn ?_ ?_) <;> ((try simp (maxSteps := 1000000) only [go_sem, Int.reduceLT, Int.reduceLE, Int.reduceToNat, Int.reduceEq, Nat.reduceMul, ↓reduceIte, Nat.reduceLT, Nat.reduceLeDiff, Nat.reduceEqDiff, Nat.reduceAdd, Nat.reduceSub, Nat.reduceBEq, reduceCtorEq, *, if_pos]) <;> (first | done | rfl)))
    · by_cases h3 : sorted s l
      · have e : ofE s c l = 0 := by simp [ofE, h1, h2, h3]
        rw [ofT, e, if_pos rfl]
        have h4 : ¬ (2000 : Int) < l.length := by omega
        have hs := (emE_0.1 h1).1
        have hg := cgrow0 s c (emE_0.1 h1).2.1 32 (rootW s) l (root_ok hs) (sorted_ord hs h3) (fun x hx => ok_lens (sorted_at h3 hx)) (by omega) (by omega)
        generalize growF s c 32 0 (rootW s) l = G at hg
        repeat' first
          | simp (maxSteps := 1000000) only [go_sem, Int.reduceLT, Int.reduceLE, Int.reduceToNat, Int.reduceEq, Nat.reduceMul, ↓reduceIte, Nat.reduceLT, Nat.reduceLeDiff, Nat.reduceEqDiff, Nat.reduceAdd, Nat.reduceSub, Nat.reduceBEq, reduceCtorEq, *]
          | contradiction
          | refine wntB_decT (fun _ => ?_) (fun _ => ?_)
          | refine wntB_decF (fun _ => ?_) (fun _ => ?_)
          | refine cndB_dec (fun _ => ?_) (fun _ => ?_)
          | refine drawnB_ok (by kernel_rfl) ?_
          | refine kempty ?_
          | refine kcSorted ?_
          | refine kcRoot ?_
          | ((first | refine Fin.q ?_ ?_ | refine Fin.qn ?_ ?_) <;> ((try simp (maxSteps := 1000000) only [go_sem, Int.reduceLT, Int.reduceLE, Int.reduceToNat, Int.reduceEq, Nat.reduceMul, ↓reduceIte, Nat.reduceLT, Nat.reduceLeDiff, Nat.reduceEqDiff, Nat.reduceAdd, Nat.reduceSub, Nat.reduceBEq, reduceCtorEq, *]) <;> (skip)))
        refine callX2 [14] hg (by decide) ?_ ?_ ⟨by simp, by simp⟩ (r' := .int .i64 0) (outs' := [[trow s c 28 G.length], nods G]) rfl ?_ ?_
        iterate 3 (· simp (maxSteps := 1000000) only [go_sem, Int.reduceLT, Int.reduceLE, Int.reduceToNat, Int.reduceEq, Nat.reduceMul, ↓reduceIte, Nat.reduceLT, Nat.reduceLeDiff, Nat.reduceEqDiff, Nat.reduceAdd, Nat.reduceSub, Nat.reduceBEq, reduceCtorEq])
        repeat' first
          | simp (maxSteps := 1000000) only [go_sem, Int.reduceLT, Int.reduceLE, Int.reduceToNat, Int.reduceEq, Nat.reduceMul, ↓reduceIte, Nat.reduceLT, Nat.reduceLeDiff, Nat.reduceEqDiff, Nat.reduceAdd, Nat.reduceSub, Nat.reduceBEq, reduceCtorEq, *, List.drop_zero, Nat.zero_add]
          | contradiction
          | refine wntB_decT (fun _ => ?_) (fun _ => ?_)
          | refine wntB_decF (fun _ => ?_) (fun _ => ?_)
          | refine cndB_dec (fun _ => ?_) (fun _ => ?_)
          | refine drawnB_ok (by kernel_rfl) ?_
          | ((first | refine Fin.q ?_ ?_ | refine Fin.qn ?_ ?_) <;> ((try simp (maxSteps := 1000000) only [go_sem, Int.reduceLT, Int.reduceLE, Int.reduceToNat, Int.reduceEq, Nat.reduceMul, ↓reduceIte, Nat.reduceLT, Nat.reduceLeDiff, Nat.reduceEqDiff, Nat.reduceAdd, Nat.reduceSub, Nat.reduceBEq, reduceCtorEq, *, List.drop_zero, Nat.zero_add]) <;> (first | done | rfl)))
      · have e : ofE s c l = 6 := by simp [ofE, h1, h2, h3]
        rw [ofT, e, if_neg (by decide)]
        have h4 : ¬ (2000 : Int) < l.length := by omega
        repeat' first
          | simp (maxSteps := 1000000) only [go_sem, Int.reduceLT, Int.reduceLE, Int.reduceToNat, Int.reduceEq, Nat.reduceMul, ↓reduceIte, Nat.reduceLT, Nat.reduceLeDiff, Nat.reduceEqDiff, Nat.reduceAdd, Nat.reduceSub, Nat.reduceBEq, reduceCtorEq, *]
          | contradiction
          | refine wntB_decT (fun _ => ?_) (fun _ => ?_)
          | refine wntB_decF (fun _ => ?_) (fun _ => ?_)
          | refine cndB_dec (fun _ => ?_) (fun _ => ?_)
          | refine drawnB_ok (by kernel_rfl) ?_
          | refine kempty ?_
          | refine kcSorted ?_
          | ((first | refine Fin.q ?_ ?_ | refine Fin.qn ?_ ?_) <;> ((try simp (maxSteps := 1000000) only [go_sem, Int.reduceLT, Int.reduceLE, Int.reduceToNat, Int.reduceEq, Nat.reduceMul, ↓reduceIte, Nat.reduceLT, Nat.reduceLeDiff, Nat.reduceEqDiff, Nat.reduceAdd, Nat.reduceSub, Nat.reduceBEq, reduceCtorEq, *]) <;> (first | done | rfl)))
  · have e : ofE s c l = emE s c := by simp [ofE, h1]
    rw [ofT, e, if_neg h1]
    repeat' first
      | simp (maxSteps := 1000000) only [go_sem, Int.reduceLT, Int.reduceLE, Int.reduceToNat, Int.reduceEq, Nat.reduceMul, ↓reduceIte, Nat.reduceLT, Nat.reduceLeDiff, Nat.reduceEqDiff, Nat.reduceAdd, Nat.reduceSub, Nat.reduceBEq, reduceCtorEq, *]
      | contradiction
      | refine wntB_decT (fun _ => ?_) (fun _ => ?_)
      | refine wntB_decF (fun _ => ?_) (fun _ => ?_)
      | refine cndB_dec (fun _ => ?_) (fun _ => ?_)
      | refine drawnB_ok (by kernel_rfl) ?_
      | refine kempty ?_
      | ((first | refine Fin.q ?_ ?_ | refine Fin.qn ?_ ?_) <;> ((try simp (maxSteps := 1000000) only [go_sem, Int.reduceLT, Int.reduceLE, Int.reduceToNat, Int.reduceEq, Nat.reduceMul, ↓reduceIte, Nat.reduceLT, Nat.reduceLeDiff, Nat.reduceEqDiff, Nat.reduceAdd, Nat.reduceSub, Nat.reduceBEq, reduceCtorEq, *]) <;> (first | done | rfl)))
set_option maxRecDepth 20000 in
theorem kcOf {s : Sc} {c : Int} {l : List En} {H : Heap} {slot : Nat} {K : D → List (Nat × Blk) → List (Nat × Blk) → Prop} (hK : K (.tup [.agg (ofT s c l).row, .int .i64 (ofE s c l)]) [] []) (hl : l.length < 1000000000000000 := by first | assumption | omega) : @callB ⟨callX Tryz.prog⟩ 15 [.agg s.row, .int .i64 c, .vs (ents l)] H slot ⟨K⟩ := by
  have he0 : rdOf H (D.idsL [.agg s.row, .int .i64 c, .vs (ents l)]) = [] := by simp (maxSteps := 1000000) only [go_sem, Int.reduceLT, Int.reduceLE, Int.reduceToNat, Int.reduceEq, Nat.reduceMul, ↓reduceIte, Nat.reduceLT, Nat.reduceLeDiff, Nat.reduceEqDiff, Nat.reduceAdd, Nat.reduceSub, Nat.reduceBEq, reduceCtorEq]
  refine call0 false (cOf s c l hl) ?_ ?_ (fun h => nomatch h) (by rw [he0]; exact hK)
  iterate 2 (· simp (maxSteps := 1000000) only [go_sem, Int.reduceLT, Int.reduceLE, Int.reduceToNat, Int.reduceEq, Nat.reduceMul, ↓reduceIte, Nat.reduceLT, Nat.reduceLeDiff, Nat.reduceEqDiff, Nat.reduceAdd, Nat.reduceSub, Nat.reduceBEq, reduceCtorEq])
end TR

/- slices.SortFunc at entries that are sorted. -/
open Go Go.Proofs Go.AH
set_option linter.unusedSimpArgs false
set_option linter.unusedVariables false
namespace TR
theorem kcmp {g : Nat} {cells : List D} {cf : En → En → Int} (hg : ∀ x y : En, FC Tryz.prog g [.agg x.row, .agg y.row, .ip cells] [] (.int .i64 (cf x y)) []) (x y : En) {H : Heap} {slot : Nat} {K : D → List (Nat × Blk) → List (Nat × Blk) → Prop} (hK : K (.int .i64 (cf x y)) [] []) : @callB ⟨callX Tryz.prog⟩ g [.agg x.row, .agg y.row, .ip cells] H slot ⟨K⟩ :=
  call0 true (hg x y) rfl rfl (fun _ => rfl) hK
/-- No later entry is less than an earlier one. -/
def ascBy (cf : En → En → Int) (l : List En) : Prop := ∀ i j, i < j → j < l.length → ¬ cf (l.getD j default) (l.getD i default) < 0
structure Srt (g : Nat) (cells : List D) (cf : En → En → Int) (l : List En) : Prop where
  hg : ∀ x y : En, FC Tryz.prog g [.agg x.row, .agg y.row, .ip cells] [] (.int .i64 (cf x y)) []
  ha : ascBy cf l
  hl : l.length < 1000000
set_option maxHeartbeats 2000000 in
set_option maxRecDepth 20000 in
theorem cins (g : Nat) (cells : List D) (cf : En → En → Int) (l : List En) (hS : Srt g cells cf l) : FC Tryz.prog 143 [.vs (ents l), .int .i64 0, .int .i64 l.length, .fn g [.ip cells]] [] (.tup []) [] := by
  refine FC.of_run mix Tryz.func143 rfl rfl (by simp [Tryz.ntmps143]) ?_
  obtain ⟨hg, ha, hl⟩ := hS
  have hw0 : IntKind.i64.wrap ((0 : Int) + 1) = 1 := by decide
  repeat' first
    | simp (maxSteps := 1000000) only [go_sem, Int.reduceLT, Int.reduceLE, Int.reduceToNat, Int.reduceEq, Nat.reduceMul, ↓reduceIte, Nat.reduceLT, Nat.reduceLeDiff, Nat.reduceEqDiff, Nat.reduceAdd, Nat.reduceSub, Nat.reduceBEq, reduceCtorEq, *]
    | contradiction
    | refine wntB_decT (fun _ => ?_) (fun _ => ?_)
    | refine wntB_decF (fun _ => ?_) (fun _ => ?_)
    | refine cndB_dec (fun _ => ?_) (fun _ => ?_)
    | refine drawnB_ok (by kernel_rfl) ?_
    | ((first | refine Fin.q ?_ ?_ | refine Fin.qn ?_ ?_) <;> ((try simp (maxSteps := 1000000) only [go_sem, Int.reduceLT, Int.reduceLE, Int.reduceToNat, Int.reduceEq, Nat.reduceMul, ↓reduceIte, Nat.reduceLT, Nat.reduceLeDiff, Nat.reduceEqDiff, Nat.reduceAdd, Nat.reduceSub, Nat.reduceBEq, reduceCtorEq, *]) <;> (skip)))
  refine AW.loopx (σ := Nat) mix (fun i => ⟨53, [(8, .int .i64 ((i + 1 : Nat) : Int)), (3, .fn g [.ip cells]), (2, .int .i64 l.length), (1, .int .i64 0), (0, .vs (ents l))], []⟩) (fun i => i ≤ l.length) (fun i => l.length - i) 0 (by omega) (Conv.mk ?_ ?_ ?_ ?_ ?_) ?_
  iterate 5 (· (simp (maxSteps := 1000000) only [go_sem, Int.reduceLT, Int.reduceLE, Int.reduceToNat, Int.reduceEq, Nat.reduceMul, ↓reduceIte, Nat.reduceLT, Nat.reduceLeDiff, Nat.reduceEqDiff, Nat.reduceAdd, Nat.reduceSub, Nat.reduceBEq, reduceCtorEq, Nat.zero_add]) <;> (first | rfl | (simp [ints]; done) | (simp [*]; done) | ((repeat' (first | rfl | apply And.intro)); done)))
  intro i hi
  by_cases h : i + 1 < l.length
  · repeat' first
      | simp (maxSteps := 1000000) only [go_sem, Int.reduceLT, Int.reduceLE, Int.reduceToNat, Int.reduceEq, Nat.reduceMul, ↓reduceIte, Nat.reduceLT, Nat.reduceLeDiff, Nat.reduceEqDiff, Nat.reduceAdd, Nat.reduceSub, Nat.reduceBEq, reduceCtorEq, *]
      | contradiction
      | refine wntB_decT (fun _ => ?_) (fun _ => ?_)
      | refine wntB_decF (fun _ => ?_) (fun _ => ?_)
      | refine cndB_dec (fun _ => ?_) (fun _ => ?_)
      | refine drawnB_ok (by kernel_rfl) ?_
      | ((first | refine Fin.q ?_ ?_ | refine Fin.qn ?_ ?_) <;> ((try simp (maxSteps := 1000000) only [go_sem, Int.reduceLT, Int.reduceLE, Int.reduceToNat, Int.reduceEq, Nat.reduceMul, ↓reduceIte, Nat.reduceLT, Nat.reduceLeDiff, Nat.reduceEqDiff, Nat.reduceAdd, Nat.reduceSub, Nat.reduceBEq, reduceCtorEq, *]) <;> (skip)))
    refine AW.loopx (σ := Unit) mix (fun _u => ⟨53, [(9, .int .i64 ((i + 1 : Nat) : Int)), (8, .int .i64 ((i + 1 : Nat) : Int)), (3, .fn g [.ip cells]), (2, .int .i64 l.length), (1, .int .i64 0), (0, .vs (ents l))], []⟩) (fun _u => True) (fun _u => 0) () trivial (Conv.mk ?_ ?_ ?_ ?_ ?_) ?_
    iterate 5 (· (simp (maxSteps := 1000000) only [go_sem, Int.reduceLT, Int.reduceLE, Int.reduceToNat, Int.reduceEq, Nat.reduceMul, ↓reduceIte, Nat.reduceLT, Nat.reduceLeDiff, Nat.reduceEqDiff, Nat.reduceAdd, Nat.reduceSub, Nat.reduceBEq, reduceCtorEq]) <;> (first | rfl | (simp [ints]; done) | (simp [*]; done) | ((repeat' (first | rfl | apply And.intro)); done)))
    intro _ _
    have hx := ents_get h
    have hy := ents_get (l := l) (i := i) (by omega)
    have hc := ha i (i + 1) (by omega) h
    have hp : 0 < i + 1 := by omega
    have hw1 : IntKind.i64.wrap (((i + 1 : Nat) : Int) - 1) = (i : Int) := by rw [wrapS] <;> omega
    have hw2 : IntKind.i64.wrap (((i + 1 : Nat) : Int) + 1) = ((i + 1 + 1 : Nat) : Int) := wrap1 (by omega)
    repeat' first
      | (refine ⟨i + 1, ?_, ?_, Conv.mk ?_ ?_ ?_ ?_ ?_⟩; (· (first | omega | (simp only; omega) | (simp only [List.length_nil, List.length_cons]; omega))); (· (omega)); (all_goals simp (maxSteps := 1000000) only [go_sem, Int.reduceLT, Int.reduceLE, Int.reduceToNat, Int.reduceEq, Nat.reduceMul, ↓reduceIte, Nat.reduceLT, Nat.reduceLeDiff, Nat.reduceEqDiff, Nat.reduceAdd, Nat.reduceSub, Nat.reduceBEq, reduceCtorEq, *]); done)
      | simp (maxSteps := 1000000) only [go_sem, Int.reduceLT, Int.reduceLE, Int.reduceToNat, Int.reduceEq, Nat.reduceMul, ↓reduceIte, Nat.reduceLT, Nat.reduceLeDiff, Nat.reduceEqDiff, Nat.reduceAdd, Nat.reduceSub, Nat.reduceBEq, reduceCtorEq, *]
      | contradiction
      | refine wntB_decT (fun _ => ?_) (fun _ => ?_)
      | refine wntB_decF (fun _ => ?_) (fun _ => ?_)
      | refine cndB_dec (fun _ => ?_) (fun _ => ?_)
      | refine drawnB_ok (by kernel_rfl) ?_
      | refine (kcmp hg _ _) ?_
      | ((first | refine Fin.q ?_ ?_ | refine Fin.qn ?_ ?_) <;> ((try simp (maxSteps := 1000000) only [go_sem, Int.reduceLT, Int.reduceLE, Int.reduceToNat, Int.reduceEq, Nat.reduceMul, ↓reduceIte, Nat.reduceLT, Nat.reduceLeDiff, Nat.reduceEqDiff, Nat.reduceAdd, Nat.reduceSub, Nat.reduceBEq, reduceCtorEq, *]) <;> (skip)))
  · repeat' first
      | simp (maxSteps := 1000000) only [go_sem, Int.reduceLT, Int.reduceLE, Int.reduceToNat, Int.reduceEq, Nat.reduceMul, ↓reduceIte, Nat.reduceLT, Nat.reduceLeDiff, Nat.reduceEqDiff, Nat.reduceAdd, Nat.reduceSub, Nat.reduceBEq, reduceCtorEq, *]
      | contradiction
      | refine wntB_decT (fun _ => ?_) (fun _ => ?_)
      | refine wntB_decF (fun _ => ?_) (fun _ => ?_)
      | refine cndB_dec (fun _ => ?_) (fun _ => ?_)
      | refine drawnB_ok (by kernel_rfl) ?_
      | ((first | refine Fin.q ?_ ?_ | refine Fin.qn ?_ ?_) <;> ((try simp (maxSteps := 1000000) only [go_sem, Int.reduceLT, Int.reduceLE, Int.reduceToNat, Int.reduceEq, Nat.reduceMul, ↓reduceIte, Nat.reduceLT, Nat.reduceLeDiff, Nat.reduceEqDiff, Nat.reduceAdd, Nat.reduceSub, Nat.reduceBEq, reduceCtorEq, *]) <;> (skip)))
theorem kins {g : Nat} {cells : List D} {cf : En → En → Int} {l : List En} (hS : Srt g cells cf l) {H : Heap} {slot : Nat} {K : D → List (Nat × Blk) → List (Nat × Blk) → Prop} (hK : K (.tup []) [] []) : @callB ⟨callX Tryz.prog⟩ 143 [.vs (ents l), .int .i64 0, .int .i64 l.length, .fn g [.ip cells]] H slot ⟨K⟩ := call0 true (cins g cells cf l hS) rfl rfl (fun _ => rfl) hK
set_option maxHeartbeats 2000000 in
set_option maxRecDepth 20000 in
theorem cord2 (g : Nat) (cells : List D) (cf : En → En → Int) (l : List En) (a b : Nat) (hS : Srt g cells cf l) (hab : a < b) (hb : b < l.length) : FC Tryz.prog 165 [.vs (ents l), .int .i64 a, .int .i64 b, .ip [.int .i64 0], .fn g [.ip cells]] [] (.tup [.int .i64 a, .int .i64 b]) [] := by
  refine FC.of_run mix Tryz.func165 rfl rfl (by simp [Tryz.ntmps165]) ?_
  obtain ⟨hg, ha, hl⟩ := hS
  have hx := ents_get hb
  have hy := ents_get (l := l) (i := a) (by omega)
  have hc := ha a b hab hb
  have ha2 : a < l.length := by omega
  repeat' first
    | simp (maxSteps := 1000000) only [go_sem, Int.reduceLT, Int.reduceLE, Int.reduceToNat, Int.reduceEq, Nat.reduceMul, ↓reduceIte, Nat.reduceLT, Nat.reduceLeDiff, Nat.reduceEqDiff, Nat.reduceAdd, Nat.reduceSub, Nat.reduceBEq, reduceCtorEq, *]
    | contradiction
    | refine wntB_decT (fun _ => ?_) (fun _ => ?_)
    | refine wntB_decF (fun _ => ?_) (fun _ => ?_)
    | refine cndB_dec (fun _ => ?_) (fun _ => ?_)
    | refine drawnB_ok (by kernel_rfl) ?_
    | refine (kcmp hg _ _) ?_
    | ((first | refine Fin.q ?_ ?_ | refine Fin.qn ?_ ?_) <;> ((try simp (maxSteps := 1000000) only [go_sem, Int.reduceLT, Int.reduceLE, Int.reduceToNat, Int.reduceEq, Nat.reduceMul, ↓reduceIte, Nat.reduceLT, Nat.reduceLeDiff, Nat.reduceEqDiff, Nat.reduceAdd, Nat.reduceSub, Nat.reduceBEq, reduceCtorEq, *]) <;> (skip)))
theorem kord2 {g : Nat} {cells : List D} {cf : En → En → Int} {l : List En} (hS : Srt g cells cf l) {a b : Nat} {H : Heap} {slot : Nat} {K : D → List (Nat × Blk) → List (Nat × Blk) → Prop} (hK : K (.tup [.int .i64 a, .int .i64 b]) [] []) (hab : a < b := by omega) (hb : b < l.length := by omega) : @callB ⟨callX Tryz.prog⟩ 165 [.vs (ents l), .int .i64 a, .int .i64 b, .ip [.int .i64 0], .fn g [.ip cells]] H slot ⟨K⟩ := call0 true (cord2 g cells cf l a b hS hab hb) rfl rfl (fun _ => rfl) hK
set_option maxHeartbeats 2000000 in
set_option maxRecDepth 20000 in
theorem cmed (g : Nat) (cells : List D) (cf : En → En → Int) (l : List En) (a b c : Nat) (hS : Srt g cells cf l) (hab : a < b) (hbc : b < c) (hc : c < l.length) : FC Tryz.prog 163 [.vs (ents l), .int .i64 a, .int .i64 b, .int .i64 c, .ip [.int .i64 0], .fn g [.ip cells]] [] (.int .i64 b) [] := by
  refine FC.of_run mix Tryz.func163 rfl rfl (by simp [Tryz.ntmps163]) ?_
  repeat' first
    | simp (maxSteps := 1000000) only [go_sem, Int.reduceLT, Int.reduceLE, Int.reduceToNat, Int.reduceEq, Nat.reduceMul, ↓reduceIte, Nat.reduceLT, Nat.reduceLeDiff, Nat.reduceEqDiff, Nat.reduceAdd, Nat.reduceSub, Nat.reduceBEq, reduceCtorEq, *]
    | contradiction
    | refine wntB_decT (fun _ => ?_) (fun _ => ?_)
    | refine wntB_decF (fun _ => ?_) (fun _ => ?_)
    | refine cndB_dec (fun _ => ?_) (fun _ => ?_)
    | refine drawnB_ok (by kernel_rfl) ?_
    | refine (kord2 hS) ?_
    | ((first | refine Fin.q ?_ ?_ | refine Fin.qn ?_ ?_) <;> ((try simp (maxSteps := 1000000) only [go_sem, Int.reduceLT, Int.reduceLE, Int.reduceToNat, Int.reduceEq, Nat.reduceMul, ↓reduceIte, Nat.reduceLT, Nat.reduceLeDiff, Nat.reduceEqDiff, Nat.reduceAdd, Nat.reduceSub, Nat.reduceBEq, reduceCtorEq, *]) <;> (skip)))
theorem kmed {g : Nat} {cells : List D} {cf : En → En → Int} {l : List En} (hS : Srt g cells cf l) {a b c : Nat} {H : Heap} {slot : Nat} {K : D → List (Nat × Blk) → List (Nat × Blk) → Prop} (hK : K (.int .i64 b) [] []) (hab : a < b := by omega) (hbc : b < c := by omega) (hc : c < l.length := by omega) : @callB ⟨callX Tryz.prog⟩ 163 [.vs (ents l), .int .i64 a, .int .i64 b, .int .i64 c, .ip [.int .i64 0], .fn g [.ip cells]] H slot ⟨K⟩ := call0 true (cmed g cells cf l a b c hS hab hbc hc) rfl rfl (fun _ => rfl) hK
set_option maxHeartbeats 2000000 in
set_option maxRecDepth 20000 in
theorem cmadj (g : Nat) (cells : List D) (cf : En → En → Int) (l : List En) (a : Nat) (hS : Srt g cells cf l) (h0 : 0 < a) (h1 : a + 1 < l.length) : FC Tryz.prog 162 [.vs (ents l), .int .i64 a, .ip [.int .i64 0], .fn g [.ip cells]] [] (.int .i64 a) [] := by
  refine FC.of_run mix Tryz.func162 rfl rfl (by simp [Tryz.ntmps162]) ?_
  have hl := hS.hl
  have w1 : IntKind.i64.wrap ((a : Int) - 1) = ((a - 1 : Nat) : Int) := wrapm1 h0 (by omega)
  have w2 := wrap1 (i := a) (by omega)
  repeat' first
    | simp (maxSteps := 1000000) only [go_sem, Int.reduceLT, Int.reduceLE, Int.reduceToNat, Int.reduceEq, Nat.reduceMul, ↓reduceIte, Nat.reduceLT, Nat.reduceLeDiff, Nat.reduceEqDiff, Nat.reduceAdd, Nat.reduceSub, Nat.reduceBEq, reduceCtorEq, *]
    | contradiction
    | refine wntB_decT (fun _ => ?_) (fun _ => ?_)
    | refine wntB_decF (fun _ => ?_) (fun _ => ?_)
    | refine cndB_dec (fun _ => ?_) (fun _ => ?_)
    | refine drawnB_ok (by kernel_rfl) ?_
    | refine (kmed hS) ?_
    | ((first | refine Fin.q ?_ ?_ | refine Fin.qn ?_ ?_) <;> ((try simp (maxSteps := 1000000) only [go_sem, Int.reduceLT, Int.reduceLE, Int.reduceToNat, Int.reduceEq, Nat.reduceMul, ↓reduceIte, Nat.reduceLT, Nat.reduceLeDiff, Nat.reduceEqDiff, Nat.reduceAdd, Nat.reduceSub, Nat.reduceBEq, reduceCtorEq, *]) <;> (skip)))
theorem kmadj {g : Nat} {cells : List D} {cf : En → En → Int} {l : List En} (hS : Srt g cells cf l) {a : Nat} {H : Heap} {slot : Nat} {K : D → List (Nat × Blk) → List (Nat × Blk) → Prop} (hK : K (.int .i64 a) [] []) (h0 : 0 < a := by omega) (h1 : a + 1 < l.length := by omega) : @callB ⟨callX Tryz.prog⟩ 162 [.vs (ents l), .int .i64 a, .ip [.int .i64 0], .fn g [.ip cells]] H slot ⟨K⟩ := call0 true (cmadj g cells cf l a hS h0 h1) rfl rfl (fun _ => rfl) hK
end TR

/- slices.SortFunc at entries that are sorted: the pivot, the scan, the whole. -/
open Go Go.Proofs Go.AH
set_option linter.unusedSimpArgs false
set_option linter.unusedVariables false
namespace TR
theorem kmedP {g : Nat} {cells : List D} {cf : En → En → Int} {l : List En} (hS : Srt g cells cf l) {a b c q : Nat} {H : Heap} (hH : hget H q = some [[.int .i64 0]]) {slot : Nat} {K : D → List (Nat × Blk) → List (Nat × Blk) → Prop} (hK : K (.int .i64 b) [] [(q, [[.int .i64 0]])]) (hab : a < b := by omega) (hbc : b < c := by omega) (hc : c < l.length := by omega) : @callB ⟨callX Tryz.prog⟩ 163 [.vs (ents l), .int .i64 a, .int .i64 b, .int .i64 c, .ptr q 1 0 0, .fn g [.ip cells]] H slot ⟨K⟩ := by
  have e : rdOf H (D.idsL [.vs (ents l), .int .i64 a, .int .i64 b, .int .i64 c, .ptr q 1 0 0, .fn g [.ip cells]]) = [(q, [[.int .i64 0]])] := by simp [D.idsL, D.ids, rdOf, hH]
  refine call0 true (cmed g cells cf l a b c hS hab hbc hc) ?_ rfl (fun _ => rfl) (by rw [e]; exact hK)
  rw [e]
  simp [trL, tr, pos, AH.look, pureB, D.isPur]
theorem kmadjP {g : Nat} {cells : List D} {cf : En → En → Int} {l : List En} (hS : Srt g cells cf l) {a q : Nat} {H : Heap} (hH : hget H q = some [[.int .i64 0]]) {slot : Nat} {K : D → List (Nat × Blk) → List (Nat × Blk) → Prop} (hK : K (.int .i64 a) [] [(q, [[.int .i64 0]])]) (h0 : 0 < a := by omega) (h1 : a + 1 < l.length := by omega) : @callB ⟨callX Tryz.prog⟩ 162 [.vs (ents l), .int .i64 a, .ptr q 1 0 0, .fn g [.ip cells]] H slot ⟨K⟩ := by
  have e : rdOf H (D.idsL [.vs (ents l), .int .i64 a, .ptr q 1 0 0, .fn g [.ip cells]]) = [(q, [[.int .i64 0]])] := by simp [D.idsL, D.ids, rdOf, hH]
  refine call0 true (cmadj g cells cf l a hS h0 h1) ?_ rfl (fun _ => rfl) (by rw [e]; exact hK)
  rw [e]
  simp [trL, tr, pos, AH.look, pureB, D.isPur]
theorem natdiv4 (n : Nat) : (n : Int).tdiv 4 = ((n / 4 : Nat) : Int) := by rw [Int.tdiv_eq_ediv_of_nonneg (by omega)]; omega
set_option maxHeartbeats 2000000 in
set_option maxRecDepth 20000 in
theorem cpivot (g : Nat) (cells : List D) (cf : En → En → Int) (l : List En) (hS : Srt g cells cf l) (h12 : 12 < l.length) : FC Tryz.prog 146 [.vs (ents l), .int .i64 0, .int .i64 l.length, .fn g [.ip cells]] [] (.tup [.int .i64 ((l.length / 4 * 2 : Nat) : Int), .int .i64 1]) [] := by
  refine FC.of_run mix Tryz.func146 rfl rfl (by simp [Tryz.ntmps146]) ?_
  have hl := hS.hl
  have w0 : IntKind.i64.wrap ((l.length : Int) - 0) = (l.length : Int) := by rw [wrapS] <;> omega
  have w4 : IntKind.i64.wrap ((l.length / 4 : Nat) : Int) = ((l.length / 4 : Nat) : Int) := wrapN (by omega)
  have m1 : IntKind.i64.wrap (((l.length / 4 : Nat) : Int) * 1) = ((l.length / 4 * 1 : Nat) : Int) := by rw [wrapS] <;> omega
  have m2 : IntKind.i64.wrap (((l.length / 4 : Nat) : Int) * 2) = ((l.length / 4 * 2 : Nat) : Int) := by rw [wrapS] <;> omega
  have m3 : IntKind.i64.wrap (((l.length / 4 : Nat) : Int) * 3) = ((l.length / 4 * 3 : Nat) : Int) := by rw [wrapS] <;> omega
  have a1 : IntKind.i64.wrap (0 + ((l.length / 4 * 1 : Nat) : Int)) = ((l.length / 4 * 1 : Nat) : Int) := by rw [wrapS] <;> omega
  have a2 : IntKind.i64.wrap (0 + ((l.length / 4 * 2 : Nat) : Int)) = ((l.length / 4 * 2 : Nat) : Int) := by rw [wrapS] <;> omega
  have a3 : IntKind.i64.wrap (0 + ((l.length / 4 * 3 : Nat) : Int)) = ((l.length / 4 * 3 : Nat) : Int) := by rw [wrapS] <;> omega
  have h8 : (8 : Int) ≤ l.length := by omega
  repeat' first
    | simp (maxSteps := 1000000) only [go_sem, Int.reduceLT, Int.reduceLE, Int.reduceToNat, Int.reduceEq, Nat.reduceMul, ↓reduceIte, Nat.reduceLT, Nat.reduceLeDiff, Nat.reduceEqDiff, Nat.reduceAdd, Nat.reduceSub, Nat.reduceBEq, reduceCtorEq, *, natdiv4]
    | contradiction
    | refine wntB_decT (fun _ => ?_) (fun _ => ?_)
    | refine wntB_decF (fun _ => ?_) (fun _ => ?_)
    | refine cndB_dec (fun _ => ?_) (fun _ => ?_)
    | refine drawnB_ok (by kernel_rfl) ?_
    | refine (kmadjP hS rfl) ?_
    | refine (kmedP hS rfl) ?_
    | ((first | refine Fin.q ?_ ?_ | refine Fin.qn ?_ ?_) <;> ((try simp (maxSteps := 1000000) only [go_sem, Int.reduceLT, Int.reduceLE, Int.reduceToNat, Int.reduceEq, Nat.reduceMul, ↓reduceIte, Nat.reduceLT, Nat.reduceLeDiff, Nat.reduceEqDiff, Nat.reduceAdd, Nat.reduceSub, Nat.reduceBEq, reduceCtorEq, *, natdiv4]) <;> (skip)))
theorem kpivot {g : Nat} {cells : List D} {cf : En → En → Int} {l : List En} (hS : Srt g cells cf l) (h12 : 12 < l.length) {H : Heap} {slot : Nat} {K : D → List (Nat × Blk) → List (Nat × Blk) → Prop} (hK : K (.tup [.int .i64 ((l.length / 4 * 2 : Nat) : Int), .int .i64 1]) [] []) : @callB ⟨callX Tryz.prog⟩ 146 [.vs (ents l), .int .i64 0, .int .i64 l.length, .fn g [.ip cells]] H slot ⟨K⟩ := call0 true (cpivot g cells cf l hS h12) rfl rfl (fun _ => rfl) hK
set_option maxHeartbeats 2000000 in
set_option maxRecDepth 20000 in
theorem cpart (g : Nat) (cells : List D) (cf : En → En → Int) (l : List En) (hS : Srt g cells cf l) (h12 : 12 < l.length) : FC Tryz.prog 148 [.vs (ents l), .int .i64 0, .int .i64 l.length, .fn g [.ip cells]] [] (.bool true) [] := by
  refine FC.of_run mix Tryz.func148 rfl rfl (by simp [Tryz.ntmps148]) ?_
  obtain ⟨hg, ha, hl⟩ := hS
  have hw0 : IntKind.i64.wrap ((0 : Int) + 1) = 1 := by decide
  repeat' first
    | simp (maxSteps := 1000000) only [go_sem, Int.reduceLT, Int.reduceLE, Int.reduceToNat, Int.reduceEq, Nat.reduceMul, ↓reduceIte, Nat.reduceLT, Nat.reduceLeDiff, Nat.reduceEqDiff, Nat.reduceAdd, Nat.reduceSub, Nat.reduceBEq, reduceCtorEq, *]
    | contradiction
    | refine wntB_decT (fun _ => ?_) (fun _ => ?_)
    | refine wntB_decF (fun _ => ?_) (fun _ => ?_)
    | refine cndB_dec (fun _ => ?_) (fun _ => ?_)
    | refine drawnB_ok (by kernel_rfl) ?_
    | ((first | refine Fin.q ?_ ?_ | refine Fin.qn ?_ ?_) <;> ((try simp (maxSteps := 1000000) only [go_sem, Int.reduceLT, Int.reduceLE, Int.reduceToNat, Int.reduceEq, Nat.reduceMul, ↓reduceIte, Nat.reduceLT, Nat.reduceLeDiff, Nat.reduceEqDiff, Nat.reduceAdd, Nat.reduceSub, Nat.reduceBEq, reduceCtorEq, *]) <;> (skip)))
  refine AW.loopx (σ := Unit) mix (fun _u => ⟨141, [(10, .int .i64 0), (9, .int .i64 1), (3, .fn g [.ip cells]), (2, .int .i64 l.length), (1, .int .i64 0), (0, .vs (ents l))], []⟩) (fun _u => True) (fun _u => 0) () trivial (Conv.mk ?_ ?_ ?_ ?_ ?_) ?_
  iterate 5 (· (simp (maxSteps := 1000000) only [go_sem, Int.reduceLT, Int.reduceLE, Int.reduceToNat, Int.reduceEq, Nat.reduceMul, ↓reduceIte, Nat.reduceLT, Nat.reduceLeDiff, Nat.reduceEqDiff, Nat.reduceAdd, Nat.reduceSub, Nat.reduceBEq, reduceCtorEq]) <;> (first | rfl | (simp [ints]; done) | (simp [*]; done) | ((repeat' (first | rfl | apply And.intro)); done)))
  intro _ _
  repeat' first
    | simp (maxSteps := 1000000) only [go_sem, Int.reduceLT, Int.reduceLE, Int.reduceToNat, Int.reduceEq, Nat.reduceMul, ↓reduceIte, Nat.reduceLT, Nat.reduceLeDiff, Nat.reduceEqDiff, Nat.reduceAdd, Nat.reduceSub, Nat.reduceBEq, reduceCtorEq, *]
    | contradiction
    | refine wntB_decT (fun _ => ?_) (fun _ => ?_)
    | refine wntB_decF (fun _ => ?_) (fun _ => ?_)
    | refine cndB_dec (fun _ => ?_) (fun _ => ?_)
    | refine drawnB_ok (by kernel_rfl) ?_
    | ((first | refine Fin.q ?_ ?_ | refine Fin.qn ?_ ?_) <;> ((try simp (maxSteps := 1000000) only [go_sem, Int.reduceLT, Int.reduceLE, Int.reduceToNat, Int.reduceEq, Nat.reduceMul, ↓reduceIte, Nat.reduceLT, Nat.reduceLeDiff, Nat.reduceEqDiff, Nat.reduceAdd, Nat.reduceSub, Nat.reduceBEq, reduceCtorEq, *]) <;> (skip)))
  refine AW.loopx (σ := Nat) mix (fun i => ⟨141, [(9, .int .i64 ((i + 1 : Nat) : Int)), (10, .int .i64 0), (3, .fn g [.ip cells]), (2, .int .i64 l.length), (1, .int .i64 0), (0, .vs (ents l))], []⟩) (fun i => i + 1 ≤ l.length) (fun i => l.length - i) 0 (by omega) (Conv.mk ?_ ?_ ?_ ?_ ?_) ?_
  iterate 5 (· (simp (maxSteps := 1000000) only [go_sem, Int.reduceLT, Int.reduceLE, Int.reduceToNat, Int.reduceEq, Nat.reduceMul, ↓reduceIte, Nat.reduceLT, Nat.reduceLeDiff, Nat.reduceEqDiff, Nat.reduceAdd, Nat.reduceSub, Nat.reduceBEq, reduceCtorEq, Nat.zero_add]) <;> (first | rfl | (simp [ints]; done) | (simp [*]; done) | ((repeat' (first | rfl | apply And.intro)); done)))
  intro i hi
  by_cases h : i + 1 < l.length
  · have hx := ents_get h
    have hy := ents_get (l := l) (i := i) (by omega)
    have hc := ha i (i + 1) (by omega) h
    have hw1 : IntKind.i64.wrap (((i + 1 : Nat) : Int) - 1) = (i : Int) := by rw [wrapS] <;> omega
    have hw2 : IntKind.i64.wrap (((i + 1 : Nat) : Int) + 1) = ((i + 1 + 1 : Nat) : Int) := wrap1 (by omega)
    repeat' first
      | (refine ⟨i + 1, ?_, ?_, Conv.mk ?_ ?_ ?_ ?_ ?_⟩; (· (first | omega | (simp only; omega) | (simp only [List.length_nil, List.length_cons]; omega))); (· (omega)); (all_goals simp (maxSteps := 1000000) only [go_sem, Int.reduceLT, Int.reduceLE, Int.reduceToNat, Int.reduceEq, Nat.reduceMul, ↓reduceIte, Nat.reduceLT, Nat.reduceLeDiff, Nat.reduceEqDiff, Nat.reduceAdd, Nat.reduceSub, Nat.reduceBEq, reduceCtorEq, *]); done)
      | simp (maxSteps := 1000000) only [go_sem, Int.reduceLT, Int.reduceLE, Int.reduceToNat, Int.reduceEq, Nat.reduceMul, ↓reduceIte, Nat.reduceLT, Nat.reduceLeDiff, Nat.reduceEqDiff, Nat.reduceAdd, Nat.reduceSub, Nat.reduceBEq, reduceCtorEq, *]
      | contradiction
      | refine wntB_decT (fun _ => ?_) (fun _ => ?_)
      | refine wntB_decF (fun _ => ?_) (fun _ => ?_)
      | refine cndB_dec (fun _ => ?_) (fun _ => ?_)
      | refine drawnB_ok (by kernel_rfl) ?_
      | refine (kcmp hg _ _) ?_
      | ((first | refine Fin.q ?_ ?_ | refine Fin.qn ?_ ?_) <;> ((try simp (maxSteps := 1000000) only [go_sem, Int.reduceLT, Int.reduceLE, Int.reduceToNat, Int.reduceEq, Nat.reduceMul, ↓reduceIte, Nat.reduceLT, Nat.reduceLeDiff, Nat.reduceEqDiff, Nat.reduceAdd, Nat.reduceSub, Nat.reduceBEq, reduceCtorEq, *]) <;> (skip)))
  · have he : i + 1 = l.length := by omega
    repeat' first
      | simp (maxSteps := 1000000) only [go_sem, Int.reduceLT, Int.reduceLE, Int.reduceToNat, Int.reduceEq, Nat.reduceMul, ↓reduceIte, Nat.reduceLT, Nat.reduceLeDiff, Nat.reduceEqDiff, Nat.reduceAdd, Nat.reduceSub, Nat.reduceBEq, reduceCtorEq, *, eqN]
      | contradiction
      | refine wntB_decT (fun _ => ?_) (fun _ => ?_)
      | refine wntB_decF (fun _ => ?_) (fun _ => ?_)
      | refine cndB_dec (fun _ => ?_) (fun _ => ?_)
      | refine drawnB_ok (by kernel_rfl) ?_
      | ((first | refine Fin.q ?_ ?_ | refine Fin.qn ?_ ?_) <;> ((try simp (maxSteps := 1000000) only [go_sem, Int.reduceLT, Int.reduceLE, Int.reduceToNat, Int.reduceEq, Nat.reduceMul, ↓reduceIte, Nat.reduceLT, Nat.reduceLeDiff, Nat.reduceEqDiff, Nat.reduceAdd, Nat.reduceSub, Nat.reduceBEq, reduceCtorEq, *, eqN]) <;> (skip)))
theorem kpart {g : Nat} {cells : List D} {cf : En → En → Int} {l : List En} (hS : Srt g cells cf l) (h12 : 12 < l.length) {H : Heap} {slot : Nat} {K : D → List (Nat × Blk) → List (Nat × Blk) → Prop} (hK : K (.bool true) [] []) : @callB ⟨callX Tryz.prog⟩ 148 [.vs (ents l), .int .i64 0, .int .i64 l.length, .fn g [.ip cells]] H slot ⟨K⟩ := call0 true (cpart g cells cf l hS h12) rfl rfl (fun _ => rfl) hK
set_option maxHeartbeats 2000000 in
set_option maxRecDepth 20000 in
theorem cpdq (g : Nat) (cells : List D) (cf : En → En → Int) (l : List En) (lim : Int) (hS : Srt g cells cf l) (hlim : l.length = 0 ∨ lim ≠ 0) : FC Tryz.prog 116 [.vs (ents l), .int .i64 0, .int .i64 l.length, .int .i64 lim, .fn g [.ip cells]] [] (.tup []) [] := by
  refine FC.of_run mix Tryz.func116 rfl rfl (by simp [Tryz.ntmps116]) ?_
  have hl := hS.hl
  have w0 : IntKind.i64.wrap ((l.length : Int) - 0) = (l.length : Int) := by rw [wrapS] <;> omega
  repeat' first
    | simp (maxSteps := 1000000) only [go_sem, Int.reduceLT, Int.reduceLE, Int.reduceToNat, Int.reduceEq, Nat.reduceMul, ↓reduceIte, Nat.reduceLT, Nat.reduceLeDiff, Nat.reduceEqDiff, Nat.reduceAdd, Nat.reduceSub, Nat.reduceBEq, reduceCtorEq, *]
    | contradiction
    | refine wntB_decT (fun _ => ?_) (fun _ => ?_)
    | refine wntB_decF (fun _ => ?_) (fun _ => ?_)
    | refine cndB_dec (fun _ => ?_) (fun _ => ?_)
    | refine drawnB_ok (by kernel_rfl) ?_
    | ((first | refine Fin.q ?_ ?_ | refine Fin.qn ?_ ?_) <;> ((try simp (maxSteps := 1000000) only [go_sem, Int.reduceLT, Int.reduceLE, Int.reduceToNat, Int.reduceEq, Nat.reduceMul, ↓reduceIte, Nat.reduceLT, Nat.reduceLeDiff, Nat.reduceEqDiff, Nat.reduceAdd, Nat.reduceSub, Nat.reduceBEq, reduceCtorEq, *]) <;> (skip)))
  refine AW.loopx (σ := Unit) mix (fun _u => ⟨148, [(11, .bool true), (10, .bool true), (4, .fn g [.ip cells]), (3, .int .i64 lim), (2, .int .i64 l.length), (1, .int .i64 0), (0, .vs (ents l))], []⟩) (fun _u => True) (fun _u => 0) () trivial (Conv.mk ?_ ?_ ?_ ?_ ?_) ?_
  iterate 5 (· (simp (maxSteps := 1000000) only [go_sem, Int.reduceLT, Int.reduceLE, Int.reduceToNat, Int.reduceEq, Nat.reduceMul, ↓reduceIte, Nat.reduceLT, Nat.reduceLeDiff, Nat.reduceEqDiff, Nat.reduceAdd, Nat.reduceSub, Nat.reduceBEq, reduceCtorEq]) <;> (first | rfl | (simp [ints]; done) | (simp [*]; done) | ((repeat' (first | rfl | apply And.intro)); done)))
  intro _ _
  by_cases h : l.length ≤ 12
  · have h2 : ((l.length : Int) ≤ 12) := by omega
    repeat' first
      | simp (maxSteps := 1000000) only [go_sem, Int.reduceLT, Int.reduceLE, Int.reduceToNat, Int.reduceEq, Nat.reduceMul, ↓reduceIte, Nat.reduceLT, Nat.reduceLeDiff, Nat.reduceEqDiff, Nat.reduceAdd, Nat.reduceSub, Nat.reduceBEq, reduceCtorEq, *]
      | contradiction
      | refine wntB_decT (fun _ => ?_) (fun _ => ?_)
      | refine wntB_decF (fun _ => ?_) (fun _ => ?_)
      | refine cndB_dec (fun _ => ?_) (fun _ => ?_)
      | refine drawnB_ok (by kernel_rfl) ?_
      | refine (kins hS) ?_
      | ((first | refine Fin.q ?_ ?_ | refine Fin.qn ?_ ?_) <;> ((try simp (maxSteps := 1000000) only [go_sem, Int.reduceLT, Int.reduceLE, Int.reduceToNat, Int.reduceEq, Nat.reduceMul, ↓reduceIte, Nat.reduceLT, Nat.reduceLeDiff, Nat.reduceEqDiff, Nat.reduceAdd, Nat.reduceSub, Nat.reduceBEq, reduceCtorEq, *]) <;> (skip)))
  · have h2 : ¬ ((l.length : Int) ≤ 12) := by omega
    have h3 : ¬ lim = 0 := by omega
    have h4 : 12 < l.length := by omega
    repeat' first
      | simp (maxSteps := 1000000) only [go_sem, Int.reduceLT, Int.reduceLE, Int.reduceToNat, Int.reduceEq, Nat.reduceMul, ↓reduceIte, Nat.reduceLT, Nat.reduceLeDiff, Nat.reduceEqDiff, Nat.reduceAdd, Nat.reduceSub, Nat.reduceBEq, reduceCtorEq, *]
      | contradiction
      | refine wntB_decT (fun _ => ?_) (fun _ => ?_)
      | refine wntB_decF (fun _ => ?_) (fun _ => ?_)
      | refine cndB_dec (fun _ => ?_) (fun _ => ?_)
      | refine drawnB_ok (by kernel_rfl) ?_
      | refine (kpivot hS h4) ?_
      | refine (kpart hS h4) ?_
      | ((first | refine Fin.q ?_ ?_ | refine Fin.qn ?_ ?_) <;> ((try simp (maxSteps := 1000000) only [go_sem, Int.reduceLT, Int.reduceLE, Int.reduceToNat, Int.reduceEq, Nat.reduceMul, ↓reduceIte, Nat.reduceLT, Nat.reduceLeDiff, Nat.reduceEqDiff, Nat.reduceAdd, Nat.reduceSub, Nat.reduceBEq, reduceCtorEq, *]) <;> (skip)))
theorem kpdq {g : Nat} {cells : List D} {cf : En → En → Int} {l : List En} {lim : Int} (hS : Srt g cells cf l) (hlim : l.length = 0 ∨ lim ≠ 0) {H : Heap} {slot : Nat} {K : D → List (Nat × Blk) → List (Nat × Blk) → Prop} (hK : K (.tup []) [] []) : @callB ⟨callX Tryz.prog⟩ 116 [.vs (ents l), .int .i64 0, .int .i64 l.length, .int .i64 lim, .fn g [.ip cells]] H slot ⟨K⟩ := call0 true (cpdq g cells cf l lim hS hlim) rfl rfl (fun _ => rfl) hK
end TR

/- math/bits.Len at small numbers, slices.SortFunc at sorted entries. -/
open Go Go.Proofs Go.AH
set_option linter.unusedSimpArgs false
set_option linter.unusedVariables false
namespace TR
def W0 : FuncId → AH.Way := fun _ => ⟨[], false, fun _ => false⟩
noncomputable def lenOK (n : Nat) : Bool := match funX Tryz.prog (fun _ _ _ => none) W0 100 10 117 [.int .u64 (n : Int)] [] with
  | some (.int .i64 r, []) => decide (r ≠ 0) || n == 0
  | _ => false
set_option maxRecDepth 100000 in
theorem lenAll : ((List.range 65).all lenOK) = true := by kernel_rfl
theorem cLen {n : Nat} (h : n ≤ 64) : ∃ r : Int, FC Tryz.prog 117 [.int .u64 (n : Int)] [] (.int .i64 r) [] ∧ (n = 0 ∨ r ≠ 0) := by
  have := List.all_eq_true.1 lenAll n (List.mem_range.2 (by omega))
  unfold lenOK at this
  split at this
  · rename_i r he
    refine ⟨r, funX_sound mix (fun f args Hin r outs h => by cases h) 10 _ _ _ _ _ he, ?_⟩
    simp at this
    omega
  · cases this
theorem wrapU {n : Nat} (h : n ≤ 64) : IntKind.u64.wrap (n : Int) = (n : Int) := by
  simp [IntKind.wrap, IntKind.bits, IntKind.signed]; omega
set_option maxHeartbeats 2000000 in
set_option maxRecDepth 20000 in
theorem cSort (g : Nat) (cells : List D) (cf : En → En → Int) (l : List En) (hS : Srt g cells cf l) (h64 : l.length ≤ 64) : FC Tryz.prog 70 [.vs (ents l), .fn g [.ip cells]] [] (.tup []) [] := by
  refine FC.of_run mix Tryz.func70 rfl rfl (by simp [Tryz.ntmps70]) ?_
  obtain ⟨r, hr, hn⟩ := cLen h64
  have hu := wrapU h64
  have kl : ∀ {H : Heap} {slot : Nat} {K : D → List (Nat × Blk) → List (Nat × Blk) → Prop}, K (.int .i64 r) [] [] → @callB ⟨callX Tryz.prog⟩ 117 [.int .u64 (l.length : Int)] H slot ⟨K⟩ := fun hK => call0 true hr rfl rfl (fun _ => rfl) hK
  repeat' first
    | simp (maxSteps := 1000000) only [go_sem, Int.reduceLT, Int.reduceLE, Int.reduceToNat, Int.reduceEq, Nat.reduceMul, ↓reduceIte, Nat.reduceLT, Nat.reduceLeDiff, Nat.reduceEqDiff, Nat.reduceAdd, Nat.reduceSub, Nat.reduceBEq, reduceCtorEq, *]
    | contradiction
    | refine wntB_decT (fun _ => ?_) (fun _ => ?_)
    | refine wntB_decF (fun _ => ?_) (fun _ => ?_)
    | refine cndB_dec (fun _ => ?_) (fun _ => ?_)
    | refine drawnB_ok (by kernel_rfl) ?_
    | refine kl ?_
    | refine (kpdq hS hn) ?_
    | ((first | refine Fin.q ?_ ?_ | refine Fin.qn ?_ ?_) <;> ((try simp (maxSteps := 1000000) only [go_sem, Int.reduceLT, Int.reduceLE, Int.reduceToNat, Int.reduceEq, Nat.reduceMul, ↓reduceIte, Nat.reduceLT, Nat.reduceLeDiff, Nat.reduceEqDiff, Nat.reduceAdd, Nat.reduceSub, Nat.reduceBEq, reduceCtorEq, *]) <;> (skip)))
  exact ⟨[], [], true, rfl, by simp, rfl, rfl⟩
end TR

/- Words, entries and nodes compared. -/
open Go Go.Proofs Go.AH
set_option linter.unusedSimpArgs false
set_option linter.unusedVariables false
namespace TR
theorem ext_getD {α : Type} {a b : List α} (d : α) (hl : a.length = b.length) (h : ∀ q, q < a.length → a.getD q d = b.getD q d) : a = b := by
  apply List.ext_getElem hl
  intro i h1 h2
  have := h i h1
  simpa [List.getD, h1, h2] using this
theorem and_dec (p q : Prop) [Decidable p] [Decidable q] : (decide p && decide q) = decide (p ∧ q) := by by_cases hp : p <;> by_cases hq : q <;> simp [hp, hq]
theorem wd_eq (v w : Wd) : v = w ↔ v.s = w.s ∧ v.b = w.b := by
  cases v; cases w; simp
theorem en_eq (v w : En) : v = w ↔ v.w = w.w ∧ v.p = w.p ∧ v.q = w.q := by
  cases v; cases w; simp
theorem nd_eq (v w : Nd) : v = w ↔ v.w = w.w ∧ v.piece = w.piece ∧ v.left = w.left ∧ v.right = w.right ∧ v.es = w.es := by
  cases v; cases w; simp
set_option maxHeartbeats 2000000 in
set_option maxRecDepth 20000 in
theorem cEq (a b : List Int) (ha : a.length ≤ 4294967296) : FC Tryz.prog 122 [V a, V b] [] (.bool (decide (a = b))) [] := by
  refine FC.of_run mix Tryz.func122 rfl rfl (by simp [Tryz.ntmps122]) ?_
  by_cases hl : a.length = b.length
  · repeat' first
      | simp (maxSteps := 1000000) only [go_sem, Int.reduceLT, Int.reduceLE, Int.reduceToNat, Int.reduceEq, Nat.reduceMul, ↓reduceIte, Nat.reduceLT, Nat.reduceLeDiff, Nat.reduceEqDiff, Nat.reduceAdd, Nat.reduceSub, Nat.reduceBEq, reduceCtorEq, *, eqN, eq_self]
      | contradiction
      | refine wntB_decT (fun _ => ?_) (fun _ => ?_)
      | refine wntB_decF (fun _ => ?_) (fun _ => ?_)
      | refine cndB_dec (fun _ => ?_) (fun _ => ?_)
      | refine drawnB_ok (by kernel_rfl) ?_
      | ((first | refine Fin.q ?_ ?_ | refine Fin.qn ?_ ?_) <;> ((try simp (maxSteps := 1000000) only [go_sem, Int.reduceLT, Int.reduceLE, Int.reduceToNat, Int.reduceEq, Nat.reduceMul, ↓reduceIte, Nat.reduceLT, Nat.reduceLeDiff, Nat.reduceEqDiff, Nat.reduceAdd, Nat.reduceSub, Nat.reduceBEq, reduceCtorEq, *, eqN, eq_self]) <;> (skip)))
    refine AW.loopx (σ := Nat) mix (fun i => ⟨26, [(13, .int .i64 i), (12, .int .i64 b.length), (1, V b), (0, V a)], []⟩) (fun i => i ≤ b.length ∧ ∀ q, q < i → a.getD q 0 = b.getD q 0) (fun i => b.length - i) 0 ⟨by omega, fun q h => by omega⟩ (Conv.mk ?_ ?_ ?_ ?_ ?_) ?_
    iterate 5 (· (simp (maxSteps := 1000000) only [go_sem, Int.reduceLT, Int.reduceLE, Int.reduceToNat, Int.reduceEq, Nat.reduceMul, ↓reduceIte, Nat.reduceLT, Nat.reduceLeDiff, Nat.reduceEqDiff, Nat.reduceAdd, Nat.reduceSub, Nat.reduceBEq, reduceCtorEq]) <;> (first | rfl | (simp [ints]; done) | (simp [*]; done) | ((repeat' (first | rfl | apply And.intro)); done)))
    intro i ⟨hi, hq⟩
    have hw := wrap1 (i := i) (by omega)
    by_cases h : i < b.length
    · have hx := ints_get h
      have hy := ints_get (l := a) (i := i) (by omega)
      repeat' first
        | (refine ⟨i + 1, ?_, ?_, Conv.mk ?_ ?_ ?_ ?_ ?_⟩; (· (first | omega | (simp only; omega) | (simp only [List.length_nil, List.length_cons]; omega))); (· (exact ⟨by omega, upto hq (Classical.not_not.1 ‹_›)⟩)); (all_goals simp (maxSteps := 1000000) only [go_sem, Int.reduceLT, Int.reduceLE, Int.reduceToNat, Int.reduceEq, Nat.reduceMul, ↓reduceIte, Nat.reduceLT, Nat.reduceLeDiff, Nat.reduceEqDiff, Nat.reduceAdd, Nat.reduceSub, Nat.reduceBEq, reduceCtorEq, *]); done)
        | simp (maxSteps := 1000000) only [go_sem, Int.reduceLT, Int.reduceLE, Int.reduceToNat, Int.reduceEq, Nat.reduceMul, ↓reduceIte, Nat.reduceLT, Nat.reduceLeDiff, Nat.reduceEqDiff, Nat.reduceAdd, Nat.reduceSub, Nat.reduceBEq, reduceCtorEq, *]
        | contradiction
        | refine wntB_decT (fun _ => ?_) (fun _ => ?_)
        | refine wntB_decF (fun _ => ?_) (fun _ => ?_)
        | refine cndB_dec (fun _ => ?_) (fun _ => ?_)
        | refine drawnB_ok (by kernel_rfl) ?_
        | ((first | refine Fin.q ?_ ?_ | refine Fin.qn ?_ ?_) <;> ((try simp (maxSteps := 1000000) only [go_sem, Int.reduceLT, Int.reduceLE, Int.reduceToNat, Int.reduceEq, Nat.reduceMul, ↓reduceIte, Nat.reduceLT, Nat.reduceLeDiff, Nat.reduceEqDiff, Nat.reduceAdd, Nat.reduceSub, Nat.reduceBEq, reduceCtorEq, *]) <;> (first | done | (simp only [Option.some.injEq, D.bool.injEq]; first | exact decide_eq_decide.2 (by exact fun e => ‹¬ a.getD i 0 = b.getD i 0› (by rw [e])) | exact (decide_eq_true (by exact fun e => ‹¬ a.getD i 0 = b.getD i 0› (by rw [e]))).symm | exact (decide_eq_false (by exact fun e => ‹¬ a.getD i 0 = b.getD i 0› (by rw [e]))).symm))))
    · repeat' first
        | simp (maxSteps := 1000000) only [go_sem, Int.reduceLT, Int.reduceLE, Int.reduceToNat, Int.reduceEq, Nat.reduceMul, ↓reduceIte, Nat.reduceLT, Nat.reduceLeDiff, Nat.reduceEqDiff, Nat.reduceAdd, Nat.reduceSub, Nat.reduceBEq, reduceCtorEq, *]
        | contradiction
        | refine wntB_decT (fun _ => ?_) (fun _ => ?_)
        | refine wntB_decF (fun _ => ?_) (fun _ => ?_)
        | refine cndB_dec (fun _ => ?_) (fun _ => ?_)
        | refine drawnB_ok (by kernel_rfl) ?_
        | ((first | refine Fin.q ?_ ?_ | refine Fin.qn ?_ ?_) <;> ((try simp (maxSteps := 1000000) only [go_sem, Int.reduceLT, Int.reduceLE, Int.reduceToNat, Int.reduceEq, Nat.reduceMul, ↓reduceIte, Nat.reduceLT, Nat.reduceLeDiff, Nat.reduceEqDiff, Nat.reduceAdd, Nat.reduceSub, Nat.reduceBEq, reduceCtorEq, *]) <;> (first | done | (simp only [Option.some.injEq, D.bool.injEq]; first | exact decide_eq_decide.2 (by exact ext_getD 0 hl (fun q h => hq q (by omega))) | exact (decide_eq_true (by exact ext_getD 0 hl (fun q h => hq q (by omega)))).symm | exact (decide_eq_false (by exact ext_getD 0 hl (fun q h => hq q (by omega)))).symm))))
  · repeat' first
      | simp (maxSteps := 1000000) only [go_sem, Int.reduceLT, Int.reduceLE, Int.reduceToNat, Int.reduceEq, Nat.reduceMul, ↓reduceIte, Nat.reduceLT, Nat.reduceLeDiff, Nat.reduceEqDiff, Nat.reduceAdd, Nat.reduceSub, Nat.reduceBEq, reduceCtorEq, *, eqN]
      | contradiction
      | refine wntB_decT (fun _ => ?_) (fun _ => ?_)
      | refine wntB_decF (fun _ => ?_) (fun _ => ?_)
      | refine cndB_dec (fun _ => ?_) (fun _ => ?_)
      | refine drawnB_ok (by kernel_rfl) ?_
      | ((first | refine Fin.q ?_ ?_ | refine Fin.qn ?_ ?_) <;> ((try simp (maxSteps := 1000000) only [go_sem, Int.reduceLT, Int.reduceLE, Int.reduceToNat, Int.reduceEq, Nat.reduceMul, ↓reduceIte, Nat.reduceLT, Nat.reduceLeDiff, Nat.reduceEqDiff, Nat.reduceAdd, Nat.reduceSub, Nat.reduceBEq, reduceCtorEq, *, eqN]) <;> (first | done | (simp only [Option.some.injEq, D.bool.injEq]; first | exact decide_eq_decide.2 (by exact fun e => hl (by rw [e])) | exact (decide_eq_true (by exact fun e => hl (by rw [e]))).symm | exact (decide_eq_false (by exact fun e => hl (by rw [e]))).symm))))
set_option maxRecDepth 20000 in
theorem kcEq {a b : List Int} {H : Heap} {slot : Nat} {K : D → List (Nat × Blk) → List (Nat × Blk) → Prop} (hK : K (.bool (decide (a = b))) [] []) (ha : a.length ≤ 4294967296 := by first | assumption | omega) : @callB ⟨callX Tryz.prog⟩ 122 [V a, V b] H slot ⟨K⟩ := by
  have he0 : rdOf H (D.idsL [V a, V b]) = [] := by simp (maxSteps := 1000000) only [go_sem, Int.reduceLT, Int.reduceLE, Int.reduceToNat, Int.reduceEq, Nat.reduceMul, ↓reduceIte, Nat.reduceLT, Nat.reduceLeDiff, Nat.reduceEqDiff, Nat.reduceAdd, Nat.reduceSub, Nat.reduceBEq, reduceCtorEq]
  refine call0 false (cEq a b ha) ?_ ?_ (fun h => nomatch h) (by rw [he0]; exact hK)
  iterate 2 (· simp (maxSteps := 1000000) only [go_sem, Int.reduceLT, Int.reduceLE, Int.reduceToNat, Int.reduceEq, Nat.reduceMul, ↓reduceIte, Nat.reduceLT, Nat.reduceLeDiff, Nat.reduceEqDiff, Nat.reduceAdd, Nat.reduceSub, Nat.reduceBEq, reduceCtorEq])
set_option maxHeartbeats 2000000 in
set_option maxRecDepth 20000 in
theorem csame1 (v w : Wd) (h1 : v.s.length ≤ 4294967296) (h2 : v.b.length ≤ 4294967296) : FC Tryz.prog 121 [.agg v.row, .agg w.row] [] (.bool (decide (v = w))) [] := by
  refine FC.of_run mix Tryz.func121 rfl rfl (by simp [Tryz.ntmps121]) ?_
  repeat' first
    | simp (maxSteps := 1000000) only [go_sem, Int.reduceLT, Int.reduceLE, Int.reduceToNat, Int.reduceEq, Nat.reduceMul, ↓reduceIte, Nat.reduceLT, Nat.reduceLeDiff, Nat.reduceEqDiff, Nat.reduceAdd, Nat.reduceSub, Nat.reduceBEq, reduceCtorEq, *]
    | contradiction
    | refine wntB_decT (fun _ => ?_) (fun _ => ?_)
    | refine wntB_decF (fun _ => ?_) (fun _ => ?_)
    | refine cndB_dec (fun _ => ?_) (fun _ => ?_)
    | refine drawnB_ok (by kernel_rfl) ?_
    | refine kcEq ?_
    | ((first | refine Fin.q ?_ ?_ | refine Fin.qn ?_ ?_) <;> ((try simp (maxSteps := 1000000) only [go_sem, Int.reduceLT, Int.reduceLE, Int.reduceToNat, Int.reduceEq, Nat.reduceMul, ↓reduceIte, Nat.reduceLT, Nat.reduceLeDiff, Nat.reduceEqDiff, Nat.reduceAdd, Nat.reduceSub, Nat.reduceBEq, reduceCtorEq, *]) <;> (first | done | (simp only [Option.some.injEq, D.bool.injEq]; first | exact decide_eq_decide.2 (by have := wd_eq v w; grind) | exact (decide_eq_true (by have := wd_eq v w; grind)).symm | exact (decide_eq_false (by have := wd_eq v w; grind)).symm))))
set_option maxRecDepth 20000 in
theorem kcsame1 {v w : Wd} {H : Heap} {slot : Nat} {K : D → List (Nat × Blk) → List (Nat × Blk) → Prop} (hK : K (.bool (decide (v = w))) [] []) (h1 : v.s.length ≤ 4294967296 := by first | assumption | omega) (h2 : v.b.length ≤ 4294967296 := by first | assumption | omega) : @callB ⟨callX Tryz.prog⟩ 121 [.agg v.row, .agg w.row] H slot ⟨K⟩ := by
  have he0 : rdOf H (D.idsL [.agg v.row, .agg w.row]) = [] := by simp (maxSteps := 1000000) only [go_sem, Int.reduceLT, Int.reduceLE, Int.reduceToNat, Int.reduceEq, Nat.reduceMul, ↓reduceIte, Nat.reduceLT, Nat.reduceLeDiff, Nat.reduceEqDiff, Nat.reduceAdd, Nat.reduceSub, Nat.reduceBEq, reduceCtorEq]
  refine call0 false (csame1 v w h1 h2) ?_ ?_ (fun h => nomatch h) (by rw [he0]; exact hK)
  iterate 2 (· simp (maxSteps := 1000000) only [go_sem, Int.reduceLT, Int.reduceLE, Int.reduceToNat, Int.reduceEq, Nat.reduceMul, ↓reduceIte, Nat.reduceLT, Nat.reduceLeDiff, Nat.reduceEqDiff, Nat.reduceAdd, Nat.reduceSub, Nat.reduceBEq, reduceCtorEq])
set_option maxHeartbeats 2000000 in
set_option maxRecDepth 20000 in
theorem csame2 (x y : En) (hx : x.lens) : FC Tryz.prog 124 [.agg x.row, .agg y.row, .ptr 0 1 0 0] [[[.fn 121 []]]] (.bool (decide (x = y))) [[[.fn 121 []]]] := by
  obtain ⟨h1, h2⟩ := hx
  refine FC.of_run mix Tryz.func124 rfl rfl (by simp [Tryz.ntmps124]) ?_
  repeat' first
    | simp (maxSteps := 1000000) only [go_sem, Int.reduceLT, Int.reduceLE, Int.reduceToNat, Int.reduceEq, Nat.reduceMul, ↓reduceIte, Nat.reduceLT, Nat.reduceLeDiff, Nat.reduceEqDiff, Nat.reduceAdd, Nat.reduceSub, Nat.reduceBEq, reduceCtorEq, *, and_dec, eqInts, Bool.and_true, and_true]
    | contradiction
    | refine wntB_decT (fun _ => ?_) (fun _ => ?_)
    | refine wntB_decF (fun _ => ?_) (fun _ => ?_)
    | refine cndB_dec (fun _ => ?_) (fun _ => ?_)
    | refine drawnB_ok (by kernel_rfl) ?_
    | refine kcsame1 ?_
    | ((first | refine Fin.q ?_ ?_ | refine Fin.qn ?_ ?_) <;> ((try simp (maxSteps := 1000000) only [go_sem, Int.reduceLT, Int.reduceLE, Int.reduceToNat, Int.reduceEq, Nat.reduceMul, ↓reduceIte, Nat.reduceLT, Nat.reduceLeDiff, Nat.reduceEqDiff, Nat.reduceAdd, Nat.reduceSub, Nat.reduceBEq, reduceCtorEq, *, and_dec, eqInts, Bool.and_true, and_true]) <;> (first | done | (simp only [Option.some.injEq, D.bool.injEq]; first | exact decide_eq_decide.2 (by have := en_eq x y; grind) | exact (decide_eq_true (by have := en_eq x y; grind)).symm | exact (decide_eq_false (by have := en_eq x y; grind)).symm))))
set_option maxHeartbeats 2000000 in
set_option maxRecDepth 20000 in
theorem cEqE (a b : List En) (hl : a.length ≤ 4294967296) (he : ∀ x, x ∈ a → x.lens) : FC Tryz.prog 123 [.vs (ents a), .vs (ents b), .fn 124 [.ptr 0 1 0 0]] [[[.fn 121 []]]] (.bool (decide (a = b))) [[[.fn 121 []]]] := by
  refine FC.of_run mix Tryz.func123 rfl rfl (by simp [Tryz.ntmps123]) ?_
  by_cases hlen : a.length = b.length
  · repeat' first
      | simp (maxSteps := 1000000) only [go_sem, Int.reduceLT, Int.reduceLE, Int.reduceToNat, Int.reduceEq, Nat.reduceMul, ↓reduceIte, Nat.reduceLT, Nat.reduceLeDiff, Nat.reduceEqDiff, Nat.reduceAdd, Nat.reduceSub, Nat.reduceBEq, reduceCtorEq, *, eqN, eq_self]
      | contradiction
      | refine wntB_decT (fun _ => ?_) (fun _ => ?_)
      | refine wntB_decF (fun _ => ?_) (fun _ => ?_)
      | refine cndB_dec (fun _ => ?_) (fun _ => ?_)
      | refine drawnB_ok (by kernel_rfl) ?_
      | ((first | refine Fin.q ?_ ?_ | refine Fin.qn ?_ ?_) <;> ((try simp (maxSteps := 1000000) only [go_sem, Int.reduceLT, Int.reduceLE, Int.reduceToNat, Int.reduceEq, Nat.reduceMul, ↓reduceIte, Nat.reduceLT, Nat.reduceLeDiff, Nat.reduceEqDiff, Nat.reduceAdd, Nat.reduceSub, Nat.reduceBEq, reduceCtorEq, *, eqN, eq_self]) <;> (skip)))
    refine AW.loopx (σ := Nat) mix (fun i => ⟨32, [(17, .int .i64 i), (16, .int .i64 b.length), (15, .vs (ents a)), (2, .fn 124 [.ptr 0 1 0 0]), (1, .vs (ents b))], [some [[.fn 121 []]]]⟩) (fun i => i ≤ b.length ∧ ∀ q, q < i → a.getD q default = b.getD q default) (fun i => b.length - i) 0 ⟨by omega, fun q h => by omega⟩ (Conv.mk ?_ ?_ ?_ ?_ ?_) ?_
    iterate 5 (· (simp (maxSteps := 1000000) only [go_sem, Int.reduceLT, Int.reduceLE, Int.reduceToNat, Int.reduceEq, Nat.reduceMul, ↓reduceIte, Nat.reduceLT, Nat.reduceLeDiff, Nat.reduceEqDiff, Nat.reduceAdd, Nat.reduceSub, Nat.reduceBEq, reduceCtorEq]) <;> (first | rfl | (simp [ints]; done) | (simp [*]; done) | ((repeat' (first | rfl | apply And.intro)); done)))
    intro i ⟨hi, hq⟩
    have hw := wrap1 (i := i) (by omega)
    by_cases h : i < b.length
    · have hx := ents_get h
      have hy := ents_get (l := a) (i := i) (by omega)
      have hle := he (a.getD i default) (by simp [List.getD, show i < a.length by omega])
      repeat' first
        | simp (maxSteps := 1000000) only [go_sem, Int.reduceLT, Int.reduceLE, Int.reduceToNat, Int.reduceEq, Nat.reduceMul, ↓reduceIte, Nat.reduceLT, Nat.reduceLeDiff, Nat.reduceEqDiff, Nat.reduceAdd, Nat.reduceSub, Nat.reduceBEq, reduceCtorEq, *]
        | contradiction
        | refine wntB_decT (fun _ => ?_) (fun _ => ?_)
        | refine wntB_decF (fun _ => ?_) (fun _ => ?_)
        | refine cndB_dec (fun _ => ?_) (fun _ => ?_)
        | refine drawnB_ok (by kernel_rfl) ?_
        | ((first | refine Fin.q ?_ ?_ | refine Fin.qn ?_ ?_) <;> ((try simp (maxSteps := 1000000) only [go_sem, Int.reduceLT, Int.reduceLE, Int.reduceToNat, Int.reduceEq, Nat.reduceMul, ↓reduceIte, Nat.reduceLT, Nat.reduceLeDiff, Nat.reduceEqDiff, Nat.reduceAdd, Nat.reduceSub, Nat.reduceBEq, reduceCtorEq, *]) <;> (skip)))
      refine callX2 [0] (csame2 (a.getD i default) (b.getD i default) hle) (by decide) ?_ ?_ ⟨by simp, by simp⟩ (r' := .bool (decide (a.getD i default = b.getD i default))) (outs' := [[[.fn 121 []]]]) rfl ?_ ?_
      iterate 3 (· simp (maxSteps := 1000000) only [go_sem, Int.reduceLT, Int.reduceLE, Int.reduceToNat, Int.reduceEq, Nat.reduceMul, ↓reduceIte, Nat.reduceLT, Nat.reduceLeDiff, Nat.reduceEqDiff, Nat.reduceAdd, Nat.reduceSub, Nat.reduceBEq, reduceCtorEq])
      clear he
      repeat' first
        | (refine ⟨i + 1, ?_, ?_, Conv.mk ?_ ?_ ?_ ?_ ?_⟩; (· (first | omega | (simp only; omega) | (simp only [List.length_nil, List.length_cons]; omega))); (· (exact ⟨by omega, upto hq (by first | exact Classical.not_not.1 ‹_› | assumption)⟩)); (all_goals simp (maxSteps := 1000000) only [go_sem, Int.reduceLT, Int.reduceLE, Int.reduceToNat, Int.reduceEq, Nat.reduceMul, ↓reduceIte, Nat.reduceLT, Nat.reduceLeDiff, Nat.reduceEqDiff, Nat.reduceAdd, Nat.reduceSub, Nat.reduceBEq, reduceCtorEq, *]); done)
        | simp (maxSteps := 1000000) only [go_sem, Int.reduceLT, Int.reduceLE, Int.reduceToNat, Int.reduceEq, Nat.reduceMul, ↓reduceIte, Nat.reduceLT, Nat.reduceLeDiff, Nat.reduceEqDiff, Nat.reduceAdd, Nat.reduceSub, Nat.reduceBEq, reduceCtorEq, *]
        | contradiction
        | refine wntB_decT (fun _ => ?_) (fun _ => ?_)
        | refine wntB_decF (fun _ => ?_) (fun _ => ?_)
        | refine cndB_dec (fun _ => ?_) (fun _ => ?_)
        | refine drawnB_ok (by kernel_rfl) ?_
        | ((first | refine Fin.q ?_ ?_ | refine Fin.qn ?_ ?_) <;> ((try simp (maxSteps := 1000000) only [go_sem, Int.reduceLT, Int.reduceLE, Int.reduceToNat, Int.reduceEq, Nat.reduceMul, ↓reduceIte, Nat.reduceLT, Nat.reduceLeDiff, Nat.reduceEqDiff, Nat.reduceAdd, Nat.reduceSub, Nat.reduceBEq, reduceCtorEq, *]) <;> (first | done | (simp only [Option.some.injEq, D.bool.injEq]; first | exact decide_eq_decide.2 (by exact fun e => ‹¬ a.getD i default = b.getD i default› (by rw [e])) | exact (decide_eq_true (by exact fun e => ‹¬ a.getD i default = b.getD i default› (by rw [e]))).symm | exact (decide_eq_false (by exact fun e => ‹¬ a.getD i default = b.getD i default› (by rw [e]))).symm))))
    · repeat' first
        | simp (maxSteps := 1000000) only [go_sem, Int.reduceLT, Int.reduceLE, Int.reduceToNat, Int.reduceEq, Nat.reduceMul, ↓reduceIte, Nat.reduceLT, Nat.reduceLeDiff, Nat.reduceEqDiff, Nat.reduceAdd, Nat.reduceSub, Nat.reduceBEq, reduceCtorEq, *]
        | contradiction
        | refine wntB_decT (fun _ => ?_) (fun _ => ?_)
        | refine wntB_decF (fun _ => ?_) (fun _ => ?_)
        | refine cndB_dec (fun _ => ?_) (fun _ => ?_)
        | refine drawnB_ok (by kernel_rfl) ?_
        | ((first | refine Fin.q ?_ ?_ | refine Fin.qn ?_ ?_) <;> ((try simp (maxSteps := 1000000) only [go_sem, Int.reduceLT, Int.reduceLE, Int.reduceToNat, Int.reduceEq, Nat.reduceMul, ↓reduceIte, Nat.reduceLT, Nat.reduceLeDiff, Nat.reduceEqDiff, Nat.reduceAdd, Nat.reduceSub, Nat.reduceBEq, reduceCtorEq, *]) <;> (first | done | (simp only [Option.some.injEq, D.bool.injEq]; first | exact decide_eq_decide.2 (by exact ext_getD default hlen (fun q h => hq q (by omega))) | exact (decide_eq_true (by exact ext_getD default hlen (fun q h => hq q (by omega)))).symm | exact (decide_eq_false (by exact ext_getD default hlen (fun q h => hq q (by omega)))).symm))))
  · repeat' first
      | simp (maxSteps := 1000000) only [go_sem, Int.reduceLT, Int.reduceLE, Int.reduceToNat, Int.reduceEq, Nat.reduceMul, ↓reduceIte, Nat.reduceLT, Nat.reduceLeDiff, Nat.reduceEqDiff, Nat.reduceAdd, Nat.reduceSub, Nat.reduceBEq, reduceCtorEq, *, eqN]
      | contradiction
      | refine wntB_decT (fun _ => ?_) (fun _ => ?_)
      | refine wntB_decF (fun _ => ?_) (fun _ => ?_)
      | refine cndB_dec (fun _ => ?_) (fun _ => ?_)
      | refine drawnB_ok (by kernel_rfl) ?_
      | ((first | refine Fin.q ?_ ?_ | refine Fin.qn ?_ ?_) <;> ((try simp (maxSteps := 1000000) only [go_sem, Int.reduceLT, Int.reduceLE, Int.reduceToNat, Int.reduceEq, Nat.reduceMul, ↓reduceIte, Nat.reduceLT, Nat.reduceLeDiff, Nat.reduceEqDiff, Nat.reduceAdd, Nat.reduceSub, Nat.reduceBEq, reduceCtorEq, *, eqN]) <;> (first | done | (simp only [Option.some.injEq, D.bool.injEq]; first | exact decide_eq_decide.2 (by exact fun e => hlen (by rw [e])) | exact (decide_eq_true (by exact fun e => hlen (by rw [e]))).symm | exact (decide_eq_false (by exact fun e => hlen (by rw [e]))).symm))))
def Nd.lens (n : Nd) : Prop := n.w.s.length ≤ 4294967296 ∧ n.w.b.length ≤ 4294967296 ∧ n.es.length ≤ 4294967296 ∧ ∀ x, x ∈ n.es → x.lens
set_option maxHeartbeats 2000000 in
set_option maxRecDepth 20000 in
theorem csame (x y : Nd) (hx : x.lens) : FC Tryz.prog 74 [.agg x.row, .agg y.row] [] (.bool (decide (x = y))) [] := by
  obtain ⟨h1, h2, h3, h4⟩ := hx
  have hE := cEqE x.es y.es h3 h4
  clear h4
  have kE : ∀ {H : Heap} {slot : Nat} {K : D → List (Nat × Blk) → List (Nat × Blk) → Prop}, hget H 2 = some [[.fn 121 []]] → K (.bool (decide (x.es = y.es))) [(2, [[.fn 121 []]])] [(2, [[.fn 121 []]]), (2, [[.fn 121 []]])] → @callB ⟨callX Tryz.prog⟩ 123 [.vs (ents x.es), .vs (ents y.es), .fn 124 [.ptr 2 1 0 0]] H slot ⟨K⟩ := by
    intro H slot K hH hK
    have e : rdOf H ([2] ++ D.idsL [.vs (ents x.es), .vs (ents y.es), .fn 124 [.ptr 2 1 0 0]]) = [(2, [[.fn 121 []]]), (2, [[.fn 121 []]])] := by simp [D.idsL, D.ids, rdOf, hH]
    refine callX2 [2] hE (by decide) ?_ ?_ ⟨by simp, by simp⟩ (r' := .bool (decide (x.es = y.es))) (outs' := [[[.fn 121 []]]]) rfl rfl ?_
    · rw [e]; rfl
    · rw [e]; rfl
    · rw [e]; exact hK
  clear hE
  refine FC.of_run mix Tryz.func74 rfl rfl (by simp [Tryz.ntmps74]) ?_
  repeat' first
    | simp (maxSteps := 1000000) only [go_sem, Int.reduceLT, Int.reduceLE, Int.reduceToNat, Int.reduceEq, Nat.reduceMul, ↓reduceIte, Nat.reduceLT, Nat.reduceLeDiff, Nat.reduceEqDiff, Nat.reduceAdd, Nat.reduceSub, Nat.reduceBEq, reduceCtorEq, *]
    | contradiction
    | refine wntB_decT (fun _ => ?_) (fun _ => ?_)
    | refine wntB_decF (fun _ => ?_) (fun _ => ?_)
    | refine cndB_dec (fun _ => ?_) (fun _ => ?_)
    | refine drawnB_ok (by kernel_rfl) ?_
    | refine kcsame1 ?_
    | refine (kE rfl) ?_
    | ((first | refine Fin.q ?_ ?_ | refine Fin.qn ?_ ?_) <;> ((try simp (maxSteps := 1000000) only [go_sem, Int.reduceLT, Int.reduceLE, Int.reduceToNat, Int.reduceEq, Nat.reduceMul, ↓reduceIte, Nat.reduceLT, Nat.reduceLeDiff, Nat.reduceEqDiff, Nat.reduceAdd, Nat.reduceSub, Nat.reduceBEq, reduceCtorEq, *]) <;> (first | done | (simp only [Option.some.injEq, D.bool.injEq]; first | exact decide_eq_decide.2 (by have := nd_eq x y; grind) | exact (decide_eq_true (by have := nd_eq x y; grind)).symm | exact (decide_eq_false (by have := nd_eq x y; grind)).symm))))
theorem ksame {x y : Nd} (hx : x.lens) {H : Heap} {slot : Nat} {K : D → List (Nat × Blk) → List (Nat × Blk) → Prop} (hK : K (.bool (decide (x = y))) [] []) : @callB ⟨callX Tryz.prog⟩ 74 [.agg x.row, .agg y.row] H slot ⟨K⟩ := call0 true (csame x y hx) rfl rfl (fun _ => rfl) hK
set_option maxHeartbeats 2000000 in
set_option maxRecDepth 20000 in
theorem cEqN (a b : List Nd) (hl : a.length ≤ 4294967296) (he : ∀ x, x ∈ a → x.lens) : FC Tryz.prog 73 [.vs (nods a), .vs (nods b), .fn 74 []] [] (.bool (decide (a = b))) [] := by
  refine FC.of_run mix Tryz.func73 rfl rfl (by simp [Tryz.ntmps73]) ?_
  by_cases hlen : a.length = b.length
  · repeat' first
      | simp (maxSteps := 1000000) only [go_sem, Int.reduceLT, Int.reduceLE, Int.reduceToNat, Int.reduceEq, Nat.reduceMul, ↓reduceIte, Nat.reduceLT, Nat.reduceLeDiff, Nat.reduceEqDiff, Nat.reduceAdd, Nat.reduceSub, Nat.reduceBEq, reduceCtorEq, *, eqN, eq_self]
      | contradiction
      | refine wntB_decT (fun _ => ?_) (fun _ => ?_)
      | refine wntB_decF (fun _ => ?_) (fun _ => ?_)
      | refine cndB_dec (fun _ => ?_) (fun _ => ?_)
      | refine drawnB_ok (by kernel_rfl) ?_
      | ((first | refine Fin.q ?_ ?_ | refine Fin.qn ?_ ?_) <;> ((try simp (maxSteps := 1000000) only [go_sem, Int.reduceLT, Int.reduceLE, Int.reduceToNat, Int.reduceEq, Nat.reduceMul, ↓reduceIte, Nat.reduceLT, Nat.reduceLeDiff, Nat.reduceEqDiff, Nat.reduceAdd, Nat.reduceSub, Nat.reduceBEq, reduceCtorEq, *, eqN, eq_self]) <;> (skip)))
    refine AW.loopx (σ := Nat) mix (fun i => ⟨32, [(17, .int .i64 i), (16, .int .i64 b.length), (15, .vs (nods a)), (2, .fn 74 []), (1, .vs (nods b))], []⟩) (fun i => i ≤ b.length ∧ ∀ q, q < i → a.getD q default = b.getD q default) (fun i => b.length - i) 0 ⟨by omega, fun q h => by omega⟩ (Conv.mk ?_ ?_ ?_ ?_ ?_) ?_
    iterate 5 (· (simp (maxSteps := 1000000) only [go_sem, Int.reduceLT, Int.reduceLE, Int.reduceToNat, Int.reduceEq, Nat.reduceMul, ↓reduceIte, Nat.reduceLT, Nat.reduceLeDiff, Nat.reduceEqDiff, Nat.reduceAdd, Nat.reduceSub, Nat.reduceBEq, reduceCtorEq]) <;> (first | rfl | (simp [ints]; done) | (simp [*]; done) | ((repeat' (first | rfl | apply And.intro)); done)))
    intro i ⟨hi, hq⟩
    have hw := wrap1 (i := i) (by omega)
    by_cases h : i < b.length
    · have hx := nods_get h
      have hy := nods_get (l := a) (i := i) (by omega)
      have hle := he (a.getD i default) (by simp [List.getD, show i < a.length by omega])
      clear he
      repeat' first
        | (refine ⟨i + 1, ?_, ?_, Conv.mk ?_ ?_ ?_ ?_ ?_⟩; (· (first | omega | (simp only; omega) | (simp only [List.length_nil, List.length_cons]; omega))); (· (exact ⟨by omega, upto hq (by first | exact Classical.not_not.1 ‹_› | assumption)⟩)); (all_goals simp (maxSteps := 1000000) only [go_sem, Int.reduceLT, Int.reduceLE, Int.reduceToNat, Int.reduceEq, Nat.reduceMul, ↓reduceIte, Nat.reduceLT, Nat.reduceLeDiff, Nat.reduceEqDiff, Nat.reduceAdd, Nat.reduceSub, Nat.reduceBEq, reduceCtorEq, *]); done)
        | simp (maxSteps := 1000000) only [go_sem, Int.reduceLT, Int.reduceLE, Int.reduceToNat, Int.reduceEq, Nat.reduceMul, ↓reduceIte, Nat.reduceLT, Nat.reduceLeDiff, Nat.reduceEqDiff, Nat.reduceAdd, Nat.reduceSub, Nat.reduceBEq, reduceCtorEq, *]
        | contradiction
        | refine wntB_decT (fun _ => ?_) (fun _ => ?_)
        | refine wntB_decF (fun _ => ?_) (fun _ => ?_)
        | refine cndB_dec (fun _ => ?_) (fun _ => ?_)
        | refine drawnB_ok (by kernel_rfl) ?_
        | refine (ksame hle) ?_
        | ((first | refine Fin.q ?_ ?_ | refine Fin.qn ?_ ?_) <;> ((try simp (maxSteps := 1000000) only [go_sem, Int.reduceLT, Int.reduceLE, Int.reduceToNat, Int.reduceEq, Nat.reduceMul, ↓reduceIte, Nat.reduceLT, Nat.reduceLeDiff, Nat.reduceEqDiff, Nat.reduceAdd, Nat.reduceSub, Nat.reduceBEq, reduceCtorEq, *]) <;> (first | done | (simp only [Option.some.injEq, D.bool.injEq]; first | exact decide_eq_decide.2 (by exact fun e => ‹¬ a.getD i default = b.getD i default› (by rw [e])) | exact (decide_eq_true (by exact fun e => ‹¬ a.getD i default = b.getD i default› (by rw [e]))).symm | exact (decide_eq_false (by exact fun e => ‹¬ a.getD i default = b.getD i default› (by rw [e]))).symm))))
    · repeat' first
        | simp (maxSteps := 1000000) only [go_sem, Int.reduceLT, Int.reduceLE, Int.reduceToNat, Int.reduceEq, Nat.reduceMul, ↓reduceIte, Nat.reduceLT, Nat.reduceLeDiff, Nat.reduceEqDiff, Nat.reduceAdd, Nat.reduceSub, Nat.reduceBEq, reduceCtorEq, *]
        | contradiction
        | refine wntB_decT (fun _ => ?_) (fun _ => ?_)
        | refine wntB_decF (fun _ => ?_) (fun _ => ?_)
        | refine cndB_dec (fun _ => ?_) (fun _ => ?_)
        | refine drawnB_ok (by kernel_rfl) ?_
        | ((first | refine Fin.q ?_ ?_ | refine Fin.qn ?_ ?_) <;> ((try simp (maxSteps := 1000000) only [go_sem, Int.reduceLT, Int.reduceLE, Int.reduceToNat, Int.reduceEq, Nat.reduceMul, ↓reduceIte, Nat.reduceLT, Nat.reduceLeDiff, Nat.reduceEqDiff, Nat.reduceAdd, Nat.reduceSub, Nat.reduceBEq, reduceCtorEq, *]) <;> (first | done | (simp only [Option.some.injEq, D.bool.injEq]; first | exact decide_eq_decide.2 (by exact ext_getD default hlen (fun q h => hq q (by omega))) | exact (decide_eq_true (by exact ext_getD default hlen (fun q h => hq q (by omega)))).symm | exact (decide_eq_false (by exact ext_getD default hlen (fun q h => hq q (by omega)))).symm))))
  · repeat' first
      | simp (maxSteps := 1000000) only [go_sem, Int.reduceLT, Int.reduceLE, Int.reduceToNat, Int.reduceEq, Nat.reduceMul, ↓reduceIte, Nat.reduceLT, Nat.reduceLeDiff, Nat.reduceEqDiff, Nat.reduceAdd, Nat.reduceSub, Nat.reduceBEq, reduceCtorEq, *, eqN]
      | contradiction
      | refine wntB_decT (fun _ => ?_) (fun _ => ?_)
      | refine wntB_decF (fun _ => ?_) (fun _ => ?_)
      | refine cndB_dec (fun _ => ?_) (fun _ => ?_)
      | refine drawnB_ok (by kernel_rfl) ?_
      | ((first | refine Fin.q ?_ ?_ | refine Fin.qn ?_ ?_) <;> ((try simp (maxSteps := 1000000) only [go_sem, Int.reduceLT, Int.reduceLE, Int.reduceToNat, Int.reduceEq, Nat.reduceMul, ↓reduceIte, Nat.reduceLT, Nat.reduceLeDiff, Nat.reduceEqDiff, Nat.reduceAdd, Nat.reduceSub, Nat.reduceBEq, reduceCtorEq, *, eqN]) <;> (first | done | (simp only [Option.some.injEq, D.bool.injEq]; first | exact decide_eq_decide.2 (by exact fun e => hlen (by rw [e])) | exact (decide_eq_true (by exact fun e => hlen (by rw [e]))).symm | exact (decide_eq_false (by exact fun e => hlen (by rw [e]))).symm))))
theorem kEqN {a b : List Nd} (hl : a.length ≤ 4294967296) (he : ∀ x, x ∈ a → x.lens) {H : Heap} {slot : Nat} {K : D → List (Nat × Blk) → List (Nat × Blk) → Prop} (hK : K (.bool (decide (a = b))) [] []) : @callB ⟨callX Tryz.prog⟩ 73 [.vs (nods a), .vs (nods b), .fn 74 []] H slot ⟨K⟩ := call0 true (cEqN a b hl he) rfl rfl (fun _ => rfl) hK
end TR

/- Decks: numbers that are drawn from a list. -/
open Go Go.Proofs Go.AH
set_option linter.unusedSimpArgs false
set_option linter.unusedVariables false
namespace TR
def modv (x n : Int) : Int := (x.tmod n + n).tmod n
theorem modv_lt {x n : Int} (hn : 0 < n) : 0 ≤ modv x n ∧ modv x n < n := by
  unfold modv
  have h1 := Int.lt_tmod_of_pos x hn
  have h2 := Int.tmod_nonneg n (a := x.tmod n + n) (by omega)
  have h3 := Int.tmod_lt_of_pos (x.tmod n + n) hn
  exact ⟨h2, h3⟩
/-- What Next draws, and the place behind it. -/
def dv (L : List Int) (a : Nat) (n : Int) : Int := if L.length ≤ a ∨ n ≤ 1 then 0 else modv (L.getD a 0) n
def da (L : List Int) (a : Nat) (n : Int) : Nat := if L.length ≤ a ∨ n ≤ 1 then a else a + 1
theorem dv_lt (L : List Int) (a : Nat) {n : Int} (hn : 0 < n) : 0 ≤ dv L a n ∧ dv L a n < n := by
  unfold dv
  split
  · omega
  · exact modv_lt hn
theorem da_le (L : List Int) (a : Nat) (n : Int) (h : a ≤ 1000) (hL : L.length ≤ 1000) : da L a n ≤ 1000 := by
  unfold da
  split <;> omega
set_option maxHeartbeats 2000000 in
set_option maxRecDepth 20000 in
theorem cMod (x n : Int) (h0 : 0 < n) (h1 : n < 1000000) : FC Tryz.prog 29 [.int .i64 x, .int .i64 n] [] (.int .i64 (modv x n)) [] := by
  refine FC.of_run mix Tryz.func29 rfl rfl (by simp [Tryz.ntmps29]) ?_
  have hn : (n = 0) = False := by simp only [eq_iff_iff, iff_false]; omega
  have g1 := Int.lt_tmod_of_pos x h0
  have g2 := Int.tmod_lt_of_pos x h0
  have hw : IntKind.i64.wrap (x.tmod n + n) = x.tmod n + n := by rw [wrapS] <;> omega
  clear g1 g2
  repeat' first
    | simp (maxSteps := 1000000) only [go_sem, Int.reduceLT, Int.reduceLE, Int.reduceToNat, Int.reduceEq, Nat.reduceMul, ↓reduceIte, Nat.reduceLT, Nat.reduceLeDiff, Nat.reduceEqDiff, Nat.reduceAdd, Nat.reduceSub, Nat.reduceBEq, reduceCtorEq, *]
    | contradiction
    | refine wntB_decT (fun _ => ?_) (fun _ => ?_)
    | refine wntB_decF (fun _ => ?_) (fun _ => ?_)
    | refine cndB_dec (fun _ => ?_) (fun _ => ?_)
    | refine drawnB_ok (by kernel_rfl) ?_
    | ((first | refine Fin.q ?_ ?_ | refine Fin.qn ?_ ?_) <;> ((try simp (maxSteps := 1000000) only [go_sem, Int.reduceLT, Int.reduceLE, Int.reduceToNat, Int.reduceEq, Nat.reduceMul, ↓reduceIte, Nat.reduceLT, Nat.reduceLeDiff, Nat.reduceEqDiff, Nat.reduceAdd, Nat.reduceSub, Nat.reduceBEq, reduceCtorEq, *]) <;> (first | done | rfl)))
set_option maxRecDepth 20000 in
theorem kcMod {x n : Int} {H : Heap} {slot : Nat} {K : D → List (Nat × Blk) → List (Nat × Blk) → Prop} (hK : K (.int .i64 (modv x n)) [] []) (h0 : 0 < n := by first | assumption | omega) (h1 : n < 1000000 := by first | assumption | omega) : @callB ⟨callX Tryz.prog⟩ 29 [.int .i64 x, .int .i64 n] H slot ⟨K⟩ := by
  have he0 : rdOf H (D.idsL [.int .i64 x, .int .i64 n]) = [] := by simp (maxSteps := 1000000) only [go_sem, Int.reduceLT, Int.reduceLE, Int.reduceToNat, Int.reduceEq, Nat.reduceMul, ↓reduceIte, Nat.reduceLT, Nat.reduceLeDiff, Nat.reduceEqDiff, Nat.reduceAdd, Nat.reduceSub, Nat.reduceBEq, reduceCtorEq]
  refine call0 false (cMod x n h0 h1) ?_ ?_ (fun h => nomatch h) (by rw [he0]; exact hK)
  iterate 2 (· simp (maxSteps := 1000000) only [go_sem, Int.reduceLT, Int.reduceLE, Int.reduceToNat, Int.reduceEq, Nat.reduceMul, ↓reduceIte, Nat.reduceLT, Nat.reduceLeDiff, Nat.reduceEqDiff, Nat.reduceAdd, Nat.reduceSub, Nat.reduceBEq, reduceCtorEq])
set_option maxHeartbeats 2000000 in
set_option maxRecDepth 20000 in
theorem cNext (L : List Int) (a : Nat) (n : Int) (hL : L.length ≤ 1000) (ha : a ≤ 1000) (hn : n < 1000000) : FC Tryz.prog 30 [.ptr 0 1 0 0, .int .i64 n] [[[V L, .int .i64 a]]] (.int .i64 (dv L a n)) [[[V L, .int .i64 (da L a n)]]] := by
  have hw := wrap1 (i := a) (by omega)
  have hw2 : IntKind.i64.wrap (((a + 1 : Nat) : Int) - 1) = (a : Int) := by rw [wrapS] <;> omega
  by_cases h : L.length ≤ a
  · have e1 : dv L a n = 0 := by simp [dv, h]
    have e2 : da L a n = a := by simp [da, h]
    rw [e1, e2]
    refine FC.of_run mix Tryz.func30 rfl rfl (by simp [Tryz.ntmps30]) ?_
    repeat' first
      | simp (maxSteps := 1000000) only [go_sem, Int.reduceLT, Int.reduceLE, Int.reduceToNat, Int.reduceEq, Nat.reduceMul, ↓reduceIte, Nat.reduceLT, Nat.reduceLeDiff, Nat.reduceEqDiff, Nat.reduceAdd, Nat.reduceSub, Nat.reduceBEq, reduceCtorEq, *]
      | contradiction
      | refine wntB_decT (fun _ => ?_) (fun _ => ?_)
      | refine wntB_decF (fun _ => ?_) (fun _ => ?_)
      | refine cndB_dec (fun _ => ?_) (fun _ => ?_)
      | refine drawnB_ok (by kernel_rfl) ?_
      | ((first | refine Fin.q ?_ ?_ | refine Fin.qn ?_ ?_) <;> ((try simp (maxSteps := 1000000) only [go_sem, Int.reduceLT, Int.reduceLE, Int.reduceToNat, Int.reduceEq, Nat.reduceMul, ↓reduceIte, Nat.reduceLT, Nat.reduceLeDiff, Nat.reduceEqDiff, Nat.reduceAdd, Nat.reduceSub, Nat.reduceBEq, reduceCtorEq, *]) <;> (skip)))
  · by_cases h2 : n ≤ 1
    · have e1 : dv L a n = 0 := by simp [dv, h2]
      have e2 : da L a n = a := by simp [da, h2]
      rw [e1, e2]
      refine FC.of_run mix Tryz.func30 rfl rfl (by simp [Tryz.ntmps30]) ?_
      repeat' first
        | simp (maxSteps := 1000000) only [go_sem, Int.reduceLT, Int.reduceLE, Int.reduceToNat, Int.reduceEq, Nat.reduceMul, ↓reduceIte, Nat.reduceLT, Nat.reduceLeDiff, Nat.reduceEqDiff, Nat.reduceAdd, Nat.reduceSub, Nat.reduceBEq, reduceCtorEq, *]
        | contradiction
        | refine wntB_decT (fun _ => ?_) (fun _ => ?_)
        | refine wntB_decF (fun _ => ?_) (fun _ => ?_)
        | refine cndB_dec (fun _ => ?_) (fun _ => ?_)
        | refine drawnB_ok (by kernel_rfl) ?_
        | ((first | refine Fin.q ?_ ?_ | refine Fin.qn ?_ ?_) <;> ((try simp (maxSteps := 1000000) only [go_sem, Int.reduceLT, Int.reduceLE, Int.reduceToNat, Int.reduceEq, Nat.reduceMul, ↓reduceIte, Nat.reduceLT, Nat.reduceLeDiff, Nat.reduceEqDiff, Nat.reduceAdd, Nat.reduceSub, Nat.reduceBEq, reduceCtorEq, *]) <;> (skip)))
    · have e1 : dv L a n = modv (L.getD a 0) n := if_neg (by omega)
      have e2 : da L a n = a + 1 := if_neg (by omega)
      rw [e1, e2]
      have hx := ints_get (l := L) (i := a) (by omega)
      have h3 : a < L.length := by omega
      refine FC.of_run mix Tryz.func30 rfl rfl (by simp [Tryz.ntmps30]) ?_
      repeat' first
        | simp (maxSteps := 1000000) only [go_sem, Int.reduceLT, Int.reduceLE, Int.reduceToNat, Int.reduceEq, Nat.reduceMul, ↓reduceIte, Nat.reduceLT, Nat.reduceLeDiff, Nat.reduceEqDiff, Nat.reduceAdd, Nat.reduceSub, Nat.reduceBEq, reduceCtorEq, *]
        | contradiction
        | refine wntB_decT (fun _ => ?_) (fun _ => ?_)
        | refine wntB_decF (fun _ => ?_) (fun _ => ?_)
        | refine cndB_dec (fun _ => ?_) (fun _ => ?_)
        | refine drawnB_ok (by kernel_rfl) ?_
        | refine kcMod ?_
        | ((first | refine Fin.q ?_ ?_ | refine Fin.qn ?_ ?_) <;> ((try simp (maxSteps := 1000000) only [go_sem, Int.reduceLT, Int.reduceLE, Int.reduceToNat, Int.reduceEq, Nat.reduceMul, ↓reduceIte, Nat.reduceLT, Nat.reduceLeDiff, Nat.reduceEqDiff, Nat.reduceAdd, Nat.reduceSub, Nat.reduceBEq, reduceCtorEq, *]) <;> (skip)))
theorem kNext {L : List Int} {a : Nat} {n : Int} {q : Nat} {H : Heap} (hH : hget H q = some [[V L, .int .i64 a]]) {slot : Nat} {K : D → List (Nat × Blk) → List (Nat × Blk) → Prop} (hK : K (.int .i64 (dv L a n)) [(q, [[V L, .int .i64 (da L a n)]])] [(q, [[V L, .int .i64 a]]), (q, [[V L, .int .i64 a]])]) (hL : L.length ≤ 1000 := by assumption) (ha : a ≤ 1000 := by first | assumption | (repeat' first | assumption | apply da_le)) (hn : n < 1000000 := by omega) : @callB ⟨callX Tryz.prog⟩ 30 [.ptr q 1 0 0, .int .i64 n] H slot ⟨K⟩ := by
  have e : rdOf H ([q] ++ D.idsL [.ptr q 1 0 0, .int .i64 n]) = [(q, [[V L, .int .i64 a]]), (q, [[V L, .int .i64 a]])] := by simp [D.idsL, D.ids, rdOf, hH]
  refine callX2 [q] (cNext L a n hL ha hn) (by simp) ?_ ?_ ⟨by simp, by simp⟩ (r' := .int .i64 (dv L a n)) (outs' := [[[V L, .int .i64 (da L a n)]]]) rfl ?_ ?_
  · simp [trL, tr, pos]
  · rw [e]; simp [insA, AH.look, trB, pureB, D.isPur]
  · simp [backB, trB, pureB, D.isPur]
  · rw [e]; exact hK
set_option maxHeartbeats 2000000 in
set_option maxRecDepth 20000 in
theorem cFew (l : List Int)  : FC Tryz.prog 8 [V l] [] (.bool (decide (l.length ≤ 400))) [] := by
  refine FC.of_run mix Tryz.func8 rfl rfl (by simp [Tryz.ntmps8]) ?_
  repeat' first
    | simp (maxSteps := 1000000) only [go_sem, Int.reduceLT, Int.reduceLE, Int.reduceToNat, Int.reduceEq, Nat.reduceMul, ↓reduceIte, Nat.reduceLT, Nat.reduceLeDiff, Nat.reduceEqDiff, Nat.reduceAdd, Nat.reduceSub, Nat.reduceBEq, reduceCtorEq, *]
    | contradiction
    | refine wntB_decT (fun _ => ?_) (fun _ => ?_)
    | refine wntB_decF (fun _ => ?_) (fun _ => ?_)
    | refine cndB_dec (fun _ => ?_) (fun _ => ?_)
    | refine drawnB_ok (by kernel_rfl) ?_
    | ((first | refine Fin.q ?_ ?_ | refine Fin.qn ?_ ?_) <;> ((try simp (maxSteps := 1000000) only [go_sem, Int.reduceLT, Int.reduceLE, Int.reduceToNat, Int.reduceEq, Nat.reduceMul, ↓reduceIte, Nat.reduceLT, Nat.reduceLeDiff, Nat.reduceEqDiff, Nat.reduceAdd, Nat.reduceSub, Nat.reduceBEq, reduceCtorEq, *]) <;> (first | done | (simp only [Option.some.injEq, D.bool.injEq]; first | exact decide_eq_decide.2 (by omega) | exact (decide_eq_true (by omega)).symm | exact (decide_eq_false (by omega)).symm))))
set_option maxRecDepth 20000 in
theorem kcFew {l : List Int} {H : Heap} {slot : Nat} {K : D → List (Nat × Blk) → List (Nat × Blk) → Prop} (hK : K (.bool (decide (l.length ≤ 400))) [] []) : @callB ⟨callX Tryz.prog⟩ 8 [V l] H slot ⟨K⟩ := by
  have he0 : rdOf H (D.idsL [V l]) = [] := by simp (maxSteps := 1000000) only [go_sem, Int.reduceLT, Int.reduceLE, Int.reduceToNat, Int.reduceEq, Nat.reduceMul, ↓reduceIte, Nat.reduceLT, Nat.reduceLeDiff, Nat.reduceEqDiff, Nat.reduceAdd, Nat.reduceSub, Nat.reduceBEq, reduceCtorEq]
  refine call0 false (cFew l ) ?_ ?_ (fun h => nomatch h) (by rw [he0]; exact hK)
  iterate 2 (· simp (maxSteps := 1000000) only [go_sem, Int.reduceLT, Int.reduceLE, Int.reduceToNat, Int.reduceEq, Nat.reduceMul, ↓reduceIte, Nat.reduceLT, Nat.reduceLeDiff, Nat.reduceEqDiff, Nat.reduceAdd, Nat.reduceSub, Nat.reduceBEq, reduceCtorEq])
set_option maxHeartbeats 2000000 in
set_option maxRecDepth 20000 in
theorem cNew (l : List Int) : FC Tryz.prog 10 [V l] [] (.ptr 0 1 0 0) [[[V l, .int .i64 0]]] := by
  refine FC.of_run mix Tryz.func10 rfl rfl (by simp [Tryz.ntmps10]) ?_
  repeat' first
    | simp (maxSteps := 1000000) only [go_sem, Int.reduceLT, Int.reduceLE, Int.reduceToNat, Int.reduceEq, Nat.reduceMul, ↓reduceIte, Nat.reduceLT, Nat.reduceLeDiff, Nat.reduceEqDiff, Nat.reduceAdd, Nat.reduceSub, Nat.reduceBEq, reduceCtorEq, *]
    | contradiction
    | refine wntB_decT (fun _ => ?_) (fun _ => ?_)
    | refine wntB_decF (fun _ => ?_) (fun _ => ?_)
    | refine cndB_dec (fun _ => ?_) (fun _ => ?_)
    | refine drawnB_ok (by kernel_rfl) ?_
    | ((first | refine Fin.qy [0] (by simp) (by simp) ?_ ?_ | refine Fin.qn ?_ ?_) <;> ((try simp (maxSteps := 1000000) only [go_sem, Int.reduceLT, Int.reduceLE, Int.reduceToNat, Int.reduceEq, Nat.reduceMul, ↓reduceIte, Nat.reduceLT, Nat.reduceLeDiff, Nat.reduceEqDiff, Nat.reduceAdd, Nat.reduceSub, Nat.reduceBEq, reduceCtorEq, *]) <;> (skip)))
theorem kNew {l : List Int} {H : Heap} {slot : Nat} {K : D → List (Nat × Blk) → List (Nat × Blk) → Prop} (hK : K (.ptr slot 1 0 0) [(slot, [[V l, .int .i64 0]])] []) : @callB ⟨callX Tryz.prog⟩ 10 [V l] H slot ⟨K⟩ := by
  refine callO (cNew l) rfl (r' := .ptr slot 1 0 0) (outs' := [[[V l, .int .i64 0]]]) rfl ?_ (by simp) hK
  simp [backB, trB, pureB, D.isPur]
set_option maxHeartbeats 2000000 in
set_option maxRecDepth 20000 in
theorem cLength (L : List Int) (a : Nat) (hL : L.length ≤ 1000) (ha : a ≤ 1000) : FC Tryz.prog 12 [.ptr 0 1 0 0] [[[V L, .int .i64 a]]] (.int .i64 (2 + dv L a 5)) [[[V L, .int .i64 (da L a 5)]]] := by
  have h := dv_lt L a (n := 5) (by decide)
  have hw : IntKind.i64.wrap (2 + dv L a 5) = 2 + dv L a 5 := by rw [wrapS] <;> omega
  clear h
  refine FC.of_run mix Tryz.func12 rfl rfl (by simp [Tryz.ntmps12]) ?_
  repeat' first
    | simp (maxSteps := 1000000) only [go_sem, Int.reduceLT, Int.reduceLE, Int.reduceToNat, Int.reduceEq, Nat.reduceMul, ↓reduceIte, Nat.reduceLT, Nat.reduceLeDiff, Nat.reduceEqDiff, Nat.reduceAdd, Nat.reduceSub, Nat.reduceBEq, reduceCtorEq, *]
    | contradiction
    | refine wntB_decT (fun _ => ?_) (fun _ => ?_)
    | refine wntB_decF (fun _ => ?_) (fun _ => ?_)
    | refine cndB_dec (fun _ => ?_) (fun _ => ?_)
    | refine drawnB_ok (by kernel_rfl) ?_
    | refine (kNext rfl) ?_
    | ((first | refine Fin.q ?_ ?_ | refine Fin.qn ?_ ?_) <;> ((try simp (maxSteps := 1000000) only [go_sem, Int.reduceLT, Int.reduceLE, Int.reduceToNat, Int.reduceEq, Nat.reduceMul, ↓reduceIte, Nat.reduceLT, Nat.reduceLeDiff, Nat.reduceEqDiff, Nat.reduceAdd, Nat.reduceSub, Nat.reduceBEq, reduceCtorEq, *]) <;> (skip)))
/-- What Sample draws. -/
def sv (L : List Int) (a : Nat) : Int := if dv L a 12 = 0 then dv L (da L a 12) 2001 - 1000 else if dv L a 12 = 1 then (if dv L (da L a 12) 2 = 0 then 1000 else -1000) else dv L (da L a 12) 13 - 4
def sa (L : List Int) (a : Nat) : Nat := if dv L a 12 = 0 then da L (da L a 12) 2001 else if dv L a 12 = 1 then da L (da L a 12) 2 else da L (da L a 12) 13
theorem sv_in (L : List Int) (a : Nat) : -1000 ≤ sv L a ∧ sv L a ≤ 1000 := by
  have h1 := dv_lt L (da L a 12) (n := 2001) (by decide)
  have h2 := dv_lt L (da L a 12) (n := 13) (by decide)
  unfold sv
  (repeat' split) <;> omega
theorem sa_le (L : List Int) (a : Nat) (h : a ≤ 1000) (hL : L.length ≤ 1000) : sa L a ≤ 1000 := by
  unfold sa
  (repeat' split) <;> (repeat' first | assumption | apply da_le)
set_option maxHeartbeats 2000000 in
set_option maxRecDepth 20000 in
theorem cSampleD (L : List Int) (a : Nat) (hL : L.length ≤ 1000) (ha : a ≤ 1000) : FC Tryz.prog 36 [.ptr 0 1 0 0] [[[V L, .int .i64 a]]] (.int .i64 (sv L a)) [[[V L, .int .i64 (sa L a)]]] := by
  have b1 := dv_lt L (da L a 12) (n := 2001) (by decide)
  have b2 := dv_lt L (da L a 12) (n := 13) (by decide)
  have b3 := dv_lt L (da L a 12) (n := 2) (by decide)
  have w1 : IntKind.i64.wrap (dv L (da L a 12) 2001 - 1000) = dv L (da L a 12) 2001 - 1000 := by rw [wrapS] <;> omega
  have w2 : IntKind.i64.wrap (dv L (da L a 12) 13 - 4) = dv L (da L a 12) 13 - 4 := by rw [wrapS] <;> omega
  by_cases h0 : dv L a 12 = 0
  · have e1 : sv L a = dv L (da L a 12) 2001 - 1000 := if_pos h0
    have e2 : sa L a = da L (da L a 12) 2001 := if_pos h0
    rw [e1, e2]
    clear b1 b2 b3
    refine FC.of_run mix Tryz.func36 rfl rfl (by simp [Tryz.ntmps36]) ?_
    repeat' first
      | simp (maxSteps := 1000000) only [go_sem, Int.reduceLT, Int.reduceLE, Int.reduceToNat, Int.reduceEq, Nat.reduceMul, ↓reduceIte, Nat.reduceLT, Nat.reduceLeDiff, Nat.reduceEqDiff, Nat.reduceAdd, Nat.reduceSub, Nat.reduceBEq, reduceCtorEq, *]
      | contradiction
      | refine wntB_decT (fun _ => ?_) (fun _ => ?_)
      | refine wntB_decF (fun _ => ?_) (fun _ => ?_)
      | refine cndB_dec (fun _ => ?_) (fun _ => ?_)
      | refine drawnB_ok (by kernel_rfl) ?_
      | refine (kNext rfl) ?_
      | ((first | refine Fin.q ?_ ?_ | refine Fin.qn ?_ ?_) <;> ((try simp (maxSteps := 1000000) only [go_sem, Int.reduceLT, Int.reduceLE, Int.reduceToNat, Int.reduceEq, Nat.reduceMul, ↓reduceIte, Nat.reduceLT, Nat.reduceLeDiff, Nat.reduceEqDiff, Nat.reduceAdd, Nat.reduceSub, Nat.reduceBEq, reduceCtorEq, *]) <;> (skip)))
  · by_cases h1 : dv L a 12 = 1
    · have e2 : sa L a = da L (da L a 12) 2 := by unfold sa; rw [if_neg h0, if_pos h1]
      have one : (dv L a 12 = 0) = False := by simp [h0]
      rcases (by omega : dv L (da L a 12) 2 = 0 ∨ dv L (da L a 12) 2 = 1) with h2 | h2
      · have e1 : sv L a = 1000 := by unfold sv; rw [if_neg h0, if_pos h1, if_pos h2]
        rw [e1, e2]
        clear b1 b2 b3
        refine FC.of_run mix Tryz.func36 rfl rfl (by simp [Tryz.ntmps36]) ?_
        repeat' first
          | simp (maxSteps := 1000000) only [go_sem, Int.reduceLT, Int.reduceLE, Int.reduceToNat, Int.reduceEq, Nat.reduceMul, ↓reduceIte, Nat.reduceLT, Nat.reduceLeDiff, Nat.reduceEqDiff, Nat.reduceAdd, Nat.reduceSub, Nat.reduceBEq, reduceCtorEq, *]
          | contradiction
          | refine wntB_decT (fun _ => ?_) (fun _ => ?_)
          | refine wntB_decF (fun _ => ?_) (fun _ => ?_)
          | refine cndB_dec (fun _ => ?_) (fun _ => ?_)
          | refine drawnB_ok (by kernel_rfl) ?_
          | refine (kNext rfl) ?_
          | ((first | refine Fin.q ?_ ?_ | refine Fin.qn ?_ ?_) <;> ((try simp (maxSteps := 1000000) only [go_sem, Int.reduceLT, Int.reduceLE, Int.reduceToNat, Int.reduceEq, Nat.reduceMul, ↓reduceIte, Nat.reduceLT, Nat.reduceLeDiff, Nat.reduceEqDiff, Nat.reduceAdd, Nat.reduceSub, Nat.reduceBEq, reduceCtorEq, *]) <;> (skip)))
      · have e1 : sv L a = -1000 := by unfold sv; rw [if_neg h0, if_pos h1, if_neg (by omega)]
        rw [e1, e2]
        clear b1 b2 b3
        refine FC.of_run mix Tryz.func36 rfl rfl (by simp [Tryz.ntmps36]) ?_
        repeat' first
          | simp (maxSteps := 1000000) only [go_sem, Int.reduceLT, Int.reduceLE, Int.reduceToNat, Int.reduceEq, Nat.reduceMul, ↓reduceIte, Nat.reduceLT, Nat.reduceLeDiff, Nat.reduceEqDiff, Nat.reduceAdd, Nat.reduceSub, Nat.reduceBEq, reduceCtorEq, *]
          | contradiction
          | refine wntB_decT (fun _ => ?_) (fun _ => ?_)
          | refine wntB_decF (fun _ => ?_) (fun _ => ?_)
          | refine cndB_dec (fun _ => ?_) (fun _ => ?_)
          | refine drawnB_ok (by kernel_rfl) ?_
          | refine (kNext rfl) ?_
          | ((first | refine Fin.q ?_ ?_ | refine Fin.qn ?_ ?_) <;> ((try simp (maxSteps := 1000000) only [go_sem, Int.reduceLT, Int.reduceLE, Int.reduceToNat, Int.reduceEq, Nat.reduceMul, ↓reduceIte, Nat.reduceLT, Nat.reduceLeDiff, Nat.reduceEqDiff, Nat.reduceAdd, Nat.reduceSub, Nat.reduceBEq, reduceCtorEq, *]) <;> (skip)))
    · have e1 : sv L a = dv L (da L a 12) 13 - 4 := by unfold sv; rw [if_neg h0, if_neg h1]
      have e2 : sa L a = da L (da L a 12) 13 := by unfold sa; rw [if_neg h0, if_neg h1]
      rw [e1, e2]
      clear b1 b2 b3
      refine FC.of_run mix Tryz.func36 rfl rfl (by simp [Tryz.ntmps36]) ?_
      repeat' first
        | simp (maxSteps := 1000000) only [go_sem, Int.reduceLT, Int.reduceLE, Int.reduceToNat, Int.reduceEq, Nat.reduceMul, ↓reduceIte, Nat.reduceLT, Nat.reduceLeDiff, Nat.reduceEqDiff, Nat.reduceAdd, Nat.reduceSub, Nat.reduceBEq, reduceCtorEq, *]
        | contradiction
        | refine wntB_decT (fun _ => ?_) (fun _ => ?_)
        | refine wntB_decF (fun _ => ?_) (fun _ => ?_)
        | refine cndB_dec (fun _ => ?_) (fun _ => ?_)
        | refine drawnB_ok (by kernel_rfl) ?_
        | refine (kNext rfl) ?_
        | ((first | refine Fin.q ?_ ?_ | refine Fin.qn ?_ ?_) <;> ((try simp (maxSteps := 1000000) only [go_sem, Int.reduceLT, Int.reduceLE, Int.reduceToNat, Int.reduceEq, Nat.reduceMul, ↓reduceIte, Nat.reduceLT, Nat.reduceLeDiff, Nat.reduceEqDiff, Nat.reduceAdd, Nat.reduceSub, Nat.reduceBEq, reduceCtorEq, *]) <;> (skip)))
end TR

/- Windows cut into pieces: the reference's starts, sums and centred sums. -/
open Go Go.Proofs Go.AH
set_option linter.unusedSimpArgs false
set_option linter.unusedVariables false
namespace TR
theorem ints_snoc (l : List Int) (x : Int) : ints l ++ [[.int .i64 x]] = ints (l ++ [x]) := by simp [ints]
/-- The values of a function at the first places. -/
def rangeF (f : Nat → Int) (n : Nat) : List Int := (List.range n).map f
theorem rangeF_len (f : Nat → Int) (n : Nat) : (rangeF f n).length = n := by simp [rangeF]
theorem rangeF_get (f : Nat → Int) {n i : Nat} (h : i < n) : (rangeF f n).getD i 0 = f i := by simp [rangeF, List.getD, h]
theorem rangeF_snoc (f : Nat → Int) (n : Nat) : rangeF f n ++ [f n] = rangeF f (n + 1) := by simp [rangeF, List.range_succ]
theorem rangeF_one (f : Nat → Int) : [[D.int .i64 (f 0)]] = ints (rangeF f 1) := by simp [rangeF, ints]
theorem snocF (f : Nat → Int) (n : Nat) : ints (rangeF f n) ++ [[.int .i64 (f n)]] = ints (rangeF f (n + 1)) := by rw [ints_snoc, rangeF_snoc]
theorem takeF (f : Nat → Int) (n : Nat) : (ints (rangeF f n)).take n = ints (rangeF f n) := by
  have := take_ints (rangeF f n)
  rwa [rangeF_len] at this
theorem getF (f : Nat → Int) {n i : Nat} (h : i < n) : (ints (rangeF f n))[i]? = some [.int .i64 (f i)] := by
  rw [ints_get (by rw [rangeF_len]; exact h), rangeF_get f h]
theorem rangeF_ne (f : Nat → Int) (n : Nat) : (ints (rangeF f (n + 1))).isEmpty = false := by simp [rangeF, ints, List.range_succ]
theorem rangeF_ne1 (f : Nat → Int) : (ints (rangeF f 1)).isEmpty = false := rangeF_ne f 0
attribute [go_sem] rangeF_ne rangeF_ne1 rangeF_len takeF
theorem no_succ_le (n : Nat) : (n + 1 ≤ n) = False := by simp only [eq_iff_iff, iff_false]; omega
def smp (x : List Int) : Prop := 2 ≤ x.length ∧ x.length ≤ 32 ∧ ∀ i, i < x.length → -1000 ≤ x.getD i 0 ∧ x.getD i 0 ≤ 1000
set_option maxHeartbeats 2000000 in
set_option maxRecDepth 20000 in
theorem cSamples (x : List Int) (hx : smp x) : FC Tryz.prog 135 [V x] [] (.int .i64 0) [] := by
  refine FC.of_run mix Tryz.func135 rfl rfl (by simp [Tryz.ntmps135]) ?_
  obtain ⟨_, h32, hs⟩ := hx
  repeat' first
    | simp (maxSteps := 1000000) only [go_sem, Int.reduceLT, Int.reduceLE, Int.reduceToNat, Int.reduceEq, Nat.reduceMul, ↓reduceIte, Nat.reduceLT, Nat.reduceLeDiff, Nat.reduceEqDiff, Nat.reduceAdd, Nat.reduceSub, Nat.reduceBEq, reduceCtorEq, *]
    | contradiction
    | refine wntB_decT (fun _ => ?_) (fun _ => ?_)
    | refine wntB_decF (fun _ => ?_) (fun _ => ?_)
    | refine cndB_dec (fun _ => ?_) (fun _ => ?_)
    | refine drawnB_ok (by kernel_rfl) ?_
    | ((first | refine Fin.q ?_ ?_ | refine Fin.qn ?_ ?_) <;> ((try simp (maxSteps := 1000000) only [go_sem, Int.reduceLT, Int.reduceLE, Int.reduceToNat, Int.reduceEq, Nat.reduceMul, ↓reduceIte, Nat.reduceLT, Nat.reduceLeDiff, Nat.reduceEqDiff, Nat.reduceAdd, Nat.reduceSub, Nat.reduceBEq, reduceCtorEq, *]) <;> (skip)))
  refine AW.loopx (σ := Nat) mix (fun i => ⟨16, [(6, .int .i64 i), (5, .int .i64 x.length), (0, V x)], []⟩) (fun i => i ≤ x.length) (fun i => x.length - i) 0 (by omega) (Conv.mk ?_ ?_ ?_ ?_ ?_) ?_
  iterate 5 (· (simp (maxSteps := 1000000) only [go_sem, Int.reduceLT, Int.reduceLE, Int.reduceToNat, Int.reduceEq, Nat.reduceMul, ↓reduceIte, Nat.reduceLT, Nat.reduceLeDiff, Nat.reduceEqDiff, Nat.reduceAdd, Nat.reduceSub, Nat.reduceBEq, reduceCtorEq]) <;> (first | rfl | (simp [ints]; done) | (simp [*]; done) | ((repeat' (first | rfl | apply And.intro)); done)))
  intro i hi
  have hw := wrap1 (i := i) (by omega)
  by_cases h : i < x.length
  · have hx := ints_get h
    have h3 := hs i h
    clear hs
    repeat' first
      | (refine ⟨i + 1, ?_, ?_, Conv.mk ?_ ?_ ?_ ?_ ?_⟩; (· (first | omega | (simp only; omega) | (simp only [List.length_nil, List.length_cons]; omega))); (· (omega)); (all_goals simp (maxSteps := 1000000) only [go_sem, Int.reduceLT, Int.reduceLE, Int.reduceToNat, Int.reduceEq, Nat.reduceMul, ↓reduceIte, Nat.reduceLT, Nat.reduceLeDiff, Nat.reduceEqDiff, Nat.reduceAdd, Nat.reduceSub, Nat.reduceBEq, reduceCtorEq, *]); done)
      | simp (maxSteps := 1000000) only [go_sem, Int.reduceLT, Int.reduceLE, Int.reduceToNat, Int.reduceEq, Nat.reduceMul, ↓reduceIte, Nat.reduceLT, Nat.reduceLeDiff, Nat.reduceEqDiff, Nat.reduceAdd, Nat.reduceSub, Nat.reduceBEq, reduceCtorEq, *]
      | contradiction
      | refine wntB_decT (fun _ => ?_) (fun _ => ?_)
      | refine wntB_decF (fun _ => ?_) (fun _ => ?_)
      | refine cndB_dec (fun _ => ?_) (fun _ => ?_)
      | refine drawnB_ok (by kernel_rfl) ?_
      | refine kcSample ?_
      | ((first | refine Fin.q ?_ ?_ | refine Fin.qn ?_ ?_) <;> ((try simp (maxSteps := 1000000) only [go_sem, Int.reduceLT, Int.reduceLE, Int.reduceToNat, Int.reduceEq, Nat.reduceMul, ↓reduceIte, Nat.reduceLT, Nat.reduceLeDiff, Nat.reduceEqDiff, Nat.reduceAdd, Nat.reduceSub, Nat.reduceBEq, reduceCtorEq, *]) <;> (skip)))
  · repeat' first
      | simp (maxSteps := 1000000) only [go_sem, Int.reduceLT, Int.reduceLE, Int.reduceToNat, Int.reduceEq, Nat.reduceMul, ↓reduceIte, Nat.reduceLT, Nat.reduceLeDiff, Nat.reduceEqDiff, Nat.reduceAdd, Nat.reduceSub, Nat.reduceBEq, reduceCtorEq, *]
      | contradiction
      | refine wntB_decT (fun _ => ?_) (fun _ => ?_)
      | refine wntB_decF (fun _ => ?_) (fun _ => ?_)
      | refine cndB_dec (fun _ => ?_) (fun _ => ?_)
      | refine drawnB_ok (by kernel_rfl) ?_
      | ((first | refine Fin.q ?_ ?_ | refine Fin.qn ?_ ?_) <;> ((try simp (maxSteps := 1000000) only [go_sem, Int.reduceLT, Int.reduceLE, Int.reduceToNat, Int.reduceEq, Nat.reduceMul, ↓reduceIte, Nat.reduceLT, Nat.reduceLeDiff, Nat.reduceEqDiff, Nat.reduceAdd, Nat.reduceSub, Nat.reduceBEq, reduceCtorEq, *]) <;> (skip)))
set_option maxRecDepth 20000 in
theorem kcSamples {x : List Int} {H : Heap} {slot : Nat} {K : D → List (Nat × Blk) → List (Nat × Blk) → Prop} (hK : K (.int .i64 0) [] []) (hx : smp x := by first | assumption | omega) : @callB ⟨callX Tryz.prog⟩ 135 [V x] H slot ⟨K⟩ := by
  have he0 : rdOf H (D.idsL [V x]) = [] := by simp (maxSteps := 1000000) only [go_sem, Int.reduceLT, Int.reduceLE, Int.reduceToNat, Int.reduceEq, Nat.reduceMul, ↓reduceIte, Nat.reduceLT, Nat.reduceLeDiff, Nat.reduceEqDiff, Nat.reduceAdd, Nat.reduceSub, Nat.reduceBEq, reduceCtorEq]
  refine call0 false (cSamples x hx) ?_ ?_ (fun h => nomatch h) (by rw [he0]; exact hK)
  iterate 2 (· simp (maxSteps := 1000000) only [go_sem, Int.reduceLT, Int.reduceLE, Int.reduceToNat, Int.reduceEq, Nat.reduceMul, ↓reduceIte, Nat.reduceLT, Nat.reduceLeDiff, Nat.reduceEqDiff, Nat.reduceAdd, Nat.reduceSub, Nat.reduceBEq, reduceCtorEq])
set_option maxHeartbeats 2000000 in
set_option maxRecDepth 20000 in
theorem cWindow (x : List Int) (hx : smp x) : FC Tryz.prog 136 [V x] [] (.int .i64 0) [] := by
  refine FC.of_run mix Tryz.func136 rfl rfl (by simp [Tryz.ntmps136]) ?_
  have h1 := hx.1
  have h2 := hx.2.1
  have h3 : ¬ ((x.length : Int) < 2) := by omega
  have h4 : ¬ ((32 : Int) < x.length) := by omega
  repeat' first
    | simp (maxSteps := 1000000) only [go_sem, Int.reduceLT, Int.reduceLE, Int.reduceToNat, Int.reduceEq, Nat.reduceMul, ↓reduceIte, Nat.reduceLT, Nat.reduceLeDiff, Nat.reduceEqDiff, Nat.reduceAdd, Nat.reduceSub, Nat.reduceBEq, reduceCtorEq, *]
    | contradiction
    | refine wntB_decT (fun _ => ?_) (fun _ => ?_)
    | refine wntB_decF (fun _ => ?_) (fun _ => ?_)
    | refine cndB_dec (fun _ => ?_) (fun _ => ?_)
    | refine drawnB_ok (by kernel_rfl) ?_
    | refine kcSamples ?_
    | ((first | refine Fin.q ?_ ?_ | refine Fin.qn ?_ ?_) <;> ((try simp (maxSteps := 1000000) only [go_sem, Int.reduceLT, Int.reduceLE, Int.reduceToNat, Int.reduceEq, Nat.reduceMul, ↓reduceIte, Nat.reduceLT, Nat.reduceLeDiff, Nat.reduceEqDiff, Nat.reduceAdd, Nat.reduceSub, Nat.reduceBEq, reduceCtorEq, *]) <;> (skip)))
set_option maxRecDepth 20000 in
theorem kcWindow {x : List Int} {H : Heap} {slot : Nat} {K : D → List (Nat × Blk) → List (Nat × Blk) → Prop} (hK : K (.int .i64 0) [] []) (hx : smp x := by first | assumption | omega) : @callB ⟨callX Tryz.prog⟩ 136 [V x] H slot ⟨K⟩ := by
  have he0 : rdOf H (D.idsL [V x]) = [] := by simp (maxSteps := 1000000) only [go_sem, Int.reduceLT, Int.reduceLE, Int.reduceToNat, Int.reduceEq, Nat.reduceMul, ↓reduceIte, Nat.reduceLT, Nat.reduceLeDiff, Nat.reduceEqDiff, Nat.reduceAdd, Nat.reduceSub, Nat.reduceBEq, reduceCtorEq]
  refine call0 false (cWindow x hx) ?_ ?_ (fun h => nomatch h) (by rw [he0]; exact hK)
  iterate 2 (· simp (maxSteps := 1000000) only [go_sem, Int.reduceLT, Int.reduceLE, Int.reduceToNat, Int.reduceEq, Nat.reduceMul, ↓reduceIte, Nat.reduceLT, Nat.reduceLeDiff, Nat.reduceEqDiff, Nat.reduceAdd, Nat.reduceSub, Nat.reduceBEq, reduceCtorEq])
theorem mulN {a b : Nat} (h : a * b < 9223372036854775808) : IntKind.i64.wrap ((a : Int) * (b : Int)) = ((a * b : Nat) : Int) := by rw [← wrapN h]; rfl
theorem divN (a b : Nat) : ((a : Int)).tdiv (b : Int) = ((a / b : Nat) : Int) := by rw [Int.tdiv_eq_ediv_of_nonneg (by omega)]; rfl
def startF (m n : Nat) (p : Nat) : Int := ((p * m / n : Nat) : Int)
def stStarts (m n : Nat) : Nat → St
  | 0 => ⟨39, [(7, .int .i64 0), (6, .zs), (1, .int .i64 n), (0, .int .i64 m)], []⟩
  | i + 1 => ⟨39, [(7, .int .i64 ((i + 1 : Nat) : Int)), (6, .rs 1 1 0 (i + 1) (i + 1)), (1, .int .i64 n), (0, .int .i64 m)], [none, some (ints (rangeF (startF m n) (i + 1)))]⟩
set_option maxHeartbeats 2000000 in
set_option maxRecDepth 20000 in
theorem cStarts (m n : Nat) (h2 : 2 ≤ m) (h32 : m ≤ 32) (h1 : 1 ≤ n) (h8 : n ≤ 8) (hnm : n ≤ m) : FC Tryz.prog 109 [.int .i64 m, .int .i64 n] [] (.tup [V (rangeF (startF m n) (n + 1)), .int .i64 0]) [] := by
  refine FC.of_run mix Tryz.func109 rfl rfl (by simp [Tryz.ntmps109]) ?_
  have g1 : ¬ ((m : Int) < 2) := by omega
  have g2 : ¬ ((32 : Int) < m) := by omega
  have g3 : ¬ ((n : Int) < 1) := by omega
  have g4 : ¬ ((8 : Int) < n) := by omega
  have g5 : ¬ ((m : Int) < n) := by omega
  have g6 : ((n : Int) = 0) = False := by simp only [eq_iff_iff, iff_false]; omega
  repeat' first
    | simp (maxSteps := 1000000) only [go_sem, Int.reduceLT, Int.reduceLE, Int.reduceToNat, Int.reduceEq, Nat.reduceMul, ↓reduceIte, Nat.reduceLT, Nat.reduceLeDiff, Nat.reduceEqDiff, Nat.reduceAdd, Nat.reduceSub, Nat.reduceBEq, reduceCtorEq, *]
    | contradiction
    | refine wntB_decT (fun _ => ?_) (fun _ => ?_)
    | refine wntB_decF (fun _ => ?_) (fun _ => ?_)
    | refine cndB_dec (fun _ => ?_) (fun _ => ?_)
    | refine drawnB_ok (by kernel_rfl) ?_
    | ((first | refine Fin.q ?_ ?_ | refine Fin.qn ?_ ?_) <;> ((try simp (maxSteps := 1000000) only [go_sem, Int.reduceLT, Int.reduceLE, Int.reduceToNat, Int.reduceEq, Nat.reduceMul, ↓reduceIte, Nat.reduceLT, Nat.reduceLeDiff, Nat.reduceEqDiff, Nat.reduceAdd, Nat.reduceSub, Nat.reduceBEq, reduceCtorEq, *]) <;> (skip)))
  refine AW.loopx (σ := Nat) mix (stStarts m n) (fun i => i ≤ n + 1) (fun i => n + 1 - i) 0 (by omega) (Conv.mk ?_ ?_ ?_ ?_ ?_) ?_
  iterate 5 (· simp (maxSteps := 1000000) only [go_sem, Int.reduceLT, Int.reduceLE, Int.reduceToNat, Int.reduceEq, Nat.reduceMul, ↓reduceIte, Nat.reduceLT, Nat.reduceLeDiff, Nat.reduceEqDiff, Nat.reduceAdd, Nat.reduceSub, Nat.reduceBEq, reduceCtorEq, stStarts])
  clear g1 g2 g3 g4 g5
  intro i hi
  have hC : i + 1 ≤ capMax := by unfold capMax; omega
  rcases i with _ | i
  · have hv : IntKind.i64.wrap ((IntKind.i64.wrap ((0 : Int) * (m : Int))).tdiv (n : Int)) = startF m n 0 := by
      rw [Int.zero_mul, show IntKind.i64.wrap 0 = 0 by decide, Int.zero_tdiv, show IntKind.i64.wrap 0 = 0 by decide]
      simp [startF]
    have hw : IntKind.i64.wrap ((0 : Int) + 1) = ((1 : Nat) : Int) := by decide
    have h0n : (0 : Int) ≤ (n : Int) := by omega
    simp only [stStarts]
    repeat' first
      | (refine ⟨1, ?_, ?_, Conv.mk ?_ ?_ ?_ ?_ ?_⟩; (· (first | omega | (simp only; omega) | (simp only [List.length_nil, List.length_cons]; omega))); (· (omega)); (all_goals simp (maxSteps := 1000000) only [go_sem, Int.reduceLT, Int.reduceLE, Int.reduceToNat, Int.reduceEq, Nat.reduceMul, ↓reduceIte, Nat.reduceLT, Nat.reduceLeDiff, Nat.reduceEqDiff, Nat.reduceAdd, Nat.reduceSub, Nat.reduceBEq, reduceCtorEq, *, stStarts, Nat.zero_add, rangeF_one, List.length_singleton, List.isEmpty_cons, List.length_cons, List.length_nil]); done)
      | simp (maxSteps := 1000000) only [go_sem, Int.reduceLT, Int.reduceLE, Int.reduceToNat, Int.reduceEq, Nat.reduceMul, ↓reduceIte, Nat.reduceLT, Nat.reduceLeDiff, Nat.reduceEqDiff, Nat.reduceAdd, Nat.reduceSub, Nat.reduceBEq, reduceCtorEq, *, stStarts, Nat.zero_add, rangeF_one, List.length_singleton, List.isEmpty_cons, List.length_cons, List.length_nil]
      | contradiction
      | refine wntB_decT (fun _ => ?_) (fun _ => ?_)
      | refine wntB_decF (fun _ => ?_) (fun _ => ?_)
      | refine cndB_dec (fun _ => ?_) (fun _ => ?_)
      | refine drawnB_ok (by kernel_rfl) ?_
      | ((first | refine Fin.q ?_ ?_ | refine Fin.qn ?_ ?_) <;> ((try simp (maxSteps := 1000000) only [go_sem, Int.reduceLT, Int.reduceLE, Int.reduceToNat, Int.reduceEq, Nat.reduceMul, ↓reduceIte, Nat.reduceLT, Nat.reduceLeDiff, Nat.reduceEqDiff, Nat.reduceAdd, Nat.reduceSub, Nat.reduceBEq, reduceCtorEq, *, stStarts, Nat.zero_add, rangeF_one, List.length_singleton, List.isEmpty_cons, List.length_cons, List.length_nil]) <;> (skip)))
  · by_cases h : i + 1 ≤ n
    · have hm : (i + 1) * m ≤ 8 * 32 := Nat.mul_le_mul (by omega) h32
      have hv : IntKind.i64.wrap ((IntKind.i64.wrap (((i + 1 : Nat) : Int) * (m : Int))).tdiv (n : Int)) = startF m n (i + 1) := by
        have hd : (i + 1) * m / n ≤ (i + 1) * m := Nat.div_le_self _ _
        rw [mulN (by omega), divN, wrapN (by omega)]
        rfl
      have hw : IntKind.i64.wrap (((i + 1 : Nat) : Int) + 1) = ((i + 1 + 1 : Nat) : Int) := wrap1 (by omega)
      have hC2 : i + 1 + 1 ≤ capMax := by unfold capMax; omega
      clear hm
      simp only [stStarts]
      repeat' first
        | (refine ⟨i + 1 + 1, ?_, ?_, Conv.mk ?_ ?_ ?_ ?_ ?_⟩; (· (first | omega | (simp only; omega) | (simp only [List.length_nil, List.length_cons]; omega))); (· (omega)); (all_goals simp (maxSteps := 1000000) only [go_sem, Int.reduceLT, Int.reduceLE, Int.reduceToNat, Int.reduceEq, Nat.reduceMul, ↓reduceIte, Nat.reduceLT, Nat.reduceLeDiff, Nat.reduceEqDiff, Nat.reduceAdd, Nat.reduceSub, Nat.reduceBEq, reduceCtorEq, *, stStarts, snocF, rangeF_len, takeF, no_succ_le, Nat.zero_add, List.isEmpty_cons, List.length_cons, List.length_nil, List.drop_zero, eq_self]); done)
        | simp (maxSteps := 1000000) only [go_sem, Int.reduceLT, Int.reduceLE, Int.reduceToNat, Int.reduceEq, Nat.reduceMul, ↓reduceIte, Nat.reduceLT, Nat.reduceLeDiff, Nat.reduceEqDiff, Nat.reduceAdd, Nat.reduceSub, Nat.reduceBEq, reduceCtorEq, *, stStarts, snocF, rangeF_len, takeF, no_succ_le, Nat.zero_add, List.isEmpty_cons, List.length_cons, List.length_nil, List.drop_zero, eq_self]
        | contradiction
        | refine wntB_decT (fun _ => ?_) (fun _ => ?_)
        | refine wntB_decF (fun _ => ?_) (fun _ => ?_)
        | refine cndB_dec (fun _ => ?_) (fun _ => ?_)
        | refine drawnB_ok (by kernel_rfl) ?_
        | ((first | refine Fin.q ?_ ?_ | refine Fin.qn ?_ ?_) <;> ((try simp (maxSteps := 1000000) only [go_sem, Int.reduceLT, Int.reduceLE, Int.reduceToNat, Int.reduceEq, Nat.reduceMul, ↓reduceIte, Nat.reduceLT, Nat.reduceLeDiff, Nat.reduceEqDiff, Nat.reduceAdd, Nat.reduceSub, Nat.reduceBEq, reduceCtorEq, *, stStarts, snocF, rangeF_len, takeF, no_succ_le, Nat.zero_add, List.isEmpty_cons, List.length_cons, List.length_nil, List.drop_zero, eq_self]) <;> (skip)))
    · obtain rfl : i = n := by omega
      simp only [stStarts]
      repeat' first
        | simp (maxSteps := 1000000) only [go_sem, Int.reduceLT, Int.reduceLE, Int.reduceToNat, Int.reduceEq, Nat.reduceMul, ↓reduceIte, Nat.reduceLT, Nat.reduceLeDiff, Nat.reduceEqDiff, Nat.reduceAdd, Nat.reduceSub, Nat.reduceBEq, reduceCtorEq, *, rangeF_len, takeF, List.drop_zero, Nat.zero_add, eq_self, no_succ_le]
        | contradiction
        | refine wntB_decT (fun _ => ?_) (fun _ => ?_)
        | refine wntB_decF (fun _ => ?_) (fun _ => ?_)
        | refine cndB_dec (fun _ => ?_) (fun _ => ?_)
        | refine drawnB_ok (by kernel_rfl) ?_
        | ((first | refine Fin.q ?_ ?_ | refine Fin.qn ?_ ?_) <;> ((try simp (maxSteps := 1000000) only [go_sem, Int.reduceLT, Int.reduceLE, Int.reduceToNat, Int.reduceEq, Nat.reduceMul, ↓reduceIte, Nat.reduceLT, Nat.reduceLeDiff, Nat.reduceEqDiff, Nat.reduceAdd, Nat.reduceSub, Nat.reduceBEq, reduceCtorEq, *, rangeF_len, takeF, List.drop_zero, Nat.zero_add, eq_self, no_succ_le]) <;> (skip)))
set_option maxRecDepth 20000 in
theorem kcStarts {m n : Nat} {H : Heap} {slot : Nat} {K : D → List (Nat × Blk) → List (Nat × Blk) → Prop} (hK : K (.tup [V (rangeF (startF m n) (n + 1)), .int .i64 0]) [] []) (h2 : 2 ≤ m := by first | assumption | omega) (h32 : m ≤ 32 := by first | assumption | omega) (h1 : 1 ≤ n := by first | assumption | omega) (h8 : n ≤ 8 := by first | assumption | omega) (hnm : n ≤ m := by first | assumption | omega) : @callB ⟨callX Tryz.prog⟩ 109 [.int .i64 m, .int .i64 n] H slot ⟨K⟩ := by
  have he0 : rdOf H (D.idsL [.int .i64 m, .int .i64 n]) = [] := by simp (maxSteps := 1000000) only [go_sem, Int.reduceLT, Int.reduceLE, Int.reduceToNat, Int.reduceEq, Nat.reduceMul, ↓reduceIte, Nat.reduceLT, Nat.reduceLeDiff, Nat.reduceEqDiff, Nat.reduceAdd, Nat.reduceSub, Nat.reduceBEq, reduceCtorEq]
  refine call0 false (cStarts m n h2 h32 h1 h8 hnm) ?_ ?_ (fun h => nomatch h) (by rw [he0]; exact hK)
  iterate 2 (· simp (maxSteps := 1000000) only [go_sem, Int.reduceLT, Int.reduceLE, Int.reduceToNat, Int.reduceEq, Nat.reduceMul, ↓reduceIte, Nat.reduceLT, Nat.reduceLeDiff, Nat.reduceEqDiff, Nat.reduceAdd, Nat.reduceSub, Nat.reduceBEq, reduceCtorEq])
end TR

/- Sums over pieces. -/
open Go Go.Proofs Go.AH
set_option linter.unusedSimpArgs false
set_option linter.unusedVariables false
namespace TR
def segS (x : List Int) (a : Nat) : Nat → Int
  | 0 => 0
  | k + 1 => IntKind.i64.wrap (segS x a k + x.getD (a + k) 0)
def foldV (x : List Int) (m n : Nat) (i : Nat) : Int := segS x (i * m / n) ((i + 1) * m / n - i * m / n)
theorem start_mono {m n : Nat} (hn : 1 ≤ n) (hnm : n ≤ m) (i : Nat) : i * m / n + 1 ≤ (i + 1) * m / n := by
  have h : i * m + n ≤ (i + 1) * m := by rw [Nat.add_mul, Nat.one_mul]; omega
  have h2 := Nat.div_le_div_right (c := n) h
  rwa [Nat.add_div_right _ (by omega)] at h2
theorem start_le {m n i : Nat} (hn : 1 ≤ n) (hi : i ≤ n) : i * m / n ≤ m := by
  have h : i * m ≤ n * m := Nat.mul_le_mul_right m hi
  have h2 := Nat.div_le_div_right (c := n) h
  rwa [Nat.mul_div_cancel_left _ (by omega)] at h2
def stFold (x : List Int) (m n : Nat) : Nat → St
  | 0 => ⟨39, [(6, .int .i64 1), (5, .zs), (1, V (rangeF (startF m n) (n + 1))), (0, V x)], []⟩
  | i + 1 => ⟨39, [(6, .int .i64 ((i + 1 + 1 : Nat) : Int)), (5, .rs 1 1 0 (i + 1) (i + 1)), (1, V (rangeF (startF m n) (n + 1))), (0, V x)], [none, some (ints (rangeF (foldV x m n) (i + 1)))]⟩
set_option maxHeartbeats 2000000 in
set_option maxRecDepth 20000 in
theorem cFold (x : List Int) (n : Nat) (h32 : x.length ≤ 32) (h1 : 1 ≤ n) (h8 : n ≤ 8) (hnm : n ≤ x.length) : FC Tryz.prog 137 [V x, V (rangeF (startF x.length n) (n + 1))] [] (V (rangeF (foldV x x.length n) n)) [] := by
  refine FC.of_run mix Tryz.func137 rfl rfl (by simp [Tryz.ntmps137]) ?_
  repeat' first
    | simp (maxSteps := 1000000) only [go_sem, Int.reduceLT, Int.reduceLE, Int.reduceToNat, Int.reduceEq, Nat.reduceMul, ↓reduceIte, Nat.reduceLT, Nat.reduceLeDiff, Nat.reduceEqDiff, Nat.reduceAdd, Nat.reduceSub, Nat.reduceBEq, reduceCtorEq, *]
    | contradiction
    | refine wntB_decT (fun _ => ?_) (fun _ => ?_)
    | refine wntB_decF (fun _ => ?_) (fun _ => ?_)
    | refine cndB_dec (fun _ => ?_) (fun _ => ?_)
    | refine drawnB_ok (by kernel_rfl) ?_
    | ((first | refine Fin.q ?_ ?_ | refine Fin.qn ?_ ?_) <;> ((try simp (maxSteps := 1000000) only [go_sem, Int.reduceLT, Int.reduceLE, Int.reduceToNat, Int.reduceEq, Nat.reduceMul, ↓reduceIte, Nat.reduceLT, Nat.reduceLeDiff, Nat.reduceEqDiff, Nat.reduceAdd, Nat.reduceSub, Nat.reduceBEq, reduceCtorEq, *]) <;> (skip)))
  refine AW.loopx (σ := Nat) mix (stFold x x.length n) (fun i => i ≤ n) (fun i => n - i) 0 (by omega) (Conv.mk ?_ ?_ ?_ ?_ ?_) ?_
  iterate 5 (· simp (maxSteps := 1000000) only [go_sem, Int.reduceLT, Int.reduceLE, Int.reduceToNat, Int.reduceEq, Nat.reduceMul, ↓reduceIte, Nat.reduceLT, Nat.reduceLeDiff, Nat.reduceEqDiff, Nat.reduceAdd, Nat.reduceSub, Nat.reduceBEq, reduceCtorEq, stFold])
  intro i hi
  have hC : i + 1 ≤ capMax := by unfold capMax; omega
  have hC2 : i + 1 + 1 ≤ capMax := by unfold capMax; omega
  have hmono := start_mono h1 hnm i
  have hs1 := getF (startF x.length n) (n := n + 1) (i := i) (by omega)
  rcases i with _ | i
  · have hlt : 1 < n + 1 := by omega
    have hlt2 : 0 < n + 1 := by omega
    have hs2 := getF (startF x.length n) (n := n + 1) (i := 1) (by omega)
    have hle : x.length / n ≤ x.length := Nat.div_le_self _ _
    have hge : 1 ≤ x.length / n := Nat.div_pos hnm h1
    have hw0 : IntKind.i64.wrap ((1 : Int) - 1) = 0 := by decide
    have hw1 : IntKind.i64.wrap ((1 : Int) + 1) = ((0 + 1 + 1 : Nat) : Int) := by decide
    have z0 : startF x.length n 0 = 0 := by simp [startF]
    have z1 : startF x.length n 1 = ((x.length / n : Nat) : Int) := by simp [startF]
    have hltI : (1 : Int) < ((n + 1 : Nat) : Int) := by omega
    clear hmono
    simp only [stFold]
    repeat' first
      | simp (maxSteps := 1000000) only [go_sem, Int.reduceLT, Int.reduceLE, Int.reduceToNat, Int.reduceEq, Nat.reduceMul, ↓reduceIte, Nat.reduceLT, Nat.reduceLeDiff, Nat.reduceEqDiff, Nat.reduceAdd, Nat.reduceSub, Nat.reduceBEq, reduceCtorEq, *, rangeF_len]
      | contradiction
      | refine wntB_decT (fun _ => ?_) (fun _ => ?_)
      | refine wntB_decF (fun _ => ?_) (fun _ => ?_)
      | refine cndB_dec (fun _ => ?_) (fun _ => ?_)
      | refine drawnB_ok (by kernel_rfl) ?_
      | ((first | refine Fin.q ?_ ?_ | refine Fin.qn ?_ ?_) <;> ((try simp (maxSteps := 1000000) only [go_sem, Int.reduceLT, Int.reduceLE, Int.reduceToNat, Int.reduceEq, Nat.reduceMul, ↓reduceIte, Nat.reduceLT, Nat.reduceLeDiff, Nat.reduceEqDiff, Nat.reduceAdd, Nat.reduceSub, Nat.reduceBEq, reduceCtorEq, *, rangeF_len]) <;> (skip)))
    refine AW.loopx (σ := Nat) mix (fun k => ⟨39, [(8, .int .i64 (k : Int)), (7, .int .i64 (segS x 0 k)), (6, .int .i64 1), (5, .zs), (1, V (rangeF (startF x.length n) (n + 1))), (0, V x)], []⟩) (fun k => k ≤ x.length / n) (fun k => x.length / n - k) 0 (Nat.zero_le _) (Conv.mk ?_ ?_ ?_ ?_ ?_) ?_
    iterate 5 (· (simp (maxSteps := 1000000) only [go_sem, Int.reduceLT, Int.reduceLE, Int.reduceToNat, Int.reduceEq, Nat.reduceMul, ↓reduceIte, Nat.reduceLT, Nat.reduceLeDiff, Nat.reduceEqDiff, Nat.reduceAdd, Nat.reduceSub, Nat.reduceBEq, reduceCtorEq, segS]) <;> (first | rfl | (simp [ints]; done) | (simp [*]; done) | ((repeat' (first | rfl | apply And.intro)); done)))
    intro k hk
    by_cases h : k < x.length / n
    · have hx := ints_get (l := x) (i := k) (by omega)
      have hw := wrap1 (i := k) (by omega)
      have hb2 : k < x.length := by omega
      repeat' first
        | (refine ⟨k + 1, ?_, ?_, Conv.mk ?_ ?_ ?_ ?_ ?_⟩; (· (first | omega | (simp only; omega) | (simp only [List.length_nil, List.length_cons]; omega))); (· (omega)); (all_goals simp (maxSteps := 1000000) only [go_sem, Int.reduceLT, Int.reduceLE, Int.reduceToNat, Int.reduceEq, Nat.reduceMul, ↓reduceIte, Nat.reduceLT, Nat.reduceLeDiff, Nat.reduceEqDiff, Nat.reduceAdd, Nat.reduceSub, Nat.reduceBEq, reduceCtorEq, *, rangeF_len, segS]); done)
        | simp (maxSteps := 1000000) only [go_sem, Int.reduceLT, Int.reduceLE, Int.reduceToNat, Int.reduceEq, Nat.reduceMul, ↓reduceIte, Nat.reduceLT, Nat.reduceLeDiff, Nat.reduceEqDiff, Nat.reduceAdd, Nat.reduceSub, Nat.reduceBEq, reduceCtorEq, *, rangeF_len, segS]
        | contradiction
        | refine wntB_decT (fun _ => ?_) (fun _ => ?_)
        | refine wntB_decF (fun _ => ?_) (fun _ => ?_)
        | refine cndB_dec (fun _ => ?_) (fun _ => ?_)
        | refine drawnB_ok (by kernel_rfl) ?_
        | ((first | refine Fin.q ?_ ?_ | refine Fin.qn ?_ ?_) <;> ((try simp (maxSteps := 1000000) only [go_sem, Int.reduceLT, Int.reduceLE, Int.reduceToNat, Int.reduceEq, Nat.reduceMul, ↓reduceIte, Nat.reduceLT, Nat.reduceLeDiff, Nat.reduceEqDiff, Nat.reduceAdd, Nat.reduceSub, Nat.reduceBEq, reduceCtorEq, *, rangeF_len, segS]) <;> (skip)))
    · have hkk : k = x.length / n := by omega
      have hv : segS x 0 (x.length / n) = foldV x x.length n 0 := by simp [foldV]
      subst hkk
      repeat' first
        | (refine ⟨1, ?_, ?_, Conv.mk ?_ ?_ ?_ ?_ ?_⟩; (· (first | omega | (simp only; omega) | (simp only [List.length_nil, List.length_cons]; omega))); (· (omega)); (all_goals simp (maxSteps := 1000000) only [go_sem, Int.reduceLT, Int.reduceLE, Int.reduceToNat, Int.reduceEq, Nat.reduceMul, ↓reduceIte, Nat.reduceLT, Nat.reduceLeDiff, Nat.reduceEqDiff, Nat.reduceAdd, Nat.reduceSub, Nat.reduceBEq, reduceCtorEq, *, stFold, Nat.zero_add, rangeF_one, rangeF_len, List.length_singleton, List.isEmpty_cons, List.length_cons, List.length_nil, Nat.lt_irrefl]); done)
        | simp (maxSteps := 1000000) only [go_sem, Int.reduceLT, Int.reduceLE, Int.reduceToNat, Int.reduceEq, Nat.reduceMul, ↓reduceIte, Nat.reduceLT, Nat.reduceLeDiff, Nat.reduceEqDiff, Nat.reduceAdd, Nat.reduceSub, Nat.reduceBEq, reduceCtorEq, *, stFold, Nat.zero_add, rangeF_one, rangeF_len, List.length_singleton, List.isEmpty_cons, List.length_cons, List.length_nil, Nat.lt_irrefl]
        | contradiction
        | refine wntB_decT (fun _ => ?_) (fun _ => ?_)
        | refine wntB_decF (fun _ => ?_) (fun _ => ?_)
        | refine cndB_dec (fun _ => ?_) (fun _ => ?_)
        | refine drawnB_ok (by kernel_rfl) ?_
        | ((first | refine Fin.q ?_ ?_ | refine Fin.qn ?_ ?_) <;> ((try simp (maxSteps := 1000000) only [go_sem, Int.reduceLT, Int.reduceLE, Int.reduceToNat, Int.reduceEq, Nat.reduceMul, ↓reduceIte, Nat.reduceLT, Nat.reduceLeDiff, Nat.reduceEqDiff, Nat.reduceAdd, Nat.reduceSub, Nat.reduceBEq, reduceCtorEq, *, stFold, Nat.zero_add, rangeF_one, rangeF_len, List.length_singleton, List.isEmpty_cons, List.length_cons, List.length_nil, Nat.lt_irrefl]) <;> (skip)))
  · by_cases hin : i + 1 < n
    · have hlt : i + 1 + 1 < n + 1 := by omega
      have hlt2 : i + 1 < n + 1 := by omega
      have hs2 := getF (startF x.length n) (n := n + 1) (i := i + 1 + 1) (by omega)
      have hle := start_le (m := x.length) h1 (i := i + 1 + 1) (by omega)
      have hw0 : IntKind.i64.wrap (((i + 1 + 1 : Nat) : Int) - 1) = ((i + 1 : Nat) : Int) := by rw [wrapS] <;> omega
      have hw1 : IntKind.i64.wrap (((i + 1 + 1 : Nat) : Int) + 1) = ((i + 1 + 1 + 1 : Nat) : Int) := wrap1 (by omega)
      have z0 : startF x.length n (i + 1) = (((i + 1) * x.length / n : Nat) : Int) := rfl
      have z1 : startF x.length n (i + 1 + 1) = (((i + 1 + 1) * x.length / n : Nat) : Int) := rfl
      have hf : segS x ((i + 1) * x.length / n) ((i + 1 + 1) * x.length / n - (i + 1) * x.length / n) = foldV x x.length n (i + 1) := rfl
      generalize (i + 1) * x.length / n = A at *
      generalize (i + 1 + 1) * x.length / n = B at *
      simp only [stFold]
      repeat' first
        | simp (maxSteps := 1000000) only [go_sem, Int.reduceLT, Int.reduceLE, Int.reduceToNat, Int.reduceEq, Nat.reduceMul, ↓reduceIte, Nat.reduceLT, Nat.reduceLeDiff, Nat.reduceEqDiff, Nat.reduceAdd, Nat.reduceSub, Nat.reduceBEq, reduceCtorEq, *, rangeF_len]
        | contradiction
        | refine wntB_decT (fun _ => ?_) (fun _ => ?_)
        | refine wntB_decF (fun _ => ?_) (fun _ => ?_)
        | refine cndB_dec (fun _ => ?_) (fun _ => ?_)
        | refine drawnB_ok (by kernel_rfl) ?_
        | ((first | refine Fin.q ?_ ?_ | refine Fin.qn ?_ ?_) <;> ((try simp (maxSteps := 1000000) only [go_sem, Int.reduceLT, Int.reduceLE, Int.reduceToNat, Int.reduceEq, Nat.reduceMul, ↓reduceIte, Nat.reduceLT, Nat.reduceLeDiff, Nat.reduceEqDiff, Nat.reduceAdd, Nat.reduceSub, Nat.reduceBEq, reduceCtorEq, *, rangeF_len]) <;> (skip)))
      refine AW.loopx (σ := Nat) mix (fun k => ⟨39, [(8, .int .i64 ((A + k : Nat) : Int)), (7, .int .i64 (segS x A k)), (6, .int .i64 ((i + 1 + 1 : Nat) : Int)), (5, .rs 1 1 0 (i + 1) (i + 1)), (1, V (rangeF (startF x.length n) (n + 1))), (0, V x)], [none, some (ints (rangeF (foldV x x.length n) (i + 1)))]⟩) (fun k => k ≤ B - A) (fun k => B - A - k) 0 (Nat.zero_le _) (Conv.mk ?_ ?_ ?_ ?_ ?_) ?_
      iterate 5 (· (simp (maxSteps := 1000000) only [go_sem, Int.reduceLT, Int.reduceLE, Int.reduceToNat, Int.reduceEq, Nat.reduceMul, ↓reduceIte, Nat.reduceLT, Nat.reduceLeDiff, Nat.reduceEqDiff, Nat.reduceAdd, Nat.reduceSub, Nat.reduceBEq, reduceCtorEq, segS, Nat.add_zero]) <;> (first | rfl | (simp [ints]; done) | (simp [*]; done) | ((repeat' (first | rfl | apply And.intro)); done)))
      intro k hk
      by_cases h : k < B - A
      · have hx := ints_get (l := x) (i := A + k) (by omega)
        have hw := wrap1 (i := A + k) (by omega)
        have hb : A + k < B := by omega
        have hb2 : A + k < x.length := by omega
        have hk1 : A + k + 1 = A + (k + 1) := by omega
        repeat' first
          | (refine ⟨k + 1, ?_, ?_, Conv.mk ?_ ?_ ?_ ?_ ?_⟩; (· (first | omega | (simp only; omega) | (simp only [List.length_nil, List.length_cons]; omega))); (· (omega)); (all_goals simp (maxSteps := 1000000) only [go_sem, Int.reduceLT, Int.reduceLE, Int.reduceToNat, Int.reduceEq, Nat.reduceMul, ↓reduceIte, Nat.reduceLT, Nat.reduceLeDiff, Nat.reduceEqDiff, Nat.reduceAdd, Nat.reduceSub, Nat.reduceBEq, reduceCtorEq, *, rangeF_len, segS]); done)
          | simp (maxSteps := 1000000) only [go_sem, Int.reduceLT, Int.reduceLE, Int.reduceToNat, Int.reduceEq, Nat.reduceMul, ↓reduceIte, Nat.reduceLT, Nat.reduceLeDiff, Nat.reduceEqDiff, Nat.reduceAdd, Nat.reduceSub, Nat.reduceBEq, reduceCtorEq, *, rangeF_len, segS]
          | contradiction
          | refine wntB_decT (fun _ => ?_) (fun _ => ?_)
          | refine wntB_decF (fun _ => ?_) (fun _ => ?_)
          | refine cndB_dec (fun _ => ?_) (fun _ => ?_)
          | refine drawnB_ok (by kernel_rfl) ?_
          | ((first | refine Fin.q ?_ ?_ | refine Fin.qn ?_ ?_) <;> ((try simp (maxSteps := 1000000) only [go_sem, Int.reduceLT, Int.reduceLE, Int.reduceToNat, Int.reduceEq, Nat.reduceMul, ↓reduceIte, Nat.reduceLT, Nat.reduceLeDiff, Nat.reduceEqDiff, Nat.reduceAdd, Nat.reduceSub, Nat.reduceBEq, reduceCtorEq, *, rangeF_len, segS]) <;> (skip)))
      · have hkk : k = B - A := by omega
        subst hkk
        have hb : ¬ (A + (B - A) < B) := by omega
        clear hmono
        repeat' first
          | (refine ⟨i + 1 + 1, ?_, ?_, Conv.mk ?_ ?_ ?_ ?_ ?_⟩; (· (first | omega | (simp only; omega) | (simp only [List.length_nil, List.length_cons]; omega))); (· (omega)); (all_goals simp (maxSteps := 1000000) only [go_sem, Int.reduceLT, Int.reduceLE, Int.reduceToNat, Int.reduceEq, Nat.reduceMul, ↓reduceIte, Nat.reduceLT, Nat.reduceLeDiff, Nat.reduceEqDiff, Nat.reduceAdd, Nat.reduceSub, Nat.reduceBEq, reduceCtorEq, *, stFold, snocF, rangeF_len, takeF, no_succ_le, Nat.zero_add, List.isEmpty_cons, List.length_cons, List.length_nil, List.drop_zero, eq_self]); done)
          | simp (maxSteps := 1000000) only [go_sem, Int.reduceLT, Int.reduceLE, Int.reduceToNat, Int.reduceEq, Nat.reduceMul, ↓reduceIte, Nat.reduceLT, Nat.reduceLeDiff, Nat.reduceEqDiff, Nat.reduceAdd, Nat.reduceSub, Nat.reduceBEq, reduceCtorEq, *, stFold, snocF, rangeF_len, takeF, no_succ_le, Nat.zero_add, List.isEmpty_cons, List.length_cons, List.length_nil, List.drop_zero, eq_self]
          | contradiction
          | refine wntB_decT (fun _ => ?_) (fun _ => ?_)
          | refine wntB_decF (fun _ => ?_) (fun _ => ?_)
          | refine cndB_dec (fun _ => ?_) (fun _ => ?_)
          | refine drawnB_ok (by kernel_rfl) ?_
          | ((first | refine Fin.q ?_ ?_ | refine Fin.qn ?_ ?_) <;> ((try simp (maxSteps := 1000000) only [go_sem, Int.reduceLT, Int.reduceLE, Int.reduceToNat, Int.reduceEq, Nat.reduceMul, ↓reduceIte, Nat.reduceLT, Nat.reduceLeDiff, Nat.reduceEqDiff, Nat.reduceAdd, Nat.reduceSub, Nat.reduceBEq, reduceCtorEq, *, stFold, snocF, rangeF_len, takeF, no_succ_le, Nat.zero_add, List.isEmpty_cons, List.length_cons, List.length_nil, List.drop_zero, eq_self]) <;> (skip)))
    · obtain rfl : n = i + 1 := by omega
      simp only [stFold]
      repeat' first
        | simp (maxSteps := 1000000) only [go_sem, Int.reduceLT, Int.reduceLE, Int.reduceToNat, Int.reduceEq, Nat.reduceMul, ↓reduceIte, Nat.reduceLT, Nat.reduceLeDiff, Nat.reduceEqDiff, Nat.reduceAdd, Nat.reduceSub, Nat.reduceBEq, reduceCtorEq, *, rangeF_len, takeF, List.drop_zero, Nat.zero_add, eq_self, no_succ_le, Nat.lt_irrefl]
        | contradiction
        | refine wntB_decT (fun _ => ?_) (fun _ => ?_)
        | refine wntB_decF (fun _ => ?_) (fun _ => ?_)
        | refine cndB_dec (fun _ => ?_) (fun _ => ?_)
        | refine drawnB_ok (by kernel_rfl) ?_
        | ((first | refine Fin.q ?_ ?_ | refine Fin.qn ?_ ?_) <;> ((try simp (maxSteps := 1000000) only [go_sem, Int.reduceLT, Int.reduceLE, Int.reduceToNat, Int.reduceEq, Nat.reduceMul, ↓reduceIte, Nat.reduceLT, Nat.reduceLeDiff, Nat.reduceEqDiff, Nat.reduceAdd, Nat.reduceSub, Nat.reduceBEq, reduceCtorEq, *, rangeF_len, takeF, List.drop_zero, Nat.zero_add, eq_self, no_succ_le, Nat.lt_irrefl]) <;> (skip)))
set_option maxRecDepth 20000 in
theorem kcFold {x : List Int} {n : Nat} {H : Heap} {slot : Nat} {K : D → List (Nat × Blk) → List (Nat × Blk) → Prop} (hK : K (V (rangeF (foldV x x.length n) n)) [] []) (h32 : x.length ≤ 32 := by first | assumption | omega) (h1 : 1 ≤ n := by first | assumption | omega) (h8 : n ≤ 8 := by first | assumption | omega) (hnm : n ≤ x.length := by first | assumption | omega) : @callB ⟨callX Tryz.prog⟩ 137 [V x, V (rangeF (startF x.length n) (n + 1))] H slot ⟨K⟩ := by
  have he0 : rdOf H (D.idsL [V x, V (rangeF (startF x.length n) (n + 1))]) = [] := by simp (maxSteps := 1000000) only [go_sem, Int.reduceLT, Int.reduceLE, Int.reduceToNat, Int.reduceEq, Nat.reduceMul, ↓reduceIte, Nat.reduceLT, Nat.reduceLeDiff, Nat.reduceEqDiff, Nat.reduceAdd, Nat.reduceSub, Nat.reduceBEq, reduceCtorEq]
  refine call0 false (cFold x n h32 h1 h8 hnm) ?_ ?_ (fun h => nomatch h) (by rw [he0]; exact hK)
  iterate 2 (· simp (maxSteps := 1000000) only [go_sem, Int.reduceLT, Int.reduceLE, Int.reduceToNat, Int.reduceEq, Nat.reduceMul, ↓reduceIte, Nat.reduceLT, Nat.reduceLeDiff, Nat.reduceEqDiff, Nat.reduceAdd, Nat.reduceSub, Nat.reduceBEq, reduceCtorEq])
set_option maxHeartbeats 2000000 in
set_option maxRecDepth 20000 in
theorem cSums (x : List Int) (n : Nat) (hx : smp x) (h1 : 1 ≤ n) (h8 : n ≤ 8) (hnm : n ≤ x.length) : FC Tryz.prog 110 [V x, .int .i64 n] [] (.tup [V (rangeF (foldV x x.length n) n), .int .i64 0]) [] := by
  refine FC.of_run mix Tryz.func110 rfl rfl (by simp [Tryz.ntmps110]) ?_
  have h2 := hx.1
  have h32 := hx.2.1
  repeat' first
    | simp (maxSteps := 1000000) only [go_sem, Int.reduceLT, Int.reduceLE, Int.reduceToNat, Int.reduceEq, Nat.reduceMul, ↓reduceIte, Nat.reduceLT, Nat.reduceLeDiff, Nat.reduceEqDiff, Nat.reduceAdd, Nat.reduceSub, Nat.reduceBEq, reduceCtorEq, *]
    | contradiction
    | refine wntB_decT (fun _ => ?_) (fun _ => ?_)
    | refine wntB_decF (fun _ => ?_) (fun _ => ?_)
    | refine cndB_dec (fun _ => ?_) (fun _ => ?_)
    | refine drawnB_ok (by kernel_rfl) ?_
    | refine kcWindow ?_
    | refine kcStarts ?_
    | refine kcFold ?_
    | ((first | refine Fin.q ?_ ?_ | refine Fin.qn ?_ ?_) <;> ((try simp (maxSteps := 1000000) only [go_sem, Int.reduceLT, Int.reduceLE, Int.reduceToNat, Int.reduceEq, Nat.reduceMul, ↓reduceIte, Nat.reduceLT, Nat.reduceLeDiff, Nat.reduceEqDiff, Nat.reduceAdd, Nat.reduceSub, Nat.reduceBEq, reduceCtorEq, *]) <;> (skip)))
set_option maxRecDepth 20000 in
theorem kcSums {x : List Int} {n : Nat} {H : Heap} {slot : Nat} {K : D → List (Nat × Blk) → List (Nat × Blk) → Prop} (hK : K (.tup [V (rangeF (foldV x x.length n) n), .int .i64 0]) [] []) (hx : smp x := by first | assumption | omega) (h1 : 1 ≤ n := by first | assumption | omega) (h8 : n ≤ 8 := by first | assumption | omega) (hnm : n ≤ x.length := by first | assumption | omega) : @callB ⟨callX Tryz.prog⟩ 110 [V x, .int .i64 n] H slot ⟨K⟩ := by
  have he0 : rdOf H (D.idsL [V x, .int .i64 n]) = [] := by simp (maxSteps := 1000000) only [go_sem, Int.reduceLT, Int.reduceLE, Int.reduceToNat, Int.reduceEq, Nat.reduceMul, ↓reduceIte, Nat.reduceLT, Nat.reduceLeDiff, Nat.reduceEqDiff, Nat.reduceAdd, Nat.reduceSub, Nat.reduceBEq, reduceCtorEq]
  refine call0 false (cSums x n hx h1 h8 hnm) ?_ ?_ (fun h => nomatch h) (by rw [he0]; exact hK)
  iterate 2 (· simp (maxSteps := 1000000) only [go_sem, Int.reduceLT, Int.reduceLE, Int.reduceToNat, Int.reduceEq, Nat.reduceMul, ↓reduceIte, Nat.reduceLT, Nat.reduceLeDiff, Nat.reduceEqDiff, Nat.reduceAdd, Nat.reduceSub, Nat.reduceBEq, reduceCtorEq])
end TR


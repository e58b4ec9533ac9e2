/- Slices of rows of integers among the arguments: what is read of them is a value of the machine. -/
import Derived.Test.YtmhkanhgmfolhaaGreatAhRowT
import Derived.DataReads
import Derived.SizedLaws
set_option linter.unusedVariables false
set_option linter.unusedSimpArgs false
namespace Go.AH

theorem rows_choose {Q : Nat → List Int → Prop} : ∀ (len : Nat), (∀ i, i < len → ∃ r, Q i r) → ∃ rows : List (List Int), rows.length = len ∧ ∀ i r, rows[i]? = some r → Q i r
  | 0, _ => ⟨[], rfl, fun i r hr => by simp at hr⟩
  | k + 1, h => by
    obtain ⟨rows, g1, g2⟩ := rows_choose k (fun i hi => h i (by omega))
    obtain ⟨r, g3⟩ := h k (by omega)
    refine ⟨rows ++ [r], by simp [g1], fun i s hs => ?_⟩
    by_cases hi : i < rows.length
    · rw [List.getElem?_append_left hi] at hs
      exact g2 i s hs
    · rw [List.getElem?_append_right (by omega)] at hs
      have : i - rows.length = 0 := by
        cases hk : i - rows.length with
        | zero => rfl
        | succ z => rw [hk] at hs; simp at hs
      rw [this] at hs
      simp at hs
      subst hs
      have : i = k := by omega
      subst this
      exact g3

theorem slice_trod {H : Type} {enc : TypeId × Value → H} {P : Program} {w : World} {spare : Nat → Bool} {held : Bool} (d : Nat) {t e : TypeId} {sz m : Nat} {v : Value} {x : DataW H × List MemPlace} (ht : P.underlying t = some (.slice e))
    (hf : flatI P d e = some sz) (hsz : P.cellsOf e = sz) (h0 : 0 < sz) (h : DataW.trod enc P w 0 spare held m t [v] = some x) :
    ∃ rows : List (List Int), (∀ b, (∀ y, y ∈ x.1.weights P t → y ≤ b) → rows.length * P.bytesOf e ≤ b) ∧ (∀ r, r ∈ rows → r.length = sz) ∧ RelE (fun _ => True) (fun _ => none) w (.vs (rows.map fun r => r.map (D.int .i64))) v := by
  rcases DataW.trod_slice ht h with ⟨hv, _⟩ | ⟨a, len, cap, elems, rest, n, _, hv, hx, _, hlc, hcm, hel, hget, _, _⟩
  · simp only [List.cons.injEq, and_true] at hv
    subst hv
    exact ⟨[], by simp, by simp, .pur _ _ (.vs [] none 0 0 (fun _ _ => undef) (by simp) (by simp) (fun h => (h rfl).elim) (fun i j r d hi _ => by simp at hi))⟩
  · simp only [List.cons.injEq, and_true] at hv
    subst hv
    have hrow : ∀ i, i < len → ∃ r : List Int, r.length = sz ∧ ∀ j, j < sz → w.cell? ((a.add (i * sz)).add j) = some (.int .i64 (r.getD j 0)) := by
      intro i hi
      have hg := hget i hi
      rw [List.getElem?_eq_getElem (by omega), Option.bind_eq_some_iff] at hg
      obtain ⟨cs, h1, h2⟩ := hg
      obtain ⟨l, e1, rfl⟩ := flat_trod d hf h2
      rw [hsz] at h1
      obtain ⟨_, _, h3⟩ := World.cells?_some h1
      refine ⟨l, e1, fun j hj => ?_⟩
      rw [h3 j hj]
      simp [List.getD, show j < l.length by omega]
    have hch := rows_choose len hrow
    obtain ⟨rows, g1, g2⟩ := hch
    refine ⟨rows, fun b hb => ?_, fun r hr => ?_, rel_rows rows g1 (fun r hr => ?_) h0 hlc (fun i r hr j hj => (g2 i r hr).2 j hj)⟩
    · subst hx
      have := hb ((elems.length + rest.length) * P.bytesOf e) (by simp [DataW.weights, ht])
      refine Nat.le_trans (Nat.mul_le_mul_right _ ?_) this
      omega
    · obtain ⟨i, hi⟩ := List.getElem?_of_mem hr; exact (g2 i r hi).1
    · obtain ⟨i, hi⟩ := List.getElem?_of_mem hr; exact (g2 i r hi).1
end Go.AH

/- A block that nobody writes any more is seen as an immutable value from now on. -/
import Derived.Test.YtmhkanhgmfolhaaGreatAhS
set_option linter.unusedSimpArgs false
set_option linter.unusedVariables false
namespace Go.AH

def unb (b i : Nat) : Option Nat := if i = b then none else some i

def frzTm (b : Nat) (H : Heap) : List (Nat × D) → List (Nat × D)
  | [] => []
  | (t, d) :: l => (t, (tr (unb b) true true false (hget H) d).getD .un) :: frzTm b H l

def frzH (b : Nat) (H0 : Heap) : Nat → Heap → Option Heap
  | _, [] => some []
  | i, o :: l => match frzH b H0 (i + 1) l with
    | some r => if i = b then some (none :: r) else match o with
      | none => some (none :: r)
      | some rows => match trB (unb b) true false (hget H0) rows with
        | some x => some (some x :: r)
        | none => none
    | none => none

def freeze (b : Nat) (s : St) : Option St :=
  match frzH b s.H 0 s.H with
  | some H => some ⟨s.n, frzTm b s.H s.tm, H⟩
  | none => none

theorem lk_frzTm (b : Nat) (H : Heap) (t : Nat) : ∀ l : List (Nat × D), lk (frzTm b H l) t = (tr (unb b) true true false (hget H) (lk l t)).getD .un
  | [] => by simp [frzTm, lk, tr]
  | (i, d) :: l => by
    simp only [frzTm, lk]
    split
    · rfl
    · exact lk_frzTm b H t l

theorem frzH_at {b : Nat} {H0 : Heap} : ∀ {l r : List (Option Blk)} {i : Nat}, frzH b H0 i l = some r → ∀ m,
    (∀ rows', r[m]? = some (some rows') → i + m ≠ b ∧ ∃ rows, l[m]? = some (some rows) ∧ trB (unb b) true false (hget H0) rows = some rows') ∧
    (i + m ≠ b → ∀ rows, l[m]? = some (some rows) → ∃ rows', r[m]? = some (some rows') ∧ trB (unb b) true false (hget H0) rows = some rows')
  | [], r, i, h, m => by
    simp only [frzH, Option.some.injEq] at h
    subst h
    simp
  | o :: l, r, i, h, m => by
    simp only [frzH] at h
    cases h1 : frzH b H0 (i + 1) l with
    | none => simp [h1] at h
    | some r1 =>
      simp only [h1] at h
      have ih := frzH_at h1
      by_cases hi : i = b
      · rw [if_pos hi] at h
        simp only [Option.some.injEq] at h
        subst h
        cases m with
        | zero => exact ⟨fun rows' hr => by simp at hr, fun hm => absurd hi (by omega)⟩
        | succ m =>
          obtain ⟨q1, q2⟩ := ih m
          simp only [List.getElem?_cons_succ]
          exact ⟨fun rows' hr => by obtain ⟨x, y⟩ := q1 rows' hr; exact ⟨by omega, y⟩, fun hm => q2 (by omega)⟩
      · rw [if_neg hi] at h
        cases o with
        | none =>
          simp only [Option.some.injEq] at h
          subst h
          cases m with
          | zero => exact ⟨fun rows' hr => by simp at hr, fun hm rows hr => by simp at hr⟩
          | succ m =>
            obtain ⟨q1, q2⟩ := ih m
            simp only [List.getElem?_cons_succ]
            exact ⟨fun rows' hr => by obtain ⟨x, y⟩ := q1 rows' hr; exact ⟨by omega, y⟩, fun hm => q2 (by omega)⟩
        | some rows0 =>
          cases h2 : trB (unb b) true false (hget H0) rows0 with
          | none => simp [h2] at h
          | some x =>
            simp only [h2, Option.some.injEq] at h
            subst h
            cases m with
            | zero =>
              refine ⟨fun rows' hr => ?_, fun hm rows hr => ?_⟩
              · simp only [List.getElem?_cons_zero, Option.some.injEq] at hr
                subst hr
                exact ⟨by omega, rows0, by simp, h2⟩
              · simp only [List.getElem?_cons_zero, Option.some.injEq] at hr
                subst hr
                exact ⟨x, by simp, h2⟩
            | succ m =>
              obtain ⟨q1, q2⟩ := ih m
              simp only [List.getElem?_cons_succ]
              exact ⟨fun rows' hr => by obtain ⟨x, y⟩ := q1 rows' hr; exact ⟨by omega, y⟩, fun hm => q2 (by omega)⟩

theorem hget_some {H : Heap} {i : Nat} {rows : Blk} : hget H i = some rows ↔ H[i]? = some (some rows) := by
  unfold hget
  cases H[i]? <;> simp

theorem Conv.freeze {k b : Nat} {s s' : St} (hkb : k ≤ b) (hf : freeze b s = some s') : Conv k s s' := by
  unfold AH.freeze at hf
  cases hH : frzH b s.H 0 s.H with
  | none => simp [hH] at hf
  | some H' =>
    simp only [hH, Option.some.injEq] at hf
    subst hf
    have hat := frzH_at hH
    have hget1 : ∀ i rows', hget H' i = some rows' → i ≠ b ∧ ∃ rows, hget s.H i = some rows ∧ trB (unb b) true false (hget s.H) rows = some rows' := by
      intro i rows' h
      obtain ⟨q, _⟩ := hat i
      obtain ⟨h1, rows, h2, h3⟩ := q rows' (hget_some.1 h)
      exact ⟨by omega, rows, hget_some.2 h2, h3⟩
    have hget2 : ∀ i, i ≠ b → ∀ rows, hget s.H i = some rows → ∃ rows', hget H' i = some rows' ∧ trB (unb b) true false (hget s.H) rows = some rows' := by
      intro i hi rows h
      obtain ⟨_, q⟩ := hat i
      obtain ⟨rows', h1, h2⟩ := q (by omega) rows (hget_some.1 h)
      exact ⟨rows', hget_some.2 h1, h2⟩
    intro base O E a w h
    let E' : Env := fun i => if i = b then none else E i
    have hsub : ∀ i bi, E' i = some bi → i ≠ b ∧ E i = some bi := fun i bi hi => by
      simp only [E'] at hi
      split at hi
      · cases hi
      · rename_i h1; exact ⟨h1, hi⟩
    have hne : ∀ i, i ≠ b → E' i = E i := fun i hi => by simp only [E']; rw [if_neg hi]
    have hOut : ∀ q, E.Out q → E'.Out q := fun q ho i bi hi => ho i bi (hsub i bi hi).2
    have hs : Seen (unb b) false true true O E s.H O E' w := by
      refine ⟨h.wr, fun i j hr => ?_, fun _ q _ h1 h2 => ⟨h1, hOut q h2⟩, fun _ q _ h2 => hOut q h2, fun i bi hr hi => ?_⟩
      · unfold unb at hr
        split at hr
        · cases hr
        · rename_i h1
          cases hr
          exact hne _ h1
      · have : i = b := by
          unfold unb at hr
          split at hr
          · assumption
          · cases hr
        subst this
        have ho : E'.Out bi.blk := fun j bj hj e => (hsub j bj hj).1 (h.wr.inj j i bj bi (hsub j bj hj).2 hi e)
        exact ⟨fun _ => ⟨h.up _ (h.own i bi hkb hi), ho⟩, fun _ => ho⟩
    refine ⟨E', ⟨?_, h.defers.sub (fun b bi hb => (hsub b bi hb).2), h.size, fun t v hv => ?_, h.hbase, h.up, fun i bi hi hE2 => h.own i bi hi (hsub i bi hE2).2⟩, ⟨⟨rfl, rfl, rfl, Nat.le_refl _, fun q _ ho => ⟨rfl, hOut q ho⟩, fun i bi hi hE2 => ⟨bi, by rw [hne i (by omega)]; exact hE2, rfl, Nat.le_refl _, fun _ => rfl⟩, fun _ c _ _ hc => ⟨c, hc, rfl⟩, Nat.le_refl _⟩, fun i bi' hi hE2 => .inr ⟨bi', (hsub i bi' hE2).2, rfl⟩⟩⟩
    · refine hs.wrel (nn := false) (fun i bi hi => ?_) (fun i rows hi => ?_)
      · obtain ⟨h1, h2⟩ := hsub i bi hi
        obtain ⟨rows, c, el, g1, _⟩ := h.wr.blk i bi h2
        obtain ⟨rows', h3, h4⟩ := hget2 i h1 rows g1
        exact ⟨i, rows, rows', h2, g1, h4, h3, (fun e => by cases e), fun i' ⟨bi', e1, e2⟩ => h.wr.inj i' i bi' bi (hsub i' bi' e1).2 h2 e2⟩
      · obtain ⟨h1, rows0, h2, h3⟩ := hget1 i rows hi
        obtain ⟨bi, hb⟩ := h.wr.live i rows0 h2
        exact ⟨bi, by rw [hne i h1]; exact hb⟩
    · rw [lk_frzTm]
      cases ht : tr (unb b) true true false (hget s.H) (lk s.tm t) with
      | none => exact .pur _ _ (.un _)
      | some d' => exact tr_rel hs (h.tm t v hv) ht (fun e => by cases e)

end Go.AH

/- A nil slice that lies in a block is seen as an empty one from now on. -/
import Derived.Test.YtmhkanhgmfolhaaGreatAhT
set_option linter.unusedSimpArgs false
set_option linter.unusedVariables false
namespace Go.AH

def weakD (d d' : D) : Prop := d' = d ∨ (d = .zs ∨ d = .nils) ∧ d' = .vs []
def weakR : List D → List D → Prop
  | [], [] => True
  | d :: r, d' :: r' => weakD d d' ∧ weakR r r'
  | _, _ => False
def weakB : Blk → Blk → Prop
  | [], [] => True
  | r :: b, r' :: b' => (r' = r ∨ weakR r r') ∧ weakB b b'
  | _, _ => False
def weakO : Option Blk → Option Blk → Prop
  | none, none => True
  | some R, some R' => R' = R ∨ weakB R R'
  | _, _ => False
def weakH : Heap → Heap → Prop
  | [], [] => True
  | o :: H, o' :: H' => weakO o o' ∧ weakH H H'
  | _, _ => False

theorem weakB_refl : ∀ b, weakB b b
  | [] => trivial
  | r :: b => ⟨.inl rfl, weakB_refl b⟩
theorem weakB_append : ∀ {a b b' : Blk}, weakB b b' → weakB (a ++ b) (a ++ b')
  | [], _, _, h => h
  | r :: a, b, b', h => ⟨.inl rfl, weakB_append h⟩

theorem weakR_at : ∀ {r r' : List D}, weakR r r' → r'.length = r.length ∧ ∀ (j : Nat) (d' : D), r'[j]? = some d' → ∃ d, r[j]? = some d ∧ weakD d d'
  | [], [], _ => ⟨rfl, fun j d h => by simp at h⟩
  | d :: r, d' :: r', h => by
    obtain ⟨h1, h2⟩ := weakR_at h.2
    refine ⟨by simp [h1], fun j x hx => ?_⟩
    cases j with
    | zero => simp at hx; subst hx; exact ⟨d, rfl, h.1⟩
    | succ j => simpa using h2 j x (by simpa using hx)
  | [], _ :: _, h => h.elim
  | _ :: _, [], h => h.elim
theorem weakB_at : ∀ {b b' : Blk}, weakB b b' → b'.length = b.length ∧ ∀ (i : Nat) (r' : List D), b'[i]? = some r' → ∃ r, b[i]? = some r ∧ r'.length = r.length ∧ ∀ (j : Nat) (d' : D), r'[j]? = some d' → ∃ d, r[j]? = some d ∧ weakD d d'
  | [], [], _ => ⟨rfl, fun i r h => by simp at h⟩
  | r :: b, r' :: b', h => by
    obtain ⟨h1, h2⟩ := weakB_at h.2
    refine ⟨by simp [h1], fun i x hx => ?_⟩
    cases i with
    | zero =>
      simp at hx; subst hx
      rcases h.1 with e | hw
      · subst e; exact ⟨_, rfl, rfl, fun j d hd => ⟨d, hd, .inl rfl⟩⟩
      · obtain ⟨e1, e2⟩ := weakR_at hw
        exact ⟨r, rfl, e1, e2⟩
    | succ i => simpa using h2 i x (by simpa using hx)
  | [], _ :: _, h => h.elim
  | _ :: _, [], h => h.elim
theorem weakO_at {R R' : Blk} (h : weakO (some R) (some R')) : R'.length = R.length ∧ ∀ (i : Nat) (r' : List D), R'[i]? = some r' → ∃ r, R[i]? = some r ∧ r'.length = r.length ∧ ∀ (j : Nat) (d' : D), r'[j]? = some d' → ∃ d, r[j]? = some d ∧ weakD d d' := by
  rcases h with e | h
  · subst e; exact ⟨rfl, fun i r hr => ⟨r, hr, rfl, fun j d hd => ⟨d, hd, .inl rfl⟩⟩⟩
  · exact weakB_at h
theorem weakH_at : ∀ {H H' : Heap}, weakH H H' → ∀ b, weakO (hget H b) (hget H' b)
  | [], [], _, b => by simp [hget, weakO]
  | o :: H, o' :: H', h, b => by
    cases b with
    | zero => simpa [hget] using h.1
    | succ b => simpa [hget] using weakH_at h.2 b
  | [], _ :: _, h, _ => h.elim
  | _ :: _, [], h, _ => h.elim

theorem Rel.weak {U V : Nat → Prop} {E : Env} {w : World} {d d' : D} {v : Value} (hw : weakD d d') (h : Rel U V E w d v) : Rel U V E w d' v := by
  rcases hw with rfl | ⟨hd, rfl⟩
  · exact h
  · have : ∃ a, v = .slice a 0 0 := by
      rcases hd with rfl | rfl
      · cases h with | pur _ _ hp => cases hp; exact ⟨none, rfl⟩
      · cases h with | pur _ _ hp => cases hp; exact ⟨_, rfl⟩
    obtain ⟨a, rfl⟩ := this
    exact .pur _ _ (.vs [] a 0 0 (fun _ _ => undef) (by simp) (by simp) (fun h => (h rfl).elim) (fun i j r d hi _ => by simp at hi))

theorem Conv.weak {k : Nat} {n : Nat} {tm : List (Nat × D)} {H H' : Heap} (h : weakH H H') : Conv k ⟨n, tm, H⟩ ⟨n, tm, H'⟩ := by
  intro base O E a w hS
  refine ⟨E, { hS with wr := ⟨fun b bi hE => ?_, fun b rows hg => ?_, hS.wr.inj, hS.wr.sc⟩, size := hS.size, tm := hS.tm }, FrK.refl _ _ _⟩
  · obtain ⟨rows, c, el, h1, h2, h3, h4, h5, h6⟩ := hS.wr.blk b bi hE
    have hb := weakH_at h b
    simp only at h1
    rw [h1] at hb
    cases hg : hget H' b with
    | none => rw [hg] at hb; exact hb.elim
    | some rows' =>
      rw [hg] at hb
      obtain ⟨e1, e2⟩ := weakO_at hb
      refine ⟨rows', c, el, rfl, by omega, fun r' hr => ?_, h4, h5, fun i j r' d' hi hj => ?_⟩
      · obtain ⟨i, hi⟩ := List.getElem?_of_mem hr
        obtain ⟨r, g1, g2, _⟩ := e2 i r' hi
        rw [g2]; exact h3 r (List.mem_of_getElem? g1)
      · obtain ⟨r, g1, g2, g3⟩ := e2 i r' hi
        obtain ⟨d, g4, g5⟩ := g3 j d' hj
        obtain ⟨v, q1, q2, q3⟩ := h6 i j r d g1 g4
        exact ⟨v, q1, q2, Rel.weak g5 q3⟩
  · have hb := weakH_at h b
    simp only at hg
    rw [hg] at hb
    cases hq : hget H b with
    | none => rw [hq] at hb; exact hb.elim
    | some R => exact hS.wr.live b R hq
end Go.AH

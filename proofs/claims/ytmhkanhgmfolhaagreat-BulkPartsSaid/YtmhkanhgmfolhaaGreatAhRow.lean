/- From a contract of a law to what its row asks: it returns true, and of what was there nothing has turned. -/
import Derived.Test.YtmhkanhgmfolhaaGreatAhS
import Derived.Below
set_option linter.unusedVariables false
set_option linter.unusedSimpArgs false
namespace Go.AH
open Go.RowKit

theorem law_below {P : Program} {f : FuncId} {args : List D} {vs : Array Value} {w : World} (h : FC P f args [] (.bool true) []) (hr : RelL (fun _ => True) (fun _ => none) w args vs.toList) :
    Calls P f vs w fun e w' => e = .returned (.bool true) ∧ Below w.heap.size w w' := by
  have hW : Wrel (fun _ => True) (fun _ => none) (([] : List Blk).map some) w :=
    ⟨fun b bi h => by simp at h, fun b rows h => by simp [hget] at h, fun b b' bi bi' h => by simp at h, fun b bi h => by simp at h⟩
  refine (h.2 _ _ w vs hW (fun _ _ => trivial) hr).mono ?_
  rintro e w' ⟨v, E', rfl, hv, _, hf, _⟩
  have hv' : v = .bool true := by
    cases hv with
    | pur _ _ hp => cases hp; rfl
  subst hv'
  exact ⟨rfl, ⟨hf.1.os, hf.1.tape, hf.1.output, hf.1.size, fun k hk => (hf.1.out k hk (fun b bi h => by simp at h)).1⟩⟩

/-- A struct of integers that came in. -/
theorem row_ints {P : Program} {w : World} {r : Reach} {base : Nat} {t t0 : TypeId} {v : Value} {fs : Array Field} {k : IntKind} {n : Nat} (ht : P.underlying t = some (.struct fs)) (hc : P.cellsOf t = n)
    (hts : P.cellTypes P.depth t = some (List.replicate n t0)) (h0 : P.underlying t0 = some (.int k)) (h : Value.okWide P w r base t v) :
    ∃ l : List Int, l.length = n ∧ v = .agg (l.map (Value.int k)).toArray := by
  unfold Value.okWide at h
  rw [ht] at h
  obtain ⟨cs, rfl, hs, ts, h1, _, h2⟩ := h
  rw [hts] at h1
  cases h1
  have hall : ∀ c, c ∈ cs.toList → ∃ z, c = Value.int k z := by
    intro c hcm
    obtain ⟨i, hi⟩ := List.getElem?_of_mem hcm
    obtain ⟨u, hu, hok⟩ := h2 i c (by simpa using hi)
    have : u = t0 := by
      have := List.mem_of_getElem? hu
      exact (List.mem_replicate.1 this).2
    subst this
    simp only [Cell.okWide, h0] at hok
    cases c <;> simp_all [Cell.ok]
  have : ∀ l : List Value, (∀ c, c ∈ l → ∃ z, c = Value.int k z) → ∃ zs : List Int, zs.length = l.length ∧ l = zs.map (Value.int k) := by
    intro l
    induction l with
    | nil => exact fun _ => ⟨[], rfl, rfl⟩
    | cons x xs ih =>
      intro hx
      obtain ⟨z, rfl⟩ := hx x (by simp)
      obtain ⟨zs, e1, e2⟩ := ih (fun c hc => hx c (by simp [hc]))
      exact ⟨z :: zs, by simp [e1], by simp [e2]⟩
  obtain ⟨zs, e1, e2⟩ := this cs.toList hall
  refine ⟨zs, by rw [e1]; simpa [hs] using hc, ?_⟩
  congr 1
  rw [← e2]

theorem rel_ints {O : Nat → Prop} {E : Env} {w : World} {k : IntKind} (l : List Int) : RelE O E w (.agg (l.map (D.int k))) (.agg (l.map (Value.int k)).toArray) := by
  refine Rel.agg _ _ (by simp) ?_ ?_
  · intro i v h
    simp at h
    obtain ⟨z, _, rfl⟩ := h
    rfl
  · intro i d v hd hv
    simp at hd hv
    obtain ⟨z, h1, rfl⟩ := hd
    obtain ⟨z', h2, rfl⟩ := hv
    rw [h1] at h2
    cases h2
    exact .pur _ _ (.int _ _)
end Go.AH

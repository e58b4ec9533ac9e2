/- Types that are rows of integers: what is read of them. -/
import Derived.Test.YtmhkanhgmfolhaaGreatAhRowS
set_option linter.unusedVariables false
set_option linter.unusedSimpArgs false
namespace Go.AH

def flatG (F : TypeId → Option Nat) (P : Program) : Nat → List Field → Option Nat
  | off, [] => some off
  | off, f :: fs => match F f.type with
    | some n => if f.offset = off ∧ P.cellsOf f.type = n then flatG F P (off + n) fs else none
    | none => none

def flatI (P : Program) : Nat → TypeId → Option Nat
  | 0, _ => none
  | d + 1, t => match P.underlying t with
    | some (.int .i64) => some 1
    | some (.struct fs) => match flatG (flatI P d) P 0 fs.toList with
      | some n => if P.cellsOf t = n then some n else none
      | none => none
    | _ => none

theorem flatG_ints {P : Program} {F : TypeId → Option Nat} {cs : List Value} : ∀ (fs : List Field) (off n : Nat), flatG F P off fs = some n → n ≤ cs.length →
    (∀ f, f ∈ fs → ∀ m, F f.type = some m → ∃ l : List Int, l.length = m ∧ (cs.drop f.offset).take (P.cellsOf f.type) = l.map (Value.int .i64)) →
    off ≤ n ∧ ∃ l : List Int, l.length = n - off ∧ (cs.drop off).take (n - off) = l.map (Value.int .i64)
  | [], off, n, h, _, _ => by
    simp only [flatG, Option.some.injEq] at h
    subst h
    exact ⟨Nat.le_refl _, [], by simp, by simp⟩
  | f :: fs, off, n, h, hn, hf => by
    simp only [flatG] at h
    cases hF : F f.type with
    | none => simp [hF] at h
    | some m =>
      simp only [hF] at h
      split at h
      · rename_i hq
        obtain ⟨l1, e1, e2⟩ := hf f (by simp) m hF
        obtain ⟨h1, l2, e3, e4⟩ := flatG_ints fs (off + m) n h hn (fun g hg => hf g (by simp [hg]))
        refine ⟨by omega, l1 ++ l2, by simp [e1, e3]; omega, ?_⟩
        rw [List.map_append, ← e2, ← e4, hq.1, hq.2, show n - off = m + (n - (off + m)) by omega, List.take_add, List.drop_drop]
      · cases h

theorem flat_trod {H : Type} {enc : TypeId × Value → H} {P : Program} {w : World} {base : Nat} {spare : Nat → Bool} {held : Bool} : ∀ (d : Nat) {t : TypeId} {n m : Nat} {cs : List Value} {x : DataW H × List MemPlace}, flatI P d t = some n →
    DataW.trod enc P w base spare held m t cs = some x → ∃ l : List Int, l.length = n ∧ cs = l.map (Value.int .i64)
  | 0, t, n, m, cs, x, h, _ => by simp [flatI] at h
  | d + 1, t, n, m, cs, x, h, hx => by
    simp only [flatI] at h
    split at h
    · rename_i hu
      cases h
      obtain ⟨z, rfl, _, _⟩ := DataW.trod_int hu hx
      exact ⟨[z], rfl, rfl⟩
    · rename_i fs hu
      cases hg : flatG (flatI P d) P 0 fs.toList with
      | none => simp [hg] at h
      | some n' =>
        simp only [hg] at h
        split at h
        · rename_i hc
          cases h
          obtain ⟨xs, m', _, _, hl, hxs, hff⟩ := DataW.trod_struct hu hx
          obtain ⟨_, l, e1, e2⟩ := flatG_ints (cs := cs) fs.toList 0 n hg (by omega) (by
            intro f hf k hk
            obtain ⟨i, hi⟩ := List.getElem?_of_mem hf
            have hi' : fs[i]? = some f := by simpa using hi
            have hlt : i < xs.length := by rw [hxs]; exact (Array.getElem?_eq_some_iff.1 hi').1
            have := hff i f hi'
            rw [List.getElem?_eq_getElem hlt] at this
            exact flat_trod d hk this)
          refine ⟨l, by simpa using e1, ?_⟩
          rw [← e2]
          simp [show n = cs.length by omega]
        · cases h
    · cases h
end Go.AH

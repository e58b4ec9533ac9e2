/- Tables of calls that have been run: what they come to is taken from the table. -/
import Derived.Test.YtmhkanhgmfolhaaGreatAhU
set_option linter.unusedSimpArgs false
set_option linter.unusedVariables false
namespace Go.AH

structure En where
  f : FuncId
  args : List D
  hin : List Blk
  r : D
  outs : List Blk

def eqbB : List Blk → List Blk → Bool
  | [], [] => true
  | a :: la, b :: lb => D.eqbR a b && eqbB la lb
  | _, _ => false

theorem eqbB_eq : ∀ {a b : List Blk}, eqbB a b = true → a = b
  | [], [], _ => rfl
  | [], _ :: _, h => by simp [eqbB] at h
  | _ :: _, [], h => by simp [eqbB] at h
  | a :: la, b :: lb, h => by
    simp only [eqbB, Bool.and_eq_true] at h
    rw [D.eqbR_eq h.1, eqbB_eq h.2]

def tabP : List En → Prim
  | [], _, _, _ => none
  | e :: l, f, args, Hin => match Nat.beq e.f f with
    | true => if D.eqbL e.args args && eqbB e.hin Hin then some (e.r, e.outs) else tabP l f args Hin
    | false => tabP l f args Hin

def TabOK (P : Program) (l : List En) : Prop := ∀ e, e ∈ l → FC P e.f e.args e.hin e.r e.outs

theorem TabOK.prim {P : Program} : ∀ {l : List En}, TabOK P l → ∀ f args Hin r outs, tabP l f args Hin = some (r, outs) → FC P f args Hin r outs
  | [], _, f, args, Hin, r, outs, h => by simp [tabP] at h
  | e :: l, hl, f, args, Hin, r, outs, h => by
    have ih := TabOK.prim (l := l) (fun e he => hl e (by simp [he])) f args Hin r outs
    simp only [tabP] at h
    split at h
    · rename_i hf
      split at h
      · rename_i hc
        rw [Bool.and_eq_true] at hc
        have h1 : e.f = f := Nat.eq_of_beq_eq_true hf
        have h2 := D.eqbL_eq hc.1
        have h3 := eqbB_eq hc.2
        cases h
        subst h1 h2 h3
        exact hl e (by simp)
      · exact ih h
    · exact ih h

theorem TabOK.nil (P : Program) : TabOK P [] := fun e h => by simp at h

theorem TabOK.run {P : Program} {W : FuncId → Way} {lim n : Nat} {l : List En} {e : En} (hmix : P.follows .mixedOrders = true) (hl : TabOK P l) (h : funX P (tabP l) W lim n e.f e.args e.hin = some (e.r, e.outs)) : TabOK P (e :: l) := by
  intro e' he
  rcases List.mem_cons.1 he with rfl | he
  · exact funX_sound hmix hl.prim n _ _ _ _ _ h
  · exact hl e' he

end Go.AH

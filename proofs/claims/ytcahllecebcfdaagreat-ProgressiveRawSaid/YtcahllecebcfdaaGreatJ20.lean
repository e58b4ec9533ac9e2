/- A part of the proof: the walk of functions that the law reaches. -/
import Derived.Test.YtcahllecebcfdaaGreatRows
import Derived.Test.YtcahllecebcfdaaGreatJ19
import Derived.WalkKit
import Derived.ProofKit
import Derived.OpenShut
import Derived.Carry
import Derived.SizedLaws
set_option linter.unusedSimpArgs false
open Go Go.Proofs Go.Proofs.YtcahllecebcfdaaGreat Go.AH Go.ChangeShapes Go.WideShapes Go.ChangeAt Go.RowKit
set_option linter.unusedVariables false
namespace J
theorem own : ownKnob Tryz.prog.godebug = none := by kernel_rfl
theorem laidOut : laidOutB Tryz.prog = true := by kernel_rfl
theorem un4 : Tryz.prog.underlying 4 = some .bool := by kernel_rfl
set_option maxRecDepth 100000 in
theorem lifted (h8 : FC Tryz.prog 8 [] [] (.bool true) []) (os : Os) (started : os.Started) (H : Type) (enc : TypeId × Value → H) :
    ReturnsInHanded {} Tryz.checked os 4 .any (Rows.progressiveRawSpec.pre6 enc Tryz.prog Tryz.f4 Rows.progressiveRawRow.domain false) (Rows.progressiveRawSpec.post enc Tryz.prog Tryz.f4 false true false false) := by
  refine returnsInHanded_of_change_sized (C := Tryz.checked) own started (by kernel_rfl) Tryz.func4
    (ChangeSpec.witness6 (enc := enc) (C := Tryz.checked) false ⟨#[], #[.agg #[.int .i64 0, .int .i64 0, .int .i64 0, .slice none 0 0, .int .i64 0, .slice none 0 0, .slice none 0 0, .int .i64 0, .int .i64 0, .int .i64 0]], []⟩ 8 (by kernel_rfl) (by kernel_rfl) (by kernel_rfl) (by kernel_rfl)) ?_
  intro W base args ds gs before hval0 hW hcnd hsz0 _
  have hval : ∀ (j : Nat) t v, Tryz.f4.params[j]? = some t → args[j]? = some v → Value.okWide Tryz.prog W .any base t v := hval0
  have hW' := hW
  obtain ⟨p, q, hA0, hV, rfl, hfz, hnd⟩ := hW
  have hA : DataW.TrodAll enc Tryz.prog W 0 (fun _ => true) true Tryz.f4.params.toList args.toList ds p := hA0
  rw [Tryz.params4] at hA hval
  obtain ⟨v0, vs0, d0, ds0, p0, q0, hargs, rfl, rfl, h0, r0⟩ := trodAll_cons hA
  obtain ⟨rfl, rfl, rfl⟩ := trodAll_nil r0
  obtain rfl : args = #[v0] := by cases args; simp_all
  obtain ⟨rfl, rfl⟩ := trodVars_none hV
  have k0 := h0
  have lt0 : ∀ x ∈ p0, x.block < W.heap.size := by obtain ⟨m, hm⟩ := k0; exact DataW.trod_lt m _ _ _ hm
  obtain ⟨cs, rfl, _⟩ := okWide_struct Tryz.underlying41 (hval 0 41 v0 rfl rfl)
  obtain ⟨fuel, hf0⟩ := h0
  obtain ⟨a, b, c, qq, k, B, l, e, f, g, w1, w2, w3, hrel⟩ := m41 hf0 (fun y hy => of_decide_eq_true (List.all_eq_true.1 hsz0 y (DataW.weights_mem_each (j := 0) rfl rfl y hy)))
  have hrel' : RelE (fun _ => True) (fun _ => none) W (PA a b c qq k B l e f g) (.agg cs) := hrel
  clear hA0 hval0
  refine (law_below (c4 h8 a b c qq k B l e f g (by omega) (by omega) (by omega)) (vs := #[.agg cs]) ⟨rfl, fun i x v hx hv => ?_⟩).mono fun e' W' ⟨he, bel⟩ => ?_
  · match i, hx, hv with
    | 0, hx, hv => cases hx; cases hv; exact hrel'
    | i + 1, hx, hv => cases hx
  subst he
  exact ⟨_, rfl, _, _, _, [], _, [], hW', trodAll_mk1 (shut_bool un4 _), (trodAll_cons_mk (Below.trod laidOut (by kernel_rfl) (of_decide_eq_true (by kernel_rfl)) k0 bel lt0) trodAll_mk0), rfl, bel.frame _, fun h => by cases h⟩
set_option maxRecDepth 100000 in
theorem over (h8 : FC Tryz.prog 8 [] [] (.bool true) []) : Rows.progressiveRawRow.holds Tryz.pinned (OpenSpec.ofChange Rows.progressiveRawSpec) :=
  OpenClaim.holds_of_wide 4 Tryz.f4 rfl rfl rfl rfl rfl rfl rfl ⟨rfl, rfl, rfl, rfl, rfl⟩ rfl rfl rfl rfl rfl (by kernel_rfl) Tryz.func4 (by kernel_rfl)
    (of_decide_eq_true (by kernel_rfl)) (by unfold Func.isWrapper; first | (rw [if_pos (by decide +kernel)]; kernel_rfl) | (rw [if_neg (by decide +kernel)]; exact ⟨rfl, rfl⟩))
    (fun os started H enc _ => lifted h8 os started H enc)
end J

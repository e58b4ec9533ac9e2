/- A part of the proof: the walk of functions that the law reaches. -/
import Derived.Test.YtcahllecebcfdaaGreatRows
import Derived.Test.YtcahllecebcfdaaGreatJ8
import Derived.Test.YtcahllecebcfdaaGreatAhRow
import Derived.WalkKit
import Derived.ProofKit
import Derived.OpenShut
import Derived.Carry
set_option linter.unusedSimpArgs false
open Go Go.Proofs Go.Proofs.YtcahllecebcfdaaGreat Go.AH Go.ChangeShapes Go.WideShapes Go.ChangeAt Go.RowKit
set_option linter.unusedVariables false
namespace J
theorem own : ownKnob Tryz.prog.godebug = none := by kernel_rfl
theorem laidOut : laidOutB Tryz.prog = true := by kernel_rfl
theorem c29 : Tryz.prog.cellsOf 29 = 6 := by kernel_rfl
theorem ts29 : Tryz.prog.cellTypes Tryz.prog.depth 29 = some (List.replicate 6 3) := by kernel_rfl
theorem un4 : Tryz.prog.underlying 4 = some .bool := by kernel_rfl
set_option maxRecDepth 100000 in
theorem m6 {w : World} {r : Reach} {base : Nat} {v : Value} (h : Value.okWide Tryz.prog w r base 29 v) : ∃ a b n d p q : Int, v = .agg #[.int .i64 a, .int .i64 b, .int .i64 n, .int .i64 d, .int .i64 p, .int .i64 q] := by
  obtain ⟨l, hl, rfl⟩ := row_ints Tryz.underlying29 c29 ts29 Tryz.underlying3 h
  match l, hl with
  | [a, b, n, d, p, q], _ => exact ⟨a, b, n, d, p, q, rfl⟩
set_option maxRecDepth 100000 in
theorem walk (h7 : FC Tryz.prog 7 [] [] (.bool true) []) (a b n d p q a' b' n' d' p' q' : Int) (s : Bool) (w : World) :
    Calls Tryz.prog 3 #[.agg #[.int .i64 a, .int .i64 b, .int .i64 n, .int .i64 d, .int .i64 p, .int .i64 q], .agg #[.int .i64 a', .int .i64 b', .int .i64 n', .int .i64 d', .int .i64 p', .int .i64 q'], .bool s] w
      fun e w' => e = .returned (.bool true) ∧ Below w.heap.size w w' := by
  refine law_below (c3 h7 a b n d p q a' b' n' d' p' q' s) ⟨rfl, ?_⟩
  intro i x v hx hv
  match i, hx, hv with
  | 0, hx, hv => cases hx; cases hv; exact rel_ints [a, b, n, d, p, q]
  | 1, hx, hv => cases hx; cases hv; exact rel_ints [a', b', n', d', p', q']
  | 2, hx, hv => cases hx; cases hv; exact .pur _ _ (.bool _)
  | i + 3, hx, hv => cases hx
set_option maxRecDepth 100000 in
theorem lifted (h7 : FC Tryz.prog 7 [] [] (.bool true) []) (os : Os) (started : os.Started) (H : Type) (enc : TypeId × Value → H) :
    ReturnsInHanded {} Tryz.checked os 3 .any (Rows.joinOrderSpec.pre6 enc Tryz.prog Tryz.f3 Rows.joinOrderRow.domain false) (Rows.joinOrderSpec.post enc Tryz.prog Tryz.f3 false true false false) := by
  refine returnsInHanded_of_change (C := Tryz.checked) own started (by kernel_rfl) Tryz.func3
    (ChangeSpec.witness6 (enc := enc) (C := Tryz.checked) false ⟨#[], #[.agg #[.int .i64 0, .int .i64 0, .int .i64 0, .int .i64 0, .int .i64 0, .int .i64 0], .agg #[.int .i64 0, .int .i64 0, .int .i64 0, .int .i64 0, .int .i64 0, .int .i64 0], .bool false], []⟩ 8 (by kernel_rfl) (by kernel_rfl) (by kernel_rfl) (by kernel_rfl)) ?_
  intro W base args ds gs before hval0 hW hcnd _
  have hval : ∀ (j : Nat) t v, Tryz.f3.params[j]? = some t → args[j]? = some v → Value.okWide Tryz.prog W .any base t v := hval0
  have hW' := hW
  obtain ⟨p, q, hA0, hV, rfl, hfz, hnd⟩ := hW
  have hA : DataW.TrodAll enc Tryz.prog W 0 (fun _ => true) true Tryz.f3.params.toList args.toList ds p := hA0
  rw [Tryz.params3] at hA hval
  obtain ⟨v0, vs0, d0, ds0, p0, q0, hargs, rfl, rfl, h0, r0⟩ := trodAll_cons hA
  obtain ⟨v1, vs1, d1, ds1, p1, q1, rfl, rfl, rfl, h1, r1⟩ := trodAll_cons r0
  obtain ⟨v2, vs2, d2, ds2, p2, q2, rfl, rfl, rfl, h2, r2⟩ := trodAll_cons r1
  obtain ⟨rfl, rfl, rfl⟩ := trodAll_nil r2
  obtain rfl : args = #[v0, v1, v2] := by cases args; simp_all
  obtain ⟨rfl, rfl⟩ := trodVars_none hV
  have k0 := h0
  have k1 := h1
  have k2 := h2
  have lt0 : ∀ x ∈ p0, x.block < W.heap.size := by obtain ⟨m, hm⟩ := k0; exact DataW.trod_lt m _ _ _ hm
  have lt1 : ∀ x ∈ p1, x.block < W.heap.size := by obtain ⟨m, hm⟩ := k1; exact DataW.trod_lt m _ _ _ hm
  have lt2 : ∀ x ∈ p2, x.block < W.heap.size := by obtain ⟨m, hm⟩ := k2; exact DataW.trod_lt m _ _ _ hm
  obtain ⟨x1, x2, x3, x4, x5, x6, rfl⟩ := m6 (hval 0 29 v0 rfl rfl)
  obtain ⟨y1, y2, y3, y4, y5, y6, rfl⟩ := m6 (hval 1 29 v1 rfl rfl)
  obtain ⟨s, rfl⟩ := okWide_bool un4 (hval 2 4 v2 rfl rfl)
  clear hA0 hval0
  refine (walk h7 x1 x2 x3 x4 x5 x6 y1 y2 y3 y4 y5 y6 s W).mono fun e W' ⟨he, bel⟩ => ?_
  subst he
  exact ⟨_, rfl, _, _, _, [], _, [], hW', trodAll_mk1 (shut_bool un4 _), (trodAll_cons_mk (Below.trod laidOut (by kernel_rfl) (of_decide_eq_true (by kernel_rfl)) k0 bel lt0) (trodAll_cons_mk (Below.trod laidOut (by kernel_rfl) (of_decide_eq_true (by kernel_rfl)) k1 bel lt1) (trodAll_cons_mk (Below.trod laidOut (by kernel_rfl) (of_decide_eq_true (by kernel_rfl)) k2 bel lt2) trodAll_mk0))), rfl, bel.frame _, fun h => by cases h⟩

set_option maxRecDepth 100000 in
theorem over (h7 : FC Tryz.prog 7 [] [] (.bool true) []) : Rows.joinOrderRow.holds Tryz.pinned (OpenSpec.ofChange Rows.joinOrderSpec) :=
  OpenClaim.holds_of_wide 3 Tryz.f3 rfl rfl rfl rfl rfl rfl rfl ⟨rfl, rfl, rfl, rfl, rfl⟩ rfl rfl rfl rfl rfl (by kernel_rfl) Tryz.func3 (by kernel_rfl)
    (of_decide_eq_true (by kernel_rfl)) (by unfold Func.isWrapper; first | (rw [if_pos (by decide +kernel)]; kernel_rfl) | (rw [if_neg (by decide +kernel)]; exact ⟨rfl, rfl⟩))
    (fun os started H enc _ => lifted h7 os started H enc)
end J

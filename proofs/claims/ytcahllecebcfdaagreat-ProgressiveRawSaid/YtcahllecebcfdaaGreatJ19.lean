/- A part of the proof: the walk of functions that the law reaches. -/
import Derived.Test.YtcahllecebcfdaaGreatJ18
import Derived.Test.YtcahllecebcfdaaGreatAhRowV
open Go Go.Proofs Go.AH
set_option linter.unusedSimpArgs false
set_option linter.unusedVariables false
namespace J
theorem fl34 : flatI Tryz.prog 5 34 = some 3 := by kernel_rfl
theorem fl39 : flatI Tryz.prog 5 39 = some 3 := by kernel_rfl
theorem fl3 : flatI Tryz.prog 5 3 = some 1 := by kernel_rfl
theorem fl27 : flatI Tryz.prog 5 27 = some 4 := by kernel_rfl
theorem fl45 : flatI Tryz.prog 5 45 = some 3 := by kernel_rfl
theorem co41 : Tryz.prog.cellsOf 41 = 10 := by kernel_rfl
theorem co34 : Tryz.prog.cellsOf 34 = 3 := by kernel_rfl
theorem co35 : Tryz.prog.cellsOf 35 = 1 := by kernel_rfl
theorem co3 : Tryz.prog.cellsOf 3 = 1 := by kernel_rfl
theorem co36 : Tryz.prog.cellsOf 36 = 1 := by kernel_rfl
theorem co37 : Tryz.prog.cellsOf 37 = 1 := by kernel_rfl
theorem co39 : Tryz.prog.cellsOf 39 = 3 := by kernel_rfl
theorem co27 : Tryz.prog.cellsOf 27 = 4 := by kernel_rfl
theorem co45 : Tryz.prog.cellsOf 45 = 3 := by kernel_rfl
theorem by3 : Tryz.prog.bytesOf 3 = 8 := by kernel_rfl
theorem by27 : Tryz.prog.bytesOf 27 = 32 := by kernel_rfl
theorem by45 : Tryz.prog.bytesOf 45 = 24 := by kernel_rfl
theorem rows4 : ∀ (rows : List (List Int)), (∀ r, r ∈ rows → r.length = 4) → ∃ B : List F4, B.length = rows.length ∧ (rows.map fun r => r.map (D.int .i64)) = B.map hrow
  | [], _ => ⟨[], rfl, rfl⟩
  | r :: rs, h => by
    obtain ⟨B, h1, h2⟩ := rows4 rs (fun s hs => h s (by simp [hs]))
    have := h r (by simp)
    match r, this with
    | [a, b, c, d], _ => exact ⟨(a, b, c, d) :: B, by simp [h1], by simp only [List.map_cons, h2]; rfl⟩
theorem rows3 : ∀ (rows : List (List Int)), (∀ r, r ∈ rows → r.length = 3) → ∃ B : List F3, B.length = rows.length ∧ (rows.map fun r => r.map (D.int .i64)) = B.map frow
  | [], _ => ⟨[], rfl, rfl⟩
  | r :: rs, h => by
    obtain ⟨B, h1, h2⟩ := rows3 rs (fun s hs => h s (by simp [hs]))
    have := h r (by simp)
    match r, this with
    | [a, b, c], _ => exact ⟨(a, b, c) :: B, by simp [h1], by simp only [List.map_cons, h2]; rfl⟩
theorem scal_vs {O : Nat → Prop} {E : Env} {w : World} {rows : List (List D)} {v : Value} (h : RelE O E w (.vs rows) v) : Scal v := by
  cases h with
  | pur _ _ hp => cases hp; rfl
set_option maxRecDepth 20000 in
theorem m41 {H : Type} {enc : TypeId × Value → H} {w : World} {spare : Nat → Bool} {held : Bool} {m : Nat} {cs : List Value} {x : DataW H × List MemPlace} (h : DataW.trod enc Tryz.prog w 0 spare held m 41 cs = some x) (hsz : ∀ y, y ∈ x.1.weights Tryz.prog 41 → y ≤ reachBytes) :
    ∃ (a b c : Int) (q : List (List D)) (k : Int) (B : List F4) (l : List F3) (e f g : Int), q.length < 1000000000000000 ∧ B.length < 1000000000000000 ∧ l.length < 1000000000000000 ∧ RelE (fun _ => True) (fun _ => none) w (PA a b c q k B l e f g) (.agg cs.toArray) := by
  obtain ⟨xs, n, _, hxx, hl, hxs, hf⟩ := DataW.trod_struct Tryz.underlying41 h
  rw [co41] at hl
  replace hxs : xs.length = 6 := hxs
  match cs, hl, xs, hxs with
  | [v0, v1, v2, v3, v4, v5, v6, v7, v8, v9], _, [x0, x1, x2, x3, x4, x5], _ =>
    have f0 : DataW.trod enc Tryz.prog w 0 spare held n 34 [v0, v1, v2] = some x0 := by
      have := hf 0 { name := "Measure", type := 34, offset := 0, embedded := false, tag := "", pkgPath := "", byteOffset := 0 } rfl
      simpa only [co34, List.drop_zero, List.drop_succ_cons, List.take_succ_cons, List.take_zero, List.getElem?_cons_zero, List.getElem?_cons_succ] using this
    have f1 : DataW.trod enc Tryz.prog w 0 spare held n 35 [v3] = some x1 := by
      have := hf 1 { name := "Query", type := 35, offset := 3, embedded := false, tag := "", pkgPath := "", byteOffset := 24 } rfl
      simpa only [co35, List.drop_zero, List.drop_succ_cons, List.take_succ_cons, List.take_zero, List.getElem?_cons_zero, List.getElem?_cons_succ] using this
    have f2 : DataW.trod enc Tryz.prog w 0 spare held n 3 [v4] = some x2 := by
      have := hf 2 { name := "Count", type := 3, offset := 4, embedded := false, tag := "", pkgPath := "", byteOffset := 48 } rfl
      simpa only [co3, List.drop_zero, List.drop_succ_cons, List.take_succ_cons, List.take_zero, List.getElem?_cons_zero, List.getElem?_cons_succ] using this
    have f3 : DataW.trod enc Tryz.prog w 0 spare held n 36 [v5] = some x3 := by
      have := hf 3 { name := "Best", type := 36, offset := 5, embedded := false, tag := "", pkgPath := "", byteOffset := 56 } rfl
      simpa only [co36, List.drop_zero, List.drop_succ_cons, List.take_succ_cons, List.take_zero, List.getElem?_cons_zero, List.getElem?_cons_succ] using this
    have f4 : DataW.trod enc Tryz.prog w 0 spare held n 37 [v6] = some x4 := by
      have := hf 4 { name := "Open", type := 37, offset := 6, embedded := false, tag := "", pkgPath := "", byteOffset := 80 } rfl
      simpa only [co37, List.drop_zero, List.drop_succ_cons, List.take_succ_cons, List.take_zero, List.getElem?_cons_zero, List.getElem?_cons_succ] using this
    have f5 : DataW.trod enc Tryz.prog w 0 spare held n 39 [v7, v8, v9] = some x5 := by
      have := hf 5 { name := "Effort", type := 39, offset := 7, embedded := false, tag := "", pkgPath := "", byteOffset := 104 } rfl
      simpa only [co39, List.drop_zero, List.drop_succ_cons, List.take_succ_cons, List.take_zero, List.getElem?_cons_zero, List.getElem?_cons_succ] using this
    obtain ⟨l0, e0, g0⟩ := flat_trod 5 fl34 f0
    obtain ⟨l2, e2, g2⟩ := flat_trod 5 fl3 f2
    obtain ⟨l5, e5, g5⟩ := flat_trod 5 fl39 f5
    obtain ⟨rq, q1, q2, q3⟩ := slice_trod 5 Tryz.underlying35 fl3 co3 (by decide) f1
    obtain ⟨rB, b1, b2, b3⟩ := slice_trod 5 Tryz.underlying36 fl27 co27 (by decide) f3
    obtain ⟨rl, r1, r2, r3⟩ := slice_trod 5 Tryz.underlying37 fl45 co45 (by decide) f4
    have hsz' : ∀ (j : Nat) (t : TypeId) (d : DataW H), [34, 35, 3, 36, 37, 39][j]? = some t → [x0.1, x1.1, x2.1, x3.1, x4.1, x5.1][j]? = some d → ∀ y, y ∈ d.weights Tryz.prog t → y ≤ reachBytes := by
      intro j t d h1 h2 y hy
      refine hsz y ?_
      rw [hxx]
      simp only [DataW.weights, Tryz.underlying41]
      exact DataW.weights_mem_each h1 h2 y hy
    have q4 := q1 _ (hsz' 1 _ _ rfl rfl)
    have b4 := b1 _ (hsz' 3 _ _ rfl rfl)
    have r4 := r1 _ (hsz' 4 _ _ rfl rfl)
    rw [by3] at q4
    rw [by27] at b4
    rw [by45] at r4
    unfold reachBytes at q4 b4 r4
    obtain ⟨B, B1, B2⟩ := rows4 rB b2
    obtain ⟨l, L1, L2⟩ := rows3 rl r2
    rw [B2] at b3
    rw [L2] at r3
    match l0, e0, l2, e2, l5, e5 with
    | [a, b, c], _, [k], _, [e, f, g], _ =>
      simp only [List.map_cons, List.map_nil, List.cons.injEq, and_true] at g0 g2 g5
      obtain ⟨rfl, rfl, rfl⟩ := g0
      obtain ⟨rfl, rfl, rfl⟩ := g5
      subst g2
      refine ⟨a, b, c, rq.map fun r => r.map (D.int .i64), k, B, l, e, f, g, by simp only [List.length_map]; omega, by omega, by omega, ?_⟩
      refine Rel.agg _ _ rfl ?_ ?_
      · intro i v hv
        match i, hv with
        | 0, hv => cases hv; exact rfl
        | 1, hv => cases hv; exact rfl
        | 2, hv => cases hv; exact rfl
        | 3, hv => cases hv; exact scal_vs q3
        | 4, hv => cases hv; exact rfl
        | 5, hv => cases hv; exact scal_vs b3
        | 6, hv => cases hv; exact scal_vs r3
        | 7, hv => cases hv; exact rfl
        | 8, hv => cases hv; exact rfl
        | 9, hv => cases hv; exact rfl
        | i + 10, hv => simp at hv
      · intro i d v hd hv
        match i, hd, hv with
        | 0, hd, hv => cases hd; cases hv; exact .pur _ _ (.int _ _)
        | 1, hd, hv => cases hd; cases hv; exact .pur _ _ (.int _ _)
        | 2, hd, hv => cases hd; cases hv; exact .pur _ _ (.int _ _)
        | 3, hd, hv => cases hd; cases hv; exact q3
        | 4, hd, hv => cases hd; cases hv; exact .pur _ _ (.int _ _)
        | 5, hd, hv => cases hd; cases hv; exact b3
        | 6, hd, hv => cases hd; cases hv; exact r3
        | 7, hd, hv => cases hd; cases hv; exact .pur _ _ (.int _ _)
        | 8, hd, hv => cases hd; cases hv; exact .pur _ _ (.int _ _)
        | 9, hd, hv => cases hd; cases hv; exact .pur _ _ (.int _ _)
        | i + 10, hd, hv => cases hd
end J

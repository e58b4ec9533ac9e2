/- Appending, copying, making: the run theorems; lengths, greatest and least. -/
import Derived.Test.YtmhkanhgmfolhaaGreatAhG
set_option linter.unusedVariables false
set_option linter.unusedSimpArgs false
namespace Go.AH

structure Ran (P : Program) (O : Nat → Prop) (E : Env) (H : Heap) (w : World) (s : Sem Value) (d : D) (wr : List (Nat × Blk)) (slot : Nat) : Prop where
  out : ∃ v w1 E1, s.run P w = .ok v w1 ∧ RelE O E1 w1 d v ∧ Wrel O E1 (hput H wr) w1 ∧ Fr All E w E1 w1 ∧ OwnNew w E E1 ∧ (∀ b, b ≠ slot → E b = none → E1 b = none)

theorem Ran.stay {P : Program} {O : Nat → Prop} {E : Env} {H : Heap} {w : World} {s : Sem Value} {d : D} {slot : Nat} {v : Value} (hw : Wrel O E H w) (h : s.run P w = .ok v w) (hr : RelE O E w d v) : Ran P O E H w s d [] slot :=
  ⟨v, w, E, h, hr, hw, Fr.refl _ _ _, OwnNew.refl _ _, fun _ _ h => h⟩

/-- The same without a new block. -/
structure Ran0 (P : Program) (O : Nat → Prop) (E : Env) (H : Heap) (w : World) (s : Sem Value) (d : D) (wr : List (Nat × Blk)) : Prop where
  out : ∃ v w1 E1, s.run P w = .ok v w1 ∧ RelE O E1 w1 d v ∧ Wrel O E1 (hput H wr) w1 ∧ Fr All E w E1 w1 ∧ OwnNew w E E1 ∧ (∀ b, E b = none → E1 b = none)

theorem Ran0.stay {P : Program} {O : Nat → Prop} {E : Env} {H : Heap} {w : World} {s : Sem Value} {d : D} {v : Value} (hw : Wrel O E H w) (h : s.run P w = .ok v w) (hr : RelE O E w d v) : Ran0 P O E H w s d [] :=
  ⟨v, w, E, h, hr, hw, Fr.refl _ _ _, OwnNew.refl _ _, fun _ h => h⟩

theorem aappend_run {P : Program} {O : Nat → Prop} {E : Env} {H : Heap} {w : World} {t tx ty : TypeId} {s x d : D} {u v : Value} {get : Nat → Option Blk} {slot : Nat} {wr rd : List (Nat × Blk)} (h : aappend P t tx s x get slot = some (d, wr, rd))
    (hs : RelE O E w s u) (hx : RelE O E w x v) (hw : Wrel O E H w) (hO : ∀ n, w.heap.size ≤ n → O n) (hrd : ∀ p, p ∈ rd → hget H p.1 = some p.2) (hsl : E slot = none) :
    Ran P O E H w (Builtin.append_ #[t, tx] ty #[u, v]) d wr slot := by
  unfold aappend at h
  cases he : esizeT P t with
  | none => simp [he] at h
  | some esz =>
    simp only [he] at h
    obtain ⟨e, hu, hsz, hpos⟩ := esizeT_spec he
    by_cases hg : growT P t = true ∧ sliceT P tx = true
    · rw [if_pos hg] at h
      obtain ⟨i, z, hi, hisz, hz, hzs, hby, hzsc⟩ := growT_spec hg.1 hu hsz
      cases hsrc : srcRows esz get x with
      | none => simp [hsrc] at h
      | some q =>
        obtain ⟨src, rd0⟩ := q
        simp only [hsrc] at h
        have hrd0 : rd0 = rd ∨ ∃ y, rd = y :: rd0 := by
          cases s <;> simp only at h <;> try (cases h; done)
          · split at h <;> cases h; exact .inl rfl
          · split at h
            · cases h; exact .inl rfl
            · split at h <;> cases h; exact .inl rfl
          · split at h
            · cases h; exact .inl rfl
            · split at h
              · split at h
                · split at h
                  · cases h; exact .inr ⟨_, rfl⟩
                  · split at h <;> cases h; exact .inr ⟨_, rfl⟩
                · cases h
              · cases h
        obtain ⟨a, cap, news, rfl, hn, ha⟩ := srcRows_rel hpos hsrc hx hw (fun p hp => by
          rcases hrd0 with rfl | ⟨y, rfl⟩
          · exact hrd p hp
          · exact hrd p (by simp [hp]))
        have hS : Src P i.size tx (.slice a src.length cap) src.length news w := by rw [hisz]; exact src_of hg.2 hn ha
        have hS0 : src.isEmpty = true → Src P i.size tx (.slice a src.length cap) 0 [] w := by
          intro hemp
          have : src = [] := by simpa using hemp
          subst this
          have hl := hn.len
          have : news = [] := List.eq_nil_of_length_eq_zero (by simpa using hl)
          subst this
          exact hS
        cases s <;> simp only at h <;> try (cases h; done)
        case vs rows =>
          cases hemp : src.isEmpty with
          | false => simp [hemp] at h
          | true =>
            simp only [hemp, if_true] at h
            cases h
            cases hs with
            | pur _ _ hp =>
              have hp0 := hp
              cases hp with
              | vs _ b c sz f hcap => exact Ran.stay hw (run_append_zero hu hi b rows.length c _ (hS0 hemp) hcap) (.pur _ _ hp0)
        case nils =>
          obtain ⟨b, rfl⟩ := rel_nils hs
          cases hemp : src.isEmpty with
          | true =>
            simp only [hemp, if_true] at h
            cases h
            exact Ran.stay hw (run_append_zero hu hi b 0 0 _ (hS0 hemp) (Nat.le_refl _)) (.pur _ _ (.nils _))
          | false =>
            simp only [hemp, Bool.false_eq_true, if_false] at h
            split at h
            · rename_i hle
              cases h
              unfold capMax at hle
              have hm : 0 < src.length := by
                cases src with
                | nil => simp at hemp
                | cons => simp
              have hrun := run_append_grow_src (P := P) w t tx ty e i z hu hi hz b 0 0 [] (by cases b <;> simp [Builtin.firstCells, loadCells, loadCellsFrom]) _ src.length news hS (by omega) (by omega)
                (growslice_fits (by omega) (by
                  have : (0 + src.length) * i.bytes ≤ 4294967296 * 1024 := Nat.mul_le_mul (by omega) hby
                  omega))
              simp only [Nat.zero_add, List.nil_append] at hrun
              have hge := grownCap_ge w src.length 0 e
              obtain ⟨E1, r1, r2, r3, r4, r5⟩ := new_rows (w1 := w.drew.alloc (.cells (news.toArray ++ Builtin.zeroCells z.cells (grownCap w src.length 0 e - src.length)) e)) hw hO hsl (rows := src) (esz := esz)
                (vs := news.toArray ++ Builtin.zeroCells z.cells (grownCap w src.length 0 e - src.length)) (el := e) hpos rfl rfl rfl rfl (Nat.le_succ _) (len := src.length) (cap := grownCap w src.length 0 e) (Nat.le_refl _) hge
                (by
                  rw [Array.size_append, List.size_toArray, hn.len, size_zeroCells, hzs, ← Nat.add_mul]
                  exact Nat.mul_le_mul_right _ (by omega)) hn.row (fun i' j r d hi' hj' => by
                    obtain ⟨v, e1, e2, e3⟩ := hn.at hi' hj'
                    refine ⟨v, ?_, e2, e3⟩
                    rw [Array.getElem?_append_left (by simpa using some_lt e1)]
                    simpa using e1) (scal_app (scal_list hn.scal) (scal_zeros hzsc _))
              exact ⟨_, _, E1, hrun, r1, r2, r3, r4, r5⟩
            · cases h
        case rs sz b off len cap0 =>
          cases hs with
          | pur _ _ hp => cases hp
          | rs _ _ _ _ bi ad cap' hE h0 h1 h2 h3 h4 =>
            cases hemp : src.isEmpty with
            | true =>
              simp only [hemp, if_true] at h
              cases h
              exact Ran.stay hw (run_append_zero hu hi (some ad) len cap' _ (hS0 hemp) (by omega)) (.rs b off len cap0 bi ad cap' hE h0 h1 h2 h3 h4)
            | false =>
              simp only [hemp, Bool.false_eq_true, if_false] at h
              have hm : 0 < src.length := by
                cases src with
                | nil => simp at hemp
                | cons => simp
              split at h
              · rename_i rows hb
                split at h
                · rename_i hc
                  obtain ⟨hrl, hszz⟩ := hc
                  have hH : hget H b = some rows := by
                    split at h
                    · cases h; exact hrd (b, rows) (by simp)
                    · split at h <;> cases h; exact hrd (b, rows) (by simp)
                  obtain ⟨rr, c, el, g1, g2, g3, g4, g5, g6⟩ := hw.blk b bi hE
                  rw [hH] at g1; cases g1
                  obtain ⟨o, rfl, ho, c1, el1, hc1, hle1⟩ := h4 (by omega)
                  rw [g4] at hc1; cases hc1
                  split at h
                  · rename_i hroom
                    cases h
                    have hoo := ho (by omega)
                    obtain ⟨w1, E1, k0, k1, k2, k3, k4, k5⟩ := write_rows (P := P) hw hE hH (off + len) (by omega) (by rw [hszz]; exact hn) g4 (by
                      refine Nat.le_trans (Nat.mul_le_mul_right _ ?_) hle1
                      omega) (tail := rows.drop (off + len + src.length)) rfl
                    refine ⟨.slice (some ⟨bi.blk, o, none⟩) (len + src.length) cap', w1, E1, ?_, ?_, k1, k2, k3, fun b' _ hb' => k4 b' hb'⟩
                    · rw [run_append_room_any hu hi _ len cap' _ src.length news hS (by omega), addr_add, hisz, ← hszz, hoo, ← Nat.add_mul, k0]
                      rfl
                    · have hlen2 : (rows.take (off + len) ++ src ++ rows.drop (off + len + src.length)).length = rows.length := by simp; omega
                      obtain ⟨c2, hc2, hs2⟩ := k2.shape _ _ _ _ g4
                      have := Rel.rs (U := fun k => O k ∧ E1.Out k) (V := E1.Out) (E := E1) (w := w1) b off (len + src.length) cap0 _ ⟨bi.blk, o, none⟩ cap' k5 h0 (by simp only [hlen2]; omega) hroom h3
                        (fun _ => ⟨o, rfl, ho, c2, _, hc2, by rw [hs2]; exact hle1⟩)
                      exact this
                  · rename_i hroom
                    split at h
                    · rename_i hcond
                      cases h
                      obtain ⟨rfl, hcm⟩ := hcond
                      unfold capMax at hcm
                      by_cases hfit : len + src.length ≤ cap'
                      · have hoo := ho (by omega)
                        obtain ⟨w1, E1, k0, k1, k2, k3, k4, k5⟩ := write_rows (P := P) hw hE hH len (by omega) (by rw [hszz]; exact hn) g4 (by
                          refine Nat.le_trans (Nat.mul_le_mul_right _ ?_) hle1
                          omega) (tail := []) (by rw [List.drop_eq_nil_of_le (by omega)])
                        simp only [List.append_nil] at k1 k5
                        refine ⟨.slice (some ⟨bi.blk, o, none⟩) (len + src.length) cap', w1, E1, ?_, ?_, k1, k2, k3, fun b' _ hb' => k4 b' hb'⟩
                        · rw [run_append_room_any hu hi _ len cap' _ src.length news hS hfit, addr_add, hisz, ← hszz, hoo, Nat.zero_mul, Nat.zero_add, k0]
                          rfl
                        · have hlen2 : (rows.take len ++ src).length = len + src.length := by simp; omega
                          obtain ⟨c2, hc2, hs2⟩ := k2.shape _ _ _ _ g4
                          have := Rel.rs (U := fun k => O k ∧ E1.Out k) (V := E1.Out) (E := E1) (w := w1) b 0 (len + src.length) (len + src.length) _ ⟨bi.blk, o, none⟩ cap' k5 h0 (by simp only [hlen2]; omega) (Nat.le_refl _) hfit
                            (fun _ => ⟨o, rfl, ho, c2, _, hc2, by rw [hs2]; exact hle1⟩)
                          exact this
                      · -- new memory
                        have hold : ∃ olds, Rows O E w esz (rows.take len) olds ∧ (Builtin.firstCells i.size len (.slice (some ⟨bi.blk, o, none⟩) len cap')).run P w.drew = .ok olds.toArray w.drew := by
                          by_cases hl0 : len = 0
                          · subst hl0
                            exact ⟨[], ⟨by simp, by simp, by simp, by simp⟩, by simp [Builtin.firstCells, loadCells, loadCellsFrom]⟩
                          · have hoo := ho (by omega)
                            obtain ⟨olds, q1, q2⟩ := Rows.of_cells (O := O) (E := E) (w := w) (rows := rows.take len) hpos (fun r hr => by rw [← hszz]; exact g3 r (List.mem_of_mem_take hr)) bi.blk o (fun i' j r d hi' hj' => by
                              rw [List.getElem?_take] at hi'
                              split at hi'
                              · obtain ⟨v, e1, e2, e3⟩ := g6 i' j r d hi' hj'
                                refine ⟨v, ?_, e2, e3⟩
                                rw [cell?_some g4, hoo, Nat.zero_mul, Nat.zero_add, ← hszz]
                                exact e1
                              · cases hi')
                            have hq := q1.len
                            rw [List.length_take, Nat.min_eq_left (by omega)] at hq
                            refine ⟨olds, q1, run_firstCells_some w.drew i.size len _ len cap' olds (by rw [hisz]; exact hq) (fun j u hu => by simpa using q2 j u hu)⟩
                        obtain ⟨olds, q1, q2⟩ := hold
                        have hq := q1.len
                        rw [List.length_take, Nat.min_eq_left (by omega)] at hq
                        have hrun := run_append_grow_src (P := P) w t tx ty e i z hu hi hz (some ⟨bi.blk, o, none⟩) len cap' olds q2 _ src.length news hS (by omega) (by omega)
                          (growslice_fits (by omega) (by
                            have : (len + src.length) * i.bytes ≤ 4294967296 * 1024 := Nat.mul_le_mul hcm hby
                            omega))
                        have hge := grownCap_ge w (len + src.length) cap' e
                        have hlen2 : (rows.take len ++ src).length = len + src.length := by simp; omega
                        have hnews := hn.len
                        have hvs : ∀ (i' j : Nat) (r : List D) (d : D), (rows.take len ++ src)[i']? = some r → r[j]? = some d → ∃ v, ((olds ++ news).toArray ++ Builtin.zeroCells z.cells (grownCap w (len + src.length) cap' e - (len + src.length)))[i' * esz + j]? = some v ∧ Scal v ∧ RelE O E w d v := by
                          intro i' j r d hi' hj'
                          have hfin : ∃ v, (olds ++ news)[i' * esz + j]? = some v ∧ Scal v ∧ RelE O E w d v := by
                            by_cases h1 : i' < len
                            · rw [List.getElem?_append_left (by simp; omega)] at hi'
                              obtain ⟨v, e1, e2, e3⟩ := q1.at hi' hj'
                              exact ⟨v, by rw [List.getElem?_append_left (some_lt e1)]; exact e1, e2, e3⟩
                            · rw [List.getElem?_append_right (by simp; omega), List.length_take, Nat.min_eq_left (by omega)] at hi'
                              obtain ⟨v, e1, e2, e3⟩ := hn.at hi' hj'
                              refine ⟨v, ?_, e2, e3⟩
                              have e5 : len * esz ≤ i' * esz := Nat.mul_le_mul_right _ (by omega)
                              rw [List.getElem?_append_right (by omega), hq]
                              have e4 : i' * esz + j - len * esz = (i' - len) * esz + j := by
                                have : (i' - len) * esz + len * esz = i' * esz := by rw [← Nat.add_mul]; congr 1; omega
                                omega
                              rw [e4]; exact e1
                          obtain ⟨v, e1, e2, e3⟩ := hfin
                          refine ⟨v, ?_, e2, e3⟩
                          rw [Array.getElem?_append_left (by simpa using some_lt e1)]
                          simpa using e1
                        have hvsz : (len + src.length) * esz ≤ ((olds ++ news).toArray ++ Builtin.zeroCells z.cells (grownCap w (len + src.length) cap' e - (len + src.length))).size := by
                          rw [Array.size_append, List.size_toArray, List.length_append, hq, hnews, ← Nat.add_mul]; omega
                        have hvsz2 : grownCap w (len + src.length) cap' e * esz ≤ ((olds ++ news).toArray ++ Builtin.zeroCells z.cells (grownCap w (len + src.length) cap' e - (len + src.length))).size := by
                          rw [Array.size_append, List.size_toArray, List.length_append, hq, hnews, size_zeroCells, hzs, ← Nat.add_mul, ← Nat.add_mul]
                          exact Nat.mul_le_mul_right _ (by omega)
                        have hvsc : ∀ (j : Nat) (v : Value), ((olds ++ news).toArray ++ Builtin.zeroCells z.cells (grownCap w (len + src.length) cap' e - (len + src.length)))[j]? = some v → Scal v :=
                          scal_app (scal_list (fun v hv => by
                            rw [List.mem_append] at hv
                            rcases hv with hv | hv
                            · exact q1.scal v hv
                            · exact hn.scal v hv)) (scal_zeros hzsc _)
                        generalize hvsdef : (olds ++ news).toArray ++ Builtin.zeroCells z.cells (grownCap w (len + src.length) cap' e - (len + src.length)) = vs at *
                        obtain ⟨k1, k2⟩ := hw.place (w1 := w.drew.alloc (.cells vs e)) (b := b) (sz := esz) (rows := rows.take len ++ src) (cells := vs) (el := e) (hsc := hvsc)
                          (fun bi2 hb2 => by rw [hE] at hb2; cases hb2; exact ⟨hszz, by rw [hlen2]; omega⟩) rfl rfl rfl rfl (Nat.le_succ _)
                          (fun r hr => by
                            rw [List.mem_append] at hr
                            rcases hr with hr | hr
                            · rw [← hszz]; exact g3 r (List.mem_of_mem_take hr)
                            · exact hn.row r hr) (by rw [hlen2]; exact hvsz) hvs
                        refine ⟨_, _, _, hrun, ?_, k1, k2, fun b' bi' hb' => ?_, fun b' hb1 hb' => ?_⟩
                        · have hE1 : E.set b ⟨w.heap.size, esz, (rows.take len ++ src).length⟩ b = some ⟨w.heap.size, esz, (rows.take len ++ src).length⟩ := Env.set_self _ _ _
                          have hbsz : bi.sz = esz := hszz
                          rw [hbsz]
                          refine Rel.rs b 0 (len + src.length) (len + src.length) ⟨w.heap.size, esz, (rows.take len ++ src).length⟩ ⟨w.heap.size, 0, none⟩ _ hE1 hpos (by simp only [hlen2]; omega) (Nat.le_refl _) hge fun _ =>
                            ⟨0, rfl, fun _ => by simp, vs, e, by show (w.heap.push _)[w.heap.size]? = _; simp, by simpa using hvsz2⟩
                        · rcases Env.set_some hb' with ⟨rfl, rfl⟩ | ⟨_, hb'⟩
                          · exact .inl (Nat.le_refl _)
                          · exact .inr ⟨bi', hb', rfl⟩
                        · rw [Env.set_ne]
                          · exact hb'
                          · rintro rfl; rw [hE] at hb'; cases hb'
                    · cases h
                · cases h
              · cases h
    · rw [if_neg hg] at h; cases h

/-! ### copy -/
def acopy (P : Program) (t : TypeId) (s x : D) (get : Nat → Option Blk) : Option (D × List (Nat × Blk) × List (Nat × Blk)) :=
  match esizeT P t with
  | some esz => match srcRows esz get x with
    | some (src, rd) => match s with
      | .rs sz b off len cap => match get b with
        | some rows => if rows.length = off + cap ∧ sz = esz then
            some (.int .i64 ((min src.length len : Nat) : Int), [(b, rows.take off ++ src.take (min src.length len) ++ rows.drop (off + min src.length len))], (b, rows) :: rd)
          else none
        | none => none
      | .nils => some (.int .i64 0, [], rd)
      | _ => none
    | none => none
  | none => none

theorem Rows.take {O : Nat → Prop} {E : Env} {w : World} {esz : Nat} {rows : Blk} {news : List Value} (h : Rows O E w esz rows news) (n : Nat) (hn : n ≤ rows.length) : Rows O E w esz (rows.take n) (news.take (n * esz)) where
  len := by
    rw [List.length_take, List.length_take, h.len, Nat.min_eq_left hn, Nat.min_eq_left (Nat.mul_le_mul_right _ hn)]
  row := fun r hr => h.row r (List.mem_of_mem_take hr)
  scal := fun u hu => h.scal u (List.mem_of_mem_take hu)
  rel := fun i j r d hi hj => by
    rw [List.getElem?_take] at hi
    split at hi
    · rename_i hlt
      obtain ⟨v, e1, e2⟩ := h.rel i j r d hi hj
      have hj' : j < esz := by rw [← h.row r (List.mem_of_getElem? hi)]; exact some_lt hj
      exact ⟨v, by rw [List.getElem?_take_of_lt (idx_lt hlt hj')]; exact e1, e2⟩
    · cases hi

theorem acopy_run {P : Program} {O : Nat → Prop} {E : Env} {H : Heap} {w : World} {t tx ty : TypeId} {s x d : D} {u v : Value} {get : Nat → Option Blk} {wr rd : List (Nat × Blk)} (h : acopy P t s x get = some (d, wr, rd))
    (hs : RelE O E w s u) (hx : RelE O E w x v) (hw : Wrel O E H w) (hrd : ∀ p, p ∈ rd → hget H p.1 = some p.2) :
    Ran0 P O E H w (Builtin.copy_ #[t, tx] ty #[u, v]) d wr := by
  unfold acopy at h
  cases he : esizeT P t with
  | none => simp [he] at h
  | some esz =>
    simp only [he] at h
    obtain ⟨e, hu, hsz, hpos⟩ := esizeT_spec he
    cases hsrc : srcRows esz get x with
    | none => simp [hsrc] at h
    | some q =>
      obtain ⟨src, rd0⟩ := q
      simp only [hsrc] at h
      cases s <;> simp only at h <;> try (cases h; done)
      case nils =>
        cases h
        obtain ⟨a, cap, news, rfl, hn, ha⟩ := srcRows_rel hpos hsrc hx hw hrd
        obtain ⟨b, rfl⟩ := rel_nils hs
        refine Ran0.stay hw ?_ (mkInt _ _)
        cases b <;> cases a <;> simp [Builtin.copy_, run_underlying hu, Builtin.lenOf, sizeOf_run hsz, Builtin.firstCells, loadCells, loadCellsFrom, storeCells, goInt]
      case rs sz b off len cap0 =>
        cases hb : get b with
        | none => simp [hb] at h
        | some rows =>
          simp only [hb] at h
          by_cases hc : rows.length = off + cap0 ∧ sz = esz
          · rw [if_pos hc] at h
            cases h
            obtain ⟨hrl, hszz⟩ := hc
            have hH : hget H b = some rows := hrd (b, rows) (by simp)
            obtain ⟨a, cap, news, rfl, hn, ha⟩ := srcRows_rel hpos hsrc hx hw (fun p hp => hrd p (by simp [hp]))
            cases hs with
            | pur _ _ hp => cases hp
            | rs _ _ _ _ bi ad cap' hE h0 h1 h2 h3 h4 =>
              obtain ⟨rr, c, el, g1, g2, g3, g4, g5, g6⟩ := hw.blk b bi hE
              rw [hH] at g1; cases g1
              obtain ⟨o, rfl, ho, c1, el1, hc1, hle1⟩ := h4 (by omega)
              rw [g4] at hc1; cases hc1
              have hm : min src.length len ≤ src.length := Nat.min_le_left _ _
              have hm2 : min src.length len ≤ len := Nat.min_le_right _ _
              have hnt := hn.take (min src.length len) hm
              have hfc : (Builtin.firstCells esz (min src.length len) (.slice a src.length cap)).run P w = .ok (news.take (min src.length len * esz)).toArray w := by
                rcases ha with rfl | ⟨aa, rfl, hcells⟩
                · have hl := hn.len
                  have : news = [] := List.eq_nil_of_length_eq_zero (by simpa using hl)
                  subst this
                  cases a <;> simp [Builtin.firstCells, loadCells, loadCellsFrom]
                · refine run_firstCells_some w esz _ aa _ cap _ ?_ (fun j u hu => hcells j u ?_)
                  · rw [hnt.len, List.length_take, Nat.min_eq_left hm]
                  · rw [List.getElem?_take] at hu
                    split at hu
                    · exact hu
                    · cases hu
              obtain ⟨w1, E1, k0, k1, k2, k3, k4, k5⟩ := write_rows (P := P) hw hE hH off (by omega) (by rw [hszz]; exact hnt) g4 (by
                refine Nat.le_trans ?_ g5
                refine Nat.mul_le_mul_right _ ?_
                rw [List.length_take, Nat.min_eq_left hm]
                omega) (tail := rows.drop (off + min src.length len)) (by rw [List.length_take, Nat.min_eq_left hm])
              by_cases hl0 : min src.length len = 0
              · -- nothing goes over
                have hnil : news.take (min src.length len * esz) = [] := by rw [hl0]; simp
                rw [hnil] at k0 hfc
                have e1 : w1 = w := by
                  simp only [storeCells, Sem.run_pure] at k0
                  cases k0; rfl
                subst e1
                refine ⟨.int .i64 (min src.length len : Nat), w1, E1, ?_, mkInt _ _, k1, k2, k3, fun b' hb' => k4 b' hb'⟩
                have hmn : Nat.min src.length len = 0 := hl0
                have hfc' : (Builtin.firstCells esz 0 (.slice a src.length cap)).run P w1 = .ok #[] w1 := by rw [← hl0]; exact hfc
                simp [Builtin.copy_, run_underlying hu, Builtin.lenOf, sizeOf_run hsz, hmn, hfc', storeCells, goInt]
              · have hoo := ho (by omega)
                refine ⟨.int .i64 (min src.length len : Nat), w1, E1, ?_, mkInt _ _, k1, k2, k3, fun b' hb' => k4 b' hb'⟩
                have hmn : Nat.min src.length len = min src.length len := rfl
                rw [← hoo] at k0
                simp [Builtin.copy_, run_underlying hu, Builtin.lenOf, sizeOf_run hsz, hmn, hfc, k0, goInt]
          · rw [if_neg hc] at h; cases h

/-! ### make -/
def amake (P : Program) (t : TypeId) (l c : D) (slot : Nat) : Option (D × List (Nat × Blk)) :=
  match esizeT P t, elemT P t with
  | some esz, some e => match zeroT P e with
    | some z => if growT P t = true ∧ z.length = esz then
        match l, c with
        | .int _ l, .int _ c => if 0 ≤ l ∧ l ≤ c ∧ c ≤ (capMax : Int) then
            (if c = 0 then some (.nils, []) else some (.rs esz slot 0 l.toNat c.toNat, [(slot, List.replicate c.toNat z)])) else none
        | _, _ => none
      else none
    | none => none
  | _, _ => none

end Go.AH

/- make, composite slices, lengths; all operations in one: `aop`, and that it is sound. -/
import Derived.Test.YtmhkanhgmfolhaaGreatAhH
import Derived.Lib.AppendZerosOnto
import Derived.IntWalk
set_option linter.unusedVariables false
set_option linter.unusedSimpArgs false
namespace Go.AH

theorem wrap64_in {n : Int} (h0 : 0 ≤ n) (h1 : n ≤ 4294967296) : IntKind.i64.wrap n = n := IntWalk.i64_in n (by omega)

theorem zeroRow_get (zero : Array Value) (esz : Nat) (hz : zero.size = esz) (n i j : Nat) (hi : i < n) (hj : j < esz) :
    ((Array.range (n * esz)).map (zero[· % zero.size]!))[i * esz + j]? = some (zero[j]'(by omega)) := by
  have hlt := idx_lt hi hj
  rw [Array.getElem?_map, Array.getElem?_range, if_pos hlt]
  simp only [Option.map_some]
  congr 1
  have e : (i * esz + j) % zero.size = j := by
    rw [hz, Nat.add_comm, Nat.add_mul_mod_self_right, Nat.mod_eq_of_lt hj]
  rw [e]
  exact getElem!_pos zero j (by omega)

theorem range0 (f : Nat → Value) : (Array.range 0).map f = #[] := by apply Array.ext'; simp

theorem zeroRow_size (zero : Array Value) (n : Nat) : ((Array.range n).map (zero[· % zero.size]!)).size = n := by simp

theorem amake_run {P : Program} {O : Nat → Prop} {E : Env} {H : Heap} {w : World} {t : TypeId} {l c d : D} {lv cv : Value} {slot : Nat} {wr : List (Nat × Blk)} (h : amake P t l c slot = some (d, wr))
    (hl : RelE O E w l lv) (hc : RelE O E w c cv) (hw : Wrel O E H w) (hO : ∀ n, w.heap.size ≤ n → O n) (hsl : E slot = none) :
    Ran P O E H w (Instr.makeSlice t lv cv) d wr slot := by
  unfold amake at h
  cases he : esizeT P t with
  | none => simp [he] at h
  | some esz =>
    obtain ⟨e, hu, hsz, hpos⟩ := esizeT_spec he
    have hel : elemT P t = some e := by simp [elemT, hu]
    simp only [he, hel] at h
    cases hz : zeroT P e with
    | none => simp [hz] at h
    | some z =>
      simp only [hz] at h
      by_cases hg : growT P t = true ∧ z.length = esz
      · rw [if_pos hg] at h
        obtain ⟨i, zv, hi, hisz, hzz, hzs, hby, _⟩ := growT_spec hg.1 hu hsz
        obtain ⟨i2, zv2, hi2, hzz2, hzr⟩ := zeroT_rel (O := O) (E := E) (w := w) hz
        rw [hi] at hi2; cases hi2
        rw [hzz] at hzz2; cases hzz2
        cases l <;> cases c <;> simp only at h <;> try (cases h; done)
        rename_i kl nl kc nc
        have := rel_int hl; subst this
        have := rel_int hc; subst this
        by_cases hb : 0 ≤ nl ∧ nl ≤ nc ∧ nc ≤ (capMax : Int)
        · rw [if_pos hb] at h
          unfold capMax at hb
          obtain ⟨b0, b1, b2⟩ := hb
          have wl : IntKind.i64.wrap nl = nl := wrap64_in b0 (by omega)
          have wc : IntKind.i64.wrap nc = nc := wrap64_in (by omega) (by omega)
          have hbytes : (i.bytes : Int) * nc ≤ 281474976710656 := by
            have h1 : (i.bytes : Int) * nc ≤ 1024 * nc := Int.mul_le_mul_of_nonneg_right (by omega) (by omega)
            omega
          have hcond : ¬ ((nc < 0 ∨ 281474976710656 < (i.bytes : Int) * nc) ∨ nl < 0 ∨ nc < nl) := by omega
          have hrun : (Instr.makeSlice t (.int kl nl) (.int kc nc)).run P w = .ok (.slice (some ⟨w.heap.size, 0, none⟩) nl.toNat nc.toNat)
              (push w ((Array.range (nc.toNat * esz)).map (zv.cells[· % zv.cells.size]!)) e) := by
            have hc1 : (decide (nc < 0) || decide ((i.bytes : Int) * nc > 2 ^ 48)) = false := by
              rw [show ((2 : Int) ^ 48) = 281474976710656 from rfl]
              simp; omega
            have hc2 : (false || decide (nl < 0) || decide (nl > nc)) = false := by simp; omega
            have hbody : ∀ (x : Sem Value), x = (do
                askRoom (nc.toNat * i.bytes)
                let n := nc.toNat * (← sizeOf e)
                let zero ← if n = 0 then pure #[] else do pure (← zeroValue e).cells
                let a ← newRow e ((Array.range n).map (zero[· % zero.size]!))
                pure (.slice (some a) nl.toNat nc.toNat)) → x.run P w = .ok (.slice (some ⟨w.heap.size, 0, none⟩) nl.toNat nc.toNat) (push w ((Array.range (nc.toNat * esz)).map (zv.cells[· % zv.cells.size]!)) e) := by
              rintro x rfl
              simp only [Sem.run_bind, run_askRoom, Result.andThen_ok, sizeOf_run hsz, Sem.run_ite]
              by_cases hn : nc.toNat * esz = 0
              · have hn' : nc.toNat = 0 := by
                  rcases Nat.mul_eq_zero.1 hn with h | h
                  · exact h
                  · omega
                simp [hn', newRow, push, range0]
              · rw [if_neg hn]
                simp [zeroValue, typeInfo, hi, hzz, newRow, push]
            simp only [Instr.makeSlice, Sem.run_bind, run_underlying hu, Result.andThen_ok, asInt, asIntOf, Sem.run_pure, typeInfo, run_program, hi, wl, wc]
            simp only [hc1, hc2, Bool.false_eq_true, if_false]
            exact hbody _ rfl
          by_cases hc0 : nc = 0
          · rw [if_pos hc0] at h
            cases h
            subst hc0
            have hl0 : nl = 0 := by omega
            subst hl0
            obtain ⟨g1, g2⟩ := new_waste hw (w1 := push w ((Array.range ((0 : Int).toNat * esz)).map (zv.cells[· % zv.cells.size]!)) e) rfl rfl rfl rfl (Nat.le_refl _)
            exact ⟨_, _, E, hrun, .pur _ _ (.nils _), g1, g2, OwnNew.refl _ _, fun _ _ h => h⟩
          · rw [if_neg hc0] at h
            cases h
            obtain ⟨E1, r1, r2, r3, r4, r5⟩ := new_rows (w1 := push w ((Array.range (nc.toNat * esz)).map (zv.cells[· % zv.cells.size]!)) e) hw hO hsl (rows := List.replicate nc.toNat z) (esz := esz)
              (vs := (Array.range (nc.toNat * esz)).map (zv.cells[· % zv.cells.size]!)) (el := e) hpos rfl rfl rfl rfl (Nat.le_refl _) (len := nl.toNat) (cap := nc.toNat) (by simp; omega) (by simp) (by rw [zeroRow_size]; exact Nat.le_refl _)
              (fun r hr => by rw [List.eq_of_mem_replicate hr]; exact hg.2) (fun i' j r d hi' hj' => by
                have hlt := some_lt hi'
                simp only [List.length_replicate] at hlt
                have hr : r = z := by rw [List.getElem?_replicate, if_pos hlt] at hi'; exact (Option.some.inj hi').symm
                subst hr
                have hj2 : j < esz := by rw [← hg.2]; exact some_lt hj'
                refine ⟨_, zeroRow_get zv.cells esz hzs _ i' j hlt hj2, hzr.scal j _ (Array.getElem?_eq_getElem (by omega)), hzr.rel j d _ hj' (Array.getElem?_eq_getElem (by omega))⟩) (scal_rng (.inl (by omega)) hzr.scal)
            simp only [List.length_replicate] at r1
            exact ⟨_, _, E1, hrun, r1, r2, r3, r4, r5⟩
        · rw [if_neg hb] at h; cases h
      · rw [if_neg hg] at h; cases h

/-! ### append of zeros: append(s, make([]T, n)...) -/
def aappendZ (P : Program) (t tx : TypeId) (s x : D) (slot : Nat) : Option (D × List (Nat × Blk) × List (Nat × Blk)) :=
  match esizeT P t, elemT P t, intT P tx with
  | some esz, some e, some _ => match s, x with
    | .nils, .int _ n => match zeroT P e with
      | some z => if growT P t = true ∧ z.length = esz ∧ 0 < n ∧ n ≤ (capMax : Int) then some (.rs esz slot 0 n.toNat n.toNat, [(slot, List.replicate n.toNat z)], []) else none
      | none => none
    | _, _ => none
  | _, _, _ => none

theorem run_append_zeros {P : Program} {w : World} {t tx ty e : TypeId} {i : TypeInfo} {z : Value} {k k' : IntKind} {n : Nat} (ht : P.underlying t = some (.slice e)) (hk : P.underlying tx = some (.int k)) (hi : P.info? e = some i) (hz : i.zero = some z) (a : Option Addr)
    (h0 : 0 < n) (h1 : n ≤ 4294967296) (hb : i.bytes ≤ 1024) (hsz : 0 < i.size) :
    (Builtin.append_ #[t, tx] ty #[.slice a 0 0, .int k' n]).run P w =
      .ok (.slice (some ⟨w.heap.size, 0, none⟩) n (grownCap w n 0 e)) (w.drew.alloc (.cells (Builtin.zeroCells z.cells n ++ Builtin.zeroCells z.cells (grownCap w n 0 e - n)) e)) := by
  have hn : ¬ n = 0 := by omega
  have hw : IntKind.i64.wrap (n : Int) = n := wrap64_in (by omega) (by omega)
  have hby : n * i.bytes ≤ 4294967296 * 1024 := Nat.mul_le_mul h1 hb
  have h48 : ¬ (281474976710656 < (n : Int) * i.bytes) := by
    have : ((n * i.bytes : Nat) : Int) = (n : Int) * i.bytes := by simp
    omega
  have h63' : ¬ (9223372036854775807 < (n : Int)) := by omega
  have h48' : ¬ (281474976710656 < Builtin.nextslicecap n 0 * i.bytes) := by
    have : Builtin.nextslicecap n 0 = n := by unfold Builtin.nextslicecap; rw [if_pos (by omega)]
    rw [this]; omega
  have hneg : ¬ ((n : Int) < 0) := by omega
  have hfc : (Builtin.firstCells i.size 0 (.slice a 0 0)).run P w.drew = .ok #[] w.drew := by cases a <;> simp [Builtin.firstCells, loadCells, loadCellsFrom]
  simp [Builtin.append_, run_underlying ht, run_underlying hk, sizeOf, typeInfo, zeroValue, hi, hz, asInt, asIntOf, hw, hn, hneg, h48, h63', h48', Question.forced, hfc, newRow, grownCap]
  intro hq
  rcases Nat.mul_eq_zero.1 hq with q | q <;> omega

theorem aappendZ_run {P : Program} {O : Nat → Prop} {E : Env} {H : Heap} {w : World} {t tx ty : TypeId} {s x d : D} {u v : Value} {slot : Nat} {wr rd : List (Nat × Blk)} (h : aappendZ P t tx s x slot = some (d, wr, rd))
    (hs : RelE O E w s u) (hx : RelE O E w x v) (hw : Wrel O E H w) (hO : ∀ n, w.heap.size ≤ n → O n) (hsl : E slot = none) : Ran P O E H w (Builtin.append_ #[t, tx] ty #[u, v]) d wr slot := by
  unfold aappendZ at h
  split at h
  · rename_i esz e kk he hel hk
    obtain ⟨e', hu, hsz, hpos⟩ := esizeT_spec he
    have : e' = e := by simpa [elemT, hu] using hel
    subst this
    have hki : P.underlying tx = some (.int kk) := by
      unfold intT at hk
      split at hk
      · rename_i k2 hq; cases hk; exact hq
      · cases hk
    split at h
    · rename_i k' n
      split at h
      · rename_i z hz
        split at h
        · rename_i hc
          cases h
          obtain ⟨hg, hzl, hn0, hn1⟩ := hc
          unfold capMax at hn1
          obtain ⟨i, zv, hi, hisz, hzz, hzs, hby, hzsc⟩ := growT_spec hg hu hsz
          obtain ⟨i2, zv2, hi2, hzz2, hzr⟩ := zeroT_rel (O := O) (E := E) (w := w) hz
          rw [hi] at hi2; cases hi2
          rw [hzz] at hzz2; cases hzz2
          obtain ⟨a, rfl⟩ := rel_nils hs
          have := rel_int hx; subst this
          obtain ⟨m, rfl⟩ : ∃ m : Nat, n = m := ⟨n.toNat, by omega⟩
          simp only [Int.toNat_natCast]
          have hrun := run_append_zeros (P := P) (w := w) (ty := ty) (k' := k') hu hki hi hzz a (n := m) (by omega) (by omega) hby (by omega)
          have hge := grownCap_ge w m 0 e'
          have hzc : ∀ q, Builtin.zeroCells zv.cells q = (Array.range (q * esz)).map (zv.cells[· % zv.cells.size]!) := fun q => by
            unfold Builtin.zeroCells; rw [hzs]
          obtain ⟨E1, r1, r2, r3, r4, r5⟩ := new_rows (w1 := w.drew.alloc (.cells (Builtin.zeroCells zv.cells m ++ Builtin.zeroCells zv.cells (grownCap w m 0 e' - m)) e')) hw hO hsl (rows := List.replicate m z) (esz := esz)
            (vs := Builtin.zeroCells zv.cells m ++ Builtin.zeroCells zv.cells (grownCap w m 0 e' - m)) (el := e') hpos rfl rfl rfl rfl (Nat.le_succ _) (len := m) (cap := grownCap w m 0 e') (by simp) (by simp; exact hge)
            (by
              rw [Array.size_append, size_zeroCells, size_zeroCells, hzs, ← Nat.add_mul]
              exact Nat.mul_le_mul_right _ (by omega)) (fun r hr => by rw [List.eq_of_mem_replicate hr]; exact hzl) (fun i' j r d hi' hj' => by
                have hlt := some_lt hi'
                simp only [List.length_replicate] at hlt
                have hr : r = z := by rw [List.getElem?_replicate, if_pos hlt] at hi'; exact (Option.some.inj hi').symm
                subst hr
                have hj2 : j < esz := by rw [← hzl]; exact some_lt hj'
                have hin := idx_lt hlt hj2
                refine ⟨zv.cells[j]'(by omega), ?_, hzr.scal j _ (Array.getElem?_eq_getElem (by omega)), hzr.rel j d _ hj' (Array.getElem?_eq_getElem (by omega))⟩
                rw [Array.getElem?_append_left (by rw [size_zeroCells, hzs]; exact hin), hzc]
                exact zeroRow_get zv.cells esz hzs _ i' j hlt hj2) (scal_app (scal_zeros hzsc _) (scal_zeros hzsc _))
          simp only [List.length_replicate] at r1
          exact ⟨_, _, E1, hrun, r1, r2, r3, r4, r5⟩
        · cases h
      · cases h
    · cases h
  · cases h


/-! ### append to a slice of which the real room is known -/
def aappendX (P : Program) (t tx : TypeId) (s x : D) (get : Nat → Option Blk) (slot : Nat) : Option (D × List (Nat × Blk) × List (Nat × Blk)) :=
  match s with
  | .rx sz b len cap rc => match esizeT P t, get b with
    | some esz, some rows => if sz = esz ∧ rows.length = cap ∧ growT P t = true then
        match intT P tx with
        | some _ => match x, elemT P t with
          | .int _ n, some e => match zeroT P e with
            | some z => if z.length = esz ∧ 0 < n ∧ (rc : Int) < len + n ∧ (len : Int) + n ≤ (capMax : Int) then some (.rs esz slot 0 (len + n.toNat) (len + n.toNat), [(slot, rows.take len ++ List.replicate n.toNat z)], [(b, rows)]) else none
            | none => none
          | _, _ => none
        | none => if sliceT P tx = true then match srcRows esz get x with
          | some (src, rd) => if len + src.length ≤ cap then aappend P t tx (.rs sz b 0 len cap) x get slot
            else if rc < len + src.length ∧ len + src.length ≤ capMax then some (.rs esz slot 0 (len + src.length) (len + src.length), [(slot, rows.take len ++ src)], (b, rows) :: rd) else none
          | none => none
          else none
      else none
    | _, _ => none
  | _ => none

theorem olds_of {P : Program} {O : Nat → Prop} {E : Env} {H : Heap} {w : World} (hw : Wrel O E H w) {b : Nat} {bi : BI} (hE : E b = some bi) {rows : Blk} (hH : hget H b = some rows) {esz : Nat} (hszz : bi.sz = esz) (hpos : 0 < esz) {len cap' : Nat}
    (hlen : len ≤ rows.length) (hlc : len ≤ cap') {ad : Addr} (href : RefOK w bi 0 ad cap') :
    ∃ olds, Rows O E w esz (rows.take len) olds ∧ (Builtin.firstCells esz len (.slice (some ad) len cap')).run P w.drew = .ok olds.toArray w.drew := by
  obtain ⟨rr, c, el, g1, g2, g3, g4, g5, g6⟩ := hw.blk b bi hE
  rw [hH] at g1; cases g1
  obtain ⟨o, rfl, ho, c1, el1, hc1, hle1⟩ := href
  rw [g4] at hc1; cases hc1
  by_cases hl0 : len = 0
  · subst hl0
    exact ⟨[], ⟨by simp, by simp, by simp, by simp⟩, by simp [Builtin.firstCells, loadCells, loadCellsFrom]⟩
  · have hoo := ho (by omega)
    obtain ⟨olds, q1, q2⟩ := Rows.of_cells (O := O) (E := E) (w := w) (rows := rows.take len) hpos (fun r hr => by rw [← hszz]; exact g3 r (List.mem_of_mem_take hr)) bi.blk o (fun i' j r d hi' hj' => by
      rw [List.getElem?_take] at hi'
      split at hi'
      · obtain ⟨v, e1, e2, e3⟩ := g6 i' j r d hi' hj'
        refine ⟨v, ?_, e2, e3⟩
        rw [cell?_some g4, hoo, Nat.zero_mul, Nat.zero_add, ← hszz]
        exact e1
      · cases hi')
    have hq := q1.len
    rw [List.length_take, Nat.min_eq_left (by omega)] at hq
    exact ⟨olds, q1, run_firstCells_some w.drew esz len _ len cap' olds hq (fun j u hu => by simpa using q2 j u hu)⟩

theorem rows_app {O : Nat → Prop} {E : Env} {w : World} {esz : Nat} {A B : Blk} {xs ys : List Value} (hA : Rows O E w esz A xs) (hB : Rows O E w esz B ys) : Rows O E w esz (A ++ B) (xs ++ ys) where
  len := by rw [List.length_append, List.length_append, hA.len, hB.len, Nat.add_mul]
  row := fun r hr => by
    rw [List.mem_append] at hr
    rcases hr with hr | hr
    · exact hA.row r hr
    · exact hB.row r hr
  scal := fun v hv => by
    rw [List.mem_append] at hv
    rcases hv with hv | hv
    · exact hA.scal v hv
    · exact hB.scal v hv
  rel := fun i j r d hi hj => by
    have hl := hA.len
    by_cases h1 : i < A.length
    · rw [List.getElem?_append_left h1] at hi
      obtain ⟨v, e1, e2⟩ := hA.rel i j r d hi hj
      exact ⟨v, by rw [List.getElem?_append_left (some_lt e1)]; exact e1, e2⟩
    · rw [List.getElem?_append_right (by omega)] at hi
      obtain ⟨v, e1, e2⟩ := hB.rel _ j r d hi hj
      refine ⟨v, ?_, e2⟩
      have e5 : A.length * esz ≤ i * esz := Nat.mul_le_mul_right _ (by omega)
      rw [List.getElem?_append_right (by omega), hl]
      have e4 : i * esz + j - A.length * esz = (i - A.length) * esz + j := by
        have : (i - A.length) * esz + A.length * esz = i * esz := by rw [← Nat.add_mul]; congr 1; omega
        omega
      rw [e4]; exact e1

theorem zero_rows {O : Nat → Prop} {E : Env} {w : World} {esz : Nat} {z : List D} {zv : Array Value} (hzr : RelCs O E w z zv) (hzl : z.length = esz) (n : Nat) : Rows O E w esz (List.replicate n z) (Builtin.zeroCells zv n).toList := by
  have hzs : zv.size = esz := by rw [← hzr.len]; exact hzl
  refine ⟨by rw [Array.length_toList, size_zeroCells, hzs, List.length_replicate], fun r hr => by rw [List.eq_of_mem_replicate hr]; exact hzl, fun v hv => ?_, fun i' j r d hi' hj' => ?_⟩
  · obtain ⟨q, hq⟩ := List.mem_iff_getElem?.1 hv
    exact scal_zeros hzr.scal n q v (by simpa using hq)
  · have hlt := some_lt hi'
    simp only [List.length_replicate] at hlt
    have hr : r = z := by rw [List.getElem?_replicate, if_pos hlt] at hi'; exact (Option.some.inj hi').symm
    subst hr
    have hj2 : j < esz := by rw [← hzl]; exact some_lt hj'
    refine ⟨zv[j]'(by omega), ?_, hzr.rel j d _ hj' (Array.getElem?_eq_getElem (by omega))⟩
    have hzc : Builtin.zeroCells zv n = (Array.range (n * esz)).map (zv[· % zv.size]!) := by
      unfold Builtin.zeroCells; rw [hzs]
    rw [Array.getElem?_toList, hzc]
    exact zeroRow_get zv esz hzs _ i' j hlt hj2

theorem aappendX_run {P : Program} {O : Nat → Prop} {E : Env} {H : Heap} {w : World} {t tx ty : TypeId} {s x d : D} {u v : Value} {get : Nat → Option Blk} {slot : Nat} {wr rd : List (Nat × Blk)} (h : aappendX P t tx s x get slot = some (d, wr, rd))
    (hs : RelE O E w s u) (hx : RelE O E w x v) (hw : Wrel O E H w) (hO : ∀ n, w.heap.size ≤ n → O n) (hrd : ∀ p, p ∈ rd → hget H p.1 = some p.2) (hsl : E slot = none) :
    Ran P O E H w (Builtin.append_ #[t, tx] ty #[u, v]) d wr slot := by
  unfold aappendX at h
  split at h
  · rename_i sz b len cap rc
    split at h
    · rename_i esz rows he hgb
      obtain ⟨e, hu, hsz, hpos⟩ := esizeT_spec he
      have hel : elemT P t = some e := by simp [elemT, hu]
      split at h
      · rename_i hc
        obtain ⟨hszz, hrl, hgr⟩ := hc
        obtain ⟨i, zv, hi, hisz, hz, hzs, hby, hzsc⟩ := growT_spec hgr hu hsz
        cases hs with
        | pur _ _ hp => cases hp
        | rx _ _ _ _ bi ad hE h0 h1 h2 h3 h4 =>
          -- what a grown row comes to
          have grow : ∀ (src : Blk) (news : List Value) (rd' : List (Nat × Blk)), hget H b = some rows → Rows O E w esz src news → 0 < src.length → rc < len + src.length → len + src.length ≤ 4294967296 →
              (∀ olds, (Builtin.firstCells i.size len (.slice (some ad) len rc)).run P w.drew = .ok olds.toArray w.drew →
                (Builtin.append_ #[t, tx] ty #[.slice (some ad) len rc, v]).run P w = .ok (.slice (some ⟨w.heap.size, 0, none⟩) (len + src.length) (grownCap w (len + src.length) rc e))
                  (w.drew.alloc (.cells ((olds ++ news).toArray ++ Builtin.zeroCells zv.cells (grownCap w (len + src.length) rc e - (len + src.length))) e))) →
              Ran P O E H w (Builtin.append_ #[t, tx] ty #[.slice (some ad) len rc, v]) (.rs esz slot 0 (len + src.length) (len + src.length)) [(slot, rows.take len ++ src)] slot := by
            intro src news rd' hH hn hm hlt hmx hrun
            obtain ⟨rr, c, el, g1, g2, g3, g4, g5, g6⟩ := hw.blk b bi hE
            rw [hH] at g1; cases g1
            obtain ⟨olds, q1, q2⟩ := olds_of (P := P) (len := len) (cap' := rc) hw hE hH hszz hpos (by omega) (by omega) (h4 (by omega))
            have hrun := hrun olds (by rw [hisz]; exact q2)
            have hR := rows_app q1 hn
            have hlen2 : (rows.take len ++ src).length = len + src.length := by simp; omega
            have hge := grownCap_ge w (len + src.length) rc e
            have hll := hR.len
            obtain ⟨E1, r1, r2, r3, r4, r5⟩ := new_rows (w1 := w.drew.alloc (.cells ((olds ++ news).toArray ++ Builtin.zeroCells zv.cells (grownCap w (len + src.length) rc e - (len + src.length))) e)) hw hO hsl (rows := rows.take len ++ src) (esz := esz)
              (vs := (olds ++ news).toArray ++ Builtin.zeroCells zv.cells (grownCap w (len + src.length) rc e - (len + src.length))) (el := e) hpos rfl rfl rfl rfl (Nat.le_succ _) (len := len + src.length) (cap := grownCap w (len + src.length) rc e) (by omega) (by omega)
              (by
                rw [Array.size_append, List.size_toArray, hll, hlen2, size_zeroCells, hzs, ← Nat.add_mul]
                exact Nat.mul_le_mul_right _ (by omega)) hR.row (fun i' j r d hi' hj' => by
                  obtain ⟨v, e1, e2, e3⟩ := hR.at hi' hj'
                  refine ⟨v, ?_, e2, e3⟩
                  rw [Array.getElem?_append_left (by simpa using some_lt e1)]
                  simpa using e1) (scal_app (scal_list hR.scal) (scal_zeros hzsc _))
            rw [hlen2] at r1
            exact ⟨_, _, E1, hrun, r1, r2, r3, r4, r5⟩
          split at h
          · rename_i kk hk
            have hki : P.underlying tx = some (.int kk) := by
              unfold intT at hk
              split at hk
              · rename_i k2 hq; cases hk; exact hq
              · cases hk
            split at h
            · rename_i k' n e' hel'
              rw [hel] at hel'; cases hel'
              split at h
              · rename_i z hz2
                split at h
                · rename_i hc2
                  cases h
                  obtain ⟨hzl, hn0, hn1, hn2⟩ := hc2
                  unfold capMax at hn2
                  obtain ⟨i2, zv2, hi2, hzz2, hzr⟩ := zeroT_rel (O := O) (E := E) (w := w) hz2
                  rw [hi] at hi2; cases hi2
                  rw [hz] at hzz2; cases hzz2
                  have := rel_int hx; subst this
                  obtain ⟨m, rfl⟩ : ∃ m : Nat, n = m := ⟨n.toNat, by omega⟩
                  have hR := zero_rows hzr hzl m
                  have := grow (List.replicate m z) _ [] (hrd (b, rows) (by simp)) hR (by simp; omega) (by simp; omega) (by simp; omega) (fun olds ho => by
                    have hr := Lib.run_append_grow_zeros (P := P) w t tx ty e i zv k' kk hu hki hi hz (some ad) len rc olds ho m (by omega) (by omega) (by omega) (by omega)
                      (by have : m * i.bytes ≤ 4294967296 * 1024 := Nat.mul_le_mul (by omega) hby
                          omega)
                      (growslice_fits (by omega) (by
                        have : (len + m) * i.bytes ≤ 4294967296 * 1024 := Nat.mul_le_mul (by omega) hby
                        omega))
                    rw [hr]
                    simp only [List.length_replicate]
                    congr 4
                    apply Array.ext'
                    simp)
                  simpa using this
                · cases h
              · cases h
            · cases h
          · split at h
            · rename_i hst
              split at h
              · rename_i src rd0 hsrc
                split at h
                · rename_i hroom
                  refine aappend_run h ?_ hx hw hO hrd hsl
                  exact .rs b 0 len cap bi ad rc hE h0 (by omega) h2 h3 (fun q => h4 (by omega))
                · split at h
                  · rename_i hroom hc2
                    obtain ⟨hc3, hc4⟩ := hc2
                    cases h
                    unfold capMax at hc4
                    obtain ⟨a, cap2, news, rfl, hn, ha⟩ := srcRows_rel hpos hsrc hx hw (fun p hp => hrd p (by simp [hp]))
                    have hS : Src P i.size tx (.slice a src.length cap2) src.length news w := by rw [hisz]; exact src_of hst hn ha
                    exact grow src news rd0 (hrd (b, rows) (by simp)) hn (by omega) hc3 hc4 (fun olds ho =>
                      run_append_grow_src (P := P) w t tx ty e i zv hu hi hz (some ad) len rc olds ho _ src.length news hS hc3 (by omega)
                        (growslice_fits (by omega) (by
                          have : (len + src.length) * i.bytes ≤ 4294967296 * 1024 := Nat.mul_le_mul hc4 hby
                          omega)))
                  · cases h
              · cases h
            · cases h
      · cases h
    · cases h
  · cases h

/-! ### clear -/
def aclear (P : Program) (t : TypeId) (x : D) (get : Nat → Option Blk) : Option (D × List (Nat × Blk) × List (Nat × Blk)) :=
  match esizeT P t, elemT P t with
  | some esz, some e => match x with
    | .nils => some (.tup [], [], [])
    | .vs [] => some (.tup [], [], [])
    | .bs [] => some (.tup [], [], [])
    | .rs sz b off len cap => if len = 0 then some (.tup [], [], []) else match zeroT P e, get b with
      | some z, some rows => if rows.length = off + cap ∧ sz = esz ∧ z.length = esz ∧ growT P t = true then some (.tup [], [(b, rows.take off ++ List.replicate len z ++ rows.drop (off + len))], [(b, rows)]) else none
      | _, _ => none
    | _ => none
  | _, _ => none

theorem aclear_run {P : Program} {O : Nat → Prop} {E : Env} {H : Heap} {w : World} {t ty : TypeId} {x d : D} {u : Value} {get : Nat → Option Blk} {wr rd : List (Nat × Blk)} (h : aclear P t x get = some (d, wr, rd))
    (hx : RelE O E w x u) (hw : Wrel O E H w) (hrd : ∀ p, p ∈ rd → hget H p.1 = some p.2) : Ran0 P O E H w (Builtin.clear_ #[t] ty #[u]) d wr := by
  unfold aclear at h
  split at h
  · rename_i esz e he hel
    obtain ⟨e', hu, hsz, hpos⟩ := esizeT_spec he
    have : e' = e := by simpa [elemT, hu] using hel
    subst this
    have hnone : ∀ (a : Option Addr) (c : Nat), (Builtin.clear_ #[t] ty #[.slice a 0 c]).run P w = .ok undef w := by
      intro a c
      cases a <;> simp [Builtin.clear_, run_underlying hu, undef]
    split at h
    · cases h
      obtain ⟨a, rfl⟩ := rel_nils hx
      exact Ran0.stay hw (hnone a 0) mkUndef
    · cases h
      cases hx with
      | pur _ _ hp => cases hp with | vs _ a cap => exact Ran0.stay hw (hnone a _) mkUndef
    · cases h
      cases hx with
      | pur _ _ hp => cases hp
      | bs _ a cap => exact Ran0.stay hw (hnone a _) mkUndef
    · rename_i sz b off len cap
      split at h
      · rename_i hl0
        cases h
        subst hl0
        cases hx with
        | pur _ _ hp => cases hp
        | rs _ _ _ _ bi ad cap' hE h0 h1 h2 h3 h4 => exact Ran0.stay hw (hnone _ _) mkUndef
      · rename_i hl0
        split at h
        · rename_i z rows hz hb
          split at h
          · rename_i hc
            cases h
            obtain ⟨hrl, hszz, hzl, hg⟩ := hc
            obtain ⟨i, zv, hi, hisz, hzz, hzs, hby, hzsc⟩ := growT_spec hg hu hsz
            obtain ⟨i2, zv2, hi2, hzz2, hzr⟩ := zeroT_rel (O := O) (E := E) (w := w) hz
            rw [hi] at hi2; cases hi2
            rw [hzz] at hzz2; cases hzz2
            have hH : hget H b = some rows := hrd (b, rows) (by simp)
            cases hx with
            | pur _ _ hp => cases hp
            | rs _ _ _ _ bi ad cap' hE h0 h1 h2 h3 h4 =>
              obtain ⟨rr, c, el, g1, g2, g3, g4, g5, g6⟩ := hw.blk b bi hE
              rw [hH] at g1; cases g1
              obtain ⟨o, rfl, ho, c1, el1, hc1, hle1⟩ := h4 (by omega)
              rw [g4] at hc1; cases hc1
              have hzc : Builtin.zeroCells zv.cells len = (Array.range (len * esz)).map (zv.cells[· % zv.cells.size]!) := by
                unfold Builtin.zeroCells; rw [hzs]
              have hn : Rows O E w bi.sz (List.replicate len z) (Builtin.zeroCells zv.cells len).toList := by
                have hget : ∀ i' j r d, (List.replicate len z)[i']? = some r → r[j]? = some d → ∃ v, (Builtin.zeroCells zv.cells len).toList[i' * bi.sz + j]? = some v ∧ Scal v ∧ RelE O E w d v := by
                  intro i' j r d hi' hj'
                  have hlt := some_lt hi'
                  simp only [List.length_replicate] at hlt
                  have hr : r = z := by rw [List.getElem?_replicate, if_pos hlt] at hi'; exact (Option.some.inj hi').symm
                  subst hr
                  have hj2 : j < esz := by rw [← hzl]; exact some_lt hj'
                  refine ⟨zv.cells[j]'(by omega), (by rw [hzc, hszz, Array.getElem?_toList]; exact zeroRow_get zv.cells esz hzs _ i' j hlt hj2), hzr.scal j _ (Array.getElem?_eq_getElem (by omega)), hzr.rel j d _ hj' (Array.getElem?_eq_getElem (by omega))⟩
                refine ⟨by rw [hzc]; simp [hszz], fun r hr => by rw [List.eq_of_mem_replicate hr, hszz]; exact hzl, fun u hu' => ?_, fun i' j r d hi' hj' => ?_⟩
                · obtain ⟨q, hq⟩ := List.mem_iff_getElem?.1 hu'
                  have hql : q < len * esz := by have := some_lt hq; rw [hzc] at this; simpa using this
                  have hi2 : q / esz < len := Nat.div_lt_of_lt_mul (by rw [Nat.mul_comm]; exact hql)
                  have hj2 : q % esz < esz := Nat.mod_lt _ hpos
                  obtain ⟨v, e1, e2, _⟩ := hget (q / esz) (q % esz) z (z[q % esz]'(by omega)) (by rw [List.getElem?_replicate, if_pos hi2]) (List.getElem?_eq_getElem (by omega))
                  rw [hszz, show q / esz * esz + q % esz = q from by rw [Nat.mul_comm]; exact Nat.div_add_mod q esz, hq] at e1
                  cases e1; exact e2
                · obtain ⟨v, e1, _, e3⟩ := hget i' j r d hi' hj'
                  exact ⟨v, e1, e3⟩
              obtain ⟨w1, E1, k0, k1, k2, k3, k4, k5⟩ := write_rows (P := P) hw hE hH off (by omega) hn g4 (by
                refine Nat.le_trans ?_ g5
                refine Nat.mul_le_mul_right _ ?_
                simp only [List.length_replicate]; omega) (tail := rows.drop (off + len)) (by simp)
              have hoo := ho (by omega)
              refine ⟨undef, w1, E1, ?_, mkUndef, k1, k2, k3, fun b' hb' => k4 b' hb'⟩
              rw [← hoo] at k0
              obtain ⟨m, rfl⟩ : ∃ m, len = m + 1 := ⟨len - 1, by omega⟩
              have hzv : (zeroValue e').run P w = .ok zv w := by simp [zeroValue, typeInfo, hi, hzz]
              simp [Builtin.clear_, run_underlying hu, hzv, k0, undef]
          · cases h
        · cases h
    · cases h
  · cases h

theorem aclear_rd {P : Program} {t : TypeId} {x : D} {get : Nat → Option Blk} {q : D × List (Nat × Blk) × List (Nat × Blk)} (h : aclear P t x get = some q) : ∀ p, p ∈ q.2.2 → get p.1 = some p.2 := by
  unfold aclear at h
  split at h
  · split at h
    · cases h; simp
    · cases h; simp
    · cases h; simp
    · split at h
      · cases h; simp
      · split at h
        · rename_i hb
          split at h
          · cases h
            intro p hp
            simp at hp
            subst hp
            exact hb
          · cases h
        · cases h
    · cases h
  · cases h

/-! ### Composite slices -/
def fillR (esz : Nat) : Blk → List (Nat × D) → Option Blk
  | rows, [] => some rows
  | rows, (i, d) :: rest => match cellsOf d with
    | some xs => if xs.length = esz ∧ i < rows.length then fillR esz (rows.set i xs) rest else none
    | none => none

def abuildSlice (P : Program) (t : TypeId) (len : Nat) (parts : List (Nat × D)) (slot : Nat) : Option (D × List (Nat × Blk)) :=
  match esizeT P t, elemT P t with
  | some esz, some e => match zeroT P e with
    | some z => if z.length = esz ∧ len * esz ≤ 16777216 then
        match fillR esz (List.replicate len z) parts with
        | some rows => if len = 0 then some (.nils, []) else some (.rs esz slot 0 len len, [(slot, rows)])
        | none => none
      else none
    | none => none
  | _, _ => none

structure RowsA (O : Nat → Prop) (E : Env) (w : World) (esz : Nat) (rows : Blk) (vs : Array Value) : Prop where
  len : vs.size = rows.length * esz
  row : ∀ r, r ∈ rows → r.length = esz
  rel : ∀ (i j : Nat) (r : List D) (d : D), rows[i]? = some r → r[j]? = some d → ∃ v, vs[i * esz + j]? = some v ∧ Scal v ∧ RelE O E w d v

theorem RowsA.scal {O : Nat → Prop} {E : Env} {w : World} {esz : Nat} {rows : Blk} {vs : Array Value} (h : RowsA O E w esz rows vs) (hpos : 0 < esz) (j : Nat) (v : Value) (hv : vs[j]? = some v) : Scal v := by
  have hlt : j < rows.length * esz := by
    rw [← h.len]
    rcases Nat.lt_or_ge j vs.size with h' | h'
    · exact h'
    · rw [Array.getElem?_eq_none h'] at hv; cases hv
  have h1 : j / esz < rows.length := Nat.div_lt_of_lt_mul (by rw [Nat.mul_comm]; exact hlt)
  have h2 : j % esz < (rows[j / esz]).length := by rw [h.row _ (List.getElem_mem h1)]; exact Nat.mod_lt _ hpos
  obtain ⟨u, e1, e2, _⟩ := h.rel (j / esz) (j % esz) _ _ (List.getElem?_eq_getElem h1) (List.getElem?_eq_getElem h2)
  rw [Nat.mul_comm, Nat.div_add_mod, hv] at e1
  cases e1
  exact e2

theorem fillR_rel {O : Nat → Prop} {E : Env} {w : World} {esz : Nat} (parts : List (Nat × D)) : ∀ (us : List (Nat × Value)) (rows rows' : Blk) (vs : Array Value), fillR esz rows parts = some rows' → RowsA O E w esz rows vs →
    parts.length = us.length → (∀ (k : Nat) (p : Nat × D) (u : Nat × Value), parts[k]? = some p → us[k]? = some u → p.1 = u.1 ∧ RelE O E w p.2 u.2) →
    ∃ vs', Instr.fill (fun i => some (i * esz, esz)) vs us = some vs' ∧ RowsA O E w esz rows' vs' ∧ rows'.length = rows.length := by
  induction parts with
  | nil =>
    intro us rows rows' vs h hr hl _
    have : us = [] := List.eq_nil_of_length_eq_zero (by simpa using hl.symm)
    subst this
    simp [fillR] at h; subst h
    exact ⟨vs, rfl, hr, rfl⟩
  | cons p parts ih =>
    intro us rows rows' vs h hr hl hx
    cases us with
    | nil => simp at hl
    | cons u us =>
      obtain ⟨i, d⟩ := p
      obtain ⟨i', v⟩ := u
      obtain ⟨e, hd⟩ := hx 0 (i, d) (i', v) rfl rfl
      simp only at e hd
      subst e
      simp only [fillR] at h
      cases hc : cellsOf d with
      | none => simp [hc] at h
      | some xs =>
        simp only [hc] at h
        by_cases hcond : xs.length = esz ∧ i < rows.length
        · rw [if_pos hcond] at h
          obtain ⟨hxl, hi⟩ := hcond
          have g := rel_cells hd hc
          have hg := g.len
          have hh := hr.len
          have hbound : i * esz + esz ≤ vs.size := by
            rw [hh]
            have := Nat.mul_le_mul_right esz (show i + 1 ≤ rows.length from hi)
            rw [Nat.add_mul, Nat.one_mul] at this
            exact this
          have e : v.cells.zipIdx.foldl (fun cs (c, j) => cs.setIfInBounds (i * esz + j) c) vs = (v.cells.toList.zipIdx 0).foldl (fun cs (p : Value × Nat) => cs.setIfInBounds (i * esz + p.2) p.1) vs := by
            rw [← Array.foldl_toList, Array.toList_zipIdx]
          have hp : ∀ p : Nat, (v.cells.zipIdx.foldl (fun cs (c, j) => cs.setIfInBounds (i * esz + j) c) vs)[p]? = if i * esz ≤ p ∧ p < i * esz + esz then v.cells[p - i * esz]? else vs[p]? := by
            intro p
            rw [e, foldl_zipIdx (i * esz) v.cells.toList 0 vs (by simp; omega) p]
            simp only [Nat.add_zero, Array.length_toList, Array.getElem?_toList]
            rw [← hg, hxl]
          have hr' : RowsA O E w esz (rows.set i xs) (v.cells.zipIdx.foldl (fun cs (c, j) => cs.setIfInBounds (i * esz + j) c) vs) := by
            refine ⟨by rw [e, foldl_zipIdx_size, hh, List.length_set], fun r hrm => ?_, fun i2 j r d2 hi2 hj2 => ?_⟩
            · rcases List.mem_or_eq_of_mem_set hrm with hm | rfl
              · exact hr.row r hm
              · exact hxl
            · rw [hp]
              rw [List.getElem?_set] at hi2
              by_cases e2 : i = i2
              · subst e2
                rw [if_pos rfl, if_pos hi] at hi2
                cases hi2
                have hj3 : j < xs.length := some_lt hj2
                rw [if_pos ⟨by omega, by omega⟩, show i * esz + j - i * esz = j from by omega]
                have hj4 : j < v.cells.size := by omega
                exact ⟨v.cells[j], Array.getElem?_eq_getElem hj4, g.scal _ _ (Array.getElem?_eq_getElem hj4), g.rel _ _ _ hj2 (Array.getElem?_eq_getElem hj4)⟩
              · rw [if_neg e2] at hi2
                have hj3 : j < esz := by rw [← hr.row r (List.mem_of_getElem? hi2)]; exact some_lt hj2
                rw [if_neg ?_]
                · exact hr.rel i2 j r d2 hi2 hj2
                · intro ⟨q1, q2⟩
                  rcases Nat.lt_or_gt_of_ne e2 with hlt | hgt
                  · have : (i + 1) * esz ≤ i2 * esz := Nat.mul_le_mul_right _ hlt
                    rw [Nat.add_mul, Nat.one_mul] at this
                    omega
                  · have : (i2 + 1) * esz ≤ i * esz := Nat.mul_le_mul_right _ hgt
                    rw [Nat.add_mul, Nat.one_mul] at this
                    omega
          obtain ⟨vs', h1, h2, h3⟩ := ih us _ rows' _ h hr' (by simpa using hl) (fun k p u h1 h2 => hx (k + 1) p u (by simpa using h1) (by simpa using h2))
          refine ⟨vs', ?_, h2, by rw [h3, List.length_set]⟩
          simp only [Instr.fill]
          rw [if_neg (by simp; omega)]
          exact h1
        · rw [if_neg hcond] at h; cases h

theorem abuildSlice_run {P : Program} {O : Nat → Prop} {E : Env} {H : Heap} {w : World} {t : TypeId} {len : Nat} {parts : List (Nat × D)} {d : D} {slot : Nat} {wr : List (Nat × Blk)} (h : abuildSlice P t len parts slot = some (d, wr))
    (us : Array (Nat × Value)) (hl : parts.length = us.size)
    (hx : ∀ (k : Nat) (p : Nat × D) (u : Nat × Value), parts[k]? = some p → us[k]? = some u → p.1 = u.1 ∧ RelE O E w p.2 u.2)
    (hw : Wrel O E H w) (hO : ∀ n, w.heap.size ≤ n → O n) (hsl : E slot = none) :
    Ran P O E H w (Instr.buildSlice t len us) d wr slot := by
  unfold abuildSlice at h
  cases he : esizeT P t with
  | none => simp [he] at h
  | some esz =>
    obtain ⟨e, hu, hsz, hpos⟩ := esizeT_spec he
    have hel : elemT P t = some e := by simp [elemT, hu]
    simp only [he, hel] at h
    cases hz : zeroT P e with
    | none => simp [hz] at h
    | some z =>
      simp only [hz] at h
      by_cases hg : z.length = esz ∧ len * esz ≤ 16777216
      · rw [if_pos hg] at h
        obtain ⟨hzl, hle⟩ := hg
        cases hf : fillR esz (List.replicate len z) parts with
        | none => simp [hf] at h
        | some rows =>
          simp only [hf] at h
          obtain ⟨i, zv, hi, hzz, hzr⟩ := zeroT_rel (O := O) (E := E) (w := w) hz
          have hzs : zv.cells.size = esz := by rw [← hzr.len]; exact hzl
          have hr0 : RowsA O E w esz (List.replicate len z) ((Array.range (len * esz)).map (zv.cells[· % zv.cells.size]!)) := by
            refine ⟨by simp, fun r hr => by rw [List.eq_of_mem_replicate hr]; exact hzl, fun i' j r d hi' hj' => ?_⟩
            have hlt := some_lt hi'
            simp only [List.length_replicate] at hlt
            have hr : r = z := by rw [List.getElem?_replicate, if_pos hlt] at hi'; exact (Option.some.inj hi').symm
            subst hr
            have hj2 : j < esz := by rw [← hzl]; exact some_lt hj'
            refine ⟨_, zeroRow_get zv.cells esz hzs _ i' j hlt hj2, hzr.scal j _ (Array.getElem?_eq_getElem (by omega)), hzr.rel j d _ hj' (Array.getElem?_eq_getElem (by omega))⟩
          obtain ⟨vs', h1, h2, h3⟩ := fillR_rel parts us.toList _ rows _ hf hr0 (by simpa using hl) (fun k p u q1 q2 => hx k p u q1 (by simpa using q2))
          simp only [List.length_replicate] at h3
          have hrun : (Instr.buildSlice t len us).run P w = .ok (.slice (some ⟨w.heap.size, 0, none⟩) len len) (push w vs' e) := by
            simp only [Instr.buildSlice, Sem.run_bind, run_underlying hu, Result.andThen_ok, sizeOf_run hsz]
            rw [if_neg (by omega)]
            by_cases hn : len * esz = 0
            · have hn' : len = 0 := by
                rcases Nat.mul_eq_zero.1 hn with h | h
                · exact h
                · omega
              subst hn'
              have h1' : Instr.fill (fun i => some (i * esz, esz)) #[] us.toList = some vs' := by
                have e0 : (Array.range (0 * esz)).map (zv.cells[· % zv.cells.size]!) = #[] := by rw [Nat.zero_mul]; exact range0 _
                rw [e0] at h1; exact h1
              simp [h1', newRow, push, range0]
            · rw [if_neg hn]
              simp [zeroValue, typeInfo, hi, hzz, newRow, push] at h1 ⊢
              rw [h1]
              rfl
          by_cases hl0 : len = 0
          · rw [if_pos hl0] at h
            cases h
            obtain ⟨g1, g2⟩ := new_waste hw (w1 := push w vs' e) rfl rfl rfl rfl (Nat.le_refl _)
            subst hl0
            exact ⟨_, _, E, hrun, .pur _ _ (.nils _), g1, g2, OwnNew.refl _ _, fun _ _ h => h⟩
          · rw [if_neg hl0] at h
            cases h
            obtain ⟨E1, r1, r2, r3, r4, r5⟩ := new_rows (w1 := push w vs' e) hw hO hsl (rows := rows) (esz := esz) (vs := vs') (el := e) hpos rfl rfl rfl rfl (Nat.le_refl _) (len := len) (cap := len) (by omega) (by omega)
              (by rw [h2.len, h3]; exact Nat.le_refl _) h2.row h2.rel (h2.scal hpos)
            rw [h3] at r1
            exact ⟨_, _, E1, hrun, r1, r2, r3, r4, r5⟩
      · rw [if_neg hg] at h; cases h

end Go.AH

/- Appending, copying, making slices, lengths. -/
import Derived.Test.YtmhkanhgmfolhaaGreatAhF
set_option linter.unusedVariables false
set_option linter.unusedSimpArgs false
namespace Go.AH

theorem growT_spec {P : Program} {t e : TypeId} {esz : Nat} (h : growT P t = true) (hu : P.underlying t = some (.slice e)) (hs : sizeT P e = some esz) :
    ∃ i z, P.info? e = some i ∧ i.size = esz ∧ i.zero = some z ∧ z.cells.size = esz ∧ i.bytes ≤ 1024 ∧ (∀ (j : Nat) (v : Value), z.cells[j]? = some v → Scal v) := by
  unfold growT at h
  simp only [elemT, hu] at h
  cases hi : P.info? e with
  | none => simp [hi] at h
  | some i =>
    have hsz : i.size = esz := by simpa [sizeT, hi] using hs
    cases hz : i.zero with
    | none => simp [hi, hz] at h
    | some z =>
      simp only [hi, hz, Bool.and_eq_true, decide_eq_true_eq] at h
      refine ⟨i, z, rfl, hsz, hz, by omega, h.1.2, fun j v hv => ?_⟩
      have := h.2
      rw [List.all_eq_true] at this
      exact this v (by rw [Array.mem_toList_iff]; exact Array.mem_of_getElem? hv)

def sliceT (P : Program) (t : TypeId) : Bool :=
  match P.underlying t with
  | some (.slice _) => true
  | _ => false

def capMax : Nat := 4294967296

def aappend (P : Program) (t tx : TypeId) (s x : D) (get : Nat → Option Blk) (slot : Nat) : Option (D × List (Nat × Blk) × List (Nat × Blk)) :=
  match esizeT P t with
  | some esz => if growT P t = true ∧ sliceT P tx = true then
      match srcRows esz get x with
      | some (src, rd) =>
        match s with
        | .vs rows => if src.isEmpty then some (.vs rows, [], rd) else none
        | .nils => if src.isEmpty then some (.nils, [], rd) else if src.length ≤ capMax then some (.rs esz slot 0 src.length src.length, [(slot, src)], rd) else none
        | .rs sz b off len cap => if src.isEmpty then some (.rs sz b off len cap, [], rd) else
            match get b with
            | some rows => if rows.length = off + cap ∧ sz = esz then
                (if len + src.length ≤ cap then some (.rs sz b off (len + src.length) cap, [(b, rows.take (off + len) ++ src ++ rows.drop (off + len + src.length))], (b, rows) :: rd)
                 else if off = 0 ∧ len + src.length ≤ capMax then some (.rs sz b 0 (len + src.length) (len + src.length), [(b, rows.take len ++ src)], (b, rows) :: rd) else none)
              else none
            | none => none
        | _ => none
      | none => none
    else none
  | none => none

theorem run_append_room_any {P : Program} {w : World} {t tx ty e : TypeId} {i : TypeInfo} (ht : P.underlying t = some (.slice e)) (hi : P.info? e = some i) (ad : Addr) (sLen sCap : Nat) (x : Value) (n : Nat) (news : List Value)
    (hs : Src P i.size tx x n news w) (hroom : sLen + n ≤ sCap) :
    (Builtin.append_ #[t, tx] ty #[.slice (some ad) sLen sCap, x]).run P w = ((storeCells (ad.add (sLen * i.size)) news).run P w).andThen fun _ w1 => .ok (.slice (some ad) (sLen + n) sCap) w1 := by
  rcases hs.kind with ⟨e', hk⟩ | hk <;> simp [Builtin.append_, run_underlying ht, run_underlying hk, sizeOf, typeInfo, hi, hs.len, hroom, hs.cells]

theorem run_append_zero {P : Program} {w : World} {t tx ty e : TypeId} {i : TypeInfo} (ht : P.underlying t = some (.slice e)) (hi : P.info? e = some i) (base : Option Addr) (sLen sCap : Nat) (x : Value)
    (hs : Src P i.size tx x 0 [] w) (hle : sLen ≤ sCap) :
    (Builtin.append_ #[t, tx] ty #[.slice base sLen sCap, x]).run P w = .ok (.slice base sLen sCap) w := by
  rcases hs.kind with ⟨e', hk⟩ | hk <;> cases base <;> simp [Builtin.append_, run_underlying ht, run_underlying hk, sizeOf, typeInfo, hi, hs.len, hle, hs.cells, storeCells]

theorem src_of {P : Program} {O : Nat → Prop} {E : Env} {w : World} {esz : Nat} {tx : TypeId} (hk : sliceT P tx = true) {rows : Blk} {news : List Value} (hn : Rows O E w esz rows news) {a : Option Addr} {cap : Nat}
    (ha : rows = [] ∨ ∃ ad, a = some ad ∧ ∀ (j : Nat) (v : Value), news[j]? = some v → w.cell? (ad.add j) = some v) : Src P esz tx (.slice a rows.length cap) rows.length news w := by
  have hk' : ∃ e', P.underlying tx = some (.slice e') := by
    unfold sliceT at hk
    split at hk
    · rename_i e' h; exact ⟨e', h⟩
    · cases hk
  obtain ⟨e', hk'⟩ := hk'
  have hl := hn.len
  rcases ha with rfl | ⟨ad, rfl, hc⟩
  · have : news = [] := List.eq_nil_of_length_eq_zero (by simpa using hl)
    subst this
    refine ⟨.inl ⟨e', hk'⟩, fun _ => rfl, ?_, ?_, by simp, by simp⟩
    · cases a <;> simp [Builtin.firstCells, loadCells, loadCellsFrom]
    · cases a <;> simp [Builtin.firstCells, loadCells, loadCellsFrom]
  · exact Src.ofSlice w hk' ad rows.length cap news hl hc hn.scal

theorem Rows.at {O : Nat → Prop} {E : Env} {w : World} {esz : Nat} {rows : Blk} {news : List Value} (h : Rows O E w esz rows news) {i j : Nat} {r : List D} {d : D} (hi : rows[i]? = some r) (hj : r[j]? = some d) :
    ∃ v, news[i * esz + j]? = some v ∧ Scal v ∧ RelE O E w d v := by
  obtain ⟨v, h1, h2⟩ := h.rel i j r d hi hj
  exact ⟨v, h1, h.scal v (List.mem_of_getElem? h1), h2⟩

theorem idx_lt {esz i j n : Nat} (hi : i < n) (hj : j < esz) : i * esz + j < n * esz := by
  have : (i + 1) * esz ≤ n * esz := Nat.mul_le_mul_right _ hi
  rw [Nat.add_mul, Nat.one_mul] at this
  omega

theorem some_lt {α : Type} {l : List α} {i : Nat} {x : α} (h : l[i]? = some x) : i < l.length := by
  rcases Nat.lt_or_ge i l.length with h1 | h1
  · exact h1
  · rw [List.getElem?_eq_none h1] at h; cases h

/-- A row of stores into an owned block: rows p, p + 1, .. are replaced by those of `src`; the block may grow into what its memory has behind it. -/
theorem write_rows {P : Program} {O : Nat → Prop} {E : Env} {H : Heap} {w : World} (hw : Wrel O E H w) {b : Nat} {bi : BI} (hE : E b = some bi) {rows : Blk} (hH : hget H b = some rows) (p : Nat) (hp : p ≤ rows.length) {src : Blk} {news : List Value}
    (hn : Rows O E w bi.sz src news) {c : Array Value} {el : TypeId} (hc : w.heap[bi.blk]? = some (.cells c el (0, 0))) (hfit : (p + src.length) * bi.sz ≤ c.size) {tail : Blk} (htail : tail = rows.drop (p + src.length)) :
    ∃ w1 E1, (storeCells ⟨bi.blk, p * bi.sz, none⟩ news).run P w = .ok () w1 ∧ Wrel O E1 (hset H b (rows.take p ++ src ++ tail)) w1 ∧ Fr All E w E1 w1 ∧ OwnNew w E E1 ∧ (∀ b, E b = none → E1 b = none) ∧
      E1 b = some ⟨bi.blk, bi.sz, (rows.take p ++ src ++ tail).length⟩ := by
  obtain ⟨rows', c', el', g1, g2, g3, g4, g5, g6⟩ := hw.blk b bi hE
  rw [hH] at g1; cases g1
  rw [hc] at g4; cases g4
  have hl := hn.len
  obtain ⟨w1, c', hrun, hwr, hsz, hpos⟩ := run_storeCells P bi.blk (p * bi.sz) el news 0 w c hc (fun u hu => hn.scal u hu) (by rw [hl, Nat.add_zero, ← Nat.add_mul]; exact hfit)
  have hlen : (rows.take p ++ src ++ tail).length = p + src.length + (rows.length - (p + src.length)) := by
    rw [htail]; simp; omega
  have hmx : p + src.length + (rows.length - (p + src.length)) = max (p + src.length) rows.length := by omega
  obtain ⟨k1, k2⟩ := hw.write (b := b) (bi := bi) hE (rows := rows.take p ++ src ++ tail) (c := c) (c' := c') (el := el) (hsc := stored_scal hpos (fun u hu => hn.scal u hu) (hw.sc b bi hE c el hc)) hc hwr.size hwr.oth hwr.blk hsz hwr.os hwr.tape hwr.output hwr.drawn (by rw [hlen]; omega)
    (fun r hr => by
      rw [htail, List.mem_append, List.mem_append] at hr
      rcases hr with (hr | hr) | hr
      · exact g3 r (List.mem_of_mem_take hr)
      · exact hn.row r hr
      · exact g3 r (List.mem_of_mem_drop hr))
    (by
      rw [hlen, hmx, hsz]
      rcases Nat.le_total (p + src.length) rows.length with h | h
      · rw [Nat.max_eq_right h, g2]; exact g5
      · rw [Nat.max_eq_left h]; exact hfit)
    (fun i j r d hi hj => by
      rw [hpos]
      simp only [Nat.add_zero]
      by_cases h1 : i < p
      · rw [List.append_assoc, List.getElem?_append_left (by simp; omega), List.getElem?_take_of_lt h1] at hi
        have hj' : j < bi.sz := by rw [← g3 r (List.mem_of_getElem? hi)]; exact some_lt hj
        rw [if_neg (by have := idx_lt h1 hj'; omega)]
        exact g6 i j r d hi hj
      · by_cases h2 : i < p + src.length
        · rw [List.append_assoc, List.getElem?_append_right (by simp; omega), List.length_take, Nat.min_eq_left hp, List.getElem?_append_left (by omega)] at hi
          have hj' : j < bi.sz := by rw [← hn.row r (List.mem_of_getElem? hi)]; exact some_lt hj
          obtain ⟨v, e1, e2, e3⟩ := hn.at hi hj
          have e4 : i * bi.sz + j - p * bi.sz = (i - p) * bi.sz + j := by
            have : (i - p) * bi.sz + p * bi.sz = i * bi.sz := by rw [← Nat.add_mul]; congr 1; omega
            omega
          have e5 : p * bi.sz ≤ i * bi.sz := Nat.mul_le_mul_right _ (by omega)
          have e6 := idx_lt (n := src.length) (i := i - p) (by omega) hj'
          rw [if_pos ⟨by omega, by omega⟩, e4]
          exact ⟨v, e1, e2, e3⟩
        · rw [List.getElem?_append_right (by simp; omega), htail, List.getElem?_drop] at hi
          simp only [List.length_append, List.length_take, Nat.min_eq_left hp] at hi
          rw [show p + src.length + (i - (p + src.length)) = i from by omega] at hi
          have e5 : (p + src.length) * bi.sz ≤ i * bi.sz := Nat.mul_le_mul_right _ (by omega)
          rw [Nat.add_mul] at e5
          rw [if_neg (by omega)]
          exact g6 i j r d hi hj)
  refine ⟨w1, _, hrun, k1, k2, fun b' bi' hb' => ?_, fun b' hb' => ?_, Env.set_self _ _ _⟩
  · rcases Env.set_some hb' with ⟨rfl, rfl⟩ | ⟨_, hb'⟩
    · exact .inr ⟨bi, hE, rfl⟩
    · exact .inr ⟨bi', hb', rfl⟩
  · rw [Env.set_ne]
    · exact hb'
    · rintro rfl; rw [hE] at hb'; cases hb'

end Go.AH

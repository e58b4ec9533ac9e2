/- Steps of memory: a new block, a block that moves, a block that is written; and what loads and stores of cells do. -/
import Derived.Test.YtmhkanhgmfolhaaGreatAhA
set_option linter.unusedVariables false
set_option linter.unusedSimpArgs false
namespace Go.AH

def Env.set (E : Env) (b : Nat) (x : BI) : Env := fun b' => if b' = b then some x else E b'

theorem Env.set_self (E : Env) (b : Nat) (x : BI) : E.set b x b = some x := by simp [Env.set]
theorem Env.set_ne (E : Env) {b b' : Nat} (x : BI) (h : b' ≠ b) : E.set b x b' = E b' := by simp [Env.set, h]
theorem Env.set_some {E : Env} {b b' : Nat} {x y : BI} (h : E.set b x b' = some y) : (b' = b ∧ y = x) ∨ (b' ≠ b ∧ E b' = some y) := by
  by_cases e : b' = b
  · subst e; rw [Env.set_self] at h; exact .inl ⟨rfl, (Option.some.inj h).symm⟩
  · rw [Env.set_ne E x e] at h; exact .inr ⟨e, h⟩

/-- The same memory: only the count of draws may have turned. -/
structure SameMem (w w1 : World) : Prop where
  heap : w1.heap = w.heap
  os : w1.os = w.os
  tape : w1.tape = w.tape
  output : w1.output = w.output
  drawn : w.drawn ≤ w1.drawn

theorem SameMem.refl (w : World) : SameMem w w := ⟨rfl, rfl, rfl, rfl, Nat.le_refl _⟩

theorem SameMem.fr {w w1 : World} (h : SameMem w w1) (E : Env) : Fr All E w E w1 :=
  ⟨h.os, h.tape, h.output, by rw [h.heap]; exact Nat.le_refl _, fun _ _ ho => ⟨by rw [h.heap], ho⟩, fun _ bi _ hb => ⟨bi, hb, rfl, Nat.le_refl _, fun _ => rfl⟩,
    fun _ c _ _ hc => ⟨c, by rw [h.heap]; exact hc, rfl⟩, h.drawn⟩

theorem Wrel.same {O : Nat → Prop} {E : Env} {H : Heap} {w w1 : World} (h : Wrel O E H w) (hm : SameMem w w1) : Wrel O E H w1 where
  blk := fun b bi hb => by
    obtain ⟨rows, c, el, h1, h2, h3, h4, h5, h6⟩ := h.blk b bi hb
    refine ⟨rows, c, el, h1, h2, h3, by rw [hm.heap]; exact h4, h5, fun i j r d hi hj => ?_⟩
    obtain ⟨v, e, s, r⟩ := h6 i j r d hi hj
    exact ⟨v, e, s, r.mono (hm.fr E)⟩
  live := h.live
  inj := h.inj
  sc := fun b bi hb c el hc => h.sc b bi hb c el (by rw [← hm.heap]; exact hc)

theorem Wrel.lt {O : Nat → Prop} {E : Env} {H : Heap} {w : World} (h : Wrel O E H w) {b : Nat} {bi : BI} (hb : E b = some bi) : bi.blk < w.heap.size := by
  obtain ⟨rows, c, el, _, _, _, h4, _⟩ := h.blk b bi hb
  rcases Nat.lt_or_ge bi.blk w.heap.size with h | h
  · exact h
  · rw [Array.getElem?_eq_none h] at h4; cases h4

theorem Wrel.none {O : Nat → Prop} {E : Env} {H : Heap} {w : World} (h : Wrel O E H w) {b : Nat} (hb : E b = none) : hget H b = none := by
  cases e : hget H b with
  | none => rfl
  | some rows => obtain ⟨bi, hx⟩ := h.live b rows e; rw [hb] at hx; cases hx

theorem Wrel.beyond {O : Nat → Prop} {E : Env} {l : List Blk} {w : World} (h : Wrel O E (l.map some) w) {i : Nat} (hi : l.length ≤ i) : E i = Option.none := by
  cases hq : E i with
  | none => rfl
  | some bi =>
    obtain ⟨rows, _, _, g, _⟩ := h.blk _ bi hq
    rw [hget, List.getElem?_map, List.getElem?_eq_none hi] at g
    cases g

/-- A block that lies where it did not lie before: new, or grown into new memory. -/
theorem Wrel.place {O : Nat → Prop} {E : Env} {H : Heap} {w w1 : World} (h : Wrel O E H w) {b : Nat} {sz : Nat} {rows : Blk} {cells : Array Value} {el : TypeId}
    (hb : ∀ bi, E b = some bi → bi.sz = sz ∧ bi.n < rows.length)
    (hw : w1.heap = w.heap.push (.cells cells el)) (ho : w1.os = w.os) (ht : w1.tape = w.tape) (hu : w1.output = w.output) (hdr : w.drawn ≤ w1.drawn)
    (hsz : ∀ r, r ∈ rows → r.length = sz) (hc : rows.length * sz ≤ cells.size)
    (hr : ∀ (i j : Nat) (r : List D) (d : D), rows[i]? = some r → r[j]? = some d → ∃ v, cells[i * sz + j]? = some v ∧ Scal v ∧ RelE O E w d v) (hsc : ∀ (j : Nat) (v : Value), cells[j]? = some v → Scal v) :
    Wrel O (E.set b ⟨w.heap.size, sz, rows.length⟩) (hset H b rows) w1 ∧ Fr All E w (E.set b ⟨w.heap.size, sz, rows.length⟩) w1 := by
  have hf : Fr All E w (E.set b ⟨w.heap.size, sz, rows.length⟩) w1 := by
    refine ⟨ho, ht, hu, by rw [hw]; simp, fun k hk hout => ⟨by rw [hw, Array.getElem?_push, if_neg (by omega)], ?_⟩, fun b' bi _ hE => ?_, fun k c el' fz hk => ?_, hdr⟩
    · intro b' bi hE
      rcases Env.set_some hE with ⟨_, rfl⟩ | ⟨_, hE⟩
      · exact fun e => by simp at e; omega
      · exact hout b' bi hE
    · by_cases e : b' = b
      · subst e
        obtain ⟨h1, h2⟩ := hb bi hE
        exact ⟨_, Env.set_self _ _ _, h1.symm, by simp; omega, fun e => by simp at e; omega⟩
      · exact ⟨bi, by rw [Env.set_ne _ _ e]; exact hE, rfl, Nat.le_refl _, fun _ => rfl⟩
    · have hlt : k < w.heap.size := by
        rcases Nat.lt_or_ge k w.heap.size with h | h
        · exact h
        · rw [Array.getElem?_eq_none h] at hk; cases hk
      exact ⟨c, by rw [hw, Array.getElem?_push, if_neg (by omega)]; exact hk, rfl⟩
  refine ⟨⟨fun b' bi hE => ?_, fun b' rows' hg => ?_, fun b1 b2 x y h1 h2 e => ?_, fun b' bi hE c0 el0 hc0 => ?_⟩, hf⟩
  · rcases Env.set_some hE with ⟨rfl, rfl⟩ | ⟨hne, hE⟩
    · refine ⟨rows, cells, el, by rw [hget_hset, if_pos rfl], rfl, hsz, by rw [hw]; simp, hc, fun i j r d hi hj => ?_⟩
      obtain ⟨v, h1, h2, h3⟩ := hr i j r d hi hj
      exact ⟨v, h1, h2, h3.mono hf⟩
    · obtain ⟨rows', c, el', h1, h2, h3, h4, h5, h6⟩ := h.blk b' bi hE
      refine ⟨rows', c, el', by rw [hget_hset, if_neg hne]; exact h1, h2, h3, ?_, h5, fun i j r d hi hj => ?_⟩
      · rw [hw, Array.getElem?_push, if_neg (by have := h.lt hE; omega)]; exact h4
      · obtain ⟨v, e1, e2, e3⟩ := h6 i j r d hi hj
        exact ⟨v, e1, e2, e3.mono hf⟩
  · rw [hget_hset] at hg
    by_cases e : b' = b
    · subst e; exact ⟨_, Env.set_self _ _ _⟩
    · rw [if_neg e] at hg
      obtain ⟨bi, hx⟩ := h.live b' rows' hg
      exact ⟨bi, by rw [Env.set_ne _ _ e]; exact hx⟩
  · rcases Env.set_some h1 with ⟨e1, rfl⟩ | ⟨n1, g1⟩ <;> rcases Env.set_some h2 with ⟨e2, rfl⟩ | ⟨n2, g2⟩
    · rw [e1, e2]
    · have := h.lt g2; simp at e; omega
    · have := h.lt g1; simp at e; omega
    · exact h.inj b1 b2 x y g1 g2 e
  · rcases Env.set_some hE with ⟨_, rfl⟩ | ⟨_, hE⟩
    · rw [hw] at hc0
      simp at hc0
      obtain ⟨rfl, _⟩ := hc0
      exact hsc
    · rw [hw, Array.getElem?_push, if_neg (by have := h.lt hE; omega)] at hc0
      exact h.sc b' bi hE c0 el0 hc0

/-- A block that is written where it lies (it may grow into what its memory has behind it). -/
theorem Wrel.write {O : Nat → Prop} {E : Env} {H : Heap} {w w1 : World} (h : Wrel O E H w) {b : Nat} {bi : BI} (hb : E b = some bi) {rows : Blk} {c c' : Array Value} {el : TypeId}
    (hc : w.heap[bi.blk]? = some (.cells c el (0, 0))) (hsize : w1.heap.size = w.heap.size) (hoth : ∀ k, k ≠ bi.blk → w1.heap[k]? = w.heap[k]?)
    (hc' : w1.heap[bi.blk]? = some (.cells c' el (0, 0))) (hcs : c'.size = c.size)
    (ho : w1.os = w.os) (ht : w1.tape = w.tape) (hu : w1.output = w.output) (hdr : w.drawn ≤ w1.drawn)
    (hn : bi.n ≤ rows.length) (hsz : ∀ r, r ∈ rows → r.length = bi.sz) (hle : rows.length * bi.sz ≤ c'.size)
    (hr : ∀ (i j : Nat) (r : List D) (d : D), rows[i]? = some r → r[j]? = some d → ∃ v, c'[i * bi.sz + j]? = some v ∧ Scal v ∧ RelE O E w d v) (hsc : ∀ (j : Nat) (v : Value), c'[j]? = some v → Scal v) :
    Wrel O (E.set b ⟨bi.blk, bi.sz, rows.length⟩) (hset H b rows) w1 ∧ Fr All E w (E.set b ⟨bi.blk, bi.sz, rows.length⟩) w1 := by
  have hf : Fr All E w (E.set b ⟨bi.blk, bi.sz, rows.length⟩) w1 := by
    refine ⟨ho, ht, hu, by omega, fun k hk hout => ⟨hoth k (fun e => hout b bi hb e.symm), ?_⟩, fun b' bj _ hE => ?_, fun k c1 el' fz hk => ?_, hdr⟩
    · intro b' bj hE
      rcases Env.set_some hE with ⟨_, rfl⟩ | ⟨_, hE⟩
      · exact hout b bi hb
      · exact hout b' bj hE
    · by_cases e : b' = b
      · subst e
        rw [hb] at hE; cases hE
        exact ⟨_, Env.set_self _ _ _, rfl, hn, fun _ => rfl⟩
      · exact ⟨bj, by rw [Env.set_ne _ _ e]; exact hE, rfl, Nat.le_refl _, fun _ => rfl⟩
    · by_cases e : k = bi.blk
      · subst e
        rw [hc] at hk; cases hk
        exact ⟨c', hc', hcs⟩
      · exact ⟨c1, by rw [hoth k e]; exact hk, rfl⟩
  refine ⟨⟨fun b' bj hE => ?_, fun b' rows' hg => ?_, fun b1 b2 x y h1 h2 e => ?_, fun b' bj hE c0 el0 hc0 => ?_⟩, hf⟩
  · rcases Env.set_some hE with ⟨rfl, rfl⟩ | ⟨hne, hE⟩
    · refine ⟨rows, c', el, by rw [hget_hset, if_pos rfl], rfl, hsz, hc', hle, fun i j r d hi hj => ?_⟩
      obtain ⟨v, h1, h2, h3⟩ := hr i j r d hi hj
      exact ⟨v, h1, h2, h3.mono hf⟩
    · obtain ⟨rows', c1, el', h1, h2, h3, h4, h5, h6⟩ := h.blk b' bj hE
      refine ⟨rows', c1, el', by rw [hget_hset, if_neg hne]; exact h1, h2, h3, ?_, h5, fun i j r d hi hj => ?_⟩
      · rw [hoth _ (fun e => hne (h.inj _ _ _ _ hE hb e))]; exact h4
      · obtain ⟨v, e1, e2, e3⟩ := h6 i j r d hi hj
        exact ⟨v, e1, e2, e3.mono hf⟩
  · rw [hget_hset] at hg
    by_cases e : b' = b
    · subst e; exact ⟨_, Env.set_self _ _ _⟩
    · rw [if_neg e] at hg
      obtain ⟨bj, hx⟩ := h.live b' rows' hg
      exact ⟨bj, by rw [Env.set_ne _ _ e]; exact hx⟩
  · rcases Env.set_some h1 with ⟨e1, rfl⟩ | ⟨n1, g1⟩ <;> rcases Env.set_some h2 with ⟨e2, rfl⟩ | ⟨n2, g2⟩
    · rw [e1, e2]
    · exact absurd (h.inj _ _ _ _ hb g2 e).symm n2
    · exact absurd (h.inj _ _ _ _ g1 hb e) n1
    · exact h.inj b1 b2 x y g1 g2 e
  · rcases Env.set_some hE with ⟨_, rfl⟩ | ⟨hne, hE⟩
    · rw [hc'] at hc0
      cases hc0
      exact hsc
    · rw [hoth _ (fun e => hne (h.inj _ _ _ _ hE hb e))] at hc0
      exact h.sc b' bj hE c0 el0 hc0

/-! ### Loads and stores of rows of cells -/

theorem addr_add (k o n : Nat) : (⟨k, o, none⟩ : Addr).add n = ⟨k, o + n, none⟩ := by
  unfold Addr.add
  by_cases h : n = 0
  · subst h; simp
  · simp [h]

theorem cell?_some {w : World} {k o : Nat} {c : Array Value} {el : TypeId} {fz : Nat × Nat} (h : w.heap[k]? = some (.cells c el fz)) :
    w.cell? ⟨k, o, none⟩ = c[o]? := by simp [World.cell?, h]

theorem cell?_lt {w : World} {k o : Nat} {v : Value} (h : w.cell? ⟨k, o, none⟩ = some v) : k < w.heap.size := by
  rcases Nat.lt_or_ge k w.heap.size with h1 | h1
  · exact h1
  · simp [World.cell?, Array.getElem?_eq_none h1] at h

theorem run_loadCellsFrom (P : Program) (w : World) (k o : Nat) (f : Nat → Value) (n : Nat) : ∀ (i : Nat) (acc : Array Value),
    (∀ j, i ≤ j → j < i + n → w.cell? ⟨k, o + j, none⟩ = some (f j)) →
    (loadCellsFrom ⟨k, o, none⟩ i n acc).run P w = .ok (acc ++ ((List.range n).map fun j => f (i + j)).toArray) w := by
  induction n with
  | zero => intro i acc _; simp [loadCellsFrom]
  | succ n ih =>
    intro i acc h
    simp only [loadCellsFrom, Sem.run_bind, run_load, addr_add]
    rw [h i (Nat.le_refl _) (by omega)]
    simp only [Result.andThen_ok]
    rw [ih (i + 1) _ (fun j h1 h2 => h j (by omega) (by omega))]
    congr 1
    rw [List.range_succ_eq_map]
    simp only [List.map_cons, List.map_map, Nat.add_zero]
    apply Array.ext'
    simp only [Array.toList_append, Array.toList_push, List.append_assoc, List.singleton_append]
    congr 2
    apply List.map_congr_left
    intro j _
    show f (i + 1 + j) = f (i + (j + 1))
    congr 1; omega

theorem run_loadCells (P : Program) (w : World) (k o n : Nat) (f : Nat → Value) (h : ∀ j, j < n → w.cell? ⟨k, o + j, none⟩ = some (f j)) :
    (loadCells ⟨k, o, none⟩ n).run P w = .ok (((List.range n).map f).toArray) w := by
  unfold loadCells
  rw [run_loadCellsFrom P w k o f n 0 #[] (fun j _ hj => h j (by omega))]
  simp

/-- What a row of stores leaves. -/
structure Wrote (w w1 : World) (k : Nat) (c' : Array Value) (el : TypeId) : Prop where
  size : w1.heap.size = w.heap.size
  oth : ∀ k', k' ≠ k → w1.heap[k']? = w.heap[k']?
  blk : w1.heap[k]? = some (.cells c' el (0, 0))
  os : w1.os = w.os
  tape : w1.tape = w.tape
  output : w1.output = w.output
  drawn : w.drawn ≤ w1.drawn

theorem run_storeCells (P : Program) (k o : Nat) (el : TypeId) (vs : List Value) : ∀ (i : Nat) (w : World) (c : Array Value),
    w.heap[k]? = some (.cells c el (0, 0)) → (∀ v, v ∈ vs → Scal v) → o + i + vs.length ≤ c.size →
    ∃ w1 c', (storeCells ⟨k, o, none⟩ vs i).run P w = .ok () w1 ∧ Wrote w w1 k c' el ∧ c'.size = c.size ∧
      ∀ p, c'[p]? = if o + i ≤ p ∧ p < o + i + vs.length then vs[p - (o + i)]? else c[p]? := by
  induction vs with
  | nil =>
    intro i w c hc _ _
    refine ⟨w, c, rfl, ⟨rfl, fun _ _ => rfl, hc, rfl, rfl, rfl, Nat.le_refl _⟩, rfl, fun p => ?_⟩
    rw [if_neg (by simp only [List.length_nil]; omega)]
  | cons v vs ih =>
    intro i w c hc hs hle
    simp only [List.length_cons] at hle
    have hcell : w.cell? ⟨k, o + i, none⟩ = some c[o + i] := by rw [cell?_some hc]; exact Array.getElem?_eq_getElem (by omega)
    have hfz : w.frozen? ⟨k, o + i, none⟩ = false := by simp [World.frozen?, hc]
    have hk : k < w.heap.size := cell?_lt hcell
    have hc1 : (w.setCell ⟨k, o + i, none⟩ v).heap[k]? = some (.cells (c.setIfInBounds (o + i) v) el (0, 0)) := by
      simp [World.setCell, Array.getElem?_modify, hc]
    obtain ⟨w1, c', hrun, hw, hsz, hp⟩ := ih (i + 1) (w.setCell ⟨k, o + i, none⟩ v) (c.setIfInBounds (o + i) v) hc1 (fun x hx => hs x (by simp [hx])) (by simp; omega)
    refine ⟨w1, c', ?_, ⟨?_, fun k' hk' => ?_, hw.blk, hw.os, hw.tape, hw.output, hw.drawn⟩, by simpa using hsz, fun p => ?_⟩
    · simp only [storeCells, Sem.run_bind, addr_add]
      rw [run_store P w _ v _ (hs v (by simp)), hcell]
      simp only [hfz, Bool.false_eq_true, if_false, Result.andThen_ok]
      exact hrun
    · rw [hw.size]; simp [World.setCell]
    · rw [hw.oth k' hk']
      simp only [World.setCell, Array.getElem?_modify]
      rw [if_neg (fun e => hk' e.symm)]
    · rw [hp p]
      by_cases h1 : o + (i + 1) ≤ p ∧ p < o + (i + 1) + vs.length
      · rw [if_pos h1, if_pos (by simp; omega)]
        rw [show p - (o + i) = (p - (o + (i + 1))) + 1 from by omega, List.getElem?_cons_succ]
      · rw [if_neg h1]
        by_cases h2 : p = o + i
        · subst h2
          rw [if_pos (by simp)]
          simp [show o + i < c.size from by omega]
        · rw [if_neg (by simp; omega), Array.getElem?_setIfInBounds_ne (fun e => h2 e.symm)]

theorem stored_scal {m : Nat} {vs : List Value} {c c' : Array Value} (hp : ∀ p, c'[p]? = if m ≤ p ∧ p < m + vs.length then vs[p - m]? else c[p]?)
    (h1 : ∀ v, v ∈ vs → Scal v) (h2 : ∀ (j : Nat) (v : Value), c[j]? = some v → Scal v) (j : Nat) (v : Value) (h : c'[j]? = some v) : Scal v := by
  rw [hp] at h
  split at h
  · exact h1 v (List.mem_of_getElem? h)
  · exact h2 j v h

theorem scal_app {a b : Array Value} (h1 : ∀ (j : Nat) (v : Value), a[j]? = some v → Scal v) (h2 : ∀ (j : Nat) (v : Value), b[j]? = some v → Scal v) (j : Nat) (v : Value) (h : (a ++ b)[j]? = some v) : Scal v := by
  rw [Array.getElem?_append] at h
  split at h
  · exact h1 _ v h
  · exact h2 _ v h

theorem scal_list {l : List Value} (h1 : ∀ v, v ∈ l → Scal v) (j : Nat) (v : Value) (h : l.toArray[j]? = some v) : Scal v :=
  h1 v (List.mem_of_getElem? (by simpa using h))

theorem scal_rng {z : Array Value} {m : Nat} (hz : 0 < z.size ∨ m = 0) (h1 : ∀ (j : Nat) (v : Value), z[j]? = some v → Scal v) (j : Nat) (v : Value) (h : ((Array.range m).map (z[· % z.size]!))[j]? = some v) : Scal v := by
  rw [Array.getElem?_map] at h
  have hj : j < m := by
    rcases Nat.lt_or_ge j m with h' | h'
    · exact h'
    · rw [Array.getElem?_eq_none (by simpa using h')] at h; cases h
  have hpos : 0 < z.size := by omega
  rw [Array.getElem?_eq_getElem (by simpa using hj)] at h
  simp only [Array.getElem_range, Option.map_some, Option.some.injEq] at h
  have hlt : j % z.size < z.size := Nat.mod_lt _ hpos
  rw [getElem!_pos z _ hlt] at h
  exact h1 _ v (by rw [Array.getElem?_eq_getElem hlt, h])

theorem scal_zeros {z : Array Value} (h1 : ∀ (j : Nat) (v : Value), z[j]? = some v → Scal v) (n : Nat) (j : Nat) (v : Value) (h : (Builtin.zeroCells z n)[j]? = some v) : Scal v := by
  unfold Builtin.zeroCells at h
  refine scal_rng ?_ h1 j v h
  rcases Nat.eq_zero_or_pos z.size with e | e
  · exact .inr (by rw [e]; rfl)
  · exact .inl e

end Go.AH

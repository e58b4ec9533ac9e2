/- Functions: contracts, how values and blocks go in and come out, and that a call by contract is sound. -/
import Derived.Test.YtmhkanhgmfolhaaGreatAhL
set_option linter.unusedSimpArgs false
set_option linter.unusedVariables false
namespace Go.AH

/-- The function is called as it stands in the text. -/
def Callable (P : Program) (f : FuncId) : Prop := ∃ fn, P.funcs[f]? = some fn ∧ (fn.name == "runtime.NumGoroutine") = false ∧ fn.body.isNone = false

/-- The contract of a function: from arguments that read as `args`, and blocks that came in by reference, it returns `r`, and those blocks (and new ones behind them) are `outs`. -/
def FC (P : Program) (f : FuncId) (args : List D) (Hin : List Blk) (r : D) (outs : List Blk) : Prop :=
  Callable P f ∧ ∀ (O : Nat → Prop) (E : Env) (w : World) (vs : Array Value), Wrel O E (Hin.map some) w → (∀ n, w.heap.size ≤ n → O n) → RelL O E w args vs.toList →
    Calls P f vs w fun e w' => ∃ v E', e = .returned v ∧ RelE O E' w' r v ∧ Wrel O E' (outs.map some) w' ∧ FrK Hin.length E w E' w' ∧ (∀ b bi, Hin.length ≤ b → E' b = some bi → w.heap.size ≤ bi.blk)

def D.isPur : D → Bool
  | .int _ _ => true
  | .bool _ => true
  | .ub => true
  | .str _ => true
  | .vs _ => true
  | .nils => true
  | .zs => true
  | .nilp => true
  | .ifc _ => true
  | .mth _ _ => true
  | .un => true
  | _ => false

def pureB (rows : Blk) : Bool := rows.all fun r => r.all D.isPur

theorem pur_of_rel {O : Nat → Prop} {E : Env} {w : World} {d : D} {v : Value} (h : RelE O E w d v) (hp : d.isPur = true) : Pur (fun k => O k ∧ E.Out k) w d v := by
  cases h with
  | pur _ _ h => exact h
  | _ => cases hp

mutual
/-- No immutable memory in it. -/
def D.flat : D → Bool
  | .vs _ => false
  | .ip _ => false
  | .bs _ => false
  | .mpv _ _ _ => false
  | .agg cs => D.flatL cs
  | .tup cs => D.flatL cs
  | .fn _ cs => D.flatL cs
  | .mv _ cs => D.flatL cs
  | _ => true
def D.flatL : List D → Bool
  | [] => true
  | d :: ds => d.flat && D.flatL ds
end

theorem flatL_at : ∀ {cs : List D} (_ : D.flatL cs = true) (i : Nat) (d : D), cs[i]? = some d → d.flat = true
  | [], _, i, d, h => by simp at h
  | c :: cs, h, i, d, hd => by
    simp only [D.flatL, Bool.and_eq_true] at h
    cases i with
    | zero => simp at hd; subst hd; exact h.1
    | succ i => exact flatL_at h.2 i d (by simpa using hd)

theorem Pur.flat {U U' : Nat → Prop} {w : World} {d : D} {v : Value} (h : Pur U w d v) (hf : d.flat = true) : Pur U' w d v := by
  cases h with
  | vs => simp [D.flat] at hf
  | int => exact .int _ _
  | bool => exact .bool _
  | ub => exact .ub _
  | str => exact .str _
  | nils => exact .nils _
  | zs => exact .zs
  | nilp => exact .nilp
  | ifc => exact .ifc _
  | mth => exact .mth _ _
  | un => exact .un _

mutual
/-- A value as another frame sees it: references are renamed; what is not handed on by reference is seen as it is now. -/
def tr (ρ : Nat → Option Nat) (ss sp nn : Bool) (get : Nat → Option Blk) : D → Option D
  | .rs sz b off len cap => match ρ b with
    | some i => some (.rs sz i off len cap)
    | none => if ss = true then (match get b with
      | some rows => if rows.length = off + cap ∧ pureB rows = true then some (.vs ((rows.drop off).take len)) else none
      | none => none) else if sp = true then (match get b with
      | some rows => if rows.length = off + cap ∧ pureB rows = true then some (.bs ((rows.drop off).take len)) else none
      | none => none) else none
  | .ptr b n i j => match ρ b with
    | some q => some (.ptr q n i j)
    | none => if sp = true then (match get b with
      | some rows => if rows.length = n ∧ pureB rows = true then (match rows[i]? with
        | some row => some (.ip (row.drop j))
        | none => none) else none
      | none => none) else none
  | .rx _ _ _ _ _ => none
  | .ip cells => if sp = true then some (.ip cells) else none
  | .bs rows => if sp = true then some (.bs rows) else none
  | .nils => some (if nn = true then .vs [] else .nils)
  | .zs => some (if nn = true then .vs [] else .zs)
  | .agg cs => match trL ρ ss sp nn get cs with
    | some l => some (.agg l)
    | none => none
  | .tup cs => match trL ρ ss sp nn get cs with
    | some l => some (.tup l)
    | none => none
  | .fn f cs => match trL ρ ss sp nn get cs with
    | some l => some (.fn f l)
    | none => none
  | .mv f cs => match trL ρ ss sp nn get cs with
    | some l => some (.mv f l)
    | none => none
  | .mpv k keys cs => match trL ρ ss sp nn get cs with
    | some l => some (.mpv k keys l)
    | none => none
  | .int k n => some (.int k n)
  | .bool b => some (.bool b)
  | .ub => some .ub
  | .str s => some (.str s)
  | .vs rows => some (.vs rows)
  | .nilp => some .nilp
  | .ifc t => some (.ifc t)
  | .mth t n => some (.mth t n)
  | .un => some .un
def trL (ρ : Nat → Option Nat) (ss sp nn : Bool) (get : Nat → Option Blk) : List D → Option (List D)
  | [] => some []
  | d :: ds => match tr ρ ss sp nn get d, trL ρ ss sp nn get ds with
    | some x, some l => some (x :: l)
    | _, _ => none
end

theorem trL_at {ρ : Nat → Option Nat} {ss sp nn : Bool} {get : Nat → Option Blk} : ∀ {cs ds : List D}, trL ρ ss sp nn get cs = some ds → cs.length = ds.length ∧ ∀ (i : Nat) (d' : D), ds[i]? = some d' → ∃ d, cs[i]? = some d ∧ tr ρ ss sp nn get d = some d'
  | [], ds, h => by simp [trL] at h; subst h; simp
  | c :: cs, ds, h => by
    simp only [trL] at h
    cases h1 : tr ρ ss sp nn get c with
    | none => simp [h1] at h
    | some x =>
      cases h2 : trL ρ ss sp nn get cs with
      | none => simp [h1, h2] at h
      | some l =>
        simp only [h1, h2] at h
        cases h
        obtain ⟨q1, q2⟩ := trL_at h2
        refine ⟨by simp [q1], fun i d' hd => ?_⟩
        cases i with
        | zero => simp at hd; subst hd; exact ⟨c, rfl, h1⟩
        | succ i => exact q2 i d' (by simpa using hd)

/-- How two frames see the same memory. -/
structure Seen (ρ : Nat → Option Nat) (fl ss sp : Bool) (O : Nat → Prop) (E : Env) (H : Heap) (O2 : Nat → Prop) (E2 : Env) (w : World) : Prop where
  wr : Wrel O E H w
  ref : ∀ b i, ρ b = some i → E2 i = E b
  U : fl = false → ∀ k, k < w.heap.size → O k → E.Out k → O2 k ∧ E2.Out k
  V : sp = true → ∀ k, k < w.heap.size → E.Out k → E2.Out k
  snap : ∀ b bi, ρ b = none → E b = some bi → (ss = true → O2 bi.blk ∧ E2.Out bi.blk) ∧ (sp = true → E2.Out bi.blk)

theorem snap_slice {O : Nat → Prop} {E : Env} {H : Heap} {w : World} (hw : Wrel O E H w) {U : Nat → Prop} {sz b off len cap : Nat} {v : Value} {rows : Blk} (h : RelE O E w (.rs sz b off len cap) v) (hg : hget H b = some rows) (hn : rows.length = off + cap) (hp : pureB rows = true)
    (hU : ∀ bi, E b = some bi → U bi.blk) (hU2 : ∀ k, k < w.heap.size → O k → E.Out k → U k) : Pur U w (.vs ((rows.drop off).take len)) v := by
  cases h with
  | pur _ _ hp => cases hp
  | rs _ _ _ _ bi a cap' hE h0 h1 h2 h3 h4 =>
    obtain ⟨rr, c, el, g1, g2, g3, g4, g5, g6⟩ := hw.blk b bi hE
    rw [hg] at g1; cases g1
    obtain ⟨o, rfl, ho, c1, el1, hc1, hle⟩ := h4 (by omega)
    have hlen : ((rows.drop off).take len).length = len := by rw [List.length_take, List.length_drop]; omega
    have hcell : ∀ (i j : Nat) (r : List D) (d : D), ((rows.drop off).take len)[i]? = some r → r[j]? = some d → ∃ u, w.cell? ⟨bi.blk, o + (i * bi.sz + j), none⟩ = some u ∧ Scal u ∧ Pur U w d u := by
      intro i j r d hi hj
      have hlt : i < len := by rw [← hlen]; exact some_lt hi
      rw [List.getElem?_take, if_pos hlt, List.getElem?_drop] at hi
      obtain ⟨u, e1, e2, e3⟩ := g6 (off + i) j r d hi hj
      have hpd : d.isPur = true := by
        unfold pureB at hp
        rw [List.all_eq_true] at hp
        have := hp r (List.mem_of_getElem? hi)
        rw [List.all_eq_true] at this
        exact this d (List.mem_of_getElem? hj)
      refine ⟨u, ?_, e2, (pur_of_rel e3 hpd).mono (Nat.le_refl _) (fun k hk hu => ⟨rfl, hU2 k hk hu.1 hu.2⟩)⟩
      rw [cell?_some g4, ho (by omega), ← Nat.add_assoc, ← Nat.add_mul]
      exact e1
    have hgoal := Pur.vs (U := U) (w := w) ((rows.drop off).take len) (some ⟨bi.blk, o, none⟩) cap' bi.sz (fun i j => (w.cell? ⟨bi.blk, o + (i * bi.sz + j), none⟩).getD undef) (by rw [hlen]; omega)
      (fun r hr => g3 r (List.mem_of_mem_drop (List.mem_of_mem_take hr)))
      (fun hne => ⟨bi.blk, o, rfl, hU bi hE, hw.lt hE, fun i j hi hj => by
        have hi2 := List.getElem?_eq_getElem hi
        have hrl : (((rows.drop off).take len)[i]'hi).length = bi.sz := g3 _ (List.mem_of_mem_drop (List.mem_of_mem_take (List.getElem_mem hi)))
        obtain ⟨u, e1, e2, _⟩ := hcell i j _ _ hi2 (List.getElem?_eq_getElem (by rw [hrl]; exact hj))
        rw [e1]; exact ⟨rfl, e2⟩⟩)
      (fun i j r d hi hj => by
        obtain ⟨u, e1, _, e3⟩ := hcell i j r d hi hj
        rw [e1]; exact e3)
    rw [hlen] at hgoal
    exact hgoal

theorem snap_bs {O : Nat → Prop} {E : Env} {H : Heap} {w : World} (hw : Wrel O E H w) {U V : Nat → Prop} {E2 : Env} {sz b off len cap : Nat} {v : Value} {rows : Blk} (h : RelE O E w (.rs sz b off len cap) v) (hg : hget H b = some rows) (hn : rows.length = off + cap) (hp : pureB rows = true)
    (hU : ∀ bi, E b = some bi → V bi.blk) (hU2 : ∀ k, k < w.heap.size → O k → E.Out k → U k) : Rel U V E2 w (.bs ((rows.drop off).take len)) v := by
  cases h with
  | pur _ _ hp => cases hp
  | rs _ _ _ _ bi a cap' hE h0 h1 h2 h3 h4 =>
    obtain ⟨rr, c, el, g1, g2, g3, g4, g5, g6⟩ := hw.blk b bi hE
    rw [hg] at g1; cases g1
    obtain ⟨o, rfl, ho, c1, el1, hc1, hle⟩ := h4 (by omega)
    have hlen : ((rows.drop off).take len).length = len := by rw [List.length_take, List.length_drop]; omega
    have hcell : ∀ (i j : Nat) (r : List D) (d : D), ((rows.drop off).take len)[i]? = some r → r[j]? = some d → ∃ u, w.cell? ⟨bi.blk, o + (i * bi.sz + j), none⟩ = some u ∧ Scal u ∧ Pur U w d u := by
      intro i j r d hi hj
      have hlt : i < len := by rw [← hlen]; exact some_lt hi
      rw [List.getElem?_take, if_pos hlt, List.getElem?_drop] at hi
      obtain ⟨u, e1, e2, e3⟩ := g6 (off + i) j r d hi hj
      have hpd : d.isPur = true := by
        unfold pureB at hp
        rw [List.all_eq_true] at hp
        have := hp r (List.mem_of_getElem? hi)
        rw [List.all_eq_true] at this
        exact this d (List.mem_of_getElem? hj)
      refine ⟨u, ?_, e2, (pur_of_rel e3 hpd).mono (Nat.le_refl _) (fun k hk hu => ⟨rfl, hU2 k hk hu.1 hu.2⟩)⟩
      rw [cell?_some g4, ho (by omega), ← Nat.add_assoc, ← Nat.add_mul]
      exact e1
    have hgoal := Rel.bs (U := U) (V := V) (E := E2) (w := w) ((rows.drop off).take len) (some ⟨bi.blk, o, none⟩) cap' bi.sz (fun i j => (w.cell? ⟨bi.blk, o + (i * bi.sz + j), none⟩).getD undef) (by rw [hlen]; omega)
      (fun r hr => g3 r (List.mem_of_mem_drop (List.mem_of_mem_take hr)))
      (fun hne => ⟨bi.blk, o, rfl, hU bi hE, hw.lt hE, fun i j hi hj => by
        have hi2 := List.getElem?_eq_getElem hi
        have hrl : (((rows.drop off).take len)[i]'hi).length = bi.sz := g3 _ (List.mem_of_mem_drop (List.mem_of_mem_take (List.getElem_mem hi)))
        obtain ⟨u, e1, e2, _⟩ := hcell i j _ _ hi2 (List.getElem?_eq_getElem (by rw [hrl]; exact hj))
        rw [e1]; exact ⟨rfl, e2⟩⟩)
      (fun i j r d hi hj => by
        obtain ⟨u, e1, _, e3⟩ := hcell i j r d hi hj
        rw [e1]; exact e3)
    rw [hlen] at hgoal
    exact hgoal

theorem tr_rel {ρ : Nat → Option Nat} {fl ss sp nn : Bool} {O : Nat → Prop} {E : Env} {H : Heap} {O2 : Nat → Prop} {E2 : Env} {w : World} (hs : Seen ρ fl ss sp O E H O2 E2 w) {d : D} {v : Value} (h : RelE O E w d v) :
    ∀ {d' : D}, tr ρ ss sp nn (hget H) d = some d' → (fl = true → d'.flat = true) → RelE O2 E2 w d' v := by
  have hU : fl = false → ∀ k, k < w.heap.size → (O k ∧ E.Out k) → w.heap[k]? = w.heap[k]? ∧ (O2 k ∧ E2.Out k) := fun hf k hk hu => ⟨rfl, hs.U hf k hk hu.1 hu.2⟩
  have h0 := h
  unfold RelE at h
  induction h with
  | pur d v hp =>
    intro d' ht hfl
    have hp2 : d.flat = true ∨ fl = false → Pur (fun k => O2 k ∧ E2.Out k) w d v := fun h => by
      rcases h with h | h
      · exact hp.flat h
      · exact hp.mono (Nat.le_refl _) (hU h)
    have hfl2 : (fl = true → d.flat = true) → d.flat = true ∨ fl = false := fun h => by
      cases hb : fl
      · exact .inr rfl
      · exact .inl (h hb)
    cases hp with
    | nils a =>
      simp only [tr] at ht
      cases ht
      clear hfl
      split
      · exact .pur _ _ (.vs [] a 0 0 (fun _ _ => undef) (by simp) (by simp) (fun h => (h rfl).elim) (fun i j r d hi _ => by simp at hi))
      · exact .pur _ _ (.nils a)
    | zs =>
      simp only [tr] at ht
      cases ht
      clear hfl
      split
      · exact .pur _ _ (.vs [] none 0 0 (fun _ _ => undef) (by simp) (by simp) (fun h => (h rfl).elim) (fun i j r d hi _ => by simp at hi))
      · exact .pur _ _ .zs
    | _ => simp only [tr] at ht; cases ht; exact .pur _ _ (hp2 (hfl2 hfl))
  | ip cells k o f hVk hk hc =>
    intro d' ht hfl
    simp only [tr] at ht
    split at ht
    · rename_i hsp
      cases ht
      have hff : fl = false := by
        cases hb : fl
        · rfl
        · have := hfl hb; simp [D.flat] at this
      exact .ip cells k o f (hs.V hsp k hk hVk) hk fun j d hj => by
        obtain ⟨h1, h2, h3⟩ := hc j d hj
        exact ⟨h1, h2, h3.mono (Nat.le_refl _) (hU hff)⟩
    · cases ht
  | bs rows a cap sz f hcap hsz ha hr =>
    intro d' ht hfl
    simp only [tr] at ht
    split at ht
    · rename_i hsp
      cases ht
      have hff : fl = false := by
        cases hb : fl
        · rfl
        · have := hfl hb; simp [D.flat] at this
      refine .bs rows a cap sz f hcap hsz (fun hne => ?_) (fun i j r d h1 h2 => (hr i j r d h1 h2).mono (Nat.le_refl _) (hU hff))
      obtain ⟨k, o, e, hk, hlt, q⟩ := ha hne
      exact ⟨k, o, e, hs.V hsp k hlt hk, hlt, q⟩
    · cases ht
  | rx b len cap rc bi a hE h1 h2 h3 h4 h5 =>
    intro d' ht hfl
    simp only [tr] at ht
    cases ht
  | rs b off len cap bi a cap' hE h1 h2 h3 h4 h5 =>
    intro d' ht hfl
    simp only [tr] at ht
    cases hr : ρ b with
    | some i =>
      simp only [hr] at ht
      cases ht
      exact .rs i off len cap bi a cap' (by rw [hs.ref b i hr]; exact hE) h1 h2 h3 h4 h5
    | none =>
      simp only [hr] at ht
      split at ht
      · rename_i hss
        cases hg : hget H b with
        | none => simp [hg] at ht
        | some rows =>
          simp only [hg] at ht
          split at ht
          · rename_i hc
            cases ht
            have hff : fl = false := by
              cases hb : fl
              · rfl
              · have := hfl hb; simp [D.flat] at this
            exact .pur _ _ (snap_slice hs.wr h0 hg hc.1 hc.2 (fun bi hb => (hs.snap b bi hr hb).1 hss) (fun k hk h1 h2 => hs.U hff k hk h1 h2))
          · cases ht
      · split at ht
        · rename_i hsp
          cases hg : hget H b with
          | none => simp [hg] at ht
          | some rows =>
            simp only [hg] at ht
            split at ht
            · rename_i hc
              cases ht
              have hff : fl = false := by
                cases hb : fl
                · rfl
                · have := hfl hb; simp [D.flat] at this
              exact snap_bs hs.wr h0 hg hc.1 hc.2 (fun bi hb => (hs.snap b bi hr hb).2 hsp) (fun k hk h1 h2 => hs.U hff k hk h1 h2)
            · cases ht
        · cases ht
  | ptr b n i j bi a hE h1 h2 =>
    intro d' ht hfl
    simp only [tr] at ht
    cases hr : ρ b with
    | some q =>
      simp only [hr] at ht
      cases ht
      exact .ptr q n i j bi a (by rw [hs.ref b q hr]; exact hE) h1 h2
    | none =>
      simp only [hr] at ht
      split at ht
      · rename_i hsp
        cases hg : hget H b with
        | none => simp [hg] at ht
        | some rows =>
          simp only [hg] at ht
          split at ht
          · rename_i hc
            cases hrow : rows[i]? with
            | none => simp [hrow] at ht
            | some row =>
              simp only [hrow] at ht
              cases ht
              have hff : fl = false := by
                cases hb : fl
                · rfl
                · have := hfl hb; simp [D.flat] at this
              obtain ⟨rr, c, el, g1, g2, g3, g4, g5, g6⟩ := hs.wr.blk b bi hE
              rw [hg] at g1; cases g1
              have ea := h2 (by omega)
              subst ea
              refine .ip _ bi.blk _ (fun q => (w.cell? ⟨bi.blk, i * bi.sz + j + q, none⟩).getD undef) ((hs.snap b bi hr hE).2 hsp) (hs.wr.lt hE) fun q d hq => ?_
              rw [List.getElem?_drop] at hq
              obtain ⟨u, e1, e2, e3⟩ := g6 i (j + q) row d hrow hq
              have hpd : d.isPur = true := by
                have hp := hc.2
                unfold pureB at hp
                rw [List.all_eq_true] at hp
                have := hp row (List.mem_of_getElem? hrow)
                rw [List.all_eq_true] at this
                exact this d (List.mem_of_getElem? hq)
              have e4 : w.cell? ⟨bi.blk, i * bi.sz + j + q, none⟩ = some u := by rw [cell?_some g4, Nat.add_assoc]; exact e1
              rw [e4]
              exact ⟨rfl, e2, (pur_of_rel e3 hpd).mono (Nat.le_refl _) (hU hff)⟩
          · cases ht
      · cases ht
  | fn f caps vs hl h ih =>
    intro d' ht hfl
    simp only [tr] at ht
    cases hl2 : trL ρ ss sp nn (hget H) caps with
    | none => simp [hl2] at ht
    | some l =>
      simp only [hl2] at ht
      cases ht
      obtain ⟨q1, q2⟩ := trL_at hl2
      exact .fn f l vs (by omega) fun i d v h1 h2 => by
        obtain ⟨d0, e1, e2⟩ := q2 i d h1
        exact ih i d0 v e1 h2 (h i d0 v e1 h2) e2 (fun hb => flatL_at (by have := hfl hb; simpa [D.flat] using this) i d h1)
  | mv f caps vs hl h ih =>
    intro d' ht hfl
    simp only [tr] at ht
    cases hl2 : trL ρ ss sp nn (hget H) caps with
    | none => simp [hl2] at ht
    | some l =>
      simp only [hl2] at ht
      cases ht
      obtain ⟨q1, q2⟩ := trL_at hl2
      exact .mv f l vs (by omega) fun i d v h1 h2 => by
        obtain ⟨d0, e1, e2⟩ := q2 i d h1
        exact ih i d0 v e1 h2 (h i d0 v e1 h2) e2 (fun hb => flatL_at (by have := hfl hb; simpa [D.flat] using this) i d h1)
  | mpv k keys vals r vs hl hUr hlt hm h ih =>
    intro d' ht hfl
    simp only [tr] at ht
    cases hl2 : trL ρ ss sp nn (hget H) vals with
    | none => simp [hl2] at ht
    | some l =>
      simp only [hl2] at ht
      cases ht
      have hff : fl = false := by
        cases hb : fl
        · rfl
        · have := hfl hb; simp [D.flat] at this
      obtain ⟨q1, q2⟩ := trL_at hl2
      exact .mpv k keys l r vs (by omega) (hU hff r hlt hUr).2 hlt hm fun i d v h1 h2 => by
        obtain ⟨d0, e1, e2⟩ := q2 i d h1
        exact ih i d0 v e1 h2 (h i d0 v e1 h2) e2 (fun hb => by rw [hff] at hb; cases hb)
  | agg cs vs hl hsc h ih =>
    intro d' ht hfl
    simp only [tr] at ht
    cases hl2 : trL ρ ss sp nn (hget H) cs with
    | none => simp [hl2] at ht
    | some l =>
      simp only [hl2] at ht
      cases ht
      obtain ⟨q1, q2⟩ := trL_at hl2
      exact .agg l vs (by omega) hsc fun i d v h1 h2 => by
        obtain ⟨d0, e1, e2⟩ := q2 i d h1
        exact ih i d0 v e1 h2 (h i d0 v e1 h2) e2 (fun hb => flatL_at (by have := hfl hb; simpa [D.flat] using this) i d h1)
  | tup cs vs hl h ih =>
    intro d' ht hfl
    simp only [tr] at ht
    cases hl2 : trL ρ ss sp nn (hget H) cs with
    | none => simp [hl2] at ht
    | some l =>
      simp only [hl2] at ht
      cases ht
      obtain ⟨q1, q2⟩ := trL_at hl2
      exact .tup l vs (by omega) fun i d v h1 h2 => by
        obtain ⟨d0, e1, e2⟩ := q2 i d h1
        exact ih i d0 v e1 h2 (h i d0 v e1 h2) e2 (fun hb => flatL_at (by have := hfl hb; simpa [D.flat] using this) i d h1)

/-! ### Blocks that go in and come out -/
def trRow (ρ : Nat → Option Nat) (ss nn : Bool) (get : Nat → Option Blk) : Blk → Option Blk
  | [] => some []
  | r :: rs => match trL ρ ss false nn get r, trRow ρ ss nn get rs with
    | some x, some l => some (x :: l)
    | _, _ => none

/-- The rows of a block as another frame sees them. -/
def trB (ρ : Nat → Option Nat) (ss nn : Bool) (get : Nat → Option Blk) (rows : Blk) : Option Blk :=
  if pureB rows = true then some rows else trRow ρ ss nn get rows

theorem trRow_at {ρ : Nat → Option Nat} {ss nn : Bool} {get : Nat → Option Blk} : ∀ {cs ds : Blk}, trRow ρ ss nn get cs = some ds → cs.length = ds.length ∧ ∀ (i : Nat) (r' : List D), ds[i]? = some r' → ∃ r, cs[i]? = some r ∧ trL ρ ss false nn get r = some r'
  | [], ds, h => by simp [trRow] at h; subst h; simp
  | c :: cs, ds, h => by
    simp only [trRow] at h
    cases h1 : trL ρ ss false nn get c with
    | none => simp [h1] at h
    | some x =>
      cases h2 : trRow ρ ss nn get cs with
      | none => simp [h1, h2] at h
      | some l =>
        simp only [h1, h2] at h
        cases h
        obtain ⟨q1, q2⟩ := trRow_at h2
        refine ⟨by simp [q1], fun i d' hd => ?_⟩
        cases i with
        | zero => simp at hd; subst hd; exact ⟨c, rfl, h1⟩
        | succ i => exact q2 i d' (by simpa using hd)

def flatB (rows : Blk) : Bool := rows.all fun r => D.flatL r

theorem trB_rel {ρ : Nat → Option Nat} {fl ss sp nn : Bool} {O : Nat → Prop} {E : Env} {H : Heap} {O2 : Nat → Prop} {E2 : Env} {w : World} (hs : Seen ρ fl ss sp O E H O2 E2 w) {rows rows' : Blk} (h : trB ρ ss nn (hget H) rows = some rows') (hfl : fl = true → flatB rows' = true) :
    rows'.length = rows.length ∧ (∀ sz, (∀ r, r ∈ rows → r.length = sz) → ∀ r, r ∈ rows' → r.length = sz) ∧
    ∀ (i j : Nat) (r' : List D) (d' : D), rows'[i]? = some r' → r'[j]? = some d' → ∃ r d, rows[i]? = some r ∧ r[j]? = some d ∧ ∀ v, RelE O E w d v → RelE O2 E2 w d' v := by
  have hflat : fl = true → ∀ (i j : Nat) (r' : List D) (d' : D), rows'[i]? = some r' → r'[j]? = some d' → d'.flat = true := by
    intro hb i j r' d' hi hj
    have := hfl hb
    unfold flatB at this
    rw [List.all_eq_true] at this
    exact flatL_at (this r' (List.mem_of_getElem? hi)) j d' hj
  unfold trB at h
  split at h
  · rename_i hp
    cases h
    refine ⟨rfl, fun sz hsz => hsz, fun i j r d hi hj => ⟨r, d, hi, hj, fun v hv => ?_⟩⟩
    have hpd : d.isPur = true := by
      unfold pureB at hp
      rw [List.all_eq_true] at hp
      have := hp r (List.mem_of_getElem? hi)
      rw [List.all_eq_true] at this
      exact this d (List.mem_of_getElem? hj)
    cases hb : fl with
    | false => exact .pur _ _ ((pur_of_rel hv hpd).mono (Nat.le_refl _) (fun k hk hu => ⟨rfl, hs.U hb k hk hu.1 hu.2⟩))
    | true => exact .pur _ _ ((pur_of_rel hv hpd).flat (hflat hb i j r d hi hj))
  · obtain ⟨q1, q2⟩ := trRow_at h
    refine ⟨q1.symm, fun sz hsz r hr => ?_, fun i j r' d' hi hj => ?_⟩
    · obtain ⟨i, hi⟩ := List.mem_iff_getElem?.1 hr
      obtain ⟨r0, e1, e2⟩ := q2 i r hi
      rw [← (trL_at e2).1]
      exact hsz r0 (List.mem_of_getElem? e1)
    · obtain ⟨r0, e1, e2⟩ := q2 i r' hi
      obtain ⟨d0, e3, e4⟩ := (trL_at e2).2 j d' hj
      exact ⟨r0, d0, e1, e3, fun v hv => tr_rel (sp := false) ⟨hs.wr, hs.ref, hs.U, (fun h => by cases h), fun b bi h1 h2 => ⟨(hs.snap b bi h1 h2).1, fun h => by cases h⟩⟩ hv e4 (fun hb => hflat hb i j r' d' hi hj)⟩

/-- The heap of the other frame. -/
theorem Seen.wrel {ρ : Nat → Option Nat} {fl ss sp nn : Bool} {O : Nat → Prop} {E : Env} {H : Heap} {O2 : Nat → Prop} {E2 : Env} {H2 : Heap} {w : World} (hs : Seen ρ fl ss sp O E H O2 E2 w)
    (hE : ∀ i bi, E2 i = some bi → ∃ b rows rows', E b = some bi ∧ hget H b = some rows ∧ trB ρ ss nn (hget H) rows = some rows' ∧ hget H2 i = some rows' ∧ (fl = true → flatB rows' = true) ∧ ∀ i' , (∃ bi', E2 i' = some bi' ∧ bi'.blk = bi.blk) → i' = i)
    (hlive : ∀ i rows, hget H2 i = some rows → ∃ bi, E2 i = some bi) : Wrel O2 E2 H2 w where
  blk := fun i bi hi => by
    obtain ⟨b, rows, rows', e1, e2, e3, e4, efl, _⟩ := hE i bi hi
    obtain ⟨rr, c, el, g1, g2, g3, g4, g5, g6⟩ := hs.wr.blk b bi e1
    rw [e2] at g1; cases g1
    obtain ⟨t1, t2, t3⟩ := trB_rel hs e3 efl
    refine ⟨rows', c, el, e4, by omega, t2 _ g3, g4, g5, fun x y r d hx hy => ?_⟩
    obtain ⟨r0, d0, q1, q2, q3⟩ := t3 x y r d hx hy
    obtain ⟨v, k1, k2, k3⟩ := g6 x y r0 d0 q1 q2
    exact ⟨v, k1, k2, q3 v k3⟩
  live := hlive
  inj := fun i i' bi bi' h1 h2 e => by
    obtain ⟨_, _, _, _, _, _, _, _, huniq⟩ := hE i' bi' h2
    exact huniq i ⟨bi, h1, e⟩
  sc := fun i bi hi c el hc => by
    obtain ⟨b, _, _, e1, _⟩ := hE i bi hi
    exact hs.wr.sc b bi e1 c el hc

end Go.AH

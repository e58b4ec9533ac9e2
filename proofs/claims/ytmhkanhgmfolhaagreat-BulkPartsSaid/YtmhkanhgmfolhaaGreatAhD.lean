/- The operations on abstract values: what each comes to (`aop`), and that the model's operation comes to the same. -/
import Derived.Test.YtmhkanhgmfolhaaGreatAhC
import Derived.OrdersIn
import Derived.RangeFuncLeaves
import Derived.RangeFuncOwn
import Derived.RangeFuncRecord
set_option linter.unusedVariables false
set_option linter.unusedSimpArgs false
namespace Go.AH

def OwnNew (w : World) (E E' : Env) : Prop := ∀ b bi', E' b = some bi' → w.heap.size ≤ bi'.blk ∨ ∃ bi, E b = some bi ∧ bi.blk = bi'.blk

theorem OwnNew.refl (w : World) (E : Env) : OwnNew w E E := fun _ bi' h => .inr ⟨bi', h, rfl⟩

/-- The fence that lets all in, for a frame of a function or of a loop's round. -/
def Fw (ro : Option Nat) : Fence := { Fence.wide with round := ro }

theorem callsIn_Fw {ro : Option Nat} {n : Nat} {P : Program} {f : FuncId} {args : Array Value} {w : World} {R : Ending → World → Prop} (h : Calls P f args w R) : CallsIn (Fw ro) n P f args w R :=
  ⟨trivial, fun cs _ => (callsIn_wide (n := n).2 h).2 cs (room_wide _)⟩

/-- The meaning of an operation: from operands that read as `ρ` says, blocks that are as `rd` says, and free slots `sl`, it comes to `d` and writes `wr`. -/
def OpS (P : Program) (o : Oper) (ρ : Operand → D) (rd : List (Nat × Blk)) (sl : List Nat) (d : D) (wr : List (Nat × Blk)) : Prop :=
  ∀ (O : Nat → Prop) (E : Env) (H : Heap) (a : Act) (w : World), (∀ x, x ∈ o.op.operands → RelE O E w (ρ x) (a.eval x)) → Wrel O E H w →
    (∀ n, w.heap.size ≤ n → O n) → (∀ p, p ∈ rd → hget H p.1 = some p.2) → (∀ b, b ∈ sl → E b = none) →
    ∀ (ro : Option Nat) (next : Act → World → Prop) (Q : Exit → Act → World → Prop),
      (∀ v' w' E', RelE O E' w' d v' → Wrel O E' (hput H wr) w' → Fr All E w E' w' → OwnNew w E E' → (∀ b, b ∉ sl → E b = none → E' b = none) → next (a.put o.dst v') w') →
      o.wpIn (Fw ro) 0 P a w next Q

theorem OpS.of_run {P : Program} {o : Oper} {ρ : Operand → D} {rd : List (Nat × Blk)} {sl : List Nat} {d : D} {wr : List (Nat × Blk)}
    (h : ∀ (O : Nat → Prop) (E : Env) (H : Heap) (a : Act) (w : World), (∀ x, x ∈ o.op.operands → RelE O E w (ρ x) (a.eval x)) → Wrel O E H w →
      (∀ n, w.heap.size ≤ n → O n) → (∀ p, p ∈ rd → hget H p.1 = some p.2) → (∀ b, b ∈ sl → E b = none) →
      ∃ v' w' E', ((execOp a.eval o).run P w = .ok (.value v') w' ∨ ((execOp a.eval o).run P w = .ok .skip w' ∧ v' = undef)) ∧ RelE O E' w' d v' ∧
        Wrel O E' (hput H wr) w' ∧ Fr All E w E' w' ∧ OwnNew w E E' ∧ (∀ b, b ∉ sl → E b = none → E' b = none)) : OpS P o ρ rd sl d wr := by
  intro O E H a w h1 h2 h3 h4 h5 ro next Q hn
  obtain ⟨v', w', E', hr, g1, g2, g3, g4, g5⟩ := h O E H a w h1 h2 h3 h4 h5
  have hnd : ∀ c, o.op ≠ .defer c := fun c hc => by
    simp only [execOp, hc, Sem.run_bind] at hr
    cases hx : (resolve a.eval c o.type).run P w <;> rw [hx] at hr <;> simp [Result.andThen] at hr
  refine ⟨fun _ _ => trivial, ?_⟩
  rw [show (Fw ro).round = ro from rfl, Oper.semAt_eq ro _ _ hnd]
  rcases hr with hr | ⟨hr, rfl⟩
  · rw [hr]; exact hn v' w' E' g1 g2 g3 g4 g5
  · rw [hr]; exact hn undef w' E' g1 g2 g3 g4 g5

theorem OpS.still {P : Program} {o : Oper} {ρ : Operand → D} {rd : List (Nat × Blk)} {sl : List Nat} {d : D}
    (h : ∀ (O : Nat → Prop) (E : Env) (H : Heap) (a : Act) (w : World), (∀ x, x ∈ o.op.operands → RelE O E w (ρ x) (a.eval x)) → Wrel O E H w →
      (∀ p, p ∈ rd → hget H p.1 = some p.2) → ∃ v', (execOp a.eval o).run P w = .ok (.value v') w ∧ RelE O E w d v') : OpS P o ρ rd sl d [] :=
  OpS.of_run fun O E H a w h1 h2 _ h4 _ => by
    obtain ⟨v', e, r⟩ := h O E H a w h1 h2 h4
    exact ⟨v', w, E, .inl e, r, h2, Fr.refl _ _ _, OwnNew.refl _ _, fun _ _ h => h⟩

/-! ### Inversions -/
section
variable {O : Nat → Prop} {E : Env} {w : World} {v : Value}
theorem rel_int {k : IntKind} {n : Int} (h : RelE O E w (.int k n) v) : v = .int k n := by cases h with | pur _ _ h => cases h; rfl
theorem rel_bool {b : Bool} (h : RelE O E w (.bool b) v) : v = .bool b := by cases h with | pur _ _ h => cases h; rfl
theorem rel_str {s : ByteArray} (h : RelE O E w (.str s) v) : v = .string s := by cases h with | pur _ _ h => cases h; rfl
theorem rel_nils (h : RelE O E w .nils v) : ∃ a, v = .slice a 0 0 := by cases h with | pur _ _ h => cases h; exact ⟨_, rfl⟩
theorem rel_nilp (h : RelE O E w .nilp v) : v = .pointer none := by cases h with | pur _ _ h => cases h; rfl
theorem rel_agg {cs : List D} (h : RelE O E w (.agg cs) v) : ∃ vs, v = .agg vs ∧ RelCs O E w cs vs := by
  cases h with
  | pur _ _ h => cases h
  | agg _ vs hl hs hr => exact ⟨vs, rfl, hl, hs, hr⟩
theorem rel_tup {cs : List D} (h : RelE O E w (.tup cs) v) : ∃ vs, v = .tuple vs ∧ cs.length = vs.size ∧ ∀ (i : Nat) (d : D) (v : Value), cs[i]? = some d → vs[i]? = some v → RelE O E w d v := by
  cases h with
  | pur _ _ h => cases h
  | tup _ vs hl hr => exact ⟨vs, rfl, hl, hr⟩
end

theorem mkInt {O : Nat → Prop} {E : Env} {w : World} (k : IntKind) (n : Int) : RelE O E w (.int k n) (.int k n) := .pur _ _ (.int k n)
theorem mkBool {O : Nat → Prop} {E : Env} {w : World} (b : Bool) : RelE O E w (.bool b) (.bool b) := .pur _ _ (.bool b)
theorem mkStr {O : Nat → Prop} {E : Env} {w : World} (s : ByteArray) : RelE O E w (.str s) (.string s) := .pur _ _ (.str s)
theorem mkUndef {O : Nat → Prop} {E : Env} {w : World} : RelE O E w (.tup []) undef := .tup [] #[] rfl (fun i d v h _ => by simp at h)

/-- A value whose cells are those of a list. -/
theorem RelCs.list {O : Nat → Prop} {E : Env} {w : World} {cs : List D} (l : List Value) (hl : cs.length = l.length) (h : ∀ (i : Nat) (d : D) (v : Value), cs[i]? = some d → l[i]? = some v → RelE O E w d v ∧ Scal v) :
    RelCs O E w cs l.toArray := by
  refine ⟨by simp [hl], fun i v hv => ?_, fun i d v hd hv => (h i d v hd (by simpa using hv)).1⟩
  have hv' : l[i]? = some v := by simpa using hv
  have hi : i < cs.length := by
    rcases Nat.lt_or_ge i cs.length with h | h
    · exact h
    · rw [List.getElem?_eq_none (by omega)] at hv'; cases hv'
  exact (h i cs[i] v (List.getElem?_eq_getElem hi) hv').2

theorem RelCs.agg {O : Nat → Prop} {E : Env} {w : World} {cs : List D} {vs : Array Value} (h : RelCs O E w cs vs) : RelE O E w (.agg cs) (.agg vs) := .agg _ _ h.len h.scal h.rel

/-! ### Loads -/
def aread (g : Bool) (sz : Nat) (cells : List D) : Option D :=
  if g then (if sz ≤ cells.length then some (.agg (cells.take sz)) else none) else cells[0]?

def aload (P : Program) (t : TypeId) (d : D) (get : Nat → Option Blk) : Option (D × List (Nat × Blk)) :=
  match sizeT P t, aggT P t with
  | some sz, some g => match d with
    | .ptr b n i j => match get b with
      | some rows => if rows.length = n then match rows[i]? with
          | some row => match aread g sz (row.drop j) with
            | some x => some (x, [(b, rows)])
            | none => none
          | none => none
        else none
      | none => none
    | .ip cells => match aread g sz cells with
      | some x => some (x, [])
      | none => none
    | _ => none
  | _, _ => none

theorem isAgg_run {P : Program} {t : TypeId} {g : Bool} (h : aggT P t = some g) (w : World) : (isAgg t).run P w = .ok g w := by
  unfold aggT at h
  unfold isAgg
  cases hu : P.underlying t with
  | none => simp [hu] at h
  | some d => cases d <;> simp [hu] at h <;> subst h <;> simp [run_underlying hu]

theorem sizeOf_run {P : Program} {t : TypeId} {n : Nat} (h : sizeT P t = some n) (w : World) : (sizeOf t).run P w = .ok n w := by
  unfold sizeT at h
  cases hi : P.info? t with
  | none => simp [hi] at h
  | some i => simp [hi] at h; simp [sizeOf, typeInfo, hi, h]

/-- Cells in memory that read as a list. -/
theorem load_rel {P : Program} {O : Nat → Prop} {E : Env} {w : World} {t : TypeId} {sz : Nat} {g : Bool} (hs : sizeT P t = some sz) (hg : aggT P t = some g) (k o : Nat) (cells : List D) (f : Nat → Value)
    (h : ∀ (j : Nat) (d : D), cells[j]? = some d → w.cell? ⟨k, o + j, none⟩ = some (f j) ∧ Scal (f j) ∧ RelE O E w d (f j)) {x : D} (hx : aread g sz cells = some x) :
    ∃ v, (loadVar t ⟨k, o, none⟩).run P w = .ok v w ∧ RelE O E w x v := by
  unfold aread at hx
  cases g with
  | true =>
    simp only [if_true] at hx
    split at hx
    · rename_i hle
      cases hx
      have hc : ∀ j, j < sz → w.cell? ⟨k, o + j, none⟩ = some (f j) := fun j hj => (h j cells[j] (List.getElem?_eq_getElem (by omega))).1
      refine ⟨.agg ((List.range sz).map f).toArray, ?_, RelCs.agg (RelCs.list _ (by simp; omega) fun i d v hd hv => ?_)⟩
      · simp [loadVar, isAgg_run hg, sizeOf_run hs, run_loadCells P w k o sz f hc]
      · rw [List.getElem?_take] at hd
        split at hd
        · rename_i hi
          obtain ⟨_, h2, h3⟩ := h i d hd
          simp [hi] at hv
          subst hv
          exact ⟨h3, h2⟩
        · cases hd
    · cases hx
  | false =>
    simp only [Bool.false_eq_true, if_false] at hx
    obtain ⟨h1, h2, h3⟩ := h 0 x hx
    refine ⟨f 0, ?_, h3⟩
    simp only [Nat.add_zero] at h1
    simp [loadVar, isAgg_run hg, h1]

theorem row_cells {O : Nat → Prop} {E : Env} {H : Heap} {w : World} (hw : Wrel O E H w) {b : Nat} {bi : BI} (hE : E b = some bi) {rows : Blk} (hg : hget H b = some rows) {i : Nat} {row : List D} (hr : rows[i]? = some row) :
    ∃ f : Nat → Value, ∀ (j : Nat) (d : D), row[j]? = some d → w.cell? ⟨bi.blk, i * bi.sz + j, none⟩ = some (f j) ∧ Scal (f j) ∧ RelE O E w d (f j) := by
  obtain ⟨rows', c, el, h1, h2, h3, h4, h5, h6⟩ := hw.blk b bi hE
  rw [hg] at h1; cases h1
  refine ⟨fun j => (c[i * bi.sz + j]?).getD undef, fun j d hd => ?_⟩
  obtain ⟨v, e1, e2, e3⟩ := h6 i j row d hr hd
  simp only [e1, Option.getD_some]
  exact ⟨by rw [cell?_some h4]; exact e1, e2, e3⟩

theorem aload_run {P : Program} {O : Nat → Prop} {E : Env} {H : Heap} {w : World} {t : TypeId} {d x : D} {v : Value} {get : Nat → Option Blk} {rd : List (Nat × Blk)} (h : aload P t d get = some (x, rd))
    (hd : RelE O E w d v) (hw : Wrel O E H w) (hrd : ∀ p, p ∈ rd → hget H p.1 = some p.2) : ∃ u, (Instr.loadAt t v).run P w = .ok u w ∧ RelE O E w x u := by
  unfold aload at h
  cases hs : sizeT P t with
  | none => simp [hs] at h
  | some sz =>
    cases hg : aggT P t with
    | none => simp [hs, hg] at h
    | some g =>
      simp only [hs, hg] at h
      cases d <;> try (simp at h; done)
      case ptr b n i j =>
        simp only at h
        cases hb : get b with
        | none => simp [hb] at h
        | some rows =>
          simp only [hb] at h
          split at h
          · rename_i hn
            cases hr : rows[i]? with
            | none => simp [hr] at h
            | some row =>
              simp only [hr] at h
              cases ha : aread g sz (row.drop j) with
              | none => simp [ha] at h
              | some y =>
                simp only [ha] at h
                cases h
                have hH := hrd (b, rows) (by simp)
                simp only at hH
                cases hd with
                | pur _ _ hp => cases hp
                | ptr _ _ _ _ bi a hE h1 h2 =>
                  obtain ⟨rows', c, el, g1, g2, _⟩ := hw.blk b bi hE
                  rw [hH] at g1; cases g1
                  obtain ⟨f, hf⟩ := row_cells hw hE hH hr
                  have ea := h2 (by omega)
                  subst ea
                  obtain ⟨u, r1, r2⟩ := load_rel (O := O) (E := E) (w := w) hs hg bi.blk (i * bi.sz + j) (row.drop j) (fun q => f (j + q))
                    (fun q d hq => by
                      rw [List.getElem?_drop] at hq
                      have := hf (j + q) d hq
                      rw [Nat.add_assoc]; exact this) ha
                  exact ⟨u, by simp [Instr.loadAt, Instr.sureAddr, r1], r2⟩
          · cases h
      case ip cells =>
        simp only at h
        cases ha : aread g sz cells with
        | none => simp [ha] at h
        | some y =>
          simp only [ha] at h
          cases h
          cases hd with
          | pur _ _ hp => cases hp
          | ip _ k o f hV hk hf =>
            obtain ⟨u, r1, r2⟩ := load_rel (O := O) (E := E) (w := w) hs hg k o cells f (fun q d hq => by
              obtain ⟨h1, h2, h3⟩ := hf q d hq
              exact ⟨h1, h2, .pur _ _ h3⟩) ha
            exact ⟨u, by simp [Instr.loadAt, Instr.sureAddr, r1], r2⟩

/-! ### Stores -/
def astore (P : Program) (t : TypeId) (p x : D) (get : Nat → Option Blk) : Option (List (Nat × Blk) × List (Nat × Blk)) :=
  match sizeT P t, p, cellsOf x with
  | some sz, .ptr b n i j, some cs => match get b with
    | some rows => if rows.length = n ∧ cs.length = sz then match rows[i]? with
        | some row => if j + sz ≤ row.length then some ([(b, rows.set i (splice row j cs))], [(b, rows)]) else none
        | none => none
      else none
    | none => none
  | _, _, _ => none

theorem astore_run {P : Program} {O : Nat → Prop} {E : Env} {H : Heap} {w : World} {t : TypeId} {p x : D} {pv xv : Value} {get : Nat → Option Blk} {wr rd : List (Nat × Blk)} (h : astore P t p x get = some (wr, rd))
    (hp : RelE O E w p pv) (hx : RelE O E w x xv) (hw : Wrel O E H w) (hrd : ∀ q, q ∈ rd → hget H q.1 = some q.2) :
    ∃ w1 E1, (Instr.storeAt t pv xv).run P w = .ok () w1 ∧ Wrel O E1 (hput H wr) w1 ∧ Fr All E w E1 w1 ∧ OwnNew w E E1 ∧ (∀ b, E b = none → E1 b = none) := by
  unfold astore at h
  split at h
  · rename_i sz b n i j cs hs hc
    split at h
    · rename_i rows hb
      split at h
      · rename_i hcond
        obtain ⟨hn, hcs⟩ := hcond
        split at h
        · rename_i row hr
          split at h
          · rename_i hj
            cases h
            have hH := hrd (b, rows) (by simp)
            simp only at hH
            cases hp with
            | pur _ _ hp => cases hp
            | ptr _ _ _ _ bi a hE h1 h2 =>
              obtain ⟨rows', c, el, g1, g2, g3, g4, g5, g6⟩ := hw.blk b bi hE
              rw [hH] at g1; cases g1
              have ea := h2 (by omega)
              subst ea
              have hcells := rel_cells hx hc
              have hlen := hcells.len
              have hi : i < rows.length := by
                rcases Nat.lt_or_ge i rows.length with h | h
                · exact h
                · rw [List.getElem?_eq_none h] at hr; cases hr
              have hrow : row.length = bi.sz := g3 row (List.mem_of_getElem? hr)
              have hbound : i * bi.sz + j + cs.length ≤ c.size := by
                have : (i + 1) * bi.sz ≤ bi.n * bi.sz := Nat.mul_le_mul_right _ (by omega)
                rw [Nat.add_mul, Nat.one_mul] at this
                omega
              obtain ⟨w1, c', hrun, hwr, hsz, hpos⟩ := run_storeCells P bi.blk (i * bi.sz + j) el xv.cells.toList 0 w c g4 (fun u hu => by
                obtain ⟨q, hq⟩ := List.mem_iff_getElem?.1 hu
                exact hcells.scal q u (by simpa using hq)) (by simp; omega)
              obtain ⟨k1, k2⟩ := hw.write (b := b) (bi := bi) hE (rows := rows.set i (splice row j cs)) (c := c) (c' := c') (el := el) (hsc := stored_scal hpos (fun u hu => by
                obtain ⟨q, hq⟩ := List.mem_iff_getElem?.1 hu
                exact hcells.scal q u (by simpa using hq)) (hw.sc b bi hE c el g4)) g4 hwr.size hwr.oth hwr.blk hsz hwr.os hwr.tape hwr.output hwr.drawn
                (by simp; omega) (fun r hrm => by
                  rcases List.mem_or_eq_of_mem_set hrm with hm | rfl
                  · exact g3 r hm
                  · rw [splice_length _ _ _ (by omega)]; exact hrow) (by rw [List.length_set, g2, hsz]; exact g5)
                (fun i' j' r d hi' hj' => by
                  rw [List.getElem?_set] at hi'
                  by_cases e : i = i'
                  · subst e
                    rw [if_pos rfl, if_pos hi] at hi'
                    cases hi'
                    have hj2 := hj'
                    rw [splice, getElem?_splice row j cs (by omega)] at hj2
                    have hlt : j' < bi.sz := by
                      rcases Nat.lt_or_ge j' bi.sz with h | h
                      · exact h
                      · rw [List.getElem?_eq_none (by rw [splice_length _ _ _ (by omega)]; omega)] at hj'; cases hj'
                    rw [hpos]
                    simp only [Nat.add_zero, Array.length_toList]
                    split at hj2
                    · rename_i hc1
                      rw [if_pos (by omega)]
                      have hq : i * bi.sz + j' - (i * bi.sz + j) = j' - j := by omega
                      rw [hq, Array.getElem?_toList]
                      have hlt2 : j' - j < xv.cells.size := by omega
                      refine ⟨xv.cells[j' - j], Array.getElem?_eq_getElem hlt2, hcells.scal _ _ (Array.getElem?_eq_getElem hlt2), hcells.rel _ _ _ hj2 (Array.getElem?_eq_getElem hlt2)⟩
                    · rename_i hc1
                      rw [if_neg (by omega)]
                      exact g6 i j' row d hr hj2
                  · rw [if_neg e] at hi'
                    obtain ⟨v, e1, e2, e3⟩ := g6 i' j' r d hi' hj'
                    refine ⟨v, ?_, e2, e3⟩
                    rw [hpos]
                    simp only [Nat.add_zero, Array.length_toList]
                    have hj3 : j' < bi.sz := by
                      rw [← g3 r (List.mem_of_getElem? hi')]
                      rcases Nat.lt_or_ge j' r.length with h | h
                      · exact h
                      · rw [List.getElem?_eq_none h] at hj'; cases hj'
                    rw [if_neg ?_]
                    · exact e1
                    · intro ⟨q1, q2⟩
                      rcases Nat.lt_or_gt_of_ne e with hlt | hgt
                      · have : (i + 1) * bi.sz ≤ i' * bi.sz := Nat.mul_le_mul_right _ hlt
                        rw [Nat.add_mul, Nat.one_mul] at this
                        omega
                      · have : (i' + 1) * bi.sz ≤ i * bi.sz := Nat.mul_le_mul_right _ hgt
                        rw [Nat.add_mul, Nat.one_mul] at this
                        omega)
              refine ⟨w1, _, ?_, k1, k2, ?_, ?_⟩
              · simp only [Instr.storeAt, Instr.sureAddr, Sem.run_bind, Sem.run_pure, Result.andThen_ok, storeVar, sizeOf_run hs]
                rw [if_neg (by omega)]
                exact hrun
              · intro b' bi' hb'
                rcases Env.set_some hb' with ⟨rfl, rfl⟩ | ⟨_, hb'⟩
                · exact .inr ⟨bi, hE, rfl⟩
                · exact .inr ⟨bi', hb', rfl⟩
              · intro b' hb'
                rw [Env.set_ne]
                · exact hb'
                · rintro rfl; rw [hE] at hb'; cases hb'
          · cases h
        · cases h
      · cases h
    · cases h
  · cases h

end Go.AH

/- What each operation does to abstract values: `aop`, and the lemmas on lists of cells that its proof wants. -/
import Derived.Test.YtmhkanhgmfolhaaGreatAhB
import Derived.Laws.Tables
import Derived.Laws.Slices
import Derived.Laws.StructEq
import Derived.Laws.Append
set_option linter.unusedVariables false
set_option linter.unusedSimpArgs false
namespace Go.AH

/-! ### Constants -/
def ofCell : Value → D
  | .bool b => .bool b
  | .int k n => .int k n
  | .string s => .str s
  | .slice none 0 0 => .zs
  | .pointer none => .nilp
  | _ => .un

def ofConst : Value → D
  | .agg cs => if cs.toList.all (·.oneCell') then .agg (cs.toList.map ofCell) else .un
  | .tuple cs => if cs.isEmpty then .tup [] else .un
  | v => ofCell v

theorem pur_ofCell (U : Nat → Prop) (w : World) (v : Value) : Pur U w (ofCell v) v := by
  unfold ofCell
  split
  · exact .bool _
  · exact .int _ _
  · exact .str _
  · exact .zs
  · exact .nilp
  · exact .un _

theorem rel_ofConst (O : Nat → Prop) (E : Env) (w : World) (v : Value) : RelE O E w (ofConst v) v := by
  unfold ofConst
  split
  · rename_i cs
    split
    · rename_i h
      rw [List.all_eq_true] at h
      refine .agg _ _ (by simp) (fun i v hv => h v ?_) (fun i d v hd hv => ?_)
      · rw [Array.mem_toList_iff]; exact Array.mem_of_getElem? hv
      · rw [List.getElem?_map, Array.getElem?_toList, hv] at hd
        simp at hd; subst hd
        exact .pur _ _ (pur_ofCell _ _ _)
    · exact .pur _ _ (.un _)
  · rename_i cs
    split
    · rename_i h
      have : cs = #[] := by simpa using h
      subst this
      exact .tup _ _ (by simp) (fun i d v hd _ => by simp at hd)
    · exact .pur _ _ (.un _)
  · exact .pur _ _ (pur_ofCell _ _ _)

/-! ### Cells of a value -/
def cellsOf : D → Option (List D)
  | .agg cs => some cs
  | .un => none
  | .tup _ => none
  | d => some [d]

structure RelCs (O : Nat → Prop) (E : Env) (w : World) (cs : List D) (vs : Array Value) : Prop where
  len : cs.length = vs.size
  scal : ∀ (i : Nat) (v : Value), vs[i]? = some v → Scal v
  rel : ∀ (i : Nat) (d : D) (v : Value), cs[i]? = some d → vs[i]? = some v → RelE O E w d v

theorem RelCs.one {O : Nat → Prop} {E : Env} {w : World} {d : D} {v : Value} (h : RelE O E w d v) (hs : Scal v) : RelCs O E w [d] #[v] where
  len := rfl
  scal := fun i u hu => by
    cases i with
    | zero => simp at hu; subst hu; exact hs
    | succ i => simp at hu
  rel := fun i d' u hd hu => by
    cases i with
    | zero => simp at hu hd; subst hu; subst hd; exact h
    | succ i => simp at hu

theorem rel_cells {O : Nat → Prop} {E : Env} {w : World} {d : D} {v : Value} {cs : List D} (h : RelE O E w d v) (hc : cellsOf d = some cs) : RelCs O E w cs v.cells := by
  have h0 := h
  cases h with
  | pur _ _ hp =>
    cases hp with
    | un v => cases hc
    | vs => cases hc; exact RelCs.one h0 rfl
    | _ => cases hc; exact RelCs.one h0 rfl
  | agg cs' vs hl hs hr => cases hc; exact ⟨hl, hs, hr⟩
  | tup => cases hc
  | ip => cases hc; exact RelCs.one h0 rfl
  | bs => cases hc; exact RelCs.one h0 rfl
  | rs => cases hc; exact RelCs.one h0 rfl
  | rx => cases hc; exact RelCs.one h0 rfl
  | ptr => cases hc; exact RelCs.one h0 rfl
  | fn => cases hc; exact RelCs.one h0 rfl
  | mv => cases hc; exact RelCs.one h0 rfl
  | mpv => cases hc; exact RelCs.one h0 rfl

def splice (cs : List D) (off : Nat) (xs : List D) : List D := cs.take off ++ xs ++ cs.drop (off + xs.length)

theorem getElem?_splice {α : Type} (cs : List α) (off : Nat) (xs : List α) (h : off + xs.length ≤ cs.length) (p : Nat) :
    (cs.take off ++ xs ++ cs.drop (off + xs.length))[p]? = if off ≤ p ∧ p < off + xs.length then xs[p - off]? else cs[p]? := by
  by_cases h1 : p < off
  · rw [List.append_assoc, List.getElem?_append_left (by simp; omega), if_neg (by omega), List.getElem?_take_of_lt h1]
  · by_cases h2 : p < off + xs.length
    · rw [if_pos ⟨by omega, h2⟩, List.append_assoc, List.getElem?_append_right (by simp; omega), List.length_take, Nat.min_eq_left (by omega),
        List.getElem?_append_left (by omega)]
    · rw [if_neg (by omega), List.getElem?_append_right (by simp; omega), List.getElem?_drop]
      simp only [List.length_append, List.length_take]
      congr 1; omega

theorem splice_length (cs : List D) (off : Nat) (xs : List D) (h : off + xs.length ≤ cs.length) : (splice cs off xs).length = cs.length := by
  simp [splice]; omega

theorem foldl_zipIdx_size (off : Nat) (us : List Value) : ∀ (k : Nat) (vs : Array Value), ((us.zipIdx k).foldl (fun cs (p : Value × Nat) => cs.setIfInBounds (off + p.2) p.1) vs).size = vs.size := by
  induction us with
  | nil => intro k vs; rfl
  | cons u us ih => intro k vs; rw [List.zipIdx_cons, List.foldl_cons, ih]; simp

theorem foldl_zipIdx (off : Nat) (us : List Value) : ∀ (k : Nat) (vs : Array Value), off + k + us.length ≤ vs.size → ∀ p : Nat,
    ((us.zipIdx k).foldl (fun cs (p : Value × Nat) => cs.setIfInBounds (off + p.2) p.1) vs)[p]? = if off + k ≤ p ∧ p < off + k + us.length then us[p - (off + k)]? else vs[p]? := by
  induction us with
  | nil => intro k vs _ p; rw [if_neg (by simp only [List.length_nil]; omega)]; rfl
  | cons u us ih =>
    intro k vs h p
    simp only [List.length_cons] at h
    rw [List.zipIdx_cons, List.foldl_cons, ih (k + 1) _ (by simp; omega) p]
    by_cases h1 : off + (k + 1) ≤ p ∧ p < off + (k + 1) + us.length
    · rw [if_pos h1, if_pos (by simp only [List.length_cons]; omega), show p - (off + k) = (p - (off + (k + 1))) + 1 from by omega, List.getElem?_cons_succ]
    · rw [if_neg h1]
      by_cases h2 : p = off + k
      · subst h2
        rw [if_pos (by simp only [List.length_cons]; omega)]
        simp [show off + k < vs.size from by omega]
      · rw [if_neg (by simp only [List.length_cons]; omega), Array.getElem?_setIfInBounds_ne (fun e => h2 e.symm)]

theorem RelCs.splice {O : Nat → Prop} {E : Env} {w : World} {cs xs : List D} {vs us : Array Value} (h : RelCs O E w cs vs) (g : RelCs O E w xs us) (off : Nat)
    (hle : off + xs.length ≤ cs.length) : RelCs O E w (AH.splice cs off xs) (us.zipIdx.foldl (fun cs (c, j) => cs.setIfInBounds (off + j) c) vs) := by
  have e : us.zipIdx.foldl (fun cs (c, j) => cs.setIfInBounds (off + j) c) vs = (us.toList.zipIdx 0).foldl (fun cs (p : Value × Nat) => cs.setIfInBounds (off + p.2) p.1) vs := by
    rw [← Array.foldl_toList, Array.toList_zipIdx]
  have hg := g.len
  have hh := h.len
  have hp : ∀ p : Nat, (us.zipIdx.foldl (fun cs (c, j) => cs.setIfInBounds (off + j) c) vs)[p]? = if off ≤ p ∧ p < off + us.size then us[p - off]? else vs[p]? := by
    intro p
    rw [e, foldl_zipIdx off us.toList 0 vs (by simp; omega) p]
    simp
  refine ⟨?_, fun i v hv => ?_, fun i d v hd hv => ?_⟩
  · rw [splice_length _ _ _ hle, h.len, e, foldl_zipIdx_size]
  · rw [hp] at hv
    split at hv
    · exact g.scal _ _ hv
    · exact h.scal _ _ hv
  · rw [hp] at hv
    have hd' : (if off ≤ i ∧ i < off + xs.length then xs[i - off]? else cs[i]?) = some d := by rw [← getElem?_splice cs off xs hle i]; exact hd
    rw [hg] at hd'
    split at hv
    · rename_i hc; rw [if_pos hc] at hd'; exact g.rel _ _ _ hd' hv
    · rename_i hc; rw [if_neg hc] at hd'; exact h.rel _ _ _ hd' hv

/-! ### What the types say -/
def zeroT (P : Program) (t : TypeId) : Option (List D) :=
  match P.info? t with
  | some i => match i.zero with
    | some z => if z.cells.toList.all (·.oneCell') then some (z.cells.toList.map ofCell) else none
    | none => none
  | none => none

def sizeT (P : Program) (t : TypeId) : Option Nat := (P.info? t).map (·.size)
def aggT (P : Program) (t : TypeId) : Option Bool :=
  match P.underlying t with
  | some (.struct _) => some true
  | some (.array _ _) => some true
  | some _ => some false
  | none => none
def elemT (P : Program) (t : TypeId) : Option TypeId :=
  match P.underlying t with
  | some (.slice e) => some e
  | _ => none
/-- The size of a slice type's elements, if it is not 0. -/
def esizeT (P : Program) (t : TypeId) : Option Nat :=
  match elemT P t with
  | some e => match sizeT P e with
    | some (n + 1) => some (n + 1)
    | _ => none
  | none => none
/-- Whether a slice type's elements may be appended: a size that is not 0, a zero value of that size, not more than 1024 bytes. -/
def growT (P : Program) (t : TypeId) : Bool :=
  match elemT P t with
  | some e => match P.info? e with
    | some i => match i.zero with
      | some z => decide (z.cells.size = i.size) && decide (0 < i.size) && decide (i.bytes ≤ 1024) && z.cells.toList.all (·.oneCell')
      | none => false
    | none => false
  | none => false
def fieldT (P : Program) (t : TypeId) (f : Nat) : Option (Nat × Nat × Bool) :=
  match P.underlying t with
  | some (.struct fs) => match fs[f]? with
    | some x => match sizeT P x.type, aggT P x.type with
      | some n, some g => some (x.offset, n, g)
      | _, _ => none
    | none => none
  | _ => none

inductive Places where
  | arr (sz : Nat)
  | str (l : List (Nat × Nat))

def Places.at : Places → Nat → Option (Nat × Nat)
  | .arr sz, i => some (i * sz, sz)
  | .str l, i => l[i]?

def placesT (P : Program) (t : TypeId) : Option Places :=
  match P.underlying t with
  | some (.array _ e) => match P.info? e with
    | some i => some (.arr i.size)
    | none => none
  | some (.struct fs) => match fs.toList.mapM (fun f => (P.info? f.type).map fun i => (f.offset, i.size)) with
    | some l => some (.str l)
    | none => none
  | _ => none

def fillA (pl : Places) : List D → List (Nat × D) → Option (List D)
  | cs, [] => some cs
  | cs, (i, d) :: rest =>
    match pl.at i, cellsOf d with
    | some (off, sz), some xs => if xs.length = sz ∧ off + sz ≤ cs.length then fillA pl (splice cs off xs) rest else none
    | _, _ => none

def abuild (P : Program) (t : TypeId) (parts : List (Nat × D)) : Option D :=
  match zeroT P t, placesT P t with
  | some z, some pl => match fillA pl z parts with
    | some cs => some (.agg cs)
    | none => none
  | _, _ => none

theorem fill_rel {O : Nat → Prop} {E : Env} {w : World} (pl : Places) (place : Nat → Option (Nat × Nat)) (hpl : ∀ i, place i = pl.at i) (parts : List (Nat × D)) :
    ∀ (us : List (Nat × Value)) (cs cs' : List D) (vs : Array Value), fillA pl cs parts = some cs' → RelCs O E w cs vs → parts.length = us.length →
      (∀ (k : Nat) (p : Nat × D) (u : Nat × Value), parts[k]? = some p → us[k]? = some u → p.1 = u.1 ∧ RelE O E w p.2 u.2) →
      ∃ vs', Instr.fill place vs us = some vs' ∧ RelCs O E w cs' vs' := by
  induction parts with
  | nil =>
    intro us cs cs' vs h hr hl _
    have : us = [] := List.eq_nil_of_length_eq_zero (by simpa using hl.symm)
    subst this
    simp [fillA] at h; subst h
    exact ⟨vs, rfl, hr⟩
  | cons p parts ih =>
    intro us cs cs' vs h hr hl hx
    cases us with
    | nil => simp at hl
    | cons u us =>
      obtain ⟨i, d⟩ := p
      obtain ⟨i', v⟩ := u
      obtain ⟨e, hd⟩ := hx 0 (i, d) (i', v) rfl rfl
      simp only at e hd
      subst e
      simp only [fillA] at h
      cases ha : pl.at i with
      | none => simp [ha] at h
      | some q =>
        obtain ⟨off, sz⟩ := q
        cases hc : cellsOf d with
        | none => simp [ha, hc] at h
        | some xs =>
          simp only [ha, hc] at h
          by_cases hcond : xs.length = sz ∧ off + sz ≤ cs.length
          · rw [if_pos hcond] at h
            have g := rel_cells hd hc
            obtain ⟨vs', h1, h2⟩ := ih us _ cs' _ h (hr.splice g off (by omega)) (by simpa using hl)
              (fun k p u h1 h2 => hx (k + 1) p u (by simpa using h1) (by simpa using h2))
            refine ⟨vs', ?_, h2⟩
            simp only [Instr.fill, hpl, ha]
            have hg := g.len
            have hh := hr.len
            rw [if_neg (by simp; omega)]
            exact h1
          · rw [if_neg hcond] at h; cases h

theorem zeroT_rel {O : Nat → Prop} {E : Env} {w : World} {P : Program} {t : TypeId} {zs : List D} (h : zeroT P t = some zs) :
    ∃ i z, P.info? t = some i ∧ i.zero = some z ∧ RelCs O E w zs z.cells := by
  unfold zeroT at h
  cases hi : P.info? t with
  | none => simp [hi] at h
  | some i =>
    cases hz : i.zero with
    | none => simp [hi, hz] at h
    | some z =>
      simp only [hi, hz] at h
      split at h
      · rename_i hall
        cases h
        rw [List.all_eq_true] at hall
        refine ⟨i, z, rfl, hz, by simp, fun j v hv => hall v ?_, fun j d v hd hv => ?_⟩
        · rw [Array.mem_toList_iff]; exact Array.mem_of_getElem? hv
        · rw [List.getElem?_map, Array.getElem?_toList, hv] at hd
          simp at hd; subst hd
          exact .pur _ _ (pur_ofCell _ _ _)
      · cases h

theorem abuild_rel {O : Nat → Prop} {E : Env} {w : World} {P : Program} {t : TypeId} {parts : List (Nat × D)} {d : D} (h : abuild P t parts = some d)
    (us : Array (Nat × Value)) (hl : parts.length = us.size)
    (hx : ∀ (k : Nat) (p : Nat × D) (u : Nat × Value), parts[k]? = some p → us[k]? = some u → p.1 = u.1 ∧ RelE O E w p.2 u.2) :
    ∃ v, (Instr.build t us).run P w = .ok v w ∧ RelE O E w d v := by
  unfold abuild at h
  cases hz : zeroT P t with
  | none => simp [hz] at h
  | some zs =>
    obtain ⟨i, z, hi, hzz, hzr⟩ := zeroT_rel (O := O) (E := E) (w := w) hz
    cases hp : placesT P t with
    | none => simp [hz, hp] at h
    | some pl =>
      simp only [hz, hp] at h
      cases hf : fillA pl zs parts with
      | none => simp [hf] at h
      | some cs =>
        simp only [hf] at h
        cases h
        have key : ∃ place : Nat → Option (Nat × Nat), (∀ i, place i = pl.at i) ∧ ∀ vs', Instr.fill place z.cells us.toList = some vs' → P.built t us.toList = some vs' := by
          unfold placesT at hp
          split at hp
          · rename_i e hu
            split at hp
            · rename_i ie hie
              cases hp
              exact ⟨fun i => some (i * ie.size, ie.size), fun _ => rfl, fun vs' hv => by simp only [Program.built, hi, hu, hzz, hie]; exact hv⟩
            · cases hp
          · rename_i fs hu
            split at hp
            · rename_i l hl'
              cases hp
              refine ⟨(l.toArray[·]?), fun i => by simp [Places.at], fun vs' hv => ?_⟩
              simp only [Program.built, hi, hu, hzz, hl']
              exact hv
            · cases hp
          · cases hp
        obtain ⟨place, hpl, hb⟩ := key
        obtain ⟨vs', h1, h2⟩ := fill_rel pl place hpl parts us.toList zs cs z.cells hf hzr (by simpa using hl) (fun k p u h1 h2 => hx k p u h1 (by simpa using h2))
        exact ⟨.agg vs', run_build w t us vs' (hb vs' h1), .agg _ _ h2.len h2.scal h2.rel⟩

end Go.AH

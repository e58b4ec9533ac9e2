/- The abstract values and heaps of the AH library, and how they read in a world of the model. -/
import Derived.Orders
import Derived.Laws.Sem
set_option linter.unusedVariables false
set_option linter.unusedSimpArgs false
namespace Go.AH

/-- Abstract values. `vs`: an immutable slice, row by row; `ifc`, `mth`: a struct without fields as an interface value, and a method of it; `ip`: an address into cells that are not written during the call, `bs`: a slice of such cells (neither may be handed on); `rs`, `ptr`: into a block that the frame owns; `rx`: the same as `rs` from the block's beginning, of which the real room `rc` is known. -/
inductive D where
  | int (k : IntKind) (n : Int)
  | bool (b : Bool)
  | ub
  | str (s : ByteArray)
  | vs (rows : List (List D))
  | nils
  | zs
  | nilp
  | ip (cells : List D)
  | bs (rows : List (List D))
  | agg (cells : List D)
  | tup (vs : List D)
  | rs (sz b off len cap : Nat)
  | rx (sz b len cap rc : Nat)
  | ptr (b n i j : Nat)
  | fn (f : FuncId) (caps : List D)
  | mv (f : FuncId) (firsts : List D)
  | ifc (t : TypeId)
  | mth (t : TypeId) (name : String)
  | mpv (k : IntKind) (keys : List Int) (vals : List D)
  | un
  deriving Inhabited

abbrev Blk := List (List D)
abbrev Heap := List (Option Blk)

structure BI where
  blk : Nat
  sz : Nat
  n : Nat

abbrev Env := Nat → Option BI

def Env.Out (E : Env) (k : Nat) : Prop := ∀ b bi, E b = some bi → bi.blk ≠ k

def hget (H : Heap) (b : Nat) : Option Blk := (H[b]?).join

def hset (H : Heap) (b : Nat) (x : Blk) : Heap :=
  if b < H.length then H.set b (some x) else H ++ List.replicate (b - H.length) none ++ [some x]

def hput (H : Heap) (l : List (Nat × Blk)) : Heap := l.foldl (fun H p => hset H p.1 p.2) H

theorem hget_hset (H : Heap) (b : Nat) (x : Blk) (b' : Nat) : hget (hset H b x) b' = if b' = b then some x else hget H b' := by
  unfold hset hget
  split
  · rename_i h
    rw [List.getElem?_set]
    by_cases e : b' = b
    · subst e; simp [h]
    · rw [if_neg (fun he => e he.symm), if_neg e]
  · rename_i h
    by_cases e : b' = b
    · subst e
      rw [if_pos rfl, List.getElem?_append_right (by simp; omega)]
      simp [show b' - (H.length + (b' - H.length)) = 0 from by omega]
    · rw [if_neg e]
      by_cases h2 : b' < H.length
      · rw [List.append_assoc, List.getElem?_append_left h2]
      · rw [show (H[b']? : Option (Option Blk)) = none from List.getElem?_eq_none (by omega)]
        by_cases h3 : b' < b
        · rw [List.getElem?_append_left (by simp; omega), List.getElem?_append_right (by omega), List.getElem?_replicate]
          rw [if_pos (by omega)]; rfl
        · rw [List.getElem?_eq_none (by simp; omega)]

/-- A value that one cell holds. -/
abbrev Scal (v : Value) : Prop := v.oneCell' = true

inductive Pur (U : Nat → Prop) (w : World) : D → Value → Prop
  | int (k : IntKind) (n : Int) : Pur U w (.int k n) (.int k n)
  | bool (b : Bool) : Pur U w (.bool b) (.bool b)
  | ub (b : Bool) : Pur U w .ub (.bool b)
  | str (s : ByteArray) : Pur U w (.str s) (.string s)
  | nils (a : Option Addr) : Pur U w .nils (.slice a 0 0)
  | zs : Pur U w .zs (.slice none 0 0)
  | nilp : Pur U w .nilp (.pointer none)
  | vs (rows : List (List D)) (a : Option Addr) (cap sz : Nat) (f : Nat → Nat → Value) (hcap : rows.length ≤ cap)
      (hsz : ∀ r, r ∈ rows → r.length = sz)
      (ha : rows ≠ [] → ∃ k o, a = some ⟨k, o, none⟩ ∧ U k ∧ k < w.heap.size ∧
        ∀ i j, i < rows.length → j < sz → w.cell? ⟨k, o + (i * sz + j), none⟩ = some (f i j) ∧ Scal (f i j))
      (hr : ∀ (i j : Nat) (r : List D) (d : D), rows[i]? = some r → r[j]? = some d → Pur U w d (f i j)) : Pur U w (.vs rows) (.slice a rows.length cap)
  | ifc (t : TypeId) : Pur U w (.ifc t) (.iface t (.agg #[]))
  | mth (t : TypeId) (name : String) : Pur U w (.mth t name) (.func (.method name) #[.iface t (.agg #[])] #[])
  | un (v : Value) : Pur U w .un v

/-- The address of a slice over an owned block. -/
def RefOK (w : World) (bi : BI) (off : Nat) (a : Addr) (cap' : Nat) : Prop :=
  ∃ o, a = ⟨bi.blk, o, none⟩ ∧ (cap' ≠ 0 → o = off * bi.sz) ∧
    ∃ (c : Array Value) (el : TypeId), w.heap[bi.blk]? = some (.cells c el (0, 0)) ∧ (off + cap') * bi.sz ≤ c.size

/-- A map of whole numbers to values, in the order in which they came. -/
def MapAt (w : World) (r : Nat) (k : IntKind) (keys : List Int) (vs : Array Value) : Prop :=
  ∃ es clock, w.heap[r]? = some (.map es clock) ∧ es.toList.map (·.key) = keys.map (Value.int k) ∧ es.toList.map (·.val) = vs.toList

inductive Rel (U V : Nat → Prop) (E : Env) (w : World) : D → Value → Prop
  | pur (d : D) (v : Value) (h : Pur U w d v) : Rel U V E w d v
  | ip (cells : List D) (k o : Nat) (f : Nat → Value) (hV : V k) (hk : k < w.heap.size)
      (h : ∀ (j : Nat) (d : D), cells[j]? = some d → w.cell? ⟨k, o + j, none⟩ = some (f j) ∧ Scal (f j) ∧ Pur U w d (f j)) :
      Rel U V E w (.ip cells) (.pointer (some ⟨k, o, none⟩))
  | bs (rows : List (List D)) (a : Option Addr) (cap sz : Nat) (f : Nat → Nat → Value) (hcap : rows.length ≤ cap)
      (hsz : ∀ r, r ∈ rows → r.length = sz)
      (ha : rows ≠ [] → ∃ k o, a = some ⟨k, o, none⟩ ∧ V k ∧ k < w.heap.size ∧
        ∀ i j, i < rows.length → j < sz → w.cell? ⟨k, o + (i * sz + j), none⟩ = some (f i j) ∧ Scal (f i j))
      (hr : ∀ (i j : Nat) (r : List D) (d : D), rows[i]? = some r → r[j]? = some d → Pur U w d (f i j)) : Rel U V E w (.bs rows) (.slice a rows.length cap)
  | rs (b off len cap : Nat) (bi : BI) (a : Addr) (cap' : Nat) (hE : E b = some bi) (h0 : 0 < bi.sz) (h1 : off + cap ≤ bi.n) (h2 : len ≤ cap) (h3 : cap ≤ cap')
      (h4 : off + cap = bi.n → RefOK w bi off a cap') : Rel U V E w (.rs bi.sz b off len cap) (.slice (some a) len cap')
  | rx (b len cap rc : Nat) (bi : BI) (a : Addr) (hE : E b = some bi) (h0 : 0 < bi.sz) (h1 : cap ≤ bi.n) (h2 : len ≤ cap) (h3 : cap ≤ rc)
      (h4 : cap = bi.n → RefOK w bi 0 a rc) : Rel U V E w (.rx bi.sz b len cap rc) (.slice (some a) len rc)
  | ptr (b n i j : Nat) (bi : BI) (a : Addr) (hE : E b = some bi) (h1 : n ≤ bi.n)
      (h : n = bi.n → a = ⟨bi.blk, i * bi.sz + j, none⟩) : Rel U V E w (.ptr b n i j) (.pointer (some a))
  | fn (f : FuncId) (caps : List D) (vs : Array Value) (hl : caps.length = vs.size)
      (h : ∀ (i : Nat) (d : D) (v : Value), caps[i]? = some d → vs[i]? = some v → Rel U V E w d v) : Rel U V E w (.fn f caps) (.func (.func f) #[] vs)
  | mv (f : FuncId) (firsts : List D) (vs : Array Value) (hl : firsts.length = vs.size)
      (h : ∀ (i : Nat) (d : D) (v : Value), firsts[i]? = some d → vs[i]? = some v → Rel U V E w d v) : Rel U V E w (.mv f firsts) (.func (.func f) vs #[])
  | mpv (k : IntKind) (keys : List Int) (vals : List D) (r : Nat) (vs : Array Value) (hl : vals.length = vs.size) (hU : U r) (hk : r < w.heap.size) (hm : MapAt w r k keys vs)
      (h : ∀ (i : Nat) (d : D) (v : Value), vals[i]? = some d → vs[i]? = some v → Rel U V E w d v) : Rel U V E w (.mpv k keys vals) (.map (some r))
  | agg (cs : List D) (vs : Array Value) (hl : cs.length = vs.size)
      (hs : ∀ (i : Nat) (v : Value), vs[i]? = some v → Scal v)
      (h : ∀ (i : Nat) (d : D) (v : Value), cs[i]? = some d → vs[i]? = some v → Rel U V E w d v) : Rel U V E w (.agg cs) (.agg vs)
  | tup (cs : List D) (vs : Array Value) (hl : cs.length = vs.size)
      (h : ∀ (i : Nat) (d : D) (v : Value), cs[i]? = some d → vs[i]? = some v → Rel U V E w d v) : Rel U V E w (.tup cs) (.tuple vs)

/-- The relation of a frame: immutable memory lies in `O`, and outside the owned blocks. -/
def RelE (O : Nat → Prop) (E : Env) (w : World) : D → Value → Prop := Rel (fun k => O k ∧ E.Out k) E.Out E w

structure Wrel (O : Nat → Prop) (E : Env) (H : Heap) (w : World) : Prop where
  blk : ∀ b bi, E b = some bi → ∃ (rows : Blk) (c : Array Value) (el : TypeId), hget H b = some rows ∧ rows.length = bi.n ∧ (∀ r, r ∈ rows → r.length = bi.sz) ∧
    w.heap[bi.blk]? = some (.cells c el (0, 0)) ∧ bi.n * bi.sz ≤ c.size ∧
    ∀ (i j : Nat) (r : List D) (d : D), rows[i]? = some r → r[j]? = some d → ∃ v, c[i * bi.sz + j]? = some v ∧ Scal v ∧ RelE O E w d v
  live : ∀ b rows, hget H b = some rows → ∃ bi, E b = some bi
  inj : ∀ b b' bi bi', E b = some bi → E b' = some bi' → bi.blk = bi'.blk → b = b'
  sc : ∀ b bi, E b = some bi → ∀ (c : Array Value) (el : TypeId), w.heap[bi.blk]? = some (.cells c el (0, 0)) → ∀ (j : Nat) (v : Value), c[j]? = some v → Scal v

/-- From (E, w) on to (E', w'): what lies outside the owned blocks has not turned; the owned blocks of `K` are still there. -/
structure Fr (K : Nat → Prop) (E : Env) (w : World) (E' : Env) (w' : World) : Prop where
  os : w'.os = w.os
  tape : w'.tape = w.tape
  output : w'.output = w.output
  size : w.heap.size ≤ w'.heap.size
  out : ∀ k, k < w.heap.size → E.Out k → w'.heap[k]? = w.heap[k]? ∧ E'.Out k
  keep : ∀ b bi, K b → E b = some bi → ∃ bi', E' b = some bi' ∧ bi'.sz = bi.sz ∧ bi.n ≤ bi'.n ∧ (bi.n = bi'.n → bi'.blk = bi.blk)
  shape : ∀ (k : Nat) (c : Array Value) (el : TypeId) (fz : Nat × Nat), w.heap[k]? = some (.cells c el fz) → ∃ c' : Array Value, w'.heap[k]? = some (.cells c' el fz) ∧ c'.size = c.size
  drawn : w.drawn ≤ w'.drawn

abbrev All : Nat → Prop := fun _ => True

theorem Fr.refl (K : Nat → Prop) (E : Env) (w : World) : Fr K E w E w :=
  ⟨rfl, rfl, rfl, Nat.le_refl _, fun _ _ h => ⟨rfl, h⟩, fun _ bi _ h => ⟨bi, h, rfl, Nat.le_refl _, fun _ => rfl⟩, fun _ c _ _ h => ⟨c, h, rfl⟩, Nat.le_refl _⟩

theorem Fr.trans {K : Nat → Prop} {E E1 E2 : Env} {w w1 w2 : World} (h : Fr K E w E1 w1) (g : Fr K E1 w1 E2 w2) : Fr K E w E2 w2 where
  os := g.os.trans h.os
  tape := g.tape.trans h.tape
  output := g.output.trans h.output
  size := Nat.le_trans h.size g.size
  out := fun k hk ho => by
    obtain ⟨e1, o1⟩ := h.out k hk ho
    obtain ⟨e2, o2⟩ := g.out k (Nat.lt_of_lt_of_le hk h.size) o1
    exact ⟨e2.trans e1, o2⟩
  keep := fun b bi hb hE => by
    obtain ⟨b1, h1, s1, n1, k1⟩ := h.keep b bi hb hE
    obtain ⟨b2, h2, s2, n2, k2⟩ := g.keep b b1 hb h1
    exact ⟨b2, h2, s2.trans s1, Nat.le_trans n1 n2, fun e => (k2 (by omega)).trans (k1 (by omega))⟩
  shape := fun k c el fz hc => by
    obtain ⟨c1, h1, s1⟩ := h.shape k c el fz hc
    obtain ⟨c2, h2, s2⟩ := g.shape k c1 el fz h1
    exact ⟨c2, h2, s2.trans s1⟩
  drawn := Nat.le_trans h.drawn g.drawn

theorem Fr.weak {K K' : Nat → Prop} {E E' : Env} {w w' : World} (h : Fr K E w E' w') (hk : ∀ b, K' b → K b) : Fr K' E w E' w' :=
  { h with keep := fun b bi hb hE => h.keep b bi (hk b hb) hE }

theorem cell?_eq {w w' : World} {k o : Nat} (h : w'.heap[k]? = w.heap[k]?) : w'.cell? ⟨k, o, none⟩ = w.cell? ⟨k, o, none⟩ := by
  simp [World.cell?, h]

theorem Pur.mono {U U' : Nat → Prop} {w w' : World} (hs : w.heap.size ≤ w'.heap.size)
    (hU : ∀ k, k < w.heap.size → U k → w'.heap[k]? = w.heap[k]? ∧ U' k) {d : D} {v : Value} (h : Pur U w d v) : Pur U' w' d v := by
  induction h with
  | int => exact .int _ _
  | bool => exact .bool _
  | ub => exact .ub _
  | str => exact .str _
  | nils => exact .nils _
  | zs => exact .zs
  | nilp => exact .nilp
  | ifc => exact .ifc _
  | mth => exact .mth _ _
  | un => exact .un _
  | vs rows a cap sz f hcap hsz ha hr ih =>
    refine .vs rows a cap sz f hcap hsz (fun hne => ?_) ih
    obtain ⟨k, o, e, hk, hlt, hc⟩ := ha hne
    obtain ⟨e1, u1⟩ := hU k hlt hk
    exact ⟨k, o, e, u1, Nat.lt_of_lt_of_le hlt hs, fun i j hi hj => by rw [cell?_eq e1]; exact hc i j hi hj⟩

theorem RefOK.mono {w w' : World} {bi bi' : BI} {off : Nat} {a : Addr} {cap' : Nat} (hsz : bi'.sz = bi.sz) (hb : bi'.blk = bi.blk)
    (hsh : ∀ (k : Nat) (c : Array Value) (el : TypeId) (fz : Nat × Nat), w.heap[k]? = some (.cells c el fz) → ∃ c' : Array Value, w'.heap[k]? = some (.cells c' el fz) ∧ c'.size = c.size)
    (h : RefOK w bi off a cap') : RefOK w' bi' off a cap' := by
  obtain ⟨o, e, ho, c, el, hc, hle⟩ := h
  obtain ⟨c', hc', hs⟩ := hsh _ _ _ _ hc
  exact ⟨o, by rw [hb]; exact e, fun hne => by rw [hsz]; exact ho hne, c', el, by rw [hb]; exact hc', by rw [hsz, hs]; exact hle⟩

theorem Rel.mono {U U' V V' : Nat → Prop} {E E' : Env} {w w' : World} (hs : w.heap.size ≤ w'.heap.size)
    (hU : ∀ k, k < w.heap.size → U k → w'.heap[k]? = w.heap[k]? ∧ U' k)
    (hV : ∀ k, k < w.heap.size → V k → w'.heap[k]? = w.heap[k]? ∧ V' k)
    (hk : ∀ b bi, E b = some bi → ∃ bi', E' b = some bi' ∧ bi'.sz = bi.sz ∧ bi.n ≤ bi'.n ∧ (bi.n = bi'.n → bi'.blk = bi.blk))
    (hsh : ∀ (k : Nat) (c : Array Value) (el : TypeId) (fz : Nat × Nat), w.heap[k]? = some (.cells c el fz) → ∃ c' : Array Value, w'.heap[k]? = some (.cells c' el fz) ∧ c'.size = c.size)
    {d : D} {v : Value} (h : Rel U V E w d v) : Rel U' V' E' w' d v := by
  induction h with
  | pur d v h => exact .pur d v (h.mono hs hU)
  | ip cells k o f hVk hlt h =>
    obtain ⟨e1, v1⟩ := hV k hlt hVk
    exact .ip cells k o f v1 (Nat.lt_of_lt_of_le hlt hs) fun j d hj => by
      obtain ⟨h1, h2, h3⟩ := h j d hj
      exact ⟨by rw [cell?_eq e1]; exact h1, h2, h3.mono hs hU⟩
  | bs rows a cap sz f hcap hsz ha hr =>
    refine .bs rows a cap sz f hcap hsz (fun hne => ?_) (fun i j r d h1 h2 => (hr i j r d h1 h2).mono hs hU)
    obtain ⟨k, o, e, hk, hlt, hc⟩ := ha hne
    obtain ⟨e1, u1⟩ := hV k hlt hk
    exact ⟨k, o, e, u1, Nat.lt_of_lt_of_le hlt hs, fun i j hi hj => by rw [cell?_eq e1]; exact hc i j hi hj⟩
  | rs b off len cap bi a cap' hE h0 h1 h2 h3 h4 =>
    obtain ⟨bi', hE', hsz, hn, hb⟩ := hk b bi hE
    rw [← hsz]
    refine .rs b off len cap bi' a cap' hE' (by omega) (by omega) h2 h3 fun e => ?_
    have en : bi.n = bi'.n := by omega
    exact (h4 (by omega)).mono hsz (hb en) hsh
  | rx b len cap rc bi a hE h0 h1 h2 h3 h4 =>
    obtain ⟨bi', hE', hsz, hn, hb⟩ := hk b bi hE
    rw [← hsz]
    refine .rx b len cap rc bi' a hE' (by omega) (by omega) h2 h3 fun e => ?_
    have en : bi.n = bi'.n := by omega
    exact (h4 (by omega)).mono hsz (hb en) hsh
  | ptr b n i j bi a hE h1 h =>
    obtain ⟨bi', hE', hsz, hn, hb⟩ := hk b bi hE
    refine .ptr b n i j bi' a hE' (by omega) fun e => ?_
    rw [h (by omega), hb (by omega), hsz]
  | fn f caps vs hl h ih => exact .fn f caps vs hl ih
  | mv f caps vs hl h ih => exact .mv f caps vs hl ih
  | mpv k keys vals r vs hl hUr hlt hm h ih =>
    obtain ⟨e1, u1⟩ := hU r hlt hUr
    obtain ⟨es, clock, h1, h2⟩ := hm
    exact .mpv k keys vals r vs hl u1 (Nat.lt_of_lt_of_le hlt hs) ⟨es, clock, by rw [e1]; exact h1, h2⟩ ih
  | agg cs vs hl hsc h ih => exact .agg cs vs hl hsc ih
  | tup cs vs hl h ih => exact .tup cs vs hl ih

theorem RelE.mono {O : Nat → Prop} {E E' : Env} {w w' : World} (hf : Fr All E w E' w') {d : D} {v : Value} (h : RelE O E w d v) : RelE O E' w' d v :=
  Rel.mono hf.size (fun k hk hu => ⟨(hf.out k hk hu.2).1, hu.1, (hf.out k hk hu.2).2⟩) (fun k hk hu => hf.out k hk hu)
    (fun b bi h => hf.keep b bi trivial h) hf.shape h

end Go.AH

/- States of a frame; operations in the order of the text; the constructs of code. -/
import Derived.Test.YtmhkanhgmfolhaaGreatAhJ
set_option linter.unusedVariables false
set_option linter.unusedSimpArgs false
namespace Go.AH

/-- `n` temporaries, of which those in the list are known (the first entry counts). -/
structure St where
  n : Nat
  tm : List (Nat × D)
  H : Heap

def lk : List (Nat × D) → Nat → D
  | [], _ => .un
  | (i, d) :: r, t => if i = t then d else lk r t

def St.get (s : St) (t : Nat) : D := if t < s.n then lk s.tm t else .tup []

def St.ev (s : St) : Operand → D
  | .tmp t => s.get t
  | .const v => ofConst v
  | .global _ => .un
  | .func f => .fn f []

def St.put (s : St) (dst : Option Tmp) (d : D) : St :=
  match dst with
  | some t => { s with tm := (t, d) :: s.tm }
  | none => s

/-! ### Blocks that hold no cells turn -/
structure Turn (Ds : Nat → Prop) (w w' : World) : Prop where
  os : w'.os = w.os
  tape : w'.tape = w.tape
  output : w'.output = w.output
  drawn : w.drawn ≤ w'.drawn
  size : w'.heap.size = w.heap.size
  oth : ∀ k, ¬ Ds k → w'.heap[k]? = w.heap[k]?
  nc : ∀ k, Ds k → ∃ o : Obj, w.heap[k]? = some o ∧ o.isCells = false ∧ ∀ es c, o ≠ .map es c

theorem Turn.put {w : World} {l : Nat} {o o' : Obj} (h : w.heap[l]? = some o) (hc : o.isCells = false) (hm : ∀ es c, o ≠ .map es c := by intro es c h; cases h) : Turn (fun k => k = l) w (w.putObj l o') :=
  ⟨rfl, rfl, rfl, Nat.le_refl _, by simp [World.putObj], fun k hk => World.putObj_heap_other hk, fun k hk => by subst hk; exact ⟨o, h, hc, hm⟩⟩

theorem Turn.cells {Ds : Nat → Prop} {w w' : World} (t : Turn Ds w w') {k : Nat} {c : Array Value} {el : TypeId} {fz : Nat × Nat} (h : w.heap[k]? = some (.cells c el fz)) : ¬ Ds k ∧ w'.heap[k]? = some (.cells c el fz) := by
  have hn : ¬ Ds k := fun hd => by
    obtain ⟨o, e, hc, _⟩ := t.nc k hd
    rw [h] at e; cases e; cases hc
  exact ⟨hn, by rw [t.oth k hn]; exact h⟩

theorem Turn.cell {Ds : Nat → Prop} {w w' : World} (t : Turn Ds w w') {k o : Nat} {v : Value} (h : w.cell? ⟨k, o, none⟩ = some v) : w'.cell? ⟨k, o, none⟩ = some v := by
  obtain ⟨ob, he, hc⟩ := cells_of_cell h
  have hn : ¬ Ds k := fun hd => by
    obtain ⟨o', e, hc', _⟩ := t.nc k hd
    rw [he] at e; cases e; rw [hc] at hc'; cases hc'
  rw [cell?_eq (t.oth k hn)]; exact h

theorem Pur.turn {Ds U : Nat → Prop} {w w' : World} (t : Turn Ds w w') {d : D} {v : Value} (h : Pur U w d v) : Pur U w' d v := by
  induction h with
  | int => exact .int _ _
  | bool => exact .bool _
  | ub => exact .ub _
  | str => exact .str _
  | nils => exact .nils _
  | zs => exact .zs
  | nilp => exact .nilp
  | ifc => exact .ifc _
  | mth => exact .mth _ _
  | un => exact .un _
  | vs rows a cap sz f hcap hsz ha hr ih =>
    refine .vs rows a cap sz f hcap hsz (fun hne => ?_) ih
    obtain ⟨k, o, e, hk, hlt, hc⟩ := ha hne
    exact ⟨k, o, e, hk, by rw [t.size]; exact hlt, fun i j hi hj => ⟨t.cell (hc i j hi hj).1, (hc i j hi hj).2⟩⟩

theorem RefOK.turn {Ds : Nat → Prop} {w w' : World} (t : Turn Ds w w') {bi : BI} {off : Nat} {a : Addr} {cap' : Nat} (h : RefOK w bi off a cap') : RefOK w' bi off a cap' := by
  obtain ⟨o, e, ho, c, el, hc, hle⟩ := h
  exact ⟨o, e, ho, c, el, (t.cells hc).2, hle⟩

theorem Rel.turn {Ds U V : Nat → Prop} {E : Env} {w w' : World} (t : Turn Ds w w') {d : D} {v : Value} (h : Rel U V E w d v) : Rel U V E w' d v := by
  induction h with
  | pur d v h => exact .pur d v (h.turn t)
  | ip cells k o f hVk hlt h =>
    exact .ip cells k o f hVk (by rw [t.size]; exact hlt) fun j d hj => by
      obtain ⟨h1, h2, h3⟩ := h j d hj
      exact ⟨t.cell h1, h2, h3.turn t⟩
  | bs rows a cap sz f hcap hsz ha hr =>
    refine .bs rows a cap sz f hcap hsz (fun hne => ?_) (fun i j r d h1 h2 => (hr i j r d h1 h2).turn t)
    obtain ⟨k, o, e, hk, hlt, hc⟩ := ha hne
    exact ⟨k, o, e, hk, by rw [t.size]; exact hlt, fun i j hi hj => ⟨t.cell (hc i j hi hj).1, (hc i j hi hj).2⟩⟩
  | rs b off len cap bi a cap' hE h0 h1 h2 h3 h4 => exact .rs b off len cap bi a cap' hE h0 h1 h2 h3 fun e => (h4 e).turn t
  | rx b len cap rc bi a hE h0 h1 h2 h3 h4 => exact .rx b len cap rc bi a hE h0 h1 h2 h3 fun e => (h4 e).turn t
  | ptr b n i j bi a hE h1 h => exact .ptr b n i j bi a hE h1 h
  | fn f caps vs hl h ih => exact .fn f caps vs hl ih
  | mv f caps vs hl h ih => exact .mv f caps vs hl ih
  | mpv k keys vals r vs hl hUr hlt hm h ih =>
    obtain ⟨es, clock, h1, h2⟩ := hm
    refine .mpv k keys vals r vs hl hUr (by rw [t.size]; exact hlt) ⟨es, clock, ?_, h2⟩ ih
    rw [t.oth r (fun hd => by
      obtain ⟨o, e, _, hn⟩ := t.nc r hd
      rw [h1] at e; cases e; exact hn _ _ rfl)]
    exact h1
  | agg cs vs hl hsc h ih => exact .agg cs vs hl hsc ih
  | tup cs vs hl h ih => exact .tup cs vs hl ih

theorem Wrel.turn {Ds : Nat → Prop} {O : Nat → Prop} {E : Env} {H : Heap} {w w' : World} (t : Turn Ds w w') (h : Wrel O E H w) : Wrel O E H w' where
  blk := fun b bi hb => by
    obtain ⟨rows, c, el, h1, h2, h3, h4, h5, h6⟩ := h.blk b bi hb
    refine ⟨rows, c, el, h1, h2, h3, (t.cells h4).2, h5, fun i j r d hi hj => ?_⟩
    obtain ⟨v, e, s, r⟩ := h6 i j r d hi hj
    exact ⟨v, e, s, r.turn t⟩
  live := h.live
  inj := h.inj
  sc := fun b bi hb c el hc => by
    obtain ⟨rows, c0, el0, _, _, _, h4, _⟩ := h.blk b bi hb
    have := (t.cells h4).2
    rw [hc] at this
    cases this
    exact h.sc b bi hb c el h4

theorem Fr.turn {Ds K : Nat → Prop} {E E' : Env} {w w' w'' : World} (t : Turn Ds w' w'') (hD : ∀ k, Ds k → w.heap.size ≤ k) (h : Fr K E w E' w') : Fr K E w E' w'' where
  os := t.os.trans h.os
  tape := t.tape.trans h.tape
  output := t.output.trans h.output
  drawn := Nat.le_trans h.drawn t.drawn
  size := by rw [t.size]; exact h.size
  out := fun k hk ho => by
    obtain ⟨e1, o1⟩ := h.out k hk ho
    exact ⟨(t.oth k (fun hd => absurd (hD k hd) (by omega))).trans e1, o1⟩
  keep := h.keep
  shape := fun k c el fz hc => by
    obtain ⟨c1, h1, s1⟩ := h.shape k c el fz hc
    exact ⟨c1, (t.cells h1).2, s1⟩

/-! ### The marks that loops over functions leave -/
def markD (D : Nat) : Deferred := { target := .collected D, args := #[] }

def Marks (base : Nat) (E : Env) (w : World) (l : List Deferred) : Prop :=
  ∃ Ds : List Nat, l = Ds.map markD ∧ Ds.Nodup ∧ ∀ D, D ∈ Ds → w.heap[D]? = some (.deferred (some [])) ∧ E.Out D ∧ base ≤ D

theorem Marks.nil (base : Nat) (E : Env) (w : World) : Marks base E w [] := ⟨[], rfl, List.nodup_nil, fun D h => by simp at h⟩

theorem Marks.step {base : Nat} {E E' : Env} {w w' : World} {l : List Deferred} (h : Marks base E w l) (hf : ∀ k, k < w.heap.size → E.Out k → w'.heap[k]? = w.heap[k]? ∧ E'.Out k) : Marks base E' w' l := by
  obtain ⟨Ds, e, hn, hd⟩ := h
  refine ⟨Ds, e, hn, fun D hD => ?_⟩
  obtain ⟨h1, h2, h3⟩ := hd D hD
  obtain ⟨q1, q2⟩ := hf D (Array.getElem?_eq_some_iff.1 h1).1 h2
  exact ⟨by rw [q1]; exact h1, q2, h3⟩

theorem Marks.sub {base : Nat} {E E' : Env} {w : World} {l : List Deferred} (h : Marks base E w l) (hE : ∀ b bi, E' b = some bi → E b = some bi) : Marks base E' w l :=
  h.step fun k _ ho => ⟨rfl, fun b bi hb => ho b bi (hE b bi hb)⟩

/-- The frame's relation: `k` blocks came in with the call, the others are its own, from `base` on. -/
structure SR (k base : Nat) (O : Nat → Prop) (E : Env) (s : St) (a : Act) (w : World) : Prop where
  wr : Wrel O E s.H w
  defers : Marks base E w a.defers
  size : a.tmps.size = s.n
  tm : ∀ (t : Nat) (v : Value), a.tmps[t]? = some v → RelE O E w (lk s.tm t) v
  hbase : base ≤ w.heap.size
  up : ∀ n, base ≤ n → O n
  own : ∀ b bi, k ≤ b → E b = some bi → base ≤ bi.blk

theorem SR.ev {k base : Nat} {O : Nat → Prop} {E : Env} {s : St} {a : Act} {w : World} (h : SR k base O E s a w) (x : Operand) : RelE O E w (s.ev x) (a.eval x) := by
  cases x with
  | tmp t =>
    simp only [St.ev, Act.eval, St.get]
    rcases Nat.lt_or_ge t s.n with ht | ht
    · have ht2 : t < a.tmps.size := by rw [h.size]; exact ht
      rw [if_pos ht]
      have e : a.tmps.getD t undef = a.tmps[t] := by simp [Array.getD, ht2]
      rw [e]
      exact h.tm t _ (Array.getElem?_eq_getElem ht2)
    · have ht2 : ¬ t < a.tmps.size := by rw [h.size]; exact Nat.not_lt.2 ht
      rw [if_neg (Nat.not_lt.2 ht)]
      have e : a.tmps.getD t undef = undef := by simp [Array.getD, ht2]
      rw [e]
      exact mkUndef
  | const v => exact rel_ofConst O E w v
  | global g => exact .pur _ _ (.un _)
  | func f => exact .fn f [] #[] rfl (fun i d v h1 _ => by simp at h1)

/-- Frames: what has come in is still there, and what is new lies in new memory. -/
structure FrK (k : Nat) (E : Env) (w : World) (E' : Env) (w' : World) : Prop where
  fr : Fr (· < k) E w E' w'
  new : ∀ b bi', b < k → E' b = some bi' → w.heap.size ≤ bi'.blk ∨ ∃ bi, E b = some bi ∧ bi.blk = bi'.blk

theorem FrK.refl (k : Nat) (E : Env) (w : World) : FrK k E w E w := ⟨Fr.refl _ _ _, fun _ bi' _ h => .inr ⟨bi', h, rfl⟩⟩

theorem FrK.trans {k : Nat} {E E1 E2 : Env} {w w1 w2 : World} (h : FrK k E w E1 w1) (g : FrK k E1 w1 E2 w2) : FrK k E w E2 w2 := by
  refine ⟨h.fr.trans g.fr, fun b bi' hb hE => ?_⟩
  rcases g.new b bi' hb hE with h1 | ⟨bi1, h1, e1⟩
  · exact .inl (Nat.le_trans h.fr.size h1)
  · rcases h.new b bi1 hb h1 with h2 | ⟨bi, h2, e2⟩
    · exact .inl (by omega)
    · exact .inr ⟨bi, h2, by omega⟩

theorem FrK.of {k : Nat} {E E' : Env} {w w' : World} (h : Fr All E w E' w') (g : OwnNew w E E') : FrK k E w E' w' :=
  ⟨h.weak (fun _ _ => trivial), fun b bi' _ hE => g b bi' hE⟩

/-- A step on: the frame's temporaries read as before. -/
theorem SR.step {k base : Nat} {O : Nat → Prop} {E E' : Env} {s : St} {a : Act} {w w' : World} {H' : Heap} (h : SR k base O E s a w) (hf : Fr All E w E' w') (hn : OwnNew w E E') (hw : Wrel O E' H' w') :
    SR k base O E' ⟨s.n, s.tm, H'⟩ a w' where
  wr := hw
  defers := h.defers.step fun k hk ho => hf.out k hk ho
  size := h.size
  tm := fun t v h2 => (h.tm t v h2).mono hf
  hbase := Nat.le_trans h.hbase hf.size
  up := h.up
  own := fun b bi hb hE => by
    rcases hn b bi hE with h1 | ⟨bi0, h1, e⟩
    · exact Nat.le_trans h.hbase h1
    · rw [← e]; exact h.own b bi0 hb h1

theorem SR.put {k base : Nat} {O : Nat → Prop} {E : Env} {s : St} {a : Act} {w : World} (h : SR k base O E s a w) (dst : Option Tmp) {d : D} {v : Value} (hd : RelE O E w d v) : SR k base O E (s.put dst d) (a.put dst v) w := by
  cases dst with
  | none => exact h
  | some t =>
    refine ⟨h.wr, h.defers, by simp [St.put, Act.put, h.size], fun t' v' h2 => ?_, h.hbase, h.up, h.own⟩
    simp only [St.put, Act.put, lk] at h2 ⊢
    rw [Array.getElem?_setIfInBounds] at h2
    by_cases e : t = t'
    · subst e
      rw [if_pos rfl] at h2 ⊢
      split at h2
      · cases h2; exact hd
      · cases h2
    · rw [if_neg e] at h2 ⊢
      exact h.tm t' v' h2

/-- Whether a guarded operation runs: `none` where the guard is not known. -/
def wantedA (ops : Array Oper) (o : Oper) (s : St) : Option Bool :=
  match o.guard with
  | none => some true
  | some (j, want) => match (ops[j]?).bind (·.dst) with
    | none => some false
    | some t => match s.get t with
      | .bool b => some (b == want)
      | .un => none
      | .ub => none
      | _ => some false

theorem yielded_none {ops : Array Oper} {tmps : Array Value} {j : Nat} (h : ∀ b, ((ops[j]?).bind (·.dst)).bind (tmps[·]?) ≠ some (.bool b)) : yielded ops tmps j = none := by
  unfold yielded
  split
  · rename_i b hb; exact absurd hb (h b)
  · rfl

theorem yielded_bool {ops : Array Oper} {tmps : Array Value} {j : Nat} {b : Bool} (h : ((ops[j]?).bind (·.dst)).bind (tmps[·]?) = some (.bool b)) : yielded ops tmps j = some b := by
  unfold yielded
  rw [h]

theorem rel_notbool {O : Nat → Prop} {E : Env} {w : World} {d : D} {v : Value} (h : RelE O E w d v) (hu : d ≠ .un) (hub : d ≠ .ub) (hb : ∀ b, d ≠ .bool b) (b : Bool) : v ≠ .bool b := by
  cases h with
  | pur _ _ hp => cases hp <;> first | (intro e; cases e; done) | exact absurd rfl hu | exact absurd rfl hub | exact absurd rfl (hb _)
  | _ => intro e; cases e

theorem wantedA_rel {k base : Nat} {O : Nat → Prop} {E : Env} {s : St} {a : Act} {w : World} (h : SR k base O E s a w) {ops : Array Oper} {o : Oper} {r : Bool} (hr : wantedA ops o s = some r) : Region.wanted o (yielded ops a.tmps) = r := by
  unfold wantedA at hr
  unfold Region.wanted
  split at hr
  · rename_i hg; rw [hg]; simpa using hr
  · rename_i j want hg
    rw [hg]
    simp only
    have hnone : (∀ b, ((ops[j]?).bind (·.dst)).bind (a.tmps[·]?) ≠ some (.bool b)) → r = false → (yielded ops a.tmps j == some want) = r := by
      intro h1 h2
      rw [yielded_none h1, h2]
      rfl
    split at hr
    · rename_i hd
      exact hnone (fun b => by rw [hd]; simp) (by simpa using hr.symm)
    · rename_i t hd
      have hrel := h.ev (.tmp t)
      simp only [St.ev, Act.eval] at hrel
      rcases Nat.lt_or_ge t a.tmps.size with ht2 | ht2
      · have hv : ((ops[j]?).bind (·.dst)).bind (a.tmps[·]?) = some a.tmps[t] := by rw [hd]; simp [Array.getElem?_eq_getElem ht2]
        have e : a.tmps.getD t undef = a.tmps[t] := by simp [Array.getD, ht2]
        rw [e] at hrel
        generalize s.get t = d at *
        generalize a.tmps[t] = v at *
        split at hr
        · rename_i b
          have := rel_bool hrel; subst this
          rw [yielded_bool hv]
          cases hr
          cases b <;> cases want <;> rfl
        · cases hr
        · cases hr
        · rename_i h1 h2 h3
          refine hnone (fun b => ?_) (by simpa using hr.symm)
          rw [hv]
          intro e
          exact rel_notbool hrel (fun e => h2 e) (fun e => h3 e) (fun b e => h1 b e) b (Option.some.inj e)
      · have hn : ∀ b, ((ops[j]?).bind (·.dst)).bind (a.tmps[·]?) ≠ some (.bool b) := fun b => by rw [hd]; simp [Array.getElem?_eq_none ht2]
        rw [St.get, if_neg (by rw [← h.size]; exact Nat.not_lt.2 ht2)] at hr
        exact hnone hn (by simpa using hr.symm)

/-- What a call of a function is, seen from its caller: handed on to what is left. -/
abbrev CallP := FuncId → List D → Heap → Nat → (D → List (Nat × Blk) → List (Nat × Blk) → Prop) → Prop

/-- The function that a call leads to, and what it hands on ahead of the arguments and behind them. -/
def Leads (P : Program) (callee : Callee) (s : St) (x : Operand) (f : FuncId) (fs caps : List D) : Prop :=
  (callee = .value x ∧ ((s.ev x = .fn f caps ∧ fs = []) ∨ (s.ev x = .mv f fs ∧ caps = []) ∨ (∃ t name, s.ev x = .mth t name ∧ methT P t name = some f ∧ fs = [.agg []] ∧ caps = []))) ∨
  (∃ t name, callee = .invoke x name ∧ s.ev x = .ifc t ∧ methT P t name = some f ∧ fs = [.agg []] ∧ caps = [])

/-- A call that is sound: whatever it hands on is what the model's operation comes to. -/
def CallP.Sound (P : Program) (C : CallP) : Prop :=
  ∀ (o : Oper) (c : Call) (x : Operand) (f : FuncId) (fs caps : List D) (s : St) (slot : Nat) (K : D → List (Nat × Blk) → List (Nat × Blk) → Prop), o.op = .call c → Leads P c.callee s x f fs caps →
    C f (fs ++ (c.args.toList.map s.ev ++ caps)) s.H slot K →
    ∃ d wr rd, K d wr rd ∧ OpS P o s.ev rd [slot, slot + 1, slot + 2, slot + 3, slot + 4, slot + 5, slot + 6, slot + 7, slot + 8, slot + 9, slot + 10, slot + 11] d wr ∧ ∀ p, p ∈ rd → hget s.H p.1 = some p.2

def nslots (o : Op) : Nat :=
  match o with
  | .call c => match c.callee with
    | .value _ => 12
    | .invoke _ _ => 12
    | _ => if allocs o then 1 else 0
  | _ => if allocs o then 1 else 0

/-- A state that simp is to look at. -/
def mark {α : Type} (a : α) : α := a
theorem mark_eq {α : Type} (a : α) : mark a = a := congrFun (funext (f := fun x : α => mark x) (g := fun x : α => x) fun _ => rfl) a

/-- Handed on, if there is something to hand on. -/
def bnd (x : Option (D × List (Nat × Blk) × List (Nat × Blk))) (K : D → List (Nat × Blk) → List (Nat × Blk) → Prop) : Prop :=
  match x with
  | some (d, wr, rd) => K d wr rd
  | none => False

theorem bnd_some (d : D) (wr rd : List (Nat × Blk)) (K : D → List (Nat × Blk) → List (Nat × Blk) → Prop) : bnd (some (d, wr, rd)) K = K d wr rd := rfl

theorem bnd_congr {x x' : Option (D × List (Nat × Blk) × List (Nat × Blk))} {K : D → List (Nat × Blk) → List (Nat × Blk) → Prop} (h : x = x') : bnd x K = bnd x' K := by rw [h]

/-- A guard: `F` where the operation is left out, `T` where it runs. -/
def wnt (x : Option Bool) (F T : Unit → Prop) : Prop :=
  match x with
  | some false => F ()
  | some true => T ()
  | none => False

theorem wnt_false (F T : Unit → Prop) : wnt (some false) F T = F () := rfl
theorem wnt_true (F T : Unit → Prop) : wnt (some true) F T = T () := rfl
theorem wnt_congr {x x' : Option Bool} {F T : Unit → Prop} (h : x = x') : wnt x F T = wnt x' F T := by rw [h]

/-- The function value and the arguments of a call that is no builtin's. -/
def callOf : Op → Option (Operand × Array Operand)
  | .call c => match c.callee with
    | .value x => some (x, c.args)
    | .invoke x _ => some (x, c.args)
    | _ => none
  | _ => none

/-- The method that a call asks an interface value for. -/
def invOf : Op → Option String
  | .call c => match c.callee with
    | .invoke _ name => some name
    | _ => none
  | _ => none

def brC (c : Option (Operand × Array Operand)) (T : Operand → Array Operand → Prop) (F : Unit → Prop) : Prop :=
  match c with
  | some (x, a) => T x a
  | none => F ()
theorem brC_some (x : Operand) (a : Array Operand) (T : Operand → Array Operand → Prop) (F : Unit → Prop) : brC (some (x, a)) T F = T x a := rfl
theorem brC_none (T : Operand → Array Operand → Prop) (F : Unit → Prop) : brC none T F = F () := rfl
theorem brC_congr {c c' : Option (Operand × Array Operand)} {T : Operand → Array Operand → Prop} {F : Unit → Prop} (h : c = c') : brC c T F = brC c' T F := by rw [h]

def callV (P : Program) (m : Option String) (d : D) (T : FuncId → List D → List D → Prop) : Prop :=
  match m with
  | none => (match d with
    | .fn f caps => T f [] caps
    | .mv f fs => T f fs []
    | .mth t name => (match methT P t name with
      | some f => T f [.agg []] []
      | none => False)
    | _ => False)
  | some name => (match d with
    | .ifc t => (match methT P t name with
      | some f => T f [.agg []] []
      | none => False)
    | _ => False)
theorem callV_congr {P : Program} {m : Option String} {d d' : D} {T : FuncId → List D → List D → Prop} (h : d = d') : callV P m d T = callV P m d' T := by rw [h]

/-- One operation that runs. -/
def opRun (P : Program) (C : CallP) (o : Oper) (s : St) (slot : Nat) (K : D → List (Nat × Blk) → List (Nat × Blk) → Prop) : Prop :=
  brC (callOf o.op) (fun x args => callV P (invOf o.op) (s.ev x) fun f fs caps => C f (fs ++ (args.toList.map s.ev ++ caps)) s.H slot K) (fun _ => bnd (aop P o s.ev (hget s.H) slot) K)

def St.after (s : St) (dst : Option Tmp) (d : D) (wr : List (Nat × Blk)) : St := ⟨s.n, (s.put dst d).tm, hput s.H wr⟩

def runOps (P : Program) (C : CallP) (ops : Array Oper) : List Oper → Nat → St → (St → Prop) → Prop
  | [], _, s, Q => Q (mark s)
  | o :: rest, slot, s, Q => wnt (wantedA ops o s)
    (fun _ => runOps P C ops rest (slot + nslots o.op) (mark (s.put o.dst (.tup []))) Q)
    (fun _ => opRun P C o (mark s) slot fun d wr _ => runOps P C ops rest (slot + nslots o.op) (mark (s.after o.dst d wr)) Q)

/-! ### The reads of an operation are there -/
theorem srcRows_rd {esz : Nat} {get : Nat → Option Blk} {x : D} {q : Blk × List (Nat × Blk)} (h : srcRows esz get x = some q) : ∀ p, p ∈ q.2 → get p.1 = some p.2 := by
  unfold srcRows at h
  cases x <;> simp only at h <;> try (cases h; done)
  · split at h <;> cases h; simp
  · cases h; simp
  · split at h <;> cases h; simp
  · split at h
    · split at h
      · rename_i hg
        split at h
        · cases h; intro p hp; simp at hp; subst hp; exact hg
        · cases h
      · cases h
    · cases h

theorem aappend_rd {P : Program} {t tx : TypeId} {s x : D} {get : Nat → Option Blk} {slot : Nat} {q : D × List (Nat × Blk) × List (Nat × Blk)} (h : aappend P t tx s x get slot = some q) : ∀ p, p ∈ q.2.2 → get p.1 = some p.2 := by
  unfold aappend at h
  split at h
  · split at h
    · split at h
      · rename_i src rd hsrc
        have hs := srcRows_rd hsrc
        cases s <;> simp only at h <;> try (cases h; done)
        · split at h <;> cases h; exact hs
        · split at h
          · cases h; exact hs
          · split at h <;> cases h; exact hs
        · split at h
          · cases h; exact hs
          · split at h
            · rename_i hg
              split at h
              · split at h
                · cases h
                  intro p hp
                  rcases List.mem_cons.1 hp with rfl | hp
                  · exact hg
                  · exact hs p hp
                · split at h
                  · cases h
                    intro p hp
                    rcases List.mem_cons.1 hp with rfl | hp
                    · exact hg
                    · exact hs p hp
                  · cases h
              · cases h
            · cases h
      · cases h
    · cases h
  · cases h

theorem acopy_rd {P : Program} {t : TypeId} {s x : D} {get : Nat → Option Blk} {q : D × List (Nat × Blk) × List (Nat × Blk)} (h : acopy P t s x get = some q) : ∀ p, p ∈ q.2.2 → get p.1 = some p.2 := by
  unfold acopy at h
  split at h
  · split at h
    · rename_i src rd hsrc
      have hs := srcRows_rd hsrc
      cases s <;> simp only at h <;> try (cases h; done)
      · cases h; exact hs
      · split at h
        · rename_i hg
          split at h
          · cases h
            intro p hp
            rcases List.mem_cons.1 hp with rfl | hp
            · exact hg
            · exact hs p hp
          · cases h
        · cases h
    · cases h
  · cases h

theorem aload_rd {P : Program} {t : TypeId} {d : D} {get : Nat → Option Blk} {q : D × List (Nat × Blk)} (h : aload P t d get = some q) : ∀ p, p ∈ q.2 → get p.1 = some p.2 := by
  unfold aload at h
  split at h
  · split at h
    · split at h
      · rename_i hg
        split at h
        · split at h
          · split at h
            · cases h; intro p hp; simp at hp; subst hp; exact hg
            · cases h
          · cases h
        · cases h
      · cases h
    · split at h
      · cases h; simp
      · cases h
    · cases h
  · cases h

theorem astore_rd {P : Program} {t : TypeId} {d x : D} {get : Nat → Option Blk} {q : List (Nat × Blk) × List (Nat × Blk)} (h : astore P t d x get = some q) : ∀ p, p ∈ q.2 → get p.1 = some p.2 := by
  unfold astore at h
  split at h
  · split at h
    · rename_i hg
      split at h
      · split at h
        · split at h
          · cases h; intro p hp; simp at hp; subst hp; exact hg
          · cases h
        · cases h
      · cases h
    · cases h
  · cases h

theorem aappendX_rd {P : Program} {t tx : TypeId} {s x : D} {get : Nat → Option Blk} {slot : Nat} {q : D × List (Nat × Blk) × List (Nat × Blk)} (h : aappendX P t tx s x get slot = some q) : ∀ p, p ∈ q.2.2 → get p.1 = some p.2 := by
  unfold aappendX at h
  split at h
  · split at h
    · rename_i esz rows he hg
      split at h
      · split at h
        · split at h
          · split at h
            · split at h
              · cases h
                intro p hp
                simp at hp; subst hp; exact hg
              · cases h
            · cases h
          · cases h
        · split at h
          · split at h
            · rename_i src rd hsrc
              split at h
              · exact aappend_rd h
              · split at h
                · cases h
                  intro p hp
                  rcases List.mem_cons.1 hp with rfl | hp
                  · exact hg
                  · exact srcRows_rd hsrc p hp
                · cases h
            · cases h
          · cases h
      · cases h
    · cases h
  · cases h

theorem aop_rd {P : Program} {o : Oper} {ρ : Operand → D} {get : Nat → Option Blk} {slot : Nat} {d : D} {wr rd : List (Nat × Blk)} (h : aop P o ρ get slot = some (d, wr, rd)) : ∀ p, p ∈ rd → get p.1 = some p.2 := by
  unfold aop at h
  cases ho : o.op <;> simp only [ho] at h <;> try (cases h; done)
  case load => obtain ⟨z, hz, e⟩ := omap h; cases e; exact aload_rd hz
  case store => obtain ⟨z, hz, e⟩ := omap h; cases e; exact astore_rd hz
  case call c =>
    split at h
    · rename_i b _
      cases b <;> simp only [abuiltin] at h <;> try (cases h; done)
      case append =>
        split at h
        · split at h
          · rename_i q hq
            cases h
            exact aappend_rd hq
          · split at h
            · rename_i q hq
              cases h
              intro p hp
              have : rd = [] := by
                unfold aappendZ at hq
                split at hq
                · split at hq
                  · split at hq
                    · split at hq <;> cases hq; rfl
                    · cases hq
                  · cases hq
                · cases hq
              rw [this] at hp; simp at hp
            · exact aappendX_rd h
        · cases h
      case copy => split at h; exact acopy_rd h; cases h
      case clear => split at h; exact aclear_rd h; cases h
      case cap =>
        split at h
        · split at h <;> cases h; simp
        · split at h <;> cases h; simp
        · cases h
      case len =>
        split at h
        · obtain ⟨z, hz, e⟩ := omap h; cases e; simp
        · cases h
      case max =>
        split at h
        · obtain ⟨z, hz, e⟩ := omap h; cases e; simp
        · cases h
      case min =>
        split at h
        · obtain ⟨z, hz, e⟩ := omap h; cases e; simp
        · cases h
    · cases h
  case pick => split at h <;> cases h; simp
  case makeMap => split at h <;> cases h; simp
  case nilCheck =>
    split at h <;> (try (cases h; done)) <;> first
      | (cases h; simp)
      | (split at h <;> cases h; simp)
  case makeFunc =>
    split at h
    · split at h
      · cases h; simp
      · split at h <;> cases h; simp
    · split at h
      · split at h <;> cases h; simp
      · cases h
    · cases h
  case makeInterface =>
    split at h
    · split at h <;> cases h; simp
    · cases h
  case move => cases h; simp
  case assign => cases h; simp
  all_goals
    obtain ⟨z, hz, e⟩ := omap h
    cases e
    simp

/-- What an operation that runs comes to, and that this is sound. -/
theorem opRun_sound {P : Program} {C : CallP} (hC : C.Sound P) {o : Oper} {s : St} {slot : Nat} {K : D → List (Nat × Blk) → List (Nat × Blk) → Prop} (h : opRun P C o s slot K) :
    ∃ d wr rd sl, K d wr rd ∧ OpS P o s.ev rd sl d wr ∧ (∀ p, p ∈ rd → hget s.H p.1 = some p.2) ∧ (∀ b, b ∈ sl → slot ≤ b ∧ b < slot + nslots o.op) := by
  have hop : (∀ c, o.op = .call c → (∃ b, c.callee = .builtin b)) → bnd (aop P o s.ev (hget s.H) slot) K →
      ∃ d wr rd sl, K d wr rd ∧ OpS P o s.ev rd sl d wr ∧ (∀ p, p ∈ rd → hget s.H p.1 = some p.2) ∧ (∀ b, b ∈ sl → slot ≤ b ∧ b < slot + nslots o.op) := by
    intro hnc h
    unfold bnd at h
    split at h
    · rename_i d wr rd ha
      refine ⟨d, wr, rd, slotL o slot, h, aop_sound ha, aop_rd ha, fun b hb => ?_⟩
      unfold slotL at hb
      split at hb
      · rename_i hal
        obtain rfl : b = slot := by simpa using hb
        refine ⟨Nat.le_refl _, ?_⟩
        unfold nslots
        split
        · rename_i c hc
          split
          · rename_i x hx; obtain ⟨b, hb⟩ := hnc c hc; rw [hx] at hb; cases hb
          · rename_i x m hx; obtain ⟨b, hb⟩ := hnc c hc; rw [hx] at hb; cases hb
          · rw [if_pos hal]; omega
        · rw [if_pos hal]; omega
      · simp at hb
    · exact h.elim
  unfold opRun at h
  cases hcal : callOf o.op with
  | none =>
    rw [hcal, brC_none] at h
    exact hop (fun c hc => by cases hx : c.callee <;> simp [hc, callOf, hx] at hcal ⊢) h
  | some q =>
    obtain ⟨x, args⟩ := q
    rw [hcal, brC_some] at h
    have fin : ∀ (c : Call) (f : FuncId) (fs caps : List D), o.op = .call c → (∀ b, c.callee ≠ .builtin b) → Leads P c.callee s x f fs caps → C f (fs ++ (c.args.toList.map s.ev ++ caps)) s.H slot K →
        ∃ d wr rd sl, K d wr rd ∧ OpS P o s.ev rd sl d wr ∧ (∀ p, p ∈ rd → hget s.H p.1 = some p.2) ∧ (∀ b, b ∈ sl → slot ≤ b ∧ b < slot + nslots o.op) := by
      intro c f fs caps hc hnb hl h
      obtain ⟨d, wr, rd, hK, hS, hr⟩ := hC o c x f fs caps s slot K hc hl h
      refine ⟨d, wr, rd, _, hK, hS, hr, fun b hb => ?_⟩
      have h6 : nslots o.op = 12 := by
        simp only [nslots, hc]
        cases hx : c.callee with
        | value y => rfl
        | invoke y m => rfl
        | builtin b => exact absurd hx (hnb b)
      rw [h6]
      simp at hb; omega
    cases ho : o.op <;> rw [ho] at hcal <;> simp only [callOf] at hcal <;> try (cases hcal; done)
    rename_i c
    rw [ho] at h
    cases hx : c.callee with
    | builtin b => simp [hx] at hcal
    | value y =>
      simp only [hx, Option.some.injEq, Prod.mk.injEq] at hcal
      obtain ⟨rfl, rfl⟩ := hcal
      simp only [invOf, hx, callV] at h
      have hnb : ∀ b, c.callee ≠ .builtin b := fun b hb => by rw [hx] at hb; cases hb
      rw [← ho]
      split at h
      · rename_i f caps hf
        exact fin c f [] caps ho hnb (.inl ⟨hx, .inl ⟨hf, rfl⟩⟩) h
      · rename_i f fs hf
        exact fin c f fs [] ho hnb (.inl ⟨hx, .inr (.inl ⟨hf, rfl⟩)⟩) h
      · rename_i t name hf
        split at h
        · rename_i f hm
          exact fin c f [.agg []] [] ho hnb (.inl ⟨hx, .inr (.inr ⟨t, name, hf, hm, rfl, rfl⟩)⟩) h
        · exact h.elim
      · exact h.elim
    | invoke y m =>
      simp only [hx, Option.some.injEq, Prod.mk.injEq] at hcal
      obtain ⟨rfl, rfl⟩ := hcal
      simp only [invOf, hx, callV] at h
      have hnb : ∀ b, c.callee ≠ .builtin b := fun b hb => by rw [hx] at hb; cases hb
      rw [← ho]
      split at h
      · rename_i t hf
        split at h
        · rename_i f hm
          exact fin c f [.agg []] [] ho hnb (.inr ⟨t, m, hx, hf, hm, rfl, rfl⟩) h
        · exact h.elim
      · exact h.elim

theorem wpOpsIn_step {F : Fence} {n : Nat} {P : Program} {ops : Array Oper} {Q : Exit → Act → World → Prop} {i : Nat} {rest : List Nat} {a : Act} {w : World} {o : Oper} (ho : ops[i]? = some o) :
    wpOpsIn F n P ops Q (i :: rest) a w = if Region.wanted o (yielded ops a.tmps) then o.wpIn F n P a w (wpOpsIn F n P ops Q rest) Q else (∀ f, o.about P w a.eval = some f → F.fn f) ∧ wpOpsIn F n P ops Q rest (a.put o.dst undef) w := by
  simp [wpOpsIn, ho]

/-- The operations of a region, in the order of the text. -/
theorem runOps_sound {ro : Option Nat} {P : Program} {C : CallP} (hC : C.Sound P) {k base : Nat} {O : Nat → Prop} (ops : Array Oper) (QA : St → Prop) (Q : Exit → Act → World → Prop) (E0 : Env) (w0 : World)
    (hQ : ∀ E s a w, SR k base O E s a w → FrK k E0 w0 E w → QA s → Q .normal a w) (l : List Oper) :
    ∀ (i slot : Nat) (s : St) (E : Env) (a : Act) (w : World), ops.toList.drop i = l → SR k base O E s a w → FrK k E0 w0 E w → (∀ b, slot ≤ b → E b = none) → runOps P C ops l slot s QA →
      wpOpsIn (Fw ro) 0 P ops Q ((List.range ops.size).drop i) a w := by
  induction l with
  | nil =>
    intro i slot s E a w hl hS hF hfree h
    have : ops.size ≤ i := by
      have := congrArg List.length hl
      simp at this; omega
    rw [List.drop_eq_nil_of_le (by simp; exact this)]
    exact hQ E s a w hS hF h
  | cons o l ih =>
    intro i slot s E a w hl hS hF hfree h
    have hi : i < ops.size := by
      have := congrArg List.length hl
      simp at this; omega
    have ho : ops[i]? = some o := by
      have h1 : (ops.toList.drop i)[0]? = some o := by rw [hl]; rfl
      rw [List.getElem?_drop, Nat.add_zero, Array.getElem?_toList] at h1
      exact h1
    have hl' : ops.toList.drop (i + 1) = l := by
      rw [← List.drop_drop, hl]; rfl
    rw [List.drop_eq_getElem_cons (by simpa using hi)]
    simp only [List.getElem_range]
    rw [wpOpsIn_step ho]
    simp only [runOps, wnt, mark_eq] at h
    cases hw : wantedA ops o s with
    | none => simp [hw] at h
    | some b =>
      have hwr := wantedA_rel hS hw
      rw [hwr]
      cases b with
      | false =>
        simp only [hw] at h
        simp only [Bool.false_eq_true, if_false]
        exact ⟨fun _ _ => trivial, ih (i + 1) _ _ E _ w hl' (hS.put o.dst mkUndef) hF (fun b hb => hfree b (by omega)) h⟩
      | true =>
        simp only [hw] at h
        simp only [if_true]
        obtain ⟨d, wr, rd, sl, hK, hSop, hrd, hsl⟩ := opRun_sound hC h
        refine hSop O E s.H a w (fun x _ => hS.ev x) hS.wr (fun n hn => hS.up n (Nat.le_trans hS.hbase hn)) hrd (fun b hb => hfree b (hsl b hb).1) ro _ _ ?_
        intro v' w' E' r1 r2 r3 r4 r5
        refine ih (i + 1) _ _ E' _ w' hl' ?_ (hF.trans (FrK.of r3 r4)) (fun b hb => ?_) hK
        · have h1 := hS.step r3 r4 r2
          have h2 := h1.put o.dst r1
          cases hd : o.dst <;> simp only [hd, St.put, St.after] at h2 ⊢ <;> exact h2
        · refine r5 b (fun hb' => ?_) (hfree b (by omega))
          obtain ⟨e, hpos⟩ := hsl b hb'
          omega

end Go.AH

/- Regions whose order Go leaves open: the order of the text stands for every order, if what is unordered does not meet. -/
import Derived.Test.YtmhkanhgmfolhaaGreatAhO
set_option linter.unusedSimpArgs false
set_option linter.unusedVariables false
namespace Go.AH

abbrev Foot := List Nat × List Nat

def runD (P : Program) (C : CallP) (ops : Array Oper) : List Oper → Nat → St → List Foot → (St → List Foot → Prop) → Prop
  | [], _, s, acc, Q => Q (mark s) acc.reverse
  | o :: rest, slot, s, acc, Q => wnt (wantedA ops o s)
    (fun _ => runD P C ops rest (slot + nslots o.op) (mark (s.after o.dst (.tup []) [])) (([], []) :: acc) Q)
    (fun _ => opRun P C o (mark s) slot fun d wr rd => runD P C ops rest (slot + nslots o.op) (mark (s.after o.dst d wr)) ((rd.map (·.1), wr.map (·.1)) :: acc) Q)

/-- The operations that are before another one in every order. -/
def tbl : List Oper → List (List Nat) → List (List Nat)
  | [], acc => acc
  | o :: rest, acc => tbl rest (acc ++ [((o.after.toList.filter (Region.binds .any)).flatMap fun e => e.on :: (acc[e.on]?).getD []).eraseDups])

def meet (a b : List Nat) : Bool := a.any fun x => b.contains x

def clash (ops : Array Oper) (x y : Oper) (f g : Foot) : Bool :=
  (match x.dst with
   | some d => (y.looksAt ops).contains d || y.dst == some d
   | none => false) ||
  (match y.dst with
   | some d => (x.looksAt ops).contains d
   | none => false) ||
  meet f.2 g.1 || meet f.2 g.2 || meet f.1 g.2

def drawOK (ops : Array Oper) (fs : List Foot) : Bool :=
  let t := tbl ops.toList []
  ((List.range ops.size).all fun j => match ops[j]? with
    | some y => ((y.after.toList.filter (Region.binds .any)).all fun e => decide (e.on < j)) &&
      ((List.range j).all fun i => match ops[i]?, fs[i]?, fs[j]? with
        | some x, some f, some g => !clash ops x y f g || ((t[j]?).getD []).contains i
        | _, _, _ => false)
    | none => false)

structure Ent where
  dst : Option Tmp
  d : D
  wr : List (Nat × Blk)
  rd : List (Nat × Blk)
  sl : List Nat
  slot : Nat

def Ent.foot (e : Ent) : Foot := (e.rd.map (·.1), e.wr.map (·.1))

/-- The state behind those entries for which `p` holds. -/
def stP (p : Nat → Bool) : Nat → List Ent → St → St
  | _, [], s => s
  | i, e :: l, s => stP p (i + 1) l (if p i = true then s.after e.dst e.d e.wr else s)

def EntOK (P : Program) (ops : Array Oper) (o : Oper) (s : St) (e : Ent) : Prop :=
  e.dst = o.dst ∧ ((wantedA ops o s = some false ∧ e.d = .tup [] ∧ e.wr = [] ∧ e.rd = [] ∧ e.sl = []) ∨
    (wantedA ops o s = some true ∧ OpS P o s.ev e.rd e.sl e.d e.wr ∧ (∀ p, p ∈ e.rd → hget s.H p.1 = some p.2) ∧ (∀ b, b ∈ e.sl → e.slot ≤ b ∧ b < e.slot + nslots o.op)))

/-- A run in the order of the text, as a list. -/
inductive Trace (P : Program) (ops : Array Oper) : List Oper → Nat → St → List Ent → St → Prop where
  | nil (slot : Nat) (s : St) : Trace P ops [] slot s [] s
  | cons (o : Oper) (l : List Oper) (slot : Nat) (s : St) (e : Ent) (es : List Ent) (s' : St) (he : EntOK P ops o s e) (hs : e.slot = slot)
      (h : Trace P ops l (slot + nslots o.op) (s.after e.dst e.d e.wr) es s') : Trace P ops (o :: l) slot s (e :: es) s'

theorem runD_trace {P : Program} {C : CallP} (hC : C.Sound P) {ops : Array Oper} (l : List Oper) : ∀ (slot : Nat) (s : St) (acc : List Foot) (Q : St → List Foot → Prop), runD P C ops l slot s acc Q →
    ∃ es s', Trace P ops l slot s es s' ∧ Q s' (acc.reverse ++ es.map Ent.foot) := by
  induction l with
  | nil => intro slot s acc Q h; exact ⟨[], s, .nil slot s, by simpa [runD, mark_eq] using h⟩
  | cons o l ih =>
    intro slot s acc Q h
    simp only [runD, wnt, mark_eq] at h
    cases hw : wantedA ops o s with
    | none => simp [hw] at h
    | some b =>
      cases b with
      | false =>
        simp only [hw] at h
        obtain ⟨es, s', ht, hq⟩ := ih _ _ _ Q h
        refine ⟨⟨o.dst, .tup [], [], [], [], slot⟩ :: es, s', .cons o l slot s _ es s' ⟨rfl, .inl ⟨hw, rfl, rfl, rfl, rfl⟩⟩ rfl ht, ?_⟩
        simpa [Ent.foot] using hq
      | true =>
        simp only [hw] at h
        obtain ⟨d, wr, rd, sl, hK, hS, hrd, hsl⟩ := opRun_sound hC h
        obtain ⟨es, s', ht, hq⟩ := ih _ _ _ Q hK
        refine ⟨⟨o.dst, d, wr, rd, sl, slot⟩ :: es, s', .cons o l slot s _ es s' ⟨rfl, .inr ⟨hw, hS, hrd, hsl⟩⟩ rfl ht, ?_⟩
        simpa [Ent.foot] using hq

theorem Trace.stP {P : Program} {ops : Array Oper} {l : List Oper} {slot : Nat} {s s' : St} {es : List Ent} (h : Trace P ops l slot s es s') : ∀ i, AH.stP (fun _ => true) i es s = s' := by
  induction h with
  | nil => intro i; rfl
  | cons o l slot s e es s' he hs h ih => intro i; simp only [AH.stP, if_true]; exact ih (i + 1)

theorem Trace.length {P : Program} {ops : Array Oper} {l : List Oper} {slot : Nat} {s s' : St} {es : List Ent} (h : Trace P ops l slot s es s') : es.length = l.length := by
  induction h with
  | nil => rfl
  | cons o l slot s e es s' he hs h ih => simp [ih]

/-- The entry at a place, and the state ahead of it. -/
theorem Trace.at {P : Program} {ops : Array Oper} {l : List Oper} {slot : Nat} {s s' : St} {es : List Ent} (h : Trace P ops l slot s es s') :
    ∀ (j i : Nat) (o : Oper), l[j]? = some o → ∃ e, es[j]? = some e ∧ slot ≤ e.slot ∧ EntOK P ops o (AH.stP (fun k => decide (k < i + j)) i es s) e := by
  induction h with
  | nil => intro j i o h; simp at h
  | cons o l slot s e es s' he hs h ih =>
    intro j i o' hj
    cases j with
    | zero =>
      simp at hj; subst hj
      refine ⟨e, rfl, by omega, ?_⟩
      have : ∀ (es : List Ent) (q : Nat) (s : St), i ≤ q → AH.stP (fun k => decide (k < i + 0)) q es s = s := by
        intro es
        induction es with
        | nil => intro q s _; rfl
        | cons e es ih =>
          intro q s hq
          simp only [AH.stP]
          rw [if_neg (by simp; omega)]
          exact ih (q + 1) s (by omega)
      rw [this _ i s (Nat.le_refl _)]
      exact he
    | succ j =>
      obtain ⟨e', h1, h2, h3⟩ := ih j (i + 1) o' (by simpa using hj)
      refine ⟨e', by simpa using h1, by omega, ?_⟩
      simp only [AH.stP]
      rw [if_pos (by simp)]
      have : (fun k => decide (k < i + 1 + j)) = (fun k => decide (k < i + (j + 1))) := by funext k; congr 2; omega
      rw [← this]
      exact h3

/-- The slots of two operations that take one are not the same. -/
theorem Trace.slots {P : Program} {ops : Array Oper} {l : List Oper} {slot : Nat} {s s' : St} {es : List Ent} (h : Trace P ops l slot s es s') :
    ∀ (i j : Nat) (e e' : Ent), i < j → es[i]? = some e → es[j]? = some e' → ∀ b, b ∈ e.sl → e.slot ≤ b ∧ b < e'.slot := by
  induction h with
  | nil => intro i j e e' _ h; simp at h
  | cons o l slot s e0 es s' he hs h ih =>
    intro i j e e' hlt hi hj b hb
    cases j with
    | zero => omega
    | succ j =>
      cases i with
      | succ i => exact ih i j e e' (by omega) (by simpa using hi) (by simpa using hj) b hb
      | zero =>
        simp at hi; subst hi
        have hpos : e0.slot ≤ b ∧ b < e0.slot + nslots o.op := by
          rcases he.2 with ⟨_, _, _, _, h5⟩ | ⟨_, _, _, h4⟩
          · rw [h5] at hb; simp at hb
          · exact h4 b hb
        have hl := h.length
        have hj' : es[j]? = some e' := by simpa using hj
        have hjl : j < l.length := by rw [← hl]; exact some_lt hj'
        obtain ⟨e2, q1, q2, _⟩ := h.at j 0 l[j] (List.getElem?_eq_getElem hjl)
        rw [hj'] at q1; cases q1
        omega

/-! ### States behind some of the entries -/
def Same (s s' : St) : Prop := s.n = s'.n ∧ (∀ t, lk s.tm t = lk s'.tm t) ∧ (∀ b, hget s.H b = hget s'.H b)

theorem SR.same {k base : Nat} {O : Nat → Prop} {E : Env} {s s' : St} {a : Act} {w : World} (h : SR k base O E s a w) (hs : Same s s') : SR k base O E s' a w := by
  obtain ⟨h1, h2, h3⟩ := hs
  refine ⟨⟨fun b bi hb => ?_, fun b rows hg => h.wr.live b rows (by rw [h3]; exact hg), h.wr.inj, h.wr.sc⟩, h.defers, by rw [← h1]; exact h.size, fun t v hv => by rw [← h2]; exact h.tm t v hv, h.hbase, h.up, h.own⟩
  obtain ⟨rows, c, el, g1, r⟩ := h.wr.blk b bi hb
  exact ⟨rows, c, el, by rw [← h3]; exact g1, r⟩

theorem after_n (s : St) (dst : Option Tmp) (d : D) (wr : List (Nat × Blk)) : (s.after dst d wr).n = s.n := rfl
theorem after_lk (s : St) (dst : Option Tmp) (d : D) (wr : List (Nat × Blk)) (t : Nat) : lk (s.after dst d wr).tm t = if dst = some t then d else lk s.tm t := by
  cases dst with
  | none => simp [St.after, St.put]
  | some q =>
    simp only [St.after, St.put, lk]
    by_cases e : q = t
    · subst e; simp
    · rw [if_neg e, if_neg (by simpa using e)]

theorem hget_hput_same (wr : List (Nat × Blk)) : ∀ (H H' : Heap) (b : Nat), (b ∉ wr.map (·.1) → hget H b = hget H' b) → hget (hput H wr) b = hget (hput H' wr) b := by
  induction wr with
  | nil => intro H H' b h; exact h (by simp)
  | cons p wr ih =>
    intro H H' b h
    show hget (hput (hset H p.1 p.2) wr) b = hget (hput (hset H' p.1 p.2) wr) b
    refine ih _ _ b fun hb => ?_
    rw [hget_hset, hget_hset]
    by_cases e : b = p.1
    · rw [if_pos e, if_pos e]
    · rw [if_neg e, if_neg e]
      exact h (by simp; exact ⟨fun q => e (by rw [q]), fun x hx => hb (by simp; exact ⟨x, hx⟩)⟩)

theorem hget_hput_not (wr : List (Nat × Blk)) : ∀ (H : Heap) (b : Nat), b ∉ wr.map (·.1) → hget (hput H wr) b = hget H b := by
  induction wr with
  | nil => intro H b _; rfl
  | cons p wr ih =>
    intro H b hb
    show hget (hput (hset H p.1 p.2) wr) b = hget H b
    simp only [List.map_cons, List.mem_cons, not_or] at hb
    rw [ih _ b hb.2, hget_hset, if_neg hb.1]

theorem stP_n (p : Nat → Bool) : ∀ (es : List Ent) (i : Nat) (s : St), (stP p i es s).n = s.n
  | [], i, s => rfl
  | e :: es, i, s => by
    simp only [stP]
    rw [stP_n p es]
    split <;> rfl

theorem stP_lk (p q : Nat → Bool) (t : Nat) : ∀ (es : List Ent) (i : Nat) (s s' : St), lk s.tm t = lk s'.tm t → (∀ (j : Nat) (e : Ent), es[j]? = some e → e.dst = some t → p (i + j) = q (i + j)) →
    lk (stP p i es s).tm t = lk (stP q i es s').tm t
  | [], i, s, s', h, _ => h
  | e :: es, i, s, s', h, hpq => by
    simp only [stP]
    refine stP_lk p q t es (i + 1) _ _ ?_ (fun j e' hj hd => by
      have := hpq (j + 1) e' (by simpa using hj) hd
      rw [show i + 1 + j = i + (j + 1) from by omega]; exact this)
    have h0 := hpq 0 e rfl
    simp only [Nat.add_zero] at h0
    by_cases hd : e.dst = some t
    · rw [h0 hd]
      split
      · rw [after_lk, after_lk, if_pos hd, if_pos hd]
      · exact h
    · have h1 : ∀ b : Bool, ∀ s : St, lk (if b = true then s.after e.dst e.d e.wr else s).tm t = lk s.tm t := by
        intro b s
        cases b
        · rfl
        · simp only [if_true]; rw [after_lk, if_neg hd]
      rw [h1, h1]; exact h

theorem stP_hget (p q : Nat → Bool) (b : Nat) : ∀ (es : List Ent) (i : Nat) (s s' : St), hget s.H b = hget s'.H b → (∀ (j : Nat) (e : Ent), es[j]? = some e → b ∈ e.wr.map (·.1) → p (i + j) = q (i + j)) →
    hget (stP p i es s).H b = hget (stP q i es s').H b
  | [], i, s, s', h, _ => h
  | e :: es, i, s, s', h, hpq => by
    simp only [stP]
    refine stP_hget p q b es (i + 1) _ _ ?_ (fun j e' hj hd => by
      have := hpq (j + 1) e' (by simpa using hj) hd
      rw [show i + 1 + j = i + (j + 1) from by omega]; exact this)
    have h0 := hpq 0 e rfl
    simp only [Nat.add_zero] at h0
    by_cases hd : b ∈ e.wr.map (·.1)
    · rw [h0 hd]
      split
      · exact hget_hput_same e.wr _ _ b (fun hb => absurd hd hb)
      · exact h
    · have h1 : ∀ (x : Bool) (s : St), hget (if x = true then s.after e.dst e.d e.wr else s).H b = hget s.H b := by
        intro x s
        cases x
        · rfl
        · simp only [if_true]; exact hget_hput_not e.wr _ b hd
      rw [h1, h1]; exact h

theorem stP_step (p : Nat → Bool) (m : Nat) : ∀ (es : List Ent) (i : Nat) (s : St) (e : Ent), es[m]? = some e → (∀ k, i ≤ k → p k = true → k ≤ i + m) → p (i + m) = true →
    stP p i es s = (stP (fun k => p k && decide (k < i + m)) i es s).after e.dst e.d e.wr := by
  have tail : ∀ (es : List Ent) (i : Nat) (p : Nat → Bool) (s : St), (∀ k, i ≤ k → p k = false) → stP p i es s = s := by
    intro es
    induction es with
    | nil => intro i p s _; rfl
    | cons e es ih =>
      intro i p s h
      simp only [stP]
      rw [if_neg (by rw [h i (Nat.le_refl _)]; simp)]
      exact ih (i + 1) p s fun k hk => h k (by omega)
  induction m with
  | zero =>
    intro es i s e he hp hpm
    cases es with
    | nil => simp at he
    | cons e0 es =>
      simp at he; subst he
      simp only [stP, Nat.add_zero] at hpm ⊢
      rw [if_pos hpm, if_neg (by simp)]
      rw [tail es (i + 1) p _ (fun k hk => by
        cases hpk : p k with
        | false => rfl
        | true => have := hp k (by omega) hpk; omega)]
      rw [tail es (i + 1) _ s (fun k hk => by simp; omega)]
  | succ m ih =>
    intro es i s e he hp hpm
    cases es with
    | nil => simp at he
    | cons e0 es =>
      simp at he
      have := ih es (i + 1) (if p i = true then s.after e0.dst e0.d e0.wr else s) e he (fun k hk hpk => by have := hp k (by omega) hpk; omega) (by rw [show i + 1 + m = i + (m + 1) from by omega]; exact hpm)
      simp only [stP]
      rw [this]
      have e1 : (fun k => p k && decide (k < i + 1 + m)) = (fun k => p k && decide (k < i + (m + 1))) := by funext k; congr 2; congr 1; omega
      rw [e1]
      simp only [show decide (i < i + (m + 1)) = true from by simp, Bool.and_true]

end Go.AH

/- Loops over functions: the function that is ranged over is walked in the memory of the loop's own frame; a call of yield is a round of the loop's body. -/
import Derived.Test.YtmhkanhgmfolhaaGreatAhT
import Derived.RangeFuncFrom
set_option linter.unusedSimpArgs false
set_option linter.unusedVariables false
namespace Go.AH

/-- The jump that a round leaves behind. -/
def jumpOf : Exit → Option (Option Code)
  | .normal => some none
  | .ret => some (some .ret)
  | .exit id => some (some (.exit id))
  | _ => none

/-- A round of a loop over a function: the assignment to its variables, then its body. -/
def roundA (P : Program) (s0 : St) (ps : Array Tmp) (assign body : Code) (args : List D) (H : Heap) (K : Heap → Option Code → Prop) : Prop :=
  args.length = ps.size ∧ AW P true H.length assign (fun e s1 => e = .normal ∧ AW P true s1.H.length body (fun e2 s2 => ∃ j, jumpOf e2 = some j ∧ K s2.H j) s1) ⟨s0.n, (ps.toList.zip args).reverse ++ s0.tm, H⟩

/-- The loop that a function's frame is to serve. -/
structure RC where
  P : Program
  k : Nat
  s0 : St
  ps : Array Tmp
  assign : Code
  body : Code

/-- The loop's own frame, and the world at its beginning. -/
structure XC where
  fn : FuncId
  tmps : Array Value
  base : Nat
  O : Nat → Prop
  E0 : Env
  w0 : World

def XC.l (X : XC) : Nat := X.w0.heap.size + 1
def XC.lp (R : RC) (X : XC) (j : Option Code) : Loop :=
  { state := if j.isNone then .ready else .done, pending := j, fn := X.fn, tmps := X.tmps, params := R.ps, assign := R.assign, body := R.body, defers := X.w0.heap.size }

structure IOK (R : RC) (X : XC) (s : St) (j : Option Code) (E : Env) (a : Act) (w : World) : Prop where
  sr : SR R.k X.base X.O E s a w
  df : a.defers = []
  yl : a.tmps[0]? = some (.func (.yield X.l) #[] #[])
  sz : X.tmps.size = R.s0.n
  tm0 : ∀ (t : Nat) (v : Value), X.tmps[t]? = some v → RelE X.O E w (lk R.s0.tm t) v
  rc : w.heap[X.l]? = some (.loop (X.lp R j))
  dfr : w.heap[X.w0.heap.size]? = some (.deferred (some []))
  outl : E.Out X.l
  outD : E.Out X.w0.heap.size
  fr : Fr All X.E0 X.w0 E w
  nw : OwnNew X.w0 X.E0 E

theorem OwnNew.trans {w w1 : World} {E E1 E2 : Env} (hs : w.heap.size ≤ w1.heap.size) (h : OwnNew w E E1) (g : OwnNew w1 E1 E2) : OwnNew w E E2 := fun b bi' hE => by
  rcases g b bi' hE with h1 | ⟨bi1, h1, e1⟩
  · exact .inl (by omega)
  · rcases h b bi1 h1 with h2 | ⟨bi, h2, e2⟩
    · exact .inl (by omega)
    · exact .inr ⟨bi, h2, by omega⟩

/-- A step of the frame's own: nothing of the loop turns. -/
theorem IOK.step {R : RC} {X : XC} {s s' : St} {j : Option Code} {E E' : Env} {a a' : Act} {w w' : World} (h : IOK R X s j E a w) (hf : Fr All E w E' w') (hn : OwnNew w E E')
    (hs : SR R.k X.base X.O E' s' a' w') (hd : a'.defers = []) (hy : a'.tmps[0]? = a.tmps[0]?) : IOK R X s' j E' a' w' where
  sr := hs
  df := hd
  yl := by rw [hy]; exact h.yl
  sz := h.sz
  tm0 := fun t v hv => (h.tm0 t v hv).mono hf
  rc := by
    rw [(hf.out _ (Array.getElem?_eq_some_iff.1 h.rc).1 h.outl).1]; exact h.rc
  dfr := by
    rw [(hf.out _ (Array.getElem?_eq_some_iff.1 h.dfr).1 h.outD).1]; exact h.dfr
  outl := (hf.out _ (Array.getElem?_eq_some_iff.1 h.rc).1 h.outl).2
  outD := (hf.out _ (Array.getElem?_eq_some_iff.1 h.dfr).1 h.outD).2
  fr := h.fr.trans hf
  nw := h.nw.trans h.fr.size hn

/-- What code of the function that is ranged over comes to. -/
def AWI (R : RC) (c : Code) (Q : Exit → St → Option Code → Prop) (s : St) (j : Option Code) : Prop :=
  ∀ (X : XC) (E : Env) (a : Act) (w : World), IOK R X s j E a w → c.wpIn (Fw none) 0 R.P (fun e a' w' => ∃ E' s' j', Q e s' j' ∧ IOK R X s' j' E' a' w') a w

section
variable {R : RC} {Q : Exit → St → Option Code → Prop} {s : St} {j : Option Code}

theorem AWI.mono {c : Code} {Q' : Exit → St → Option Code → Prop} (h : AWI R c Q s j) (hq : ∀ e s j, Q e s j → Q' e s j) : AWI R c Q' s j :=
  fun X E a w hI => wpIn_mono (h X E a w hI) fun e a' w' ⟨E', s', j', q, r⟩ => ⟨E', s', j', hq _ _ _ q, r⟩

theorem AWI.skip (h : Q .normal s j) : AWI R .skip Q s j := fun X E a w hI => wpIn_skip ⟨E, s, j, h, hI⟩
theorem AWI.ret (h : Q .ret s j) : AWI R .ret Q s j := fun X E a w hI => wpIn_ret ⟨E, s, j, h, hI⟩
theorem AWI.exit {id : Nat} (h : Q (.exit id) s j) : AWI R (.exit id) Q s j := fun X E a w hI => wpIn_exit ⟨E, s, j, h, hI⟩

theorem AWI.seq {x y : Code} (h : AWI R x (fun e s1 j1 => match e with | .normal => AWI R y Q s1 j1 | e => Q e s1 j1) s j) : AWI R (.seq x y) Q s j := by
  intro X E a w hI
  refine wpIn_seq (wpIn_mono (h X E a w hI) ?_)
  rintro e a1 w1 ⟨E1, s1, j1, q, hI1⟩
  cases e with
  | normal => exact q X E1 a1 w1 hI1
  | _ => exact ⟨E1, s1, j1, q, hI1⟩

theorem AWI.cond {c : Operand} {x y : Code} {b : Bool} (hc : s.ev c = .bool b) (ht : b = true → AWI R x Q s j) (hf : b = false → AWI R y Q s j) : AWI R (.cond c x y) Q s j := by
  intro X E a w hI
  have hr := hI.sr.ev c
  rw [hc] at hr
  exact wpIn_cond_split (rel_bool hr) (fun e => ht e X E a w hI) (fun e => hf e X E a w hI)

theorem AWI.block {id : Nat} {x : Code} (h : AWI R x (fun e s1 j1 => match e with | .exit id' => (id' = id → Q .normal s1 j1) ∧ (id' ≠ id → Q (.exit id') s1 j1) | e => Q e s1 j1) s j) : AWI R (.block id x) Q s j := by
  intro X E a w hI
  refine wpIn_block (wpIn_mono (h X E a w hI) ?_)
  rintro e a1 w1 ⟨E1, s1, j1, q, hI1⟩
  cases e with
  | exit id' =>
    simp only [Exit.inBlock]
    split
    · rename_i e; exact ⟨E1, s1, j1, q.1 e, hI1⟩
    · rename_i e; exact ⟨E1, s1, j1, q.2 e, hI1⟩
  | _ => exact ⟨E1, s1, j1, q, hI1⟩

/-- The same world seen as another state: temporaries alone. -/
def SameTm (s s' : St) : Prop := s'.n = s.n ∧ s'.H = s.H ∧ ∀ t, lk s'.tm t = lk s.tm t ∨ lk s'.tm t = .un

theorem IOK.same {X : XC} {s' : St} {E : Env} {a : Act} {w : World} (h : IOK R X s j E a w) (hs : SameTm s s') : IOK R X s' j E a w :=
  { h with sr := ⟨by rw [hs.2.1]; exact h.sr.wr, h.sr.defers, by rw [hs.1]; exact h.sr.size, fun t v hv => by
      rcases hs.2.2 t with e | e
      · rw [e]; exact h.sr.tm t v hv
      · rw [e]; exact .pur _ _ (.un _), h.sr.hbase, h.sr.up, h.sr.own⟩ }

theorem AWI.loop {c : Code} (I : Nat → St → Option Code → Prop)
    (round : ∀ n s j, I n s j → AWI R c (fun e s1 j1 => match e with | .normal => ∃ m s2, m < n ∧ SameTm s1 s2 ∧ I m s2 j1 | e => Q e s1 j1) s j) {n : Nat} (h : I n s j) : AWI R (.loop c) Q s j := by
  intro X E0 a0 w0 hI0 b kk cs hrb hfb hroom
  have key : ∀ n s j, I n s j → ∀ E a w, IOK R X s j E a w →
      ∃ e a' w', (∃ E' s' j', Q e s' j' ∧ IOK R X s' j' E' a' w') ∧ ArrivesIn (Machine.fenced R.P (Fw none)) R.P (lone (b.atR a (.code c :: .inLoop c :: kk)) cs w) b kk cs e a' w' := by
    intro n
    induction n using Nat.strongRecOn with
    | _ n ih =>
      intro s j hI E a w hO
      obtain ⟨e, a1, w1, ⟨E1, s1, j1, q, hO1⟩, harr⟩ := round n s j hI X E a w hO b (.inLoop c :: kk) cs hrb hfb hroom
      cases e with
      | normal =>
        obtain ⟨m, s2, hlt, hs, hI2⟩ := q
        obtain ⟨e3, a3, w3, hq3, harr3⟩ := ih m hlt s2 j1 hI2 E1 a1 w1 (hO1.same hs)
        exact ⟨e3, a3, w3, hq3, .of_steps (StepsIn.trans harr (.one (fenced_calm hfb hroom rfl) stepR_inLoop)) harr3⟩
      | exit id => exact ⟨_, a1, w1, ⟨E1, s1, j1, q, hO1⟩, .pass (x := .inLoop c) rfl (fun _ _ => .inl (by simp)) harr⟩
      | goto l => exact ⟨_, a1, w1, ⟨E1, s1, j1, q, hO1⟩, .pass (x := .inLoop c) rfl (fun _ _ => .inl (by simp)) harr⟩
      | ret => exact ⟨_, a1, w1, ⟨E1, s1, j1, q, hO1⟩, .pass (x := .inLoop c) rfl (fun _ _ => .inl (by simp)) harr⟩
      | panic ch => exact ⟨_, a1, w1, ⟨E1, s1, j1, q, hO1⟩, .pass (x := .inLoop c) rfl (fun _ _ => .inl (by simp)) harr⟩
      | outgrown => exact ⟨_, a1, w1, ⟨E1, s1, j1, q, hO1⟩, .pass (x := .inLoop c) rfl (fun _ _ => .inl (by simp)) harr⟩
  obtain ⟨e, a', w', hq, harr⟩ := key n s j h E0 a0 w0 hI0
  exact ⟨e, a', w', hq, .of_steps (.one (fenced_calm hfb hroom rfl) stepR_loop) harr⟩
end

/-! ### Rounds -/
theorem size_foldl_set (l : List (Tmp × Value)) : ∀ a : Array Value, (l.foldl (fun t (p, v) => t.setIfInBounds p v) a).size = a.size := by
  induction l with
  | nil => intro a; rfl
  | cons x l ih => intro a; simp only [List.foldl_cons]; rw [ih]; simp

/-- Temporaries that are set one after the other. -/
theorem foldl_set_rel {O : Nat → Prop} {E : Env} {w : World} : ∀ (ps : List Tmp) (args : List D) (vs : List Value) (tm : List (Nat × D)) (a : Array Value), RelL O E w args vs → args.length = ps.length →
    (∀ (t : Nat) (v : Value), a[t]? = some v → RelE O E w (lk tm t) v) → ∀ (t : Nat) (v : Value), ((ps.zip vs).foldl (fun t (p, v) => t.setIfInBounds p v) a)[t]? = some v → RelE O E w (lk ((ps.zip args).reverse ++ tm) t) v
  | [], args, vs, tm, a, _, hl, h => by
    have : args = [] := List.eq_nil_of_length_eq_zero (by simpa using hl)
    subst this
    simpa using h
  | p :: ps, [], vs, tm, a, _, hl, h => by simp at hl
  | p :: ps, d :: args, vs, tm, a, hL, hl, h => by
    obtain ⟨v, us, rfl, hd, hL'⟩ := hL.head
    simp only [List.zip_cons_cons, List.foldl_cons, List.reverse_cons, List.append_assoc, List.singleton_append]
    refine foldl_set_rel ps args us ((p, d) :: tm) (a.setIfInBounds p v) hL' (by simpa using hl) ?_
    intro t u hu
    rw [Array.getElem?_setIfInBounds] at hu
    simp only [lk]
    by_cases e : p = t
    · subst e
      rw [if_pos rfl] at hu ⊢
      split at hu
      · cases hu; exact hd
      · cases hu
    · rw [if_neg e] at hu ⊢
      exact h t u hu

/-- The arguments of a call of yield, which lies in the temporaries `Y`. -/
def yieldOf (Y : List Nat) : Op → Option (Array Operand)
  | .call c => match c.callee with
    | .value (.tmp t) => if Y.contains t then some c.args else none
    | _ => none
  | _ => none

/-- A move of yield itself. -/
def moveOf (Y : List Nat) (o : Oper) : Option Tmp :=
  match o.op, o.dst with
  | .move (.tmp t), some d => if Y.contains t then some d else none
  | _, _ => none

def rmY (Y : List Nat) (dst : Option Tmp) : List Nat :=
  match dst with
  | none => Y
  | some d => Y.filter (· != d)

/-- Yield lies in the temporaries `Y`. -/
def Ys (l : Nat) (Y : List Nat) (a : Act) : Prop := ∀ t, t ∈ Y → a.tmps[t]? = some (.func (.yield l) #[] #[])

theorem Ys.rm {l : Nat} {Y : List Nat} {a : Act} (h : Ys l Y a) (dst : Option Tmp) (v : Value) : Ys l (rmY Y dst) (a.put dst v) := by
  intro t ht
  cases dst with
  | none => exact h t ht
  | some d =>
    simp only [rmY, List.mem_filter, bne_iff_ne] at ht
    simp only [Act.put]
    rw [Array.getElem?_setIfInBounds_ne (fun e => ht.2 e.symm)]
    exact h t ht.1

theorem run_callYield {P : Program} {o : Oper} {c : Call} {a : Act} {w : World} {l t : Nat} (ho : o.op = .call c) (hc : c.callee = .value (.tmp t)) (hy : a.tmps[t]? = some (.func (.yield l) #[] #[])) :
    (execOp a.eval o).run P w = (Instr.yield l (c.args.map a.eval)).run P w := by
  have hx : a.eval (.tmp t) = .func (.yield l) #[] #[] := by
    simp only [Act.eval, Array.getD_eq_getD_getElem?, hy, Option.getD_some]
  simp only [execOp, ho, resolve, hc, hx, Deferred.ofValue, Sem.run_bind, Sem.run_pure, Result.andThen_ok, invoke]
  simp

theorem IOK.busy_round {R : RC} {X : XC} {s : St} {E : Env} {a : Act} {w : World} (h : IOK R X s none E a w) {args : List D} {vs : Array Value} (hvs : RelL X.O E w args vs.toList) {K : Heap → Option Code → Prop}
    (hr : roundA R.P R.s0 R.ps R.assign R.body args s.H K) :
    RoundIn (Fw none) 0 R.P X.l X.fn ((R.ps.zip vs).foldl (fun t (p, v) => t.setIfInBounds p v) X.tmps) R.assign R.body w fun e w' =>
      ∃ H' j' E', K H' j' ∧ e = .returned (.bool j'.isNone) ∧ IOK R X ⟨s.n, s.tm, H'⟩ j' E' a w' := by
  obtain ⟨hlen, hA⟩ := hr
  refine roundIn_of_wpIn (F := Fw none) trivial ?_
  have hps : args.length = R.ps.toList.length := by simpa using hlen
  have hvl : vs.size = R.ps.size := by have := hvs.1; simp at this; omega
  have hfold : ((R.ps.zip vs).foldl (fun t (p, v) => t.setIfInBounds p v) X.tmps) = ((R.ps.toList.zip vs.toList).foldl (fun t (p, v) => t.setIfInBounds p v) X.tmps) := by
    rw [← Array.foldl_toList, Array.toList_zip]
  rw [hfold]
  have hS1 : SR s.H.length w.heap.size X.O E ⟨R.s0.n, (R.ps.toList.zip args).reverse ++ R.s0.tm, s.H⟩ { tmps := (R.ps.toList.zip vs.toList).foldl (fun t (p, v) => t.setIfInBounds p v) X.tmps, defers := [] } w :=
    ⟨h.sr.wr, Marks.nil _ _ _, by simp only; rw [size_foldl_set]; exact h.sz, foldl_set_rel _ _ _ _ _ hvs hps h.tm0, Nat.le_refl _, fun n hn => h.sr.up n (Nat.le_trans h.sr.hbase hn),
      fun b bi hb hE => by rw [h.sr.free b hb] at hE; cases hE⟩
  refine wpIn_mono (hA (some X.l) rfl w.heap.size X.O E _ w hS1) ?_
  rintro e a1 w1 ⟨E1, s1, ⟨rfl, hB⟩, hS1', hF1⟩
  obtain ⟨hl1, ho1⟩ : w1.heap[X.l]? = some (.loop (X.lp R none)) ∧ E1.Out X.l := by
    obtain ⟨q1, q2⟩ := hF1.fr.out X.l (Array.getElem?_eq_some_iff.1 h.rc).1 h.outl
    exact ⟨by rw [q1]; exact h.rc, q2⟩
  have hE1 : ∀ b bi, E1 b = some bi → b < s1.H.length := fun b bi hE => by
    rcases Nat.lt_or_ge b s1.H.length with h1 | h1
    · exact h1
    · rw [hS1'.free b h1] at hE; cases hE
  refine ⟨_, run_beginRound hl1 rfl, ?_⟩
  -- the record is busy
  have t1 : Turn (fun q => q = X.l) w1 (w1.putObj X.l (.loop { X.lp R none with state := .busy })) := Turn.put hl1 rfl
  have hnm : ∀ {E' : Env} {w' w'' : World} {l : List Deferred}, Turn (fun q => q = X.l) w' w'' → w'.heap[X.l]? = some (.loop (X.lp R none)) → Marks w.heap.size E' w' l → Marks w.heap.size E' w'' l := by
    rintro E' w' w'' l t hl ⟨Ds, e, hn, hD⟩
    refine ⟨Ds, e, hn, fun D hD' => ?_⟩
    obtain ⟨q1, q2, q3⟩ := hD D hD'
    exact ⟨by rw [t.oth D (fun e => by subst e; rw [hl] at q1; cases q1)]; exact q1, q2, q3⟩
  have hS2 : SR s1.H.length w.heap.size X.O E1 s1 a1 (w1.putObj X.l (.loop { X.lp R none with state := .busy })) :=
    ⟨hS1'.wr.turn t1, hnm t1 hl1 hS1'.defers, hS1'.size, fun t v hv => (hS1'.tm t v hv).turn t1, by rw [t1.size]; exact hS1'.hbase, hS1'.up, fun b bi hb hE => by have := hE1 b bi hE; omega⟩
  refine wpIn_mono (hB (some X.l) rfl w.heap.size X.O E1 a1 _ hS2) ?_
  rintro e2 a2 w2 ⟨E2, s2, ⟨jj, hj, hK⟩, hS3, hF2⟩
  have hsz1 : (w1.putObj X.l (.loop { X.lp R none with state := .busy })).heap.size = w1.heap.size := t1.size
  have hl2' : (w1.putObj X.l (.loop { X.lp R none with state := .busy })).heap[X.l]? = some (.loop { X.lp R none with state := .busy }) := World.putObj_heap_same (Array.getElem?_eq_some_iff.1 hl1).1
  obtain ⟨hl2, ho2⟩ : w2.heap[X.l]? = some (.loop { X.lp R none with state := .busy }) ∧ E2.Out X.l := by
    obtain ⟨q1, q2⟩ := hF2.fr.out X.l (by rw [hsz1]; exact (Array.getElem?_eq_some_iff.1 hl1).1) ho1
    exact ⟨by rw [q1]; exact hl2', q2⟩
  -- behind the round
  have fin : ∀ jc : Option Code, jc = jj → (Instr.endRound X.l jc).run R.P w2 = .ok (.bool jc.isNone) (w2.putObj X.l (.loop (X.lp R jc))) := fun jc e => by
    have := run_endRound (P := R.P) jc hl2
    rw [this]
    rfl
  have t2 : Turn (fun q => q = X.l) w2 (w2.putObj X.l (.loop (X.lp R jj))) := Turn.put hl2 rfl
  -- the frame relation over the whole round
  have hsz : w.heap.size ≤ w1.heap.size := hF1.fr.size
  have hfr : ∀ q, q < w.heap.size → E.Out q → q ≠ X.l → (w2.putObj X.l (.loop (X.lp R jj))).heap[q]? = w.heap[q]? ∧ E2.Out q := fun q hq ho hne => by
    obtain ⟨q1, q2⟩ := hF1.fr.out q hq ho
    obtain ⟨q3, q4⟩ := hF2.fr.out q (by rw [hsz1]; omega) q2
    exact ⟨by rw [t2.oth q hne, q3, t1.oth q hne, q1], q4⟩
  have hkeep : ∀ b bi, E b = some bi → ∃ bi', E2 b = some bi' ∧ bi'.sz = bi.sz ∧ bi.n ≤ bi'.n ∧ (bi.n = bi'.n → bi'.blk = bi.blk) := fun b bi hE => by
    have hb : b < s.H.length := by
      rcases Nat.lt_or_ge b s.H.length with h1 | h1
      · exact h1
      · rw [h.sr.free b h1] at hE; cases hE
    obtain ⟨b1, g1, g2, g3, g4⟩ := hF1.fr.keep b bi hb hE
    obtain ⟨b2, g5, g6, g7, g8⟩ := hF2.fr.keep b b1 (hE1 b b1 g1) g1
    exact ⟨b2, g5, g6.trans g2, Nat.le_trans g3 g7, fun e => (g8 (by omega)).trans (g4 (by omega))⟩
  have hshape : ∀ (q : Nat) (c : Array Value) (el : TypeId) (fz : Nat × Nat), w.heap[q]? = some (.cells c el fz) → ∃ c' : Array Value, (w2.putObj X.l (.loop (X.lp R jj))).heap[q]? = some (.cells c' el fz) ∧ c'.size = c.size := fun q c el fz hq => by
    obtain ⟨c1, g1, g2⟩ := hF1.fr.shape q c el fz hq
    obtain ⟨c2, g3, g4⟩ := hF2.fr.shape q c1 el fz (t1.cells g1).2
    exact ⟨c2, (t2.cells g3).2, g4.trans g2⟩
  have hos : (w2.putObj X.l (.loop (X.lp R jj))).os = w.os := by rw [t2.os, hF2.fr.os, t1.os, hF1.fr.os]
  have hdrawn : w.drawn ≤ (w2.putObj X.l (.loop (X.lp R jj))).drawn := Nat.le_trans hF1.fr.drawn (Nat.le_trans t1.drawn (Nat.le_trans hF2.fr.drawn t2.drawn))
  have htape : (w2.putObj X.l (.loop (X.lp R jj))).tape = w.tape := by rw [t2.tape, hF2.fr.tape, t1.tape, hF1.fr.tape]
  have hout : (w2.putObj X.l (.loop (X.lp R jj))).output = w.output := by rw [t2.output, hF2.fr.output, t1.output, hF1.fr.output]
  have hsize : w.heap.size ≤ (w2.putObj X.l (.loop (X.lp R jj))).heap.size := by rw [t2.size]; have := hF2.fr.size; rw [hsz1] at this; omega
  have hnew : OwnNew w E E2 := fun b bi' hE => by
    by_cases hb1 : b < s1.H.length
    · rcases hF2.new b bi' hb1 hE with g | ⟨bi1, g1, g2⟩
      · exact .inl (by rw [hsz1] at g; omega)
      · by_cases hb : b < s.H.length
        · rcases hF1.new b bi1 hb g1 with g | ⟨bi, g3, g4⟩
          · exact .inl (by omega)
          · exact .inr ⟨bi, g3, by omega⟩
        · exact .inl (by rw [← g2]; exact hS1'.own b bi1 (by omega) g1)
    · exact .inl (hS3.own b bi' (by omega) hE)
  -- temporaries of other frames read on: what they speak of lies outside the record
  have hmono : ∀ {d : D} {v : Value}, RelE X.O E w d v → RelE X.O E2 (w2.putObj X.l (.loop (X.lp R jj))) d v := fun {d v} hd => by
    have m1 : RelE X.O E1 w1 d v := by
      refine Rel.mono hF1.fr.size (fun q hq hu => ⟨(hF1.fr.out q hq hu.2).1, hu.1, (hF1.fr.out q hq hu.2).2⟩) (fun q hq hu => hF1.fr.out q hq hu) (fun b bi hE => ?_) hF1.fr.shape hd
      have hb : b < s.H.length := by
        rcases Nat.lt_or_ge b s.H.length with h1 | h1
        · exact h1
        · rw [h.sr.free b h1] at hE; cases hE
      exact hF1.fr.keep b bi hb hE
    have m2 := Rel.turn t1 m1
    exact Rel.turn t2 (Rel.mono hF2.fr.size (fun q hq hu => ⟨(hF2.fr.out q hq hu.2).1, hu.1, (hF2.fr.out q hq hu.2).2⟩) (fun q hq hu => hF2.fr.out q hq hu) (fun b bi hE => hF2.fr.keep b bi (hE1 b bi hE) hE) hF2.fr.shape m2)
  refine (?_ : roundPost R.P X.l _ e2 a2 w2)
  have hI : IOK R X ⟨s.n, s.tm, s2.H⟩ jj E2 a (w2.putObj X.l (.loop (X.lp R jj))) := by
    refine ⟨⟨hS3.wr.turn t2, by rw [h.df]; exact Marks.nil _ _ _, h.sr.size, fun t v hv => hmono (h.sr.tm t v hv), Nat.le_trans h.sr.hbase hsize, h.sr.up, fun b bi' hb hE => ?_⟩, h.df, h.yl, h.sz, fun t v hv => hmono (h.tm0 t v hv), ?_, ?_, ho2, ?_, ?_, h.nw.trans h.fr.size hnew⟩
    · rcases hnew b bi' hE with g | ⟨bi, g1, g2⟩
      · exact Nat.le_trans h.sr.hbase g
      · rw [← g2]; exact h.sr.own b bi hb g1
    · exact World.putObj_heap_same (Array.getElem?_eq_some_iff.1 hl2).1
    · have := (hfr X.w0.heap.size (Array.getElem?_eq_some_iff.1 h.dfr).1 h.outD (by unfold XC.l; omega)).1
      rw [this]; exact h.dfr
    · exact (hfr X.w0.heap.size (Array.getElem?_eq_some_iff.1 h.dfr).1 h.outD (by unfold XC.l; omega)).2
    · refine ⟨hos.trans h.fr.os, htape.trans h.fr.tape, hout.trans h.fr.output, Nat.le_trans h.fr.size hsize, fun q hq ho => ?_, fun b bi _ hE => ?_, fun q c el fz hq => ?_, Nat.le_trans h.fr.drawn hdrawn⟩
      · obtain ⟨g1, g2⟩ := h.fr.out q hq ho
        obtain ⟨g3, g4⟩ := hfr q (Nat.lt_of_lt_of_le hq h.fr.size) g2 (by unfold XC.l; omega)
        exact ⟨g3.trans g1, g4⟩
      · obtain ⟨b1, g1, g2, g3, g4⟩ := h.fr.keep b bi trivial hE
        obtain ⟨b2, g5, g6, g7, g8⟩ := hkeep b b1 g1
        exact ⟨b2, g5, g6.trans g2, Nat.le_trans g3 g7, fun e => (g8 (by omega)).trans (g4 (by omega))⟩
      · obtain ⟨c1, g1, g2⟩ := h.fr.shape q c el fz hq
        obtain ⟨c2, g3, g4⟩ := hshape q c1 el fz g1
        exact ⟨c2, g3, g4.trans g2⟩
  cases e2 with
  | normal => cases hj; exact ⟨_, _, fin none rfl, s2.H, none, E2, hK, rfl, hI⟩
  | ret => cases hj; exact ⟨_, _, fin (some .ret) rfl, s2.H, _, E2, hK, rfl, hI⟩
  | exit id => cases hj; exact ⟨_, _, fin (some (.exit id)) rfl, s2.H, _, E2, hK, rfl, hI⟩
  | _ => cases hj

/-- The operations of a region of the function that is ranged over, in the order of the text; a call of yield is a round. -/
def runI (R : RC) (C : CallP) (ops : Array Oper) : List Oper → Nat → List Nat → St → Option Code → (St → Option Code → Prop) → Prop
  | [], _, _, s, j, Q => Q s j
  | o :: rest, slot, Y, s, j, Q => o.dst ≠ some 0 ∧ match wantedA ops o s with
    | none => False
    | some false => runI R C ops rest (slot + nslots o.op) (rmY Y o.dst) (s.put o.dst (.tup [])) j Q
    | some true => match yieldOf Y o.op with
      | some args => j = none ∧ roundA R.P R.s0 R.ps R.assign R.body (args.toList.map s.ev) s.H (fun H' j' => runI R C ops rest H'.length (rmY Y o.dst) ⟨s.n, (s.put o.dst (.bool j'.isNone)).tm, H'⟩ j' Q)
      | none => match moveOf Y o with
        | some d => d < s.n ∧ runI R C ops rest (slot + nslots o.op) (d :: Y) (s.put o.dst .un) j Q
        | none => opRun R.P C o s slot fun d wr _ => runI R C ops rest (slot + nslots o.op) (rmY Y o.dst) (s.after o.dst d wr) j Q

theorem IOK.put {R : RC} {X : XC} {s : St} {j : Option Code} {E : Env} {a : Act} {w : World} (h : IOK R X s j E a w) {dst : Option Tmp} (hd : dst ≠ some 0) {d : D} {v : Value} (hr : RelE X.O E w d v) :
    IOK R X ⟨s.n, (s.put dst d).tm, s.H⟩ j E (a.put dst v) w := by
  have hp := h.sr.put dst hr
  refine h.step (Fr.refl _ _ _) (OwnNew.refl _ _) ?_ ?_ ?_
  · cases dst <;> exact hp
  · cases dst <;> exact h.df
  · cases dst with
    | none => rfl
    | some t =>
      simp only [Act.put]
      rw [Array.getElem?_setIfInBounds_ne (fun e => hd (by rw [e]))]

theorem runI_sound {R : RC} {C : CallP} (hC : C.Sound R.P) {X : XC} (ops : Array Oper) (QA : St → Option Code → Prop) (Q : Exit → Act → World → Prop)
    (hQ : ∀ E s j a w, IOK R X s j E a w → QA s j → Q .normal a w) (l : List Oper) :
    ∀ (i slot : Nat) (Y : List Nat) (s : St) (j : Option Code) (E : Env) (a : Act) (w : World), ops.toList.drop i = l → IOK R X s j E a w → Ys X.l Y a → (∀ b, slot ≤ b → E b = none) → runI R C ops l slot Y s j QA →
      wpOpsIn (Fw none) 0 R.P ops Q ((List.range ops.size).drop i) a w := by
  induction l with
  | nil =>
    intro i slot Y s j E a w hl hI hY hfree h
    have : ops.size ≤ i := by
      have := congrArg List.length hl
      simp at this; omega
    rw [List.drop_eq_nil_of_le (by simp; exact this)]
    exact hQ E s j a w hI h
  | cons o l ih =>
    intro i slot Y s j E a w hl hI hY hfree h
    have hi : i < ops.size := by
      have := congrArg List.length hl
      simp at this; omega
    have ho : ops[i]? = some o := by
      have h1 : (ops.toList.drop i)[0]? = some o := by rw [hl]; rfl
      rw [List.getElem?_drop, Nat.add_zero, Array.getElem?_toList] at h1
      exact h1
    have hl' : ops.toList.drop (i + 1) = l := by
      rw [← List.drop_drop, hl]; rfl
    rw [List.drop_eq_getElem_cons (by simpa using hi)]
    simp only [List.getElem_range]
    rw [wpOpsIn_step ho]
    simp only [runI] at h
    obtain ⟨hd0, h⟩ := h
    cases hw : wantedA ops o s with
    | none => simp [hw] at h
    | some b =>
      have hwr := wantedA_rel hI.sr hw
      rw [hwr]
      cases b with
      | false =>
        simp only [hw] at h
        simp only [Bool.false_eq_true, if_false]
        refine ⟨fun _ _ => trivial, ih (i + 1) _ _ _ j E _ w hl' ?_ (hY.rm _ _) (fun b hb => hfree b (by omega)) h⟩
        have := hI.put hd0 (mkUndef (O := X.O) (E := E) (w := w))
        cases hd : o.dst <;> simp only [hd, St.put] at this ⊢ <;> exact this
      | true =>
        simp only [hw] at h
        simp only [if_true]
        cases hy : yieldOf Y o.op with
        | some args =>
          simp only [hy] at h
          obtain ⟨rfl, hr⟩ := h
          obtain ⟨c, t, hc, hcal, ht, rfl⟩ : ∃ c t, o.op = .call c ∧ c.callee = .value (.tmp t) ∧ t ∈ Y ∧ c.args = args := by
            cases hop : o.op <;> rw [hop] at hy <;> simp only [yieldOf] at hy <;> try (cases hy; done)
            rename_i c
            split at hy
            · rename_i t hcal
              split at hy
              · rename_i ht; cases hy; exact ⟨c, t, rfl, hcal, by simpa using ht, rfl⟩
              · cases hy
            · cases hy
          have hL := relL_args s.ev a c.args (fun x _ => hI.sr.ev x)
          have hsz : (c.args.map a.eval).size = R.ps.size := by
            have h1 := hr.1
            have h2 := hL.1
            simp at h1 h2 ⊢
            omega
          refine ⟨fun _ _ => trivial, ?_⟩
          have hrun : (Oper.semAt (Fw none).round a.eval o).run R.P w = .ok (.round X.l X.fn ((R.ps.zip (c.args.map a.eval)).foldl (fun t (p, v) => t.setIfInBounds p v) X.tmps) R.assign R.body) w := by
            rw [show (Fw none).round = none from rfl, Oper.semAt_none, run_callYield hc hcal (hY t ht), run_yield hI.rc hsz]
            rfl
          rw [hrun, Oper.uponIn_round]
          refine ⟨(fun h => by cases h), (hI.busy_round hL hr).mono ?_⟩
          rintro e w' ⟨H', j', E', hK, rfl, hI'⟩
          refine ih (i + 1) H'.length _ _ j' E' _ w' hl' (hI'.put hd0 (mkBool _)) (hY.rm _ _) (fun b hb => hI'.sr.free b hb) ?_
          have : (⟨s.n, (St.put ⟨s.n, s.tm, H'⟩ o.dst (.bool j'.isNone)).tm, H'⟩ : St) = ⟨s.n, (s.put o.dst (.bool j'.isNone)).tm, H'⟩ := by cases o.dst <;> rfl
          simp only [this]
          exact hK
        | none =>
          simp only [hy] at h
          cases hm : moveOf Y o with
          | some d =>
            simp only [hm] at h
            obtain ⟨hdn, h⟩ := h
            obtain ⟨t, hop, hdst, ht⟩ : ∃ t, o.op = .move (.tmp t) ∧ o.dst = some d ∧ t ∈ Y := by
              unfold moveOf at hm
              split at hm
              · rename_i t d' h1 h2
                split at hm
                · rename_i ht; cases hm; exact ⟨t, h1, h2, by simpa using ht⟩
                · cases hm
              · cases hm
            refine ⟨fun _ _ => trivial, ?_⟩
            have hx : a.eval (.tmp t) = .func (.yield X.l) #[] #[] := by
              simp only [Act.eval, Array.getD_eq_getD_getElem?, hY t ht, Option.getD_some]
            have hrun : (Oper.semAt (Fw none).round a.eval o).run R.P w = .ok (.value (.func (.yield X.l) #[] #[])) w := by
              rw [show (Fw none).round = none from rfl, Oper.semAt_none]
              simp only [execOp, hop, hx, Sem.run_pure]
            rw [hrun, Oper.uponIn_value]
            refine ih (i + 1) _ _ _ j E _ w hl' ?_ ?_ (fun b hb => hfree b (by omega)) h
            · have := hI.put hd0 (d := .un) (v := .func (.yield X.l) #[] #[]) (.pur _ _ (.un _))
              cases hd : o.dst <;> simp only [hd, St.put] at this ⊢ <;> exact this
            · intro u hu
              rw [hdst]
              simp only [Act.put, Array.getElem?_setIfInBounds]
              by_cases e : d = u
              · rw [if_pos e, if_pos (by rw [hI.sr.size]; omega)]
              · rw [if_neg e]
                rcases List.mem_cons.1 hu with h1 | h1
                · exact absurd h1.symm e
                · exact hY u h1
          | none =>
            simp only [hm] at h
            obtain ⟨d, wr, rd, sl, hK, hSop, hrd, hsl⟩ := opRun_sound hC h
            refine hSop X.O E s.H a w (fun x _ => hI.sr.ev x) hI.sr.wr (fun n hn => hI.sr.up n (Nat.le_trans hI.sr.hbase hn)) hrd (fun b hb => hfree b (hsl b hb).1) none _ _ ?_
            intro v' w' E' r1 r2 r3 r4 r5
            have h1 : IOK R X ⟨s.n, s.tm, hput s.H wr⟩ j E' a w' := hI.step r3 r4 (hI.sr.step r3 r4 r2) hI.df rfl
            have h2 := h1.put hd0 r1
            refine ih (i + 1) _ _ _ j E' _ w' hl' ?_ (hY.rm _ _) (fun b hb => ?_) hK
            · cases hd : o.dst <;> simp only [hd, St.put, St.after] at h2 ⊢ <;> exact h2
            · refine r5 b (fun hb' => ?_) (hfree b (by omega))
              obtain ⟨e, hpos⟩ := hsl b hb'
              omega

theorem Ys.zero {R : RC} {X : XC} {s : St} {j : Option Code} {E : Env} {a : Act} {w : World} (h : IOK R X s j E a w) : Ys X.l [0] a := fun t ht => by
  simp at ht; subst ht; exact h.yl

theorem AWI.region {R : RC} {C : CallP} (hC : C.Sound R.P) {id : Nat} {ops : Array Oper} {Q : Exit → St → Option Code → Prop} {s : St} {j : Option Code} (h : runI R C ops ops.toList s.H.length [0] s j (fun s1 j1 => Q .normal s1 j1)) : AWI R (.region id ops false) Q s j := by
  intro X E a w hI
  refine wpIn_region ?_
  have := runI_sound (X := X) hC ops (fun s1 j1 => Q .normal s1 j1) (fun e a' w' => ∃ E' s' j', Q e s' j' ∧ IOK R X s' j' E' a' w')
    (fun E' s' j' a' w' hI' q => ⟨E', s', j', q, hI'⟩) ops.toList 0 s.H.length [0] s j E a w (by simp) hI (Ys.zero hI) (fun b hb => hI.sr.free b hb) h
  simpa using this

/-! ### The loop -/
theorem Wrel.grown {O : Nat → Prop} {E : Env} {H : Heap} {w w1 : World} (hs : w.heap.size ≤ w1.heap.size) (hk : ∀ k, k < w.heap.size → w1.heap[k]? = w.heap[k]?) (h : Wrel O E H w) : Wrel O E H w1 := by
  have hlt : ∀ {k : Nat} {o : Obj}, w.heap[k]? = some o → k < w.heap.size := fun hq => (Array.getElem?_eq_some_iff.1 hq).1
  refine ⟨fun b bi hb => ?_, h.live, h.inj, fun b bi hb c el hc => h.sc b bi hb c el (by rw [← hk _ (h.lt hb)]; exact hc)⟩
  obtain ⟨rows, c, el, h1, h2, h3, h4, h5, h6⟩ := h.blk b bi hb
  refine ⟨rows, c, el, h1, h2, h3, by rw [hk _ (hlt h4)]; exact h4, h5, fun i j r d hi hj => ?_⟩
  obtain ⟨v, e, s, r⟩ := h6 i j r d hi hj
  exact ⟨v, e, s, Rel.mono hs (fun q hq hu => ⟨hk q hq, hu⟩) (fun q hq hu => ⟨hk q hq, hu⟩) (fun b bi hb => ⟨bi, hb, rfl, Nat.le_refl _, fun _ => rfl⟩) (fun q c el fz hq => ⟨c, by rw [hk q (hlt hq)]; exact hq, rfl⟩) r⟩

theorem rel_fn {O : Nat → Prop} {E : Env} {w : World} {f : FuncId} {caps : List D} {v : Value} (h : RelE O E w (.fn f caps) v) : ∃ vs, v = .func (.func f) #[] vs ∧ RelL O E w caps vs.toList := by
  cases h with
  | pur _ _ h => cases h
  | fn _ _ vs hl h => exact ⟨vs, rfl, by simpa using hl, fun i d v h1 h2 => h i d v h1 (by simpa using h2)⟩

/-- What follows the loop, by the jump that a round has left. -/
def behind (Q : Exit → St → Prop) (s : St) (H : Heap) : Option Code → Prop
  | none => Q .normal ⟨s.n, s.tm, H⟩
  | some .ret => Q .ret ⟨s.n, s.tm, H⟩
  | some (.exit id) => Q (.exit id) ⟨s.n, s.tm, H⟩
  | _ => False

theorem AW.rangeFunc {P : Program} {k : Nat} {g : Operand} {ps : Array Tmp} {assign body : Code} {Q : Exit → St → Prop} {s : St} {f : FuncId} {caps : List D} {fn : Func} {c : Code}
    (hg : s.ev g = .fn f caps) (hf : P.funcs[f]? = some fn) (hname : (fn.name == "runtime.NumGoroutine") = false) (hb : fn.body = some c) (hres : fn.results = #[]) (hn : caps.length + 1 ≤ fn.ntmps)
    (h : AWI ⟨P, k, s, ps, assign, body⟩ c (fun e s1 j => (e = .normal ∨ e = .ret) ∧ behind Q s s1.H j) ⟨fn.ntmps, enum 0 (.un :: caps), s.H⟩ none) : AW P false k (.rangeFunc g ps assign body) Q s := by
  intro ro hro base O E a w hS
  obtain rfl : ro = none := by cases ro <;> simp at hro ⊢
  have hev := hS.ev g
  rw [hg] at hev
  obtain ⟨lb, hg', hcaps⟩ := rel_fn hev
  refine wpIn_rangeFunc ?_
  intro fn' _
  let X : XC := ⟨fn', a.tmps, base, O, E, w⟩
  let R : RC := ⟨P, k, s, ps, assign, body⟩
  let W1 : World := (w.alloc (.deferred (some []))).alloc (.loop (X.lp R none))
  have hL1 : W1.heap[w.heap.size + 1]? = some (.loop (X.lp R none)) := by
    have := World.alloc_heap_new (w.alloc (.deferred (some []))) (.loop (X.lp R none)); rwa [World.size_alloc] at this
  have hK1 : W1.heap[w.heap.size]? = some (.deferred (some [])) :=
    (RowKit.Below.heap_alloc _ _ _ (by simp)).trans (World.alloc_heap_new w _)
  have hold : ∀ q, q < w.heap.size → W1.heap[q]? = w.heap[q]? := fun q hq => (RowKit.Below.heap_alloc _ _ _ (by simp; omega)).trans (RowKit.Below.heap_alloc w _ q hq)
  have hsz1 : W1.heap.size = w.heap.size + 2 := by simp [W1]
  have hfr1 : Fr All E w E W1 := ⟨rfl, rfl, rfl, by omega, fun q hq ho => ⟨hold q hq, ho⟩, fun _ bi _ hE => ⟨bi, hE, rfl, Nat.le_refl _, fun _ => rfl⟩, fun q cc el fz hq => ⟨cc, by rw [hold q (Array.getElem?_eq_some_iff.1 hq).1]; exact hq, rfl⟩, Nat.le_refl _⟩
  have hOutN : ∀ q, w.heap.size ≤ q → E.Out q := fun q hq b bi hE => by have := hS.wr.lt hE; omega
  refine ⟨w.heap.size + 1, [markD w.heap.size], W1, { target := .fn (.func f) lb, args := #[.func (.yield (w.heap.size + 1)) #[] #[]] }, W1, f,
    #[.func (.yield (w.heap.size + 1)) #[] #[]] ++ lb, W1, ?_, ?_, fun _ _ => trivial, ?_, (fun h => by cases h), ?_⟩
  · exact run_enterLoop_outer _ _ _ _ _
  · simp only [resolve, hg']
    simp [go_sem]
  · have hne : fn.name ≠ "runtime.NumGoroutine" := by simpa using hname
    simp [invoke, callFunc, hf, hne, hb, go_sem]
  · refine callsIn_of_wp (F := Fw none) hf hb trivial ?_ rfl
    have hcl : caps.length = lb.size := by simpa using hcaps.1
    have hI : IOK R X ⟨fn.ntmps, enum 0 (.un :: caps), s.H⟩ none E { tmps := #[Value.func (.yield (w.heap.size + 1)) #[] #[]] ++ lb ++ Array.replicate (fn.ntmps - (#[Value.func (.yield (w.heap.size + 1)) #[] #[]] ++ lb).size) undef, defers := [] } W1 := by
      refine ⟨⟨hS.wr.grown (by omega) hold, Marks.nil _ _ _, by simp; omega, fun t v hv => ?_, (by rw [hsz1]; exact Nat.le_trans hS.hbase (by omega) : base ≤ W1.heap.size), hS.up, hS.own⟩, rfl, (by rw [Array.getElem?_append_left (by simp; omega), Array.getElem?_append_left (by simp)]; rfl), hS.size, fun t v hv => (hS.tm t v hv).mono hfr1, hL1, hK1, hOutN _ (by simp [XC.l, X]), hOutN _ (Nat.le_refl _), hfr1, fun b bi' hE => .inr ⟨bi', hE, rfl⟩⟩
      simp only [lk_enum, Nat.zero_le, if_true, Nat.sub_zero]
      cases t with
      | zero => exact .pur _ _ (.un _)
      | succ t =>
        rw [List.getElem?_cons_succ]
        by_cases ht : t < lb.size
        · rw [List.getElem?_eq_getElem (by omega), Option.getD_some]
          have hv' : lb.toList[t]? = some v := by
            rw [Array.getElem?_append_left (by simp; omega), Array.getElem?_append_right (by simp)] at hv
            simpa using hv
          exact (hcaps.2 t _ v (List.getElem?_eq_getElem (by omega)) hv').mono hfr1
        · rw [List.getElem?_eq_none (by omega)]
          exact .pur _ _ (.un _)
    refine wpIn_mono (h X E _ W1 hI) ?_
    rintro e a1 w1 ⟨E1, s1, j, ⟨he, hq⟩, hI1⟩
    have hend : (Instr.endLoop (w.heap.size + 1)).run P w1 = .ok j (w1.putObj (w.heap.size + 1) (.loop { X.lp R j with state := .exhausted })) := by
      have := run_endLoop (P := P) hI1.rc (by cases j <;> simp [XC.lp])
      exact this
    have t1 : Turn (fun q => q = w.heap.size + 1) w1 (w1.putObj (w.heap.size + 1) (.loop { X.lp R j with state := .exhausted })) := Turn.put hI1.rc rfl
    have hmark : Marks base E1 (w1.putObj (w.heap.size + 1) (.loop { X.lp R j with state := .exhausted })) ([markD w.heap.size] ++ a.defers) := by
      obtain ⟨Ds, e, hnd, hD⟩ := hS.defers
      refine ⟨w.heap.size :: Ds, by rw [e]; rfl, List.nodup_cons.2 ⟨fun hm => ?_, hnd⟩, fun D hm => ?_⟩
      · have := (Array.getElem?_eq_some_iff.1 (hD _ hm).1).1; omega
      · rcases List.mem_cons.1 hm with rfl | hm
        · exact ⟨by rw [t1.oth _ (by omega)]; exact hI1.dfr, hI1.outD, hS.hbase⟩
        · obtain ⟨q1, q2, q3⟩ := hD D hm
          have hlt := (Array.getElem?_eq_some_iff.1 q1).1
          obtain ⟨q4, q5⟩ := hI1.fr.out D hlt q2
          exact ⟨by rw [t1.oth D (by omega), q4]; exact q1, q5, q3⟩
    have hSR : SR k base O E1 ⟨s.n, s.tm, s1.H⟩ { a with defers := [markD w.heap.size] ++ a.defers } (w1.putObj (w.heap.size + 1) (.loop { X.lp R j with state := .exhausted })) :=
      ⟨hI1.sr.wr.turn t1, hmark, hS.size, fun t v hv => (hI1.tm0 t v hv).turn t1, by rw [t1.size]; exact hI1.sr.hbase, hI1.sr.up, hI1.sr.own⟩
    have hFK : FrK k E w E1 (w1.putObj (w.heap.size + 1) (.loop { X.lp R j with state := .exhausted })) :=
      ⟨(hI1.fr.turn t1 (fun q hq => by rw [hq]; exact Nat.le_succ _)).weak (fun _ _ => trivial), fun b bi' _ hE => hI1.nw b bi' hE⟩
    have hgo : rangePost (Fw none) 0 P (w.heap.size + 1) (fun e a' w' => ∃ E' s', Q e s' ∧ SR k base O E' s' a' w' ∧ FrK k E w E' w') { a with defers := [markD w.heap.size] ++ a.defers } (.returned (.tuple #[])) w1 := by
      refine ⟨_, _, hend, ?_⟩
      cases j with
      | none => exact ⟨E1, _, hq, hSR, hFK⟩
      | some c =>
        cases c with
        | ret => exact wpIn_ret ⟨E1, _, hq, hSR, hFK⟩
        | exit id => exact wpIn_exit ⟨E1, _, hq, hSR, hFK⟩
        | _ => exact hq.elim
    have hbp : a1.defers = [] ∧ ∃ v, (results fn a1.tmps).run P w1 = .ok v w1 ∧ rangePost (Fw none) 0 P (w.heap.size + 1) (fun e a' w' => ∃ E' s', Q e s' ∧ SR k base O E' s' a' w' ∧ FrK k E w E' w') { a with defers := [markD w.heap.size] ++ a.defers } (.returned v) w1 :=
      ⟨hI1.df, _, results_none hres _ _ _, hgo⟩
    rcases he with rfl | rfl
    · exact hbp
    · exact hbp

end Go.AH

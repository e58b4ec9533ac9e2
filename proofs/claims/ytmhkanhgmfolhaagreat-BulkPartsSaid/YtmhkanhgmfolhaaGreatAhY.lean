/- Regions in which a map of whole numbers is made and filled: behind them it is a value. -/
import Derived.Test.YtmhkanhgmfolhaaGreatAhX
set_option linter.unusedSimpArgs false
set_option linter.unusedVariables false
namespace Go.AH

/-- A map under way: the temporary that holds it, its type, what it holds. -/
structure MG where
  t : Tmp
  ty : TypeId
  k : IntKind
  keys : List Int
  vals : List D

def keyT (P : Program) (t : TypeId) : Option IntKind :=
  match P.underlying t with
  | some (.map kt _) => (match P.underlying kt with
    | some (.int k) => some k
    | _ => none)
  | _ => none

theorem keyT_spec {P : Program} {t : TypeId} {k : IntKind} (h : keyT P t = some k) : ∃ kt et, P.underlying t = some (.map kt et) ∧ P.underlying kt = some (.int k) := by
  unfold keyT at h
  split at h
  · rename_i kt et hu
    split at h
    · rename_i k' hk; cases h; exact ⟨kt, et, hu, hk⟩
    · cases h
  · cases h

def Operand.isTmp (t : Tmp) : Operand → Bool
  | .tmp u => u == t
  | _ => false

/-- What is put in: the key and the value. -/
def insOf (g : MG) (o : Oper) : Option (Int × Operand) :=
  match o.op, o.guard, o.dst with
  | .insert ty (.tmp t) (.const (.int k n)) x, none, none => if t = g.t ∧ ty = g.ty ∧ k = g.k ∧ g.keys.contains n = false then some (n, x) else none
  | _, _, _ => none

def makeOf (o : Oper) : Option (TypeId × Tmp) :=
  match o.op, o.guard, o.dst with
  | .makeMap ty none, none, some t => some (ty, t)
  | _, _, _ => none

def asksFor (t : Tmp) (ops : Array Oper) (o : Oper) : Bool := (o.looksAt ops).contains t || o.op.operands.toList.any (Operand.isTmp t)

/-- The operations of a region, in the order of the text, with a map under way or without. -/
def runM (P : Program) (C : CallP) (ops : Array Oper) : List Oper → Nat → Option MG → St → (St → Prop) → Prop
  | [], _, none, s, Q => Q s
  | [], _, some g, s, Q => Q ⟨s.n, (g.t, .mpv g.k g.keys g.vals) :: s.tm, s.H⟩
  | o :: rest, slot, none, s, Q => match makeOf o with
    | some (ty, t) => t < s.n ∧ (match keyT P ty with
      | some k => runM P C ops rest slot (some ⟨t, ty, k, [], []⟩) (s.put (some t) .un) Q
      | none => False)
    | none => match wantedA ops o s with
      | none => False
      | some false => runM P C ops rest (slot + nslots o.op) none (s.put o.dst (.tup [])) Q
      | some true => opRun P C o s slot fun d wr _ => runM P C ops rest (slot + nslots o.op) none (s.after o.dst d wr) Q
  | o :: rest, slot, some g, s, Q => match insOf g o with
    | some (n, x) => (Operand.isTmp g.t x = false) ∧ runM P C ops rest slot (some { g with keys := g.keys ++ [n], vals := g.vals ++ [s.ev x] }) s Q
    | none => o.dst ≠ some g.t ∧ (match wantedA ops o s with
      | none => False
      | some false => runM P C ops rest (slot + nslots o.op) (some g) (s.put o.dst (.tup [])) Q
      | some true => if o.op.operands.toList.any (Operand.isTmp g.t) = true then
          opRun P C o ⟨s.n, (g.t, .mpv g.k g.keys g.vals) :: s.tm, s.H⟩ slot fun d wr _ => runM P C ops rest (slot + nslots o.op) none (St.after ⟨s.n, (g.t, .mpv g.k g.keys g.vals) :: s.tm, s.H⟩ o.dst d wr) Q
        else opRun P C o s slot fun d wr _ => runM P C ops rest (slot + nslots o.op) (some g) (s.after o.dst d wr) Q)

theorem Rel.sub {U U' V : Nat → Prop} {E : Env} {w : World} (hU : ∀ k, U k → U' k) {d : D} {v : Value} (h : Rel U V E w d v) : Rel U' V E w d v :=
  Rel.mono (Nat.le_refl _) (fun k _ hu => ⟨rfl, hU k hu⟩) (fun k _ hu => ⟨rfl, hu⟩) (fun b bi hb => ⟨bi, hb, rfl, Nat.le_refl _, fun _ => rfl⟩) (fun k c el fz hc => ⟨c, hc, rfl⟩) h

theorem RelE.sub {O O' : Nat → Prop} {E : Env} {w : World} (hO : ∀ k, O k → O' k) {d : D} {v : Value} (h : RelE O E w d v) : RelE O' E w d v := Rel.sub (fun k hk => ⟨hO k hk.1, hk.2⟩) h

theorem Wrel.sub {O O' : Nat → Prop} {E : Env} {H : Heap} {w : World} (hO : ∀ k, O k → O' k) (h : Wrel O E H w) : Wrel O' E H w where
  blk := fun b bi hb => by
    obtain ⟨rows, c, el, h1, h2, h3, h4, h5, h6⟩ := h.blk b bi hb
    refine ⟨rows, c, el, h1, h2, h3, h4, h5, fun i j r d hi hj => ?_⟩
    obtain ⟨v, e, s, r⟩ := h6 i j r d hi hj
    exact ⟨v, e, s, r.sub hO⟩
  live := h.live
  inj := h.inj
  sc := h.sc

/-- A map under way at block `r`: nothing else speaks of it. -/
structure GOK (k base : Nat) (O : Nat → Prop) (E1 : Env) (a1 : Act) (w1 : World) (K : Nat) (g : MG) (E : Env) (s : St) (a : Act) (w : World) : Prop where
  sr : SR K (w1.heap.size + 1) (fun n => O n ∧ n ≠ w1.heap.size) E s { a with defers := [] } w
  df : a.defers = a1.defers
  tg : a.tmps[g.t]? = some (.map (some w1.heap.size))
  out : E.Out w1.heap.size
  mp : ∃ vs : Array Value, MapAt w w1.heap.size g.k g.keys vs ∧ RelL (fun n => O n ∧ n ≠ w1.heap.size) E w g.vals vs.toList
  lt : w1.heap.size < w.heap.size
  fr : Fr All E1 w1 E w
  nw : OwnNew w1 E1 E

theorem MapAt.lt {w : World} {r : Nat} {k : IntKind} {keys : List Int} {vs : Array Value} (h : MapAt w r k keys vs) : r < w.heap.size := by
  obtain ⟨es, c, h1, _⟩ := h
  exact (Array.getElem?_eq_some_iff.1 h1).1

section
variable {k base K : Nat} {O : Nat → Prop} {E1 E : Env} {a1 a : Act} {w1 w : World} {g : MG} {s : St}

theorem GOK.step (h : GOK k base O E1 a1 w1 K g E s a w) {E' : Env} {s' : St} {a' : Act} {w' : World} (hf : Fr All E w E' w') (hn : OwnNew w E E') (hs : SR K (w1.heap.size + 1) (fun n => O n ∧ n ≠ w1.heap.size) E' s' { a' with defers := [] } w')
    (hd : a'.defers = a.defers) (ht : a'.tmps[g.t]? = a.tmps[g.t]?) : GOK k base O E1 a1 w1 K g E' s' a' w' := by
  obtain ⟨vs, ⟨es, c, m1, m2⟩, hv⟩ := h.mp
  obtain ⟨q1, q2⟩ := hf.out w1.heap.size h.lt h.out
  exact ⟨hs, hd.trans h.df, by rw [ht]; exact h.tg, q2, ⟨vs, ⟨es, c, by rw [q1]; exact m1, m2⟩, hv.1, fun i d v h1 h2 => (hv.2 i d v h1 h2).mono hf⟩, Nat.lt_of_lt_of_le h.lt hf.size, h.fr.trans hf, h.nw.trans h.fr.size hn⟩

/-- The map is done: a value. -/
theorem GOK.done {s1 : St} (h : GOK k base O E1 a1 w1 K g E s a w) (h1 : SR k base O E1 s1 a1 w1) : SR k base O E ⟨s.n, (g.t, .mpv g.k g.keys g.vals) :: s.tm, s.H⟩ a w := by
  have hO : ∀ n, (O n ∧ n ≠ w1.heap.size) → O n := fun n h => h.1
  obtain ⟨vs, hm, hv⟩ := h.mp
  refine ⟨h.sr.wr.sub hO, ?_, h.sr.size, fun t v hv' => ?_, Nat.le_trans h1.hbase (Nat.le_of_lt h.lt), h1.up, fun b bi hb hE => ?_⟩
  · rw [h.df]; exact h1.defers.step fun q hq ho => h.fr.out q hq ho
  · simp only [lk]
    by_cases e : g.t = t
    · subst e
      rw [if_pos rfl]
      have : v = .map (some w1.heap.size) := by
        have := h.tg; rw [hv'] at this; exact Option.some.inj this
      subst this
      exact .mpv g.k g.keys g.vals w1.heap.size vs (by have := hv.1; simpa using this) ⟨h1.up _ h1.hbase, h.out⟩ h.lt hm fun i d v q1 q2 => (hv.2 i d v q1 (by simpa using q2)).sub hO
    · rw [if_neg e]; exact (h.sr.tm t v hv').sub hO
  · rcases h.nw b bi hE with q | ⟨bi0, q1, q2⟩
    · exact Nat.le_trans h1.hbase q
    · rw [← q2]; exact h1.own b bi0 hb q1

theorem GOK.ev (h : GOK k base O E1 a1 w1 K g E s a w) (x : Operand) : RelE (fun n => O n ∧ n ≠ w1.heap.size) E w (s.ev x) (a.eval x) := by
  have := h.sr.ev x
  cases x <;> exact this

theorem GOK.put (h : GOK k base O E1 a1 w1 K g E s a w) {dst : Option Tmp} (hd : dst ≠ some g.t) {d : D} {v : Value} (hr : RelE (fun n => O n ∧ n ≠ w1.heap.size) E w d v) :
    GOK k base O E1 a1 w1 K g E (s.put dst d) (a.put dst v) w := by
  have hp := h.sr.put dst hr
  refine h.step (Fr.refl _ _ _) (OwnNew.refl _ _) ?_ ?_ ?_
  · cases dst <;> exact hp
  · cases dst <;> rfl
  · cases dst with
    | none => rfl
    | some t =>
      simp only [Act.put]
      rw [Array.getElem?_setIfInBounds_ne (fun e => hd (by rw [e]))]
end

theorem findNow_none {kk k : IntKind} {n : Int} : ∀ (es : List MapEntry) (keys : List Int) (j : Nat), es.map (·.key) = keys.map (Value.int k) → keys.contains n = false → Instr.findNow (.int kk) (.int k n) es j = some none
  | [], keys, j, h, _ => rfl
  | e :: es, [], j, h, _ => by simp at h
  | e :: es, a :: keys, j, h, hc => by
    simp only [List.map_cons, List.cons.injEq] at h
    simp only [List.contains_cons, Bool.or_eq_false_iff] at hc
    simp only [Instr.findNow, h.1, Instr.sameNow, if_true, hc.1]
    exact findNow_none es keys (j + 1) h.2 hc.2

theorem run_insert {P : Program} {w : World} {ty : TypeId} {k : IntKind} {r : Nat} {keys : List Int} {es : Array MapEntry} {c : Nat} {n : Int} {v : Value} (hk : keyT P ty = some k) (hm : w.heap[r]? = some (.map es c)) (hes : es.toList.map (·.key) = keys.map (Value.int k))
    (hc : keys.contains n = false) : (Instr.mapUpdate ty (.map (some r)) (.int k n) v).run P w = .ok () (w.putObj r (.map (es.push { key := .int k n, val := v, born := c }) (c + 1))) := by
  obtain ⟨kt, et, hu, hkt⟩ := keyT_spec hk
  have hget : (getObj r).run P w = .ok (.map es c) w := by simp [getObj, Sem.run, hm]
  have hck : (Instr.checkKey false 10000 kt (.int k n)).run P w = .ok () w := by
    unfold Instr.checkKey
    simp [run_underlying hkt]
  have hfk : (Instr.findKey kt (.int k n) es.toList).run P w = .ok none w := by
    unfold Instr.findKey
    simp [run_underlying hkt, findNow_none es.toList keys 0 hes hc]
  unfold Instr.mapUpdate
  simp only [Sem.run_bind, run_underlying hu, Result.andThen_ok, hget]
  simp only [hck, hfk, Result.andThen_ok]
  simp [setObj, Sem.run, hm, World.putObj]

theorem runM_sound {ro : Option Nat} {P : Program} {C : CallP} (hC : C.Sound P) {k base : Nat} {O : Nat → Prop} (ops : Array Oper) (QA : St → Prop) (Q : Exit → Act → World → Prop) (E0 : Env) (w0 : World)
    (hQ : ∀ E s a w, SR k base O E s a w → FrK k E0 w0 E w → QA s → Q .normal a w) (l : List Oper) :
    (∀ (i slot : Nat) (s : St) (E : Env) (a : Act) (w : World), ops.toList.drop i = l → SR k base O E s a w → FrK k E0 w0 E w → (∀ b, slot ≤ b → E b = none) → runM P C ops l slot none s QA →
      wpOpsIn (Fw ro) 0 P ops Q ((List.range ops.size).drop i) a w) ∧
    (∀ (i slot : Nat) (g : MG) (E1 : Env) (s1 : St) (a1 : Act) (w1 : World) (K : Nat) (s : St) (E : Env) (a : Act) (w : World), ops.toList.drop i = l → SR k base O E1 s1 a1 w1 → FrK k E0 w0 E1 w1 → GOK k base O E1 a1 w1 K g E s a w → keyT P g.ty = some g.k →
      (∀ b, slot ≤ b → E b = none) → runM P C ops l slot (some g) s QA → wpOpsIn (Fw ro) 0 P ops Q ((List.range ops.size).drop i) a w) := by
  have hat : ∀ {o : Oper} {l : List Oper} {i : Nat}, ops.toList.drop i = o :: l → i < ops.size ∧ ops[i]? = some o ∧ ops.toList.drop (i + 1) = l := by
    intro o l i hl
    refine ⟨?_, ?_, by rw [← List.drop_drop, hl]; rfl⟩
    · have := congrArg List.length hl
      simp at this; omega
    · have h1 : (ops.toList.drop i)[0]? = some o := by rw [hl]; rfl
      rw [List.getElem?_drop, Nat.add_zero, Array.getElem?_toList] at h1
      exact h1
  have hFK : ∀ {E1 E : Env} {w1 w : World}, FrK k E0 w0 E1 w1 → Fr All E1 w1 E w → OwnNew w1 E1 E → FrK k E0 w0 E w := fun h1 h2 h3 => h1.trans (FrK.of h2 h3)
  induction l with
  | nil =>
    have hsz : ∀ {i : Nat}, ops.toList.drop i = [] → ops.size ≤ i := fun {i} hl => by
      have := congrArg List.length hl
      simp at this; omega
    refine ⟨fun i slot s E a w hl hS hF hfree h => ?_, fun i slot g E1 s1 a1 w1 K s E a w hl hS hF hG hk hfree h => ?_⟩
    · rw [List.drop_eq_nil_of_le (by simp; exact hsz hl)]
      exact hQ E s a w hS hF h
    · rw [List.drop_eq_nil_of_le (by simp; exact hsz hl)]
      exact hQ E _ a w (hG.done hS) (hFK hF hG.fr hG.nw) h
  | cons o l ih =>
    obtain ⟨ih1, ih2⟩ := ih
    have usual : ∀ (i slot : Nat) (s : St) (E : Env) (a : Act) (w : World), i < ops.size → ops[i]? = some o → ops.toList.drop (i + 1) = l → SR k base O E s a w → FrK k E0 w0 E w → (∀ b, slot ≤ b → E b = none) →
        (match wantedA ops o s with
          | none => False
          | some false => runM P C ops l (slot + nslots o.op) none (s.put o.dst (.tup [])) QA
          | some true => opRun P C o s slot fun d wr _ => runM P C ops l (slot + nslots o.op) none (s.after o.dst d wr) QA) →
        wpOpsIn (Fw ro) 0 P ops Q (i :: (List.range ops.size).drop (i + 1)) a w := by
      intro i slot s E a w hi ho hl' hS hF hfree h
      rw [wpOpsIn_step ho]
      cases hw : wantedA ops o s with
      | none => simp [hw] at h
      | some b =>
        rw [wantedA_rel hS hw]
        cases b with
        | false =>
          simp only [hw] at h
          simp only [Bool.false_eq_true, if_false]
          exact ⟨fun _ _ => trivial, ih1 (i + 1) _ _ E _ w hl' (hS.put o.dst mkUndef) hF (fun b hb => hfree b (by omega)) h⟩
        | true =>
          simp only [hw] at h
          simp only [if_true]
          obtain ⟨d, wr, rd, sl, hK, hSop, hrd, hsl⟩ := opRun_sound hC h
          refine hSop O E s.H a w (fun x _ => hS.ev x) hS.wr (fun n hn => hS.up n (Nat.le_trans hS.hbase hn)) hrd (fun b hb => hfree b (hsl b hb).1) ro _ _ ?_
          intro v' w' E' r1 r2 r3 r4 r5
          refine ih1 (i + 1) _ _ E' _ w' hl' ?_ (hF.trans (FrK.of r3 r4)) (fun b hb => ?_) hK
          · have h1 := hS.step r3 r4 r2
            have h2 := h1.put o.dst r1
            cases hd : o.dst <;> simp only [hd, St.put, St.after] at h2 ⊢ <;> exact h2
          · refine r5 b (fun hb' => ?_) (hfree b (by omega))
            obtain ⟨e, hpos⟩ := hsl b hb'
            omega
    refine ⟨fun i slot s E a w hl hS hF hfree h => ?_, fun i slot g E1 s1 a1 w1 K s E a w hl hS hF hG hk hfree h => ?_⟩
    · obtain ⟨hi, ho, hl'⟩ := hat hl
      rw [List.drop_eq_getElem_cons (by simpa using hi)]
      simp only [List.getElem_range]
      cases hmk : makeOf o with
      | none =>
        simp only [runM, hmk] at h
        exact usual i slot s E a w hi ho hl' hS hF hfree h
      | some q =>
        obtain ⟨ty, t⟩ := q
        simp only [runM, hmk] at h
        obtain ⟨htn, h⟩ := h
        cases hkt : keyT P ty with
        | none => simp [hkt] at h
        | some kk =>
          simp only [hkt] at h
          obtain ⟨hop, hgu, hdst⟩ : o.op = .makeMap ty none ∧ o.guard = none ∧ o.dst = some t := by
            unfold makeOf at hmk
            split at hmk
            · rename_i h1 h2 h3; cases hmk; exact ⟨h1, h2, h3⟩
            · cases hmk
          rw [wpOpsIn_step ho]
          have hw : Region.wanted o (yielded ops a.tmps) = true := by unfold Region.wanted; rw [hgu]
          rw [hw]
          simp only [if_true]
          refine ⟨fun _ _ => trivial, ?_⟩
          have hrun : (Oper.semAt (Fw ro).round a.eval o).run P w = .ok (.value (.map (some w.heap.size))) (w.alloc (.map #[] 0)) := by
            rw [show (Fw ro).round = ro from rfl, Oper.semAt_eq ro _ _ (fun c hc => by rw [hop] at hc; cases hc)]
            simp only [execOp, hop, Instr.makeMap, Option.map_none]
            simp only [Sem.run_bind, run_newObj_alloc, Sem.run_pure, Result.andThen_ok]
          rw [hrun, Oper.uponIn_value]
          have hold : ∀ q, q < w.heap.size → (w.alloc (.map #[] 0)).heap[q]? = w.heap[q]? := fun q hq => RowKit.Below.heap_alloc w _ q hq
          have hsz : (w.alloc (.map #[] 0)).heap.size = w.heap.size + 1 := by simp
          have hfr : Fr All E w E (w.alloc (.map #[] 0)) := ⟨rfl, rfl, rfl, by omega, fun q hq ho => ⟨hold q hq, ho⟩, fun _ bi _ hE => ⟨bi, hE, rfl, Nat.le_refl _, fun _ => rfl⟩, fun q cc el fz hq => ⟨cc, by rw [hold q (Array.getElem?_eq_some_iff.1 hq).1]; exact hq, rfl⟩, Nat.le_refl _⟩
          -- nothing speaks of the new block
          have hrel : ∀ {d : D} {v : Value}, RelE O E w d v → RelE (fun n => O n ∧ n ≠ w.heap.size) E (w.alloc (.map #[] 0)) d v := fun hd =>
            Rel.mono (by omega) (fun q hq hu => ⟨hold q hq, ⟨hu.1, by omega⟩, hu.2⟩) (fun q hq hu => ⟨hold q hq, hu⟩) (fun b bi hb => ⟨bi, hb, rfl, Nat.le_refl _, fun _ => rfl⟩) (fun q cc el fz hq => ⟨cc, by rw [hold q (Array.getElem?_eq_some_iff.1 hq).1]; exact hq, rfl⟩) hd
          have hwr : Wrel (fun n => O n ∧ n ≠ w.heap.size) E s.H (w.alloc (.map #[] 0)) := ⟨fun b bi hb => by
            obtain ⟨rows, c, el, h1, h2, h3, h4, h5, h6⟩ := hS.wr.blk b bi hb
            refine ⟨rows, c, el, h1, h2, h3, by rw [hold _ (Array.getElem?_eq_some_iff.1 h4).1]; exact h4, h5, fun i j r d hi hj => ?_⟩
            obtain ⟨v, e, s', r'⟩ := h6 i j r d hi hj
            exact ⟨v, e, s', hrel r'⟩, hS.wr.live, hS.wr.inj, fun b bi hb c el hc => hS.wr.sc b bi hb c el (by rw [← hold _ (hS.wr.lt hb)]; exact hc)⟩
          have hG : GOK k base O E a w s.H.length ⟨t, ty, kk, [], []⟩ E (s.put (some t) .un) (a.put o.dst (.map (some w.heap.size))) (w.alloc (.map #[] 0)) := by
            have hsr0 : SR s.H.length (w.heap.size + 1) (fun n => O n ∧ n ≠ w.heap.size) E s { a with defers := [] } (w.alloc (.map #[] 0)) :=
              ⟨hwr, Marks.nil _ _ _, hS.size, fun t v hv => hrel (hS.tm t v hv), by omega, fun n hn => ⟨hS.up n (Nat.le_trans hS.hbase (by omega)), by omega⟩, fun b bi hb hE => by rw [hS.free b hb] at hE; cases hE⟩
            have hp := hsr0.put (some t) (d := .un) (v := .map (some w.heap.size)) (.pur _ _ (.un _))
            refine ⟨?_, ?_, ?_, fun b bi hE => by have := hS.wr.lt hE; omega, ⟨#[], ⟨#[], 0, World.alloc_heap_new w _, rfl, rfl⟩, rfl, fun i d v h1 _ => by simp at h1⟩, by omega, hfr, fun b bi' hE => .inr ⟨bi', hE, rfl⟩⟩
            · rw [hdst]; exact hp
            · rw [hdst]; rfl
            · rw [hdst]
              simp only [Act.put, Array.getElem?_setIfInBounds]
              rw [if_pos trivial, if_pos (by rw [hS.size]; exact htn)]
          exact ih2 (i + 1) _ _ E s a w s.H.length _ E _ _ hl' hS hF hG hkt hfree h
    · obtain ⟨hi, ho, hl'⟩ := hat hl
      rw [List.drop_eq_getElem_cons (by simpa using hi)]
      simp only [List.getElem_range]
      cases hins : insOf g o with
      | some q =>
        obtain ⟨n, x⟩ := q
        simp only [runM, hins] at h
        obtain ⟨hxt, h⟩ := h
        obtain ⟨hop, hgu, hdst, hc⟩ : o.op = .insert g.ty (.tmp g.t) (.const (.int g.k n)) x ∧ o.guard = none ∧ o.dst = none ∧ g.keys.contains n = false := by
          unfold insOf at hins
          split at hins
          · rename_i ty t k' n' x' h1 h2 h3
            split at hins
            · rename_i hq
              obtain ⟨rfl, rfl, rfl, hq⟩ := hq
              cases hins
              exact ⟨h1, h2, h3, hq⟩
            · cases hins
          · cases hins
        rw [wpOpsIn_step ho]
        have hw : Region.wanted o (yielded ops a.tmps) = true := by unfold Region.wanted; rw [hgu]
        rw [hw]
        simp only [if_true]
        obtain ⟨vs, ⟨es, c, m1, m2, m3⟩, hv⟩ := hG.mp
        refine ⟨fun _ _ => trivial, ?_⟩
        have hmt : a.eval (.tmp g.t) = .map (some w1.heap.size) := by
          simp only [Act.eval, Array.getD_eq_getD_getElem?, hG.tg, Option.getD_some]
        have hrun : (Oper.semAt (Fw ro).round a.eval o).run P w = .ok .skip (w.putObj w1.heap.size (.map (es.push { key := .int g.k n, val := a.eval x, born := c }) (c + 1))) := by
          rw [show (Fw ro).round = ro from rfl, Oper.semAt_eq ro _ _ (fun c hc => by rw [hop] at hc; cases hc)]
          simp only [execOp, hop, hmt]
          have := run_insert (P := P) (w := w) (v := a.eval x) hk m1 m2 hc
          show ((do Instr.mapUpdate g.ty (.map (some w1.heap.size)) (.int g.k n) (a.eval x); pure .skip) : Sem Next).run P w = _
          simp [this]
        rw [hrun, Oper.uponIn_skip, hdst]
        have hother : ∀ q, q ≠ w1.heap.size → (w.putObj w1.heap.size (.map (es.push { key := .int g.k n, val := a.eval x, born := c }) (c + 1))).heap[q]? = w.heap[q]? := fun q hq => World.putObj_heap_other hq
        have hsz : (w.putObj w1.heap.size (.map (es.push { key := .int g.k n, val := a.eval x, born := c }) (c + 1))).heap.size = w.heap.size := by simp [World.putObj]
        have hcell : ∀ q cc el fz, w.heap[q]? = some (.cells cc el fz) → q ≠ w1.heap.size := fun q cc el fz hq e => by rw [e, m1] at hq; cases hq
        generalize hwn : w.putObj w1.heap.size (.map (es.push { key := .int g.k n, val := a.eval x, born := c }) (c + 1)) = wn at *
        have hrel : ∀ {d : D} {v : Value}, RelE (fun n => O n ∧ n ≠ w1.heap.size) E w d v → RelE (fun n => O n ∧ n ≠ w1.heap.size) E wn d v := by
          intro d v hd
          unfold RelE at hd ⊢
          have hpur : ∀ {d : D} {v : Value}, Pur (fun k => (O k ∧ k ≠ w1.heap.size) ∧ E.Out k) w d v → Pur (fun k => (O k ∧ k ≠ w1.heap.size) ∧ E.Out k) wn d v := fun hp =>
            hp.mono (by omega) (fun q hq hu => ⟨hother q hu.1.2, hu⟩)
          have hrefc : ∀ {q o : Nat} {v : Value}, w.cell? ⟨q, o, none⟩ = some v → wn.cell? ⟨q, o, none⟩ = some v := fun {q o v} hq => by
            by_cases e : q = w1.heap.size
            · exfalso
              subst e
              simp [World.cell?, m1] at hq
            · rw [cell?_eq (hother q e)]; exact hq
          induction hd with
          | pur d v hp => exact .pur d v (hpur hp)
          | ip cells k o f hVk hlt hh =>
            exact .ip cells k o f hVk (by omega) fun j d hj => by
              obtain ⟨h1, h2, h3⟩ := hh j d hj
              exact ⟨hrefc h1, h2, hpur h3⟩
          | bs rows a cap sz f hcap hsz' ha hr =>
            refine .bs rows a cap sz f hcap hsz' (fun hne => ?_) (fun i j r d h1 h2 => hpur (hr i j r d h1 h2))
            obtain ⟨k, o, e, hk, hlt, hcc⟩ := ha hne
            exact ⟨k, o, e, hk, by omega, fun i j hi hj => ⟨hrefc (hcc i j hi hj).1, (hcc i j hi hj).2⟩⟩
          | rs b off len cap bi a cap' hE h0 h1 h2 h3 h4 =>
            refine .rs b off len cap bi a cap' hE h0 h1 h2 h3 fun e => ?_
            obtain ⟨o, e1, ho, c, el, hcc, hle⟩ := h4 e
            exact ⟨o, e1, ho, c, el, by rw [hother _ (hcell _ _ _ _ hcc)]; exact hcc, hle⟩
          | rx b len cap rc bi a hE h0 h1 h2 h3 h4 =>
            refine .rx b len cap rc bi a hE h0 h1 h2 h3 fun e => ?_
            obtain ⟨o, e1, ho, c, el, hcc, hle⟩ := h4 e
            exact ⟨o, e1, ho, c, el, by rw [hother _ (hcell _ _ _ _ hcc)]; exact hcc, hle⟩
          | ptr b n i j bi a hE h1 h => exact .ptr b n i j bi a hE h1 h
          | fn f caps vs hl h ih => exact .fn f caps vs hl ih
          | mv f caps vs hl h ih => exact .mv f caps vs hl ih
          | mpv k keys vals r vs hl hUr hlt hm h ih =>
            obtain ⟨es', c', h1, h2⟩ := hm
            exact .mpv k keys vals r vs hl hUr (by omega) ⟨es', c', by rw [hother r hUr.1.2]; exact h1, h2⟩ ih
          | agg cs vs hl hsc h ih => exact .agg cs vs hl hsc ih
          | tup cs vs hl h ih => exact .tup cs vs hl ih
        have hG' : GOK k base O E1 a1 w1 K { g with keys := g.keys ++ [n], vals := g.vals ++ [s.ev x] } E s (a.put none undef) wn := by
          refine ⟨⟨⟨fun b bi hb => ?_, hG.sr.wr.live, hG.sr.wr.inj, fun b bi hb c el hc => by
            obtain ⟨_, c0, el0, _, _, _, h4, _⟩ := hG.sr.wr.blk b bi hb
            have h5 := h4
            rw [← hother _ (hcell _ _ _ _ h4), hc] at h5
            cases h5
            exact hG.sr.wr.sc b bi hb c el h4⟩, Marks.nil _ _ _, hG.sr.size, fun t v hv => hrel (hG.sr.tm t v hv), by rw [hsz]; exact hG.sr.hbase, hG.sr.up, hG.sr.own⟩, hG.df, hG.tg, hG.out, ?_, by rw [hsz]; exact hG.lt, ?_, hG.nw⟩
          · obtain ⟨rows, cc, el, h1, h2, h3, h4, h5, h6⟩ := hG.sr.wr.blk b bi hb
            refine ⟨rows, cc, el, h1, h2, h3, by rw [hother _ (hcell _ _ _ _ h4)]; exact h4, h5, fun i j r d hi hj => ?_⟩
            obtain ⟨v, e, s', r'⟩ := h6 i j r d hi hj
            exact ⟨v, e, s', hrel r'⟩
          · refine ⟨vs.push (a.eval x), ⟨es.push { key := .int g.k n, val := a.eval x, born := c }, c + 1, ?_, ?_, ?_⟩, ?_, fun i d v h1 h2 => ?_⟩
            · rw [← hwn]; exact World.putObj_heap_same (Array.getElem?_eq_some_iff.1 m1).1
            · simp [m2]
            · simp [m3]
            · have := hv.1; simp at this ⊢; omega
            · have hl := hv.1
              simp only [Array.toList_push] at h2
              by_cases hi : i < g.vals.length
              · rw [List.getElem?_append_left hi] at h1
                rw [List.getElem?_append_left (by omega)] at h2
                exact hrel (hv.2 i d v h1 h2)
              · rw [List.getElem?_append_right (by omega)] at h1
                rw [List.getElem?_append_right (by omega), ← hl] at h2
                have hi0 : i - g.vals.length = 0 := by
                  have := some_lt h1
                  simp at this; omega
                rw [hi0] at h1 h2
                simp at h1 h2
                subst h1 h2
                exact hrel (hG.ev x)
          · refine ⟨?_, ?_, ?_, by rw [hsz]; exact hG.fr.size, fun q hq ho => ?_, hG.fr.keep, fun q cc el fz hq => ?_, by rw [← hwn]; exact hG.fr.drawn⟩
            · rw [← hwn]; exact hG.fr.os
            · rw [← hwn]; exact hG.fr.tape
            · rw [← hwn]; exact hG.fr.output
            · obtain ⟨q1, q2⟩ := hG.fr.out q hq ho
              exact ⟨by rw [hother q (by omega)]; exact q1, q2⟩
            · obtain ⟨c', q1, q2⟩ := hG.fr.shape q cc el fz hq
              exact ⟨c', by rw [hother q (hcell _ _ _ _ q1)]; exact q1, q2⟩
        exact ih2 (i + 1) _ _ E1 s1 a1 w1 K s E _ wn hl' hS hF hG' hk hfree h
      | none =>
        simp only [runM, hins] at h
        obtain ⟨hdn, h⟩ := h
        cases hw : wantedA ops o s with
        | none => simp [hw] at h
        | some b =>
          have hwr : Region.wanted o (yielded ops a.tmps) = b := wantedA_rel hG.sr hw
          cases b with
          | false =>
            rw [wpOpsIn_step ho, hwr]
            simp only [hw] at h
            simp only [Bool.false_eq_true, if_false]
            exact ⟨fun _ _ => trivial, ih2 (i + 1) _ _ E1 s1 a1 w1 K _ E _ w hl' hS hF (hG.put hdn mkUndef) hk (fun b hb => hfree b (by omega)) h⟩
          | true =>
            simp only [hw] at h
            split at h
            · -- it asks for the map: that is done
              have hS' := hG.done hS
              rw [wpOpsIn_step ho, hwr]
              simp only [if_true]
              obtain ⟨d, wr, rd, sl, hK, hSop, hrd, hsl⟩ := opRun_sound hC h
              refine hSop O E s.H a w (fun x _ => hS'.ev x) hS'.wr (fun n hn => hS'.up n (Nat.le_trans hS'.hbase hn)) hrd (fun b hb => hfree b (hsl b hb).1) ro _ _ ?_
              intro v' w' E' r1 r2 r3 r4 r5
              refine ih1 (i + 1) _ _ E' _ w' hl' ?_ ((hFK hF hG.fr hG.nw).trans (FrK.of r3 r4)) (fun b hb => ?_) hK
              · have h1 := hS'.step r3 r4 r2
                have h2 := h1.put o.dst r1
                cases hd : o.dst <;> simp only [hd, St.put, St.after] at h2 ⊢ <;> exact h2
              · refine r5 b (fun hb' => ?_) (hfree b (by omega))
                obtain ⟨e, hpos⟩ := hsl b hb'
                omega
            · rw [wpOpsIn_step ho, hwr]
              simp only [if_true]
              obtain ⟨d, wr, rd, sl, hK, hSop, hrd, hsl⟩ := opRun_sound hC h
              refine hSop _ E s.H a w (fun x _ => hG.ev x) hG.sr.wr (fun n hn => hG.sr.up n (Nat.le_trans hG.sr.hbase hn)) hrd (fun b hb => hfree b (hsl b hb).1) ro _ _ ?_
              intro v' w' E' r1 r2 r3 r4 r5
              have h1 : GOK k base O E1 a1 w1 K g E' ⟨s.n, s.tm, hput s.H wr⟩ a w' := hG.step r3 r4 (hG.sr.step r3 r4 r2) rfl rfl
              have h2 := h1.put hdn r1
              refine ih2 (i + 1) _ _ E1 s1 a1 w1 K _ E' _ w' hl' hS hF ?_ hk (fun b hb => ?_) hK
              · cases hd : o.dst <;> simp only [hd, St.put, St.after] at h2 ⊢ <;> exact h2
              · refine r5 b (fun hb' => ?_) (hfree b (by omega))
                obtain ⟨e, hpos⟩ := hsl b hb'
                omega

theorem AW.regionM {rr : Bool} {P : Program} {C : CallP} (hC : C.Sound P) {k id : Nat} {ops : Array Oper} {Q : Exit → St → Prop} {s : St} (h : runM P C ops ops.toList s.H.length none s (fun s1 => Q .normal s1)) : AW P rr k (.region id ops false) Q s := by
  intro ro hro base O E a w hS
  refine wpIn_region ?_
  have := (runM_sound (ro := ro) hC ops (fun s1 => Q .normal s1) (fun e a' w' => ∃ E' s', Q e s' ∧ SR k base O E' s' a' w' ∧ FrK k E w E' w') E w
    (fun E' s' a' w' hS' hF' q => ⟨E', s', q, hS', hF'⟩) ops.toList).1 0 s.H.length s E a w (by simp) hS (FrK.refl _ _ _) (fun b hb => hS.free b hb) h
  simpa using this

end Go.AH

/- Running abstract code by computing: what `funX` answers is a contract. -/
import Derived.Test.YtmhkanhgmfolhaaGreatAhY
set_option linter.unusedSimpArgs false
set_option linter.unusedVariables false
namespace Go.AH

abbrev CallF := FuncId → List D → Heap → Nat → Option (D × List (Nat × Blk) × List (Nat × Blk))

/-- The function that a call leads to, and what it hands on ahead of the arguments and behind them. -/
def leadsX (P : Program) (m : Option String) (d : D) : Option (FuncId × List D × List D) :=
  match m with
  | none => (match d with
    | .fn f caps => some (f, [], caps)
    | .mv f fs => some (f, fs, [])
    | .mth t name => (match methT P t name with
      | some f => some (f, [.agg []], [])
      | none => none)
    | _ => none)
  | some name => (match d with
    | .ifc t => (match methT P t name with
      | some f => some (f, [.agg []], [])
      | none => none)
    | _ => none)

theorem leadsX_callV {P : Program} {m : Option String} {d : D} {f : FuncId} {fs caps : List D} (h : leadsX P m d = some (f, fs, caps)) {T : FuncId → List D → List D → Prop} (ht : T f fs caps) : callV P m d T := by
  unfold leadsX at h
  unfold callV
  split at h
  · cases d <;> simp only at h ⊢ <;> try (cases h; done)
    case fn => cases h; exact ht
    case mv => cases h; exact ht
    case mth =>
      split at h
      · rename_i hm; simp only [hm]; cases h; exact ht
      · cases h
  · cases d <;> simp only at h ⊢ <;> try (cases h; done)
    split at h
    · rename_i hm; simp only [hm]; cases h; exact ht
    · cases h

def opX (P : Program) (C : CallF) (o : Oper) (s : St) (slot : Nat) : Option (D × List (Nat × Blk) × List (Nat × Blk)) :=
  match callOf o.op with
  | some (x, args) => match leadsX P (invOf o.op) (s.ev x) with
    | some (f, fs, caps) => C f (fs ++ (args.toList.map s.ev ++ caps)) s.H slot
    | none => none
  | none => aop P o s.ev (hget s.H) slot

def opsX (P : Program) (C : CallF) (ops : Array Oper) : List Oper → Nat → St → Option St
  | [], _, s => some s
  | o :: rest, slot, s => match wantedA ops o s with
    | some false => opsX P C ops rest (slot + nslots o.op) (s.put o.dst (.tup []))
    | some true => match opX P C o s slot with
      | some (d, wr, _) => opsX P C ops rest (slot + nslots o.op) (s.after o.dst d wr)
      | none => none
    | none => none

def finM (g : MG) (s : St) : St := ⟨s.n, (g.t, .mpv g.k g.keys g.vals) :: s.tm, s.H⟩

/-- A region in which a map is made. -/
def opsM (P : Program) (C : CallF) (ops : Array Oper) : List Oper → Nat → Option MG → St → Option St
  | [], _, none, s => some s
  | [], _, some g, s => some (finM g s)
  | o :: rest, slot, none, s => match makeOf o with
    | some (ty, t) => if t < s.n then (match keyT P ty with
      | some k => opsM P C ops rest slot (some ⟨t, ty, k, [], []⟩) (s.put (some t) .un)
      | none => none) else none
    | none => match wantedA ops o s with
      | none => none
      | some false => opsM P C ops rest (slot + nslots o.op) none (s.put o.dst (.tup []))
      | some true => match opX P C o s slot with
        | some (d, wr, _) => opsM P C ops rest (slot + nslots o.op) none (s.after o.dst d wr)
        | none => none
  | o :: rest, slot, some g, s => match insOf g o with
    | some (n, x) => if Operand.isTmp g.t x = false then opsM P C ops rest slot (some { g with keys := g.keys ++ [n], vals := g.vals ++ [s.ev x] }) s else none
    | none => if o.dst = some g.t then none else match wantedA ops o s with
      | none => none
      | some false => opsM P C ops rest (slot + nslots o.op) (some g) (s.put o.dst (.tup []))
      | some true => if o.op.operands.toList.any (Operand.isTmp g.t) = true then (match opX P C o (finM g s) slot with
          | some (d, wr, _) => opsM P C ops rest (slot + nslots o.op) none ((finM g s).after o.dst d wr)
          | none => none)
        else match opX P C o s slot with
          | some (d, wr, _) => opsM P C ops rest (slot + nslots o.op) (some g) (s.after o.dst d wr)
          | none => none

def hasMake (P : Program) (ops : Array Oper) : Bool := ops.toList.any fun o => match makeOf o with
  | some q => (keyT P q.1).isSome
  | none => false

def drawX (P : Program) (C : CallF) (ops : Array Oper) : List Oper → Nat → St → List Foot → Option (St × List Foot)
  | [], _, s, acc => some (s, acc.reverse)
  | o :: rest, slot, s, acc => match wantedA ops o s with
    | some false => drawX P C ops rest (slot + nslots o.op) (s.after o.dst (.tup []) []) (([], []) :: acc)
    | some true => match opX P C o s slot with
      | some (d, wr, rd) => drawX P C ops rest (slot + nslots o.op) (s.after o.dst d wr) ((rd.map (·.1), wr.map (·.1)) :: acc)
      | none => none
    | none => none

/-- The last value of each temporary alone. -/
def dedup : List (Nat × D) → List (Nat × D)
  | [] => []
  | p :: l => p :: (dedup l).filter fun q => q.1 != p.1

def trim (s : St) : St := ⟨s.n, dedup s.tm, s.H⟩

abbrev Outs := Option (List (Exit × St))

def bindL : List (Exit × St) → (Exit × St → Outs) → Outs
  | [], _ => some []
  | a :: l, f => match f a with
    | some x => match bindL l f with
      | some y => some (x ++ y)
      | none => none
    | none => none

def onN (f : St → Outs) (p : Exit × St) : Outs :=
  match p.1 with
  | .normal => f p.2
  | _ => some [p]

def onX (id : Nat) (p : Exit × St) : Outs :=
  match p.1 with
  | .exit id' => if id' == id then some [(.normal, p.2)] else some [p]
  | _ => some [p]

def iter (body : St → Outs) : Nat → St → Outs
  | 0, _ => none
  | n + 1, s => match body (trim s) with
    | some l => bindL l (onN fun s1 => iter body n s1)
    | none => none

mutual
def D.hasPtr (b : Nat) : D → Bool
  | .ptr b' _ _ _ => b' == b
  | .agg cs => D.hasPtrL b cs
  | .tup cs => D.hasPtrL b cs
  | .fn _ cs => D.hasPtrL b cs
  | .mv _ cs => D.hasPtrL b cs
  | .mpv _ _ cs => D.hasPtrL b cs
  | _ => false
def D.hasPtrL (b : Nat) : List D → Bool
  | [] => false
  | d :: ds => d.hasPtr b || D.hasPtrL b ds
end

def ptrIn (b : Nat) (s : St) : Bool := (s.tm.any fun p => p.2.hasPtr b) || s.H.any fun o => match o with
  | some rows => rows.any fun r => D.hasPtrL b r
  | none => false

def frzOne (k : Nat) (s : St) (b : Nat) : St := if k ≤ b then (if ((hget s.H b).map pureB == some true) && !ptrIn b s then (match freeze b s with | some s' => s' | none => s) else s) else s

def frzAll (k : Nat) (s : St) : St := (List.range s.H.length ++ List.range s.H.length).foldl (frzOne k) (trim s)

def bindO {α β : Type} : List α → (α → Option (List β)) → Option (List β)
  | [], _ => some []
  | a :: l, f => match f a with
    | some x => match bindO l f with
      | some y => some (x ++ y)
      | none => none
    | none => none

/-! ### A function that is ranged over -/
abbrev CallY := List D → Heap → Option (List (Heap × Option Code))
abbrev OutI := Option (List (Exit × St × Option Code))

def itOps (P : Program) (C : CallF) (Y : CallY) (ops : Array Oper) : List Oper → Nat → List Nat → St → Option Code → Option (List (St × Option Code))
  | [], _, _, s, j => some [(s, j)]
  | o :: rest, slot, Yt, s, j => if o.dst = some 0 then none else match wantedA ops o s with
    | none => none
    | some false => itOps P C Y ops rest (slot + nslots o.op) (rmY Yt o.dst) (s.put o.dst (.tup [])) j
    | some true => match yieldOf Yt o.op with
      | some args => match j with
        | some _ => none
        | none => match Y (args.toList.map s.ev) s.H with
          | none => none
          | some l => bindO l fun p => itOps P C Y ops rest p.1.length (rmY Yt o.dst) ⟨s.n, (s.put o.dst (.bool p.2.isNone)).tm, p.1⟩ p.2
      | none => match moveOf Yt o with
        | some d => if d < s.n then itOps P C Y ops rest (slot + nslots o.op) (d :: Yt) (s.put o.dst .un) j else none
        | none => match opX P C o s slot with
          | some (d, wr, _) => itOps P C Y ops rest (slot + nslots o.op) (rmY Yt o.dst) (s.after o.dst d wr) j
          | none => none

def isY (Y : List Nat) (o : Oper) : Bool := (yieldOf Y o.op).isSome

/-- Where yield is called for the first time. -/
def yIdx (ops : Array Oper) : Nat := ops.toList.findIdx (isY (0 :: movesY ops.toList))

def itNext (f : St → Option Code → OutI) (p : Exit × St × Option Code) : OutI :=
  match p.1 with
  | .normal => f p.2.1 p.2.2
  | _ => some [p]

def itLeave (id : Nat) (p : Exit × St × Option Code) : OutI :=
  match p.1 with
  | .exit id' => if id' = id then some [(.normal, p.2)] else some [p]
  | _ => some [p]

def itLoop (body : St → Option Code → OutI) : Nat → St → Option Code → OutI
  | 0, _, _ => none
  | n + 1, s, j => match body (trim s) j with
    | some l => bindO l (itNext fun s1 j1 => itLoop body n s1 j1)
    | none => none

def itN (x : Option (List (St × Option Code))) : OutI :=
  match x with
  | some l => some (l.map fun p => (.normal, p))
  | none => none

def itX (P : Program) (C : CallF) (Y : CallY) (lim : Nat) : Code → St → Option Code → OutI
  | .skip, s, j => some [(.normal, s, j)]
  | .region id ops true, s, j => if barrier ops (yIdx ops) && movesOK (ops.extract 0 (yIdx ops)) s.n then
      match drawX P C (ops.extract 0 (yIdx ops)) (ops.extract 0 (yIdx ops)).toList s.H.length s [] with
      | some (s1, fs) => if drawOK (ops.extract 0 (yIdx ops)) fs = true then
          itN (itOps P C Y ops (ops.toList.drop (yIdx ops)) s1.H.length (0 :: movesY (ops.extract 0 (yIdx ops)).toList) s1 j) else none
      | none => none
      else none
  | .region id ops false, s, j => itN (itOps P C Y ops ops.toList s.H.length [0] s j)
  | .seq x y, s, j => match itX P C Y lim x s j with
    | some l => bindO l (itNext fun s1 j1 => itX P C Y lim y s1 j1)
    | none => none
  | .cond c x y, s, j => match s.ev c with
    | .bool true => itX P C Y lim x s j
    | .bool false => itX P C Y lim y s j
    | _ => none
  | .block id x, s, j => match itX P C Y lim x s j with
    | some l => bindO l (itLeave id)
    | none => none
  | .exit id, s, j => some [(.exit id, s, j)]
  | .ret, s, j => some [(.ret, s, j)]
  | .loop x, s, j => itLoop (itX P C Y lim x) lim s j
  | _, _, _ => none

def roundB (p : Exit × St) : Option (List (Heap × Option Code)) :=
  match jumpOf p.1 with
  | some j => some [(p.2.H, j)]
  | none => none

/-- A round, by what runs the assignment and the body. -/
def roundX (runA runB : Nat → St → Outs) (s0 : St) (ps : Array Tmp) : CallY := fun args H =>
  if args.length = ps.size then match runA H.length ⟨s0.n, (ps.toList.zip args).reverse ++ s0.tm, H⟩ with
    | some [(.normal, s1)] => match runB s1.H.length s1 with
      | some l => bindO l roundB
      | none => none
    | _ => none
  else none

def behindX (s : St) (p : Exit × St × Option Code) : Outs :=
  match p.1, p.2.2 with
  | .normal, none => some [(.normal, ⟨s.n, s.tm, p.2.1.H⟩)]
  | .ret, none => some [(.normal, ⟨s.n, s.tm, p.2.1.H⟩)]
  | .normal, some .ret => some [(.ret, ⟨s.n, s.tm, p.2.1.H⟩)]
  | .ret, some .ret => some [(.ret, ⟨s.n, s.tm, p.2.1.H⟩)]
  | .normal, some (.exit id) => some [(.exit id, ⟨s.n, s.tm, p.2.1.H⟩)]
  | .ret, some (.exit id) => some [(.exit id, ⟨s.n, s.tm, p.2.1.H⟩)]
  | _, _ => none

def rangeX (P : Program) (C : CallF) (lim : Nat) (runA runB : Nat → St → Outs) (g : D) (ps : Array Tmp) (s : St) : Outs :=
  match g with
  | .fn f caps => match P.funcs[f]? with
    | some fn => if fn.name == "runtime.NumGoroutine" then none else match fn.body with
      | some c => if fn.results.isEmpty && decide (caps.length + 1 ≤ fn.ntmps) then
          match itX P C (roundX runA runB s ps) lim c ⟨fn.ntmps, enum 0 (.un :: caps), s.H⟩ none with
          | some l => bindO l (behindX s)
          | none => none
          else none
      | none => none
    | none => none
  | _ => none

def codeX (P : Program) (C : CallF) (fz : Nat → Bool) (lim : Nat) : Bool → Nat → Code → St → Outs
  | rr, k, .skip, s => some [(.normal, s)]
  | rr, k, .region id ops true, s => match drawX P C ops ops.toList s.H.length s [] with
    | some (s1, fs) => if drawOK ops fs = true then some [(.normal, if fz id then frzAll k s1 else s1)] else none
    | none => none
  | rr, k, .region id ops false, s => match (if hasMake P ops then opsM P C ops ops.toList s.H.length none s else opsX P C ops ops.toList s.H.length s) with
    | some s1 => some [(.normal, if fz id then frzAll k s1 else s1)]
    | none => none
  | rr, k, .seq x y, s => match codeX P C fz lim rr k x s with
    | some l => bindL l (onN fun s1 => codeX P C fz lim rr k y s1)
    | none => none
  | rr, k, .cond c x y, s => match s.ev c with
    | .bool true => codeX P C fz lim rr k x s
    | .bool false => codeX P C fz lim rr k y s
    | .ub => match codeX P C fz lim rr k x s, codeX P C fz lim rr k y s with
      | some l, some l' => some (l ++ l')
      | _, _ => none
    | _ => none
  | rr, k, .block id x, s => match codeX P C fz lim rr k x s with
    | some l => bindL l (onX id)
    | none => none
  | rr, k, .exit id, s => some [(.exit id, s)]
  | rr, k, .ret, s => some [(.ret, s)]
  | rr, k, .loop x, s => iter (codeX P C fz lim rr k x) lim s
  | rr, k, .rangeFunc g ps x y, s => if rr = true then none else rangeX P C lim (fun k' s' => codeX P C fz lim true k' x s') (fun k' s' => codeX P C fz lim true k' y s') (s.ev g) ps s
  | _, _, _, _ => none

/-- What a contract for calls asks of a function that answers them. -/
def Obeys (C : CallF) (C' : CallP) : Prop := ∀ f vals H slot d wr rd (K : D → List (Nat × Blk) → List (Nat × Blk) → Prop), C f vals H slot = some (d, wr, rd) → K d wr rd → C' f vals H slot K

theorem opX_run {P : Program} {C : CallF} {C' : CallP} (hC : Obeys C C') {o : Oper} {s : St} {slot : Nat} {d : D} {wr rd : List (Nat × Blk)} {K : D → List (Nat × Blk) → List (Nat × Blk) → Prop} (h : opX P C o s slot = some (d, wr, rd)) (hK : K d wr rd) : opRun P C' o s slot K := by
  unfold opX at h
  unfold opRun
  cases hc : callOf o.op with
  | none =>
    simp only [hc] at h
    rw [brC_none, h]
    exact hK
  | some p =>
    obtain ⟨x, args⟩ := p
    simp only [hc] at h
    rw [brC_some]
    cases hx : leadsX P (invOf o.op) (s.ev x) with
    | none => simp [hx] at h
    | some q =>
      obtain ⟨f, fs, caps⟩ := q
      simp only [hx] at h
      exact leadsX_callV hx (hC _ _ _ _ _ _ _ _ h hK)

theorem opsX_run {P : Program} {C : CallF} {C' : CallP} (hC : Obeys C C') (ops : Array Oper) {Q : St → Prop} : ∀ (l : List Oper) (slot : Nat) (s s' : St), opsX P C ops l slot s = some s' → Q s' → runOps P C' ops l slot s Q
  | [], slot, s, s', h, hq => by
    simp only [opsX, Option.some.injEq] at h
    subst h
    exact hq
  | o :: rest, slot, s, s', h, hq => by
    simp only [opsX] at h
    unfold runOps
    cases hw : wantedA ops o s with
    | none => simp [hw] at h
    | some b =>
      cases b with
      | false =>
        simp only [hw] at h
        exact opsX_run hC ops rest _ _ _ h hq
      | true =>
        simp only [hw] at h
        rw [wnt_true]
        cases ho : opX P C o s slot with
        | none => simp [ho] at h
        | some p =>
          obtain ⟨d, wr, rd⟩ := p
          simp only [ho] at h
          exact opX_run hC ho (opsX_run hC ops rest _ _ _ h hq)

theorem opsM_run {P : Program} {C : CallF} {C' : CallP} (hC : Obeys C C') (ops : Array Oper) {Q : St → Prop} : ∀ (l : List Oper) (slot : Nat) (g : Option MG) (s s' : St), opsM P C ops l slot g s = some s' → Q s' → runM P C' ops l slot g s Q
  | [], slot, none, s, s', h, hq => by
    simp only [opsM, Option.some.injEq] at h
    subst h
    exact hq
  | [], slot, some g, s, s', h, hq => by
    simp only [opsM, Option.some.injEq] at h
    subst h
    exact hq
  | o :: rest, slot, none, s, s', h, hq => by
    simp only [opsM] at h
    simp only [runM]
    cases hm : makeOf o with
    | some q =>
      obtain ⟨ty, t⟩ := q
      simp only [hm] at h ⊢
      split at h
      · rename_i ht
        refine ⟨ht, ?_⟩
        cases hk : keyT P ty with
        | none => simp [hk] at h
        | some k =>
          simp only [hk] at h
          exact opsM_run hC ops rest _ _ _ _ h hq
      · cases h
    | none =>
      simp only [hm] at h ⊢
      cases hw : wantedA ops o s with
      | none => simp [hw] at h
      | some b =>
        cases b with
        | false =>
          simp only [hw] at h
          exact opsM_run hC ops rest _ _ _ _ h hq
        | true =>
          simp only [hw] at h
          cases ho : opX P C o s slot with
          | none => simp [ho] at h
          | some p =>
            obtain ⟨d, wr, rd⟩ := p
            simp only [ho] at h
            exact opX_run hC ho (opsM_run hC ops rest _ _ _ _ h hq)
  | o :: rest, slot, some g, s, s', h, hq => by
    simp only [opsM] at h
    simp only [runM]
    cases hi : insOf g o with
    | some q =>
      obtain ⟨n, x⟩ := q
      simp only [hi] at h ⊢
      split at h
      · rename_i hx
        exact ⟨hx, opsM_run hC ops rest _ _ _ _ h hq⟩
      · cases h
    | none =>
      simp only [hi] at h ⊢
      split at h
      · cases h
      · rename_i hd
        refine ⟨hd, ?_⟩
        cases hw : wantedA ops o s with
        | none => simp [hw] at h
        | some b =>
          cases b with
          | false =>
            simp only [hw] at h
            exact opsM_run hC ops rest _ _ _ _ h hq
          | true =>
            simp only [hw] at h
            simp only
            by_cases hu : o.op.operands.toList.any (Operand.isTmp g.t) = true
            · rw [if_pos hu] at h ⊢
              cases ho : opX P C o (finM g s) slot with
              | none => simp [ho] at h
              | some p =>
                obtain ⟨d, wr, rd⟩ := p
                simp only [ho] at h
                exact opX_run hC ho (opsM_run hC ops rest _ _ _ _ h hq)
            · rw [if_neg hu] at h ⊢
              cases ho : opX P C o s slot with
              | none => simp [ho] at h
              | some p =>
                obtain ⟨d, wr, rd⟩ := p
                simp only [ho] at h
                exact opX_run hC ho (opsM_run hC ops rest _ _ _ _ h hq)

theorem drawX_run {P : Program} {C : CallF} {C' : CallP} (hC : Obeys C C') (ops : Array Oper) {Q : St → List Foot → Prop} : ∀ (l : List Oper) (slot : Nat) (s : St) (acc : List Foot) (s' : St) (fs : List Foot), drawX P C ops l slot s acc = some (s', fs) → Q s' fs → runD P C' ops l slot s acc Q
  | [], slot, s, acc, s', fs, h, hq => by
    simp only [drawX, Option.some.injEq, Prod.mk.injEq] at h
    obtain ⟨rfl, rfl⟩ := h
    exact hq
  | o :: rest, slot, s, acc, s', fs, h, hq => by
    simp only [drawX] at h
    unfold runD
    cases hw : wantedA ops o s with
    | none => simp [hw] at h
    | some b =>
      cases b with
      | false =>
        simp only [hw] at h
        exact drawX_run hC ops rest _ _ _ _ _ h hq
      | true =>
        simp only [hw] at h
        rw [wnt_true]
        cases ho : opX P C o s slot with
        | none => simp [ho] at h
        | some p =>
          obtain ⟨d, wr, rd⟩ := p
          simp only [ho] at h
          exact opX_run hC ho (drawX_run hC ops rest _ _ _ _ _ h hq)

theorem lk_filter (t u : Nat) (h : t ≠ u) : ∀ l : List (Nat × D), lk (l.filter fun q => q.1 != u) t = lk l t
  | [] => rfl
  | p :: l => by
    by_cases hp : p.1 = u
    · have : (p.1 != u) = false := by simp [hp]
      rw [List.filter_cons_of_neg (by simp [hp]), lk_filter t u h l]
      obtain ⟨i, d⟩ := p
      simp only at hp
      subst hp
      simp only [lk]
      rw [if_neg (by omega)]
    · rw [List.filter_cons_of_pos (by simp [hp])]
      obtain ⟨i, d⟩ := p
      simp only [lk]
      rw [lk_filter t u h l]

theorem lk_dedup (t : Nat) : ∀ l : List (Nat × D), lk (dedup l) t = lk l t
  | [] => rfl
  | (i, d) :: l => by
    simp only [dedup, lk]
    by_cases h : i = t
    · simp [h]
    · rw [if_neg h, if_neg h, lk_filter t i (by omega), lk_dedup t l]

theorem Conv.trim (k : Nat) (s : St) : Conv k s (trim s) := fun _ _ E _ w h => ⟨E, h.same ⟨rfl, fun t => (lk_dedup t s.tm).symm, fun _ => rfl⟩, FrK.refl _ _ _⟩

theorem Conv.frzOne (k : Nat) (s : St) (b : Nat) : Conv k s (frzOne k s b) := by
  unfold AH.frzOne
  split
  · rename_i hk
    split
    · cases hf : AH.freeze b s with
      | none => exact Conv.refl _ _
      | some s' => exact Conv.freeze hk hf
    · exact Conv.refl _ _
  · exact Conv.refl _ _

theorem Conv.frzL (k : Nat) : ∀ (l : List Nat) (s : St), Conv k s (l.foldl (AH.frzOne k) s)
  | [], s => Conv.refl _ _
  | b :: l, s => (Conv.frzOne k s b).trans (Conv.frzL k l _)

theorem Conv.frzAll (k : Nat) (s : St) : Conv k s (frzAll k s) := (Conv.trim k s).trans (Conv.frzL k _ _)

theorem AW.frz {P : Program} {rr : Bool} {k : Nat} {c : Code} {Q : Exit → St → Prop} {s s1 : St} {x : Bool} (h : AW P rr k c (fun e s2 => e = .normal ∧ s2 = s1) s) (hq : Q .normal (if x = true then AH.frzAll k s1 else s1)) : AW P rr k c Q s := by
  refine h.post ?_
  rintro e s2 ⟨rfl, rfl⟩
  cases x with
  | true => exact ⟨_, Conv.frzAll k s2, hq⟩
  | false => exact ⟨_, Conv.refl _ _, hq⟩

theorem bindL_mem {f : Exit × St → Outs} : ∀ {l r : List (Exit × St)}, bindL l f = some r → ∀ p, p ∈ l → ∃ x, f p = some x ∧ ∀ q, q ∈ x → q ∈ r
  | [], r, h, p, hp => by simp at hp
  | a :: l, r, h, p, hp => by
    simp only [bindL] at h
    cases h1 : f a with
    | none => simp [h1] at h
    | some x =>
      cases h2 : bindL l f with
      | none => simp [h1, h2] at h
      | some y =>
        simp only [h1, h2, Option.some.injEq] at h
        subst h
        rcases List.mem_cons.1 hp with rfl | hp
        · exact ⟨x, h1, fun q hq => List.mem_append.2 (.inl hq)⟩
        · obtain ⟨x', e1, e2⟩ := bindL_mem h2 p hp
          exact ⟨x', e1, fun q hq => List.mem_append.2 (.inr (e2 q hq))⟩

theorem AW.any {P : Program} {rr : Bool} {k : Nat} {c : Code} {Q Q' : Exit → St → Prop} {s : St} (l : List (Exit × St)) (h : AW P rr k c (fun e s1 => (e, s1) ∈ l) s) (hq : ∀ p, p ∈ l → Q p.1 p.2) : AW P rr k c Q s := h.mono fun e s1 hm => hq (e, s1) hm

theorem bindO_mem {α β : Type} {f : α → Option (List β)} : ∀ {l : List α} {r : List β}, bindO l f = some r → ∀ p, p ∈ l → ∃ x, f p = some x ∧ ∀ q, q ∈ x → q ∈ r
  | [], r, h, p, hp => by simp at hp
  | a :: l, r, h, p, hp => by
    simp only [bindO] at h
    cases h1 : f a with
    | none => simp [h1] at h
    | some x =>
      cases h2 : bindO l f with
      | none => simp [h1, h2] at h
      | some y =>
        simp only [h1, h2, Option.some.injEq] at h
        subst h
        rcases List.mem_cons.1 hp with rfl | hp
        · exact ⟨x, h1, fun q hq => List.mem_append.2 (.inl hq)⟩
        · obtain ⟨x', e1, e2⟩ := bindO_mem h2 p hp
          exact ⟨x', e1, fun q hq => List.mem_append.2 (.inr (e2 q hq))⟩

/-- What runs the rounds is sound. -/
def ObeysY (R : RC) (Y : CallY) : Prop := ∀ args H l (K : Heap → Option Code → Prop), Y args H = some l → (∀ p, p ∈ l → K p.1 p.2) → roundA R.P R.s0 R.ps R.assign R.body args H K

theorem itOps_run {R : RC} {C : CallF} {C' : CallP} {Y : CallY} (hC : Obeys C C') (hY : ObeysY R Y) (ops : Array Oper) {Q : St → Option Code → Prop} : ∀ (l : List Oper) (slot : Nat) (Yt : List Nat) (s : St) (j : Option Code) (r : List (St × Option Code)),
    itOps R.P C Y ops l slot Yt s j = some r → (∀ p, p ∈ r → Q p.1 p.2) → runI R C' ops l slot Yt s j Q
  | [], slot, Yt, s, j, r, h, hq => by
    simp only [itOps, Option.some.injEq] at h
    subst h
    exact hq _ (List.mem_singleton.2 rfl)
  | o :: rest, slot, Yt, s, j, r, h, hq => by
    simp only [itOps] at h
    simp only [runI]
    split at h
    · cases h
    · rename_i hd
      refine ⟨hd, ?_⟩
      cases hw : wantedA ops o s with
      | none => simp [hw] at h
      | some b =>
        cases b with
        | false =>
          simp only [hw] at h
          exact itOps_run hC hY ops rest _ _ _ j r h hq
        | true =>
          simp only [hw] at h
          cases hy : yieldOf Yt o.op with
          | some args =>
            simp only [hy] at h ⊢
            cases j with
            | some c => simp at h
            | none =>
              refine ⟨rfl, ?_⟩
              simp only at h
              cases hl : Y (args.toList.map s.ev) s.H with
              | none => simp [hl] at h
              | some l =>
                simp only [hl] at h
                refine hY _ _ _ _ hl fun p hp => ?_
                obtain ⟨x, e1, e2⟩ := bindO_mem h p hp
                exact itOps_run hC hY ops rest _ _ _ _ x e1 fun q hq' => hq q (e2 q hq')
          | none =>
            simp only [hy] at h ⊢
            cases hm : moveOf Yt o with
            | some d =>
              simp only [hm] at h ⊢
              split at h
              · rename_i hdn
                exact ⟨hdn, itOps_run hC hY ops rest _ _ _ j r h hq⟩
              · cases h
            | none =>
              simp only [hm] at h ⊢
              cases ho : opX R.P C o s slot with
              | none => simp [ho] at h
              | some p =>
                obtain ⟨d, wr, rd⟩ := p
                simp only [ho] at h
                exact opX_run hC ho (itOps_run hC hY ops rest _ _ _ j r h hq)

theorem AWI.conv {R : RC} {c : Code} {Q : Exit → St → Option Code → Prop} {s s' : St} {j : Option Code} (hs : SameTm s s') (h : AWI R c Q s' j) : AWI R c Q s j := fun X E a w hI => h X E a w (hI.same hs)

theorem SameTm.trim (s : St) : SameTm s (trim s) := ⟨rfl, rfl, fun t => .inl (lk_dedup t s.tm)⟩
theorem SameTm.refl (s : St) : SameTm s s := ⟨rfl, rfl, fun t => .inl rfl⟩

theorem itN_some {x : Option (List (St × Option Code))} {l : List (Exit × St × Option Code)} (h : itN x = some l) : ∃ r, x = some r ∧ l = r.map fun p => (.normal, p) := by
  cases x with
  | none => simp [itN] at h
  | some r => exact ⟨r, rfl, by simpa [itN] using h.symm⟩

theorem itX_sound {R : RC} {C : CallF} {C' : CallP} {Y : CallY} {lim : Nat} (hC : Obeys C C') (hS : C'.Sound R.P) (hmix : R.P.follows .mixedOrders = true) (hY : ObeysY R Y) : ∀ (c : Code) (s : St) (j : Option Code) (l : List (Exit × St × Option Code)) (Q : Exit → St → Option Code → Prop),
    itX R.P C Y lim c s j = some l → (∀ p, p ∈ l → Q p.1 p.2.1 p.2.2) → AWI R c Q s j
  | .skip, s, j, l, Q, h, hq => by
    simp only [itX, Option.some.injEq] at h
    subst h
    exact AWI.skip (hq _ (List.mem_singleton.2 rfl))
  | .region id ops true, s, j, l, Q, h, hq => by
    simp only [itX] at h
    split at h
    · rename_i hb
      rw [Bool.and_eq_true] at hb
      cases h1 : drawX R.P C (ops.extract 0 (yIdx ops)) (ops.extract 0 (yIdx ops)).toList s.H.length s [] with
      | none => simp only [h1] at h; cases h
      | some p =>
        obtain ⟨s1, fs⟩ := p
        simp only [h1] at h
        split at h
        · rename_i hd
          obtain ⟨r, h2, rfl⟩ := itN_some h
          exact AWI.draw hS hmix (yIdx ops) hb.1 hb.2 (drawX_run hC _ _ _ _ _ _ _ h1 ⟨hd, itOps_run hC hY ops _ _ _ _ _ _ h2 fun p hp => hq _ (List.mem_map.2 ⟨p, hp, rfl⟩)⟩)
        · cases h
    · cases h
  | .region id ops false, s, j, l, Q, h, hq => by
    simp only [itX] at h
    obtain ⟨r, h2, rfl⟩ := itN_some h
    exact AWI.region hS (itOps_run hC hY ops _ _ _ _ _ _ h2 fun p hp => hq _ (List.mem_map.2 ⟨p, hp, rfl⟩))
  | .seq x y, s, j, l, Q, h, hq => by
    simp only [itX] at h
    cases h1 : itX R.P C Y lim x s j with
    | none => simp [h1] at h
    | some l1 =>
      simp only [h1] at h
      refine AWI.seq (itX_sound hC hS hmix hY x s j l1 _ h1 fun p hp => ?_)
      obtain ⟨z, e1, e2⟩ := bindO_mem h p hp
      obtain ⟨e, s1, j1⟩ := p
      cases e with
      | normal => exact itX_sound hC hS hmix hY y s1 j1 z Q e1 fun p hp => hq p (e2 p hp)
      | _ =>
        simp only [itNext, Option.some.injEq] at e1
        subst e1
        exact hq _ (e2 _ (List.mem_singleton.2 rfl))
  | .cond c x y, s, j, l, Q, h, hq => by
    simp only [itX] at h
    cases hc : s.ev c with
    | bool b =>
      cases b with
      | true =>
        simp only [hc] at h
        exact AWI.cond hc (fun _ => itX_sound hC hS hmix hY x s j l Q h hq) (fun e => by cases e)
      | false =>
        simp only [hc] at h
        exact AWI.cond hc (fun e => by cases e) (fun _ => itX_sound hC hS hmix hY y s j l Q h hq)
    | _ => simp [hc] at h
  | .block id x, s, j, l, Q, h, hq => by
    simp only [itX] at h
    cases h1 : itX R.P C Y lim x s j with
    | none => simp [h1] at h
    | some l1 =>
      simp only [h1] at h
      refine AWI.block (itX_sound hC hS hmix hY x s j l1 _ h1 fun p hp => ?_)
      obtain ⟨z, e1, e2⟩ := bindO_mem h p hp
      obtain ⟨e, s1, j1⟩ := p
      cases e with
      | exit id' =>
        simp only [itLeave] at e1
        by_cases hid : id' = id
        · rw [if_pos hid] at e1
          simp only [Option.some.injEq] at e1
          subst e1
          exact ⟨fun _ => hq _ (e2 _ (List.mem_singleton.2 rfl)), fun hn => absurd hid hn⟩
        · rw [if_neg hid] at e1
          simp only [Option.some.injEq] at e1
          subst e1
          exact ⟨fun hn => absurd hn hid, fun _ => hq _ (e2 _ (List.mem_singleton.2 rfl))⟩
      | _ =>
        simp only [itLeave, Option.some.injEq] at e1
        subst e1
        exact hq _ (e2 _ (List.mem_singleton.2 rfl))
  | .exit id, s, j, l, Q, h, hq => by
    simp only [itX, Option.some.injEq] at h
    subst h
    exact AWI.exit (hq _ (List.mem_singleton.2 rfl))
  | .ret, s, j, l, Q, h, hq => by
    simp only [itX, Option.some.injEq] at h
    subst h
    exact AWI.ret (hq _ (List.mem_singleton.2 rfl))
  | .loop x, s, j, l, Q, h, hq => by
    simp only [itX] at h
    refine AWI.loop (I := fun n s j => ∃ r, itLoop (itX R.P C Y lim x) n s j = some r ∧ ∀ p, p ∈ r → p ∈ l) ?_ ⟨l, h, fun p hp => hp⟩
    rintro n s1 j1 ⟨r, h1, hr⟩
    cases n with
    | zero => simp [itLoop] at h1
    | succ n =>
      simp only [itLoop] at h1
      cases h2 : itX R.P C Y lim x (AH.trim s1) j1 with
      | none => simp [h2] at h1
      | some l2 =>
        simp only [h2] at h1
        refine AWI.conv (SameTm.trim s1) (itX_sound hC hS hmix hY x _ j1 l2 _ h2 fun p hp => ?_)
        obtain ⟨z, e1, e2⟩ := bindO_mem h1 p hp
        obtain ⟨e, s2, j2⟩ := p
        cases e with
        | normal => exact ⟨n, s2, by omega, SameTm.refl _, z, e1, fun p hp => hr p (e2 p hp)⟩
        | _ =>
          simp only [itNext, Option.some.injEq] at e1
          subst e1
          exact hq _ (hr _ (e2 _ (List.mem_singleton.2 rfl)))
  | .rangeFunc _ _ _ _, s, j, l, Q, h, hq => by simp [itX] at h
  | .scope _, s, j, l, Q, h, hq => by simp [itX] at h
  | .label _, s, j, l, Q, h, hq => by simp [itX] at h
  | .goto _, s, j, l, Q, h, hq => by simp [itX] at h
  | .refuse _, s, j, l, Q, h, hq => by simp [itX] at h

theorem roundX_obeys {P : Program} {k : Nat} {s0 : St} {ps : Array Tmp} {x y : Code} {runA runB : Nat → St → Outs}
    (hA : ∀ k' s l (Q : Exit → St → Prop), runA k' s = some l → (∀ p, p ∈ l → Q p.1 p.2) → AW P true k' x Q s)
    (hB : ∀ k' s l (Q : Exit → St → Prop), runB k' s = some l → (∀ p, p ∈ l → Q p.1 p.2) → AW P true k' y Q s) : ObeysY ⟨P, k, s0, ps, x, y⟩ (roundX runA runB s0 ps) := by
  intro args H l K h hK
  unfold roundX at h
  split at h
  · rename_i hl
    refine ⟨hl, ?_⟩
    split at h
    · rename_i s1 h1
      split at h
      · rename_i l2 h2
        refine hA _ _ _ _ h1 fun p hp => ?_
        obtain rfl : p = (.normal, s1) := by simpa using hp
        refine ⟨rfl, hB _ _ _ _ h2 fun q hq => ?_⟩
        obtain ⟨z, e1, e2⟩ := bindO_mem h q hq
        unfold roundB at e1
        split at e1
        · rename_i jj hj
          simp only [Option.some.injEq] at e1
          subst e1
          exact ⟨jj, hj, hK _ (e2 _ (List.mem_singleton.2 rfl))⟩
        · cases e1
      · cases h
    · cases h
  · cases h

theorem behindX_spec {s s1 : St} {e : Exit} {j : Option Code} {z : List (Exit × St)} (h : behindX s (e, s1, j) = some z) : (e = .normal ∨ e = .ret) ∧
    ((j = none ∧ z = [(.normal, ⟨s.n, s.tm, s1.H⟩)]) ∨ (j = some .ret ∧ z = [(.ret, ⟨s.n, s.tm, s1.H⟩)]) ∨ ∃ id, j = some (.exit id) ∧ z = [(.exit id, ⟨s.n, s.tm, s1.H⟩)]) := by
  unfold behindX at h
  split at h <;> simp_all

theorem rangeX_sound {P : Program} {C : CallF} {C' : CallP} {lim k : Nat} (hC : Obeys C C') (hS : C'.Sound P) (hmix : P.follows .mixedOrders = true) {g : Operand} {ps : Array Tmp} {x y : Code} {runA runB : Nat → St → Outs} {s : St} {l : List (Exit × St)} {Q : Exit → St → Prop}
    (hA : ∀ k' s l (Q : Exit → St → Prop), runA k' s = some l → (∀ p, p ∈ l → Q p.1 p.2) → AW P true k' x Q s)
    (hB : ∀ k' s l (Q : Exit → St → Prop), runB k' s = some l → (∀ p, p ∈ l → Q p.1 p.2) → AW P true k' y Q s)
    (h : rangeX P C lim runA runB (s.ev g) ps s = some l) (hq : ∀ p, p ∈ l → Q p.1 p.2) : AW P false k (.rangeFunc g ps x y) Q s := by
  unfold rangeX at h
  split at h
  · rename_i f caps hg
    split at h
    · rename_i fn hf
      split at h
      · cases h
      · rename_i hname
        split at h
        · rename_i c hb
          split at h
          · rename_i hr
            rw [Bool.and_eq_true, decide_eq_true_eq] at hr
            split at h
            · rename_i l1 h1
              refine AW.rangeFunc hg hf (by simpa using hname) hb (by simpa using hr.1) hr.2 (itX_sound (R := ⟨P, k, s, ps, x, y⟩) hC hS hmix (roundX_obeys hA hB) c _ _ l1 _ h1 fun p hp => ?_)
              obtain ⟨z, e1, e2⟩ := bindO_mem h p hp
              obtain ⟨e, s1, jj⟩ := p
              obtain ⟨he, ⟨rfl, rfl⟩ | ⟨rfl, rfl⟩ | ⟨id, rfl, rfl⟩⟩ := behindX_spec e1
              · exact ⟨he, hq _ (e2 _ (List.mem_singleton.2 rfl))⟩
              · exact ⟨he, hq _ (e2 _ (List.mem_singleton.2 rfl))⟩
              · exact ⟨he, hq _ (e2 _ (List.mem_singleton.2 rfl))⟩
            · cases h
          · cases h
        · cases h
    · cases h
  · cases h

theorem codeX_sound {P : Program} {C : CallF} {C' : CallP} (hC : Obeys C C') (hS : C'.Sound P) (hmix : P.follows .mixedOrders = true) {lim : Nat} {fz : Nat → Bool} : ∀ (c : Code) (rr : Bool) (k : Nat) (s : St) (l : List (Exit × St)) (Q : Exit → St → Prop), codeX P C fz lim rr k c s = some l → (∀ p, p ∈ l → Q p.1 p.2) → AW P rr k c Q s
  | .skip, rr, k, s, l, Q, h, hq => by
    simp only [codeX, Option.some.injEq] at h
    subst h
    exact AW.skip (hq _ (List.mem_singleton.2 rfl))
  | .region id ops true, rr, k, s, l, Q, h, hq => by
    simp only [codeX] at h
    cases h1 : drawX P C ops ops.toList s.H.length s [] with
    | none => simp [h1] at h
    | some p =>
      obtain ⟨s1, fs⟩ := p
      simp only [h1] at h
      split at h
      · rename_i hd
        simp only [Option.some.injEq] at h
        subst h
        exact AW.frz (AW.of_run hS hmix (show run P rr C' k (.region id ops true) _ s from drawX_run hC ops _ _ _ _ _ _ h1 ⟨hd, rfl, rfl⟩)) (hq _ (List.mem_singleton.2 rfl))
      · cases h
  | .region id ops false, rr, k, s, l, Q, h, hq => by
    simp only [codeX] at h
    cases hm : hasMake P ops with
    | true =>
      rw [hm, if_pos rfl] at h
      cases h1 : opsM P C ops ops.toList s.H.length none s with
      | none => simp [h1] at h
      | some s1 =>
        simp only [h1, Option.some.injEq] at h
        subst h
        exact AW.frz (AW.regionM hS (opsM_run hC ops _ _ _ _ _ h1 ⟨rfl, rfl⟩)) (hq _ (List.mem_singleton.2 rfl))
    | false =>
      rw [hm, if_neg (by simp)] at h
      cases h1 : opsX P C ops ops.toList s.H.length s with
      | none => simp [h1] at h
      | some s1 =>
        simp only [h1, Option.some.injEq] at h
        subst h
        exact AW.frz (AW.of_run hS hmix (show run P rr C' k (.region id ops false) _ s from opsX_run hC ops _ _ _ _ h1 ⟨rfl, rfl⟩)) (hq _ (List.mem_singleton.2 rfl))
  | .seq x y, rr, k, s, l, Q, h, hq => by
    simp only [codeX] at h
    cases h1 : codeX P C fz lim rr k x s with
    | none => simp [h1] at h
    | some l1 =>
      simp only [h1] at h
      refine AW.seq (codeX_sound hC hS hmix x rr k s l1 _ h1 fun p hp => ?_)
      obtain ⟨z, e1, e2⟩ := bindL_mem h p hp
      obtain ⟨e, s1⟩ := p
      cases e with
      | normal => exact codeX_sound hC hS hmix y rr k s1 z Q e1 fun p hp => hq p (e2 p hp)
      | _ =>
        simp only [onN, Option.some.injEq] at e1
        subst e1
        exact hq _ (e2 _ (List.mem_singleton.2 rfl))
  | .cond c x y, rr, k, s, l, Q, h, hq => by
    simp only [codeX] at h
    cases hc : s.ev c with
    | bool b =>
      cases b with
      | true =>
        simp only [hc] at h
        exact AW.cond hc (fun _ => codeX_sound hC hS hmix x rr k s l Q h hq) (fun e => by cases e)
      | false =>
        simp only [hc] at h
        exact AW.cond hc (fun e => by cases e) (fun _ => codeX_sound hC hS hmix y rr k s l Q h hq)
    | ub =>
      simp only [hc] at h
      cases h1 : codeX P C fz lim rr k x s with
      | none => simp [h1] at h
      | some l1 =>
        cases h2 : codeX P C fz lim rr k y s with
        | none => simp [h1, h2] at h
        | some l2 =>
          simp only [h1, h2, Option.some.injEq] at h
          subst h
          exact AW.condU hc (codeX_sound hC hS hmix x rr k s l1 Q h1 fun p hp => hq p (List.mem_append.2 (.inl hp))) (codeX_sound hC hS hmix y rr k s l2 Q h2 fun p hp => hq p (List.mem_append.2 (.inr hp)))
    | _ => simp [hc] at h
  | .block id x, rr, k, s, l, Q, h, hq => by
    simp only [codeX] at h
    cases h1 : codeX P C fz lim rr k x s with
    | none => simp [h1] at h
    | some l1 =>
      simp only [h1] at h
      refine AW.block (codeX_sound hC hS hmix x rr k s l1 _ h1 fun p hp => ?_)
      obtain ⟨z, e1, e2⟩ := bindL_mem h p hp
      obtain ⟨e, s1⟩ := p
      cases e with
      | exit id' =>
        simp only [onX] at e1
        rw [inBlk_exit]
        rw [mark_eq]
        cases hb : (id' == id) with
        | true =>
          simp only [hb, if_true, Option.some.injEq] at e1
          subst e1
          exact (brbB_true (T := ⟨fun _ => Q .normal (mark s1)⟩) (F := ⟨fun _ => Q (.exit id') (mark s1)⟩)).mpr (hq _ (e2 _ (List.mem_singleton.2 rfl)))
        | false =>
          simp only [hb, Bool.false_eq_true, if_false, Option.some.injEq] at e1
          subst e1
          exact (brbB_false (T := ⟨fun _ => Q .normal (mark s1)⟩) (F := ⟨fun _ => Q (.exit id') (mark s1)⟩)).mpr (hq _ (e2 _ (List.mem_singleton.2 rfl)))
      | _ =>
        simp only [onX, Option.some.injEq] at e1
        subst e1
        exact hq _ (e2 _ (List.mem_singleton.2 rfl))
  | .exit id, rr, k, s, l, Q, h, hq => by
    simp only [codeX, Option.some.injEq] at h
    subst h
    exact AW.exit (hq _ (List.mem_singleton.2 rfl))
  | .ret, rr, k, s, l, Q, h, hq => by
    simp only [codeX, Option.some.injEq] at h
    subst h
    exact AW.ret (hq _ (List.mem_singleton.2 rfl))
  | .loop x, rr, k, s, l, Q, h, hq => by
    simp only [codeX] at h
    refine AW.loop (I := fun n s => ∃ r, iter (codeX P C fz lim rr k x) n s = some r ∧ ∀ p, p ∈ r → p ∈ l) ?_ ⟨l, h, fun p hp => hp⟩
    rintro n s1 ⟨r, h1, hr⟩
    cases n with
    | zero => simp [iter] at h1
    | succ n =>
      simp only [iter] at h1
      cases h2 : codeX P C fz lim rr k x (AH.trim s1) with
      | none => simp [h2] at h1
      | some l2 =>
        simp only [h2] at h1
        refine AW.conv (Conv.trim k s1) (codeX_sound hC hS hmix x rr k _ l2 _ h2 fun p hp => ?_)
        obtain ⟨z, e1, e2⟩ := bindL_mem h1 p hp
        obtain ⟨e, s2⟩ := p
        cases e with
        | normal => exact ⟨n, s2, by omega, Conv.refl _ _, z, e1, fun p hp => hr p (e2 p hp)⟩
        | _ =>
          simp only [onN, Option.some.injEq] at e1
          subst e1
          exact hq _ (hr _ (e2 _ (List.mem_singleton.2 rfl)))
  | .rangeFunc g ps x y, rr, k, s, l, Q, h, hq => by
    simp only [codeX] at h
    cases rr with
    | true => simp at h
    | false =>
      rw [if_neg (by simp)] at h
      exact rangeX_sound hC hS hmix (fun k' s' l' Q' h' hq' => codeX_sound hC hS hmix x true k' s' l' Q' h' hq') (fun k' s' l' Q' h' hq' => codeX_sound hC hS hmix y true k' s' l' Q' h' hq') h hq
  | .scope _, rr, k, s, l, Q, h, hq => by simp [codeX] at h
  | .label _, rr, k, s, l, Q, h, hq => by simp [codeX] at h
  | .goto _, rr, k, s, l, Q, h, hq => by simp [codeX] at h
  | .refuse _, rr, k, s, l, Q, h, hq => by simp [codeX] at h

/-! ### Whether two values are the same -/
mutual
def D.eqb : D → D → Bool
  | .int k a, .int k' b => decide (k = k') && decide (a = b)
  | .bool a, .bool b => a == b
  | .ub, .ub => true
  | .str a, .str b => decide (a = b)
  | .vs a, .vs b => D.eqbR a b
  | .nils, .nils => true
  | .zs, .zs => true
  | .nilp, .nilp => true
  | .ip a, .ip b => D.eqbL a b
  | .bs a, .bs b => D.eqbR a b
  | .agg a, .agg b => D.eqbL a b
  | .tup a, .tup b => D.eqbL a b
  | .rs a1 a2 a3 a4 a5, .rs b1 b2 b3 b4 b5 => decide (a1 = b1) && decide (a2 = b2) && decide (a3 = b3) && decide (a4 = b4) && decide (a5 = b5)
  | .rx a1 a2 a3 a4 a5, .rx b1 b2 b3 b4 b5 => decide (a1 = b1) && decide (a2 = b2) && decide (a3 = b3) && decide (a4 = b4) && decide (a5 = b5)
  | .ptr a1 a2 a3 a4, .ptr b1 b2 b3 b4 => decide (a1 = b1) && decide (a2 = b2) && decide (a3 = b3) && decide (a4 = b4)
  | .fn f a, .fn g b => decide (f = g) && D.eqbL a b
  | .mv f a, .mv g b => decide (f = g) && D.eqbL a b
  | .mpv k l a, .mpv k' l' b => decide (k = k') && decide (l = l') && D.eqbL a b
  | .ifc t, .ifc u => decide (t = u)
  | .mth t n, .mth u m => decide (t = u) && decide (n = m)
  | .un, .un => true
  | _, _ => false
def D.eqbL : List D → List D → Bool
  | [], [] => true
  | a :: la, b :: lb => a.eqb b && D.eqbL la lb
  | _, _ => false
def D.eqbR : List (List D) → List (List D) → Bool
  | [], [] => true
  | a :: la, b :: lb => D.eqbL a b && D.eqbR la lb
  | _, _ => false
end

mutual
theorem D.eqb_eq : ∀ {a b : D}, a.eqb b = true → a = b
  | .int _ _, b, h => by cases b <;> simp [D.eqb] at h ⊢; exact h
  | .bool _, b, h => by cases b <;> simp [D.eqb] at h ⊢; exact h
  | .ub, b, h => by cases b <;> simp [D.eqb] at h ⊢
  | .str _, b, h => by cases b <;> simp [D.eqb] at h ⊢; exact h
  | .vs _, b, h => by cases b <;> simp [D.eqb] at h ⊢; exact D.eqbR_eq h
  | .nils, b, h => by cases b <;> simp [D.eqb] at h ⊢
  | .zs, b, h => by cases b <;> simp [D.eqb] at h ⊢
  | .nilp, b, h => by cases b <;> simp [D.eqb] at h ⊢
  | .ip _, b, h => by cases b <;> simp [D.eqb] at h ⊢; exact D.eqbL_eq h
  | .bs _, b, h => by cases b <;> simp [D.eqb] at h ⊢; exact D.eqbR_eq h
  | .agg _, b, h => by cases b <;> simp [D.eqb] at h ⊢; exact D.eqbL_eq h
  | .tup _, b, h => by cases b <;> simp [D.eqb] at h ⊢; exact D.eqbL_eq h
  | .rs _ _ _ _ _, b, h => by cases b <;> simp [D.eqb] at h ⊢; simp [h]
  | .rx _ _ _ _ _, b, h => by cases b <;> simp [D.eqb] at h ⊢; simp [h]
  | .ptr _ _ _ _, b, h => by cases b <;> simp [D.eqb] at h ⊢; simp [h]
  | .fn _ _, b, h => by cases b <;> simp [D.eqb] at h ⊢; exact ⟨h.1, D.eqbL_eq h.2⟩
  | .mv _ _, b, h => by cases b <;> simp [D.eqb] at h ⊢; exact ⟨h.1, D.eqbL_eq h.2⟩
  | .mpv _ _ _, b, h => by cases b <;> simp [D.eqb] at h ⊢; exact ⟨h.1.1, h.1.2, D.eqbL_eq h.2⟩
  | .ifc _, b, h => by cases b <;> simp [D.eqb] at h ⊢; exact h
  | .mth _ _, b, h => by cases b <;> simp [D.eqb] at h ⊢; exact h
  | .un, b, h => by cases b <;> simp [D.eqb] at h ⊢
theorem D.eqbL_eq : ∀ {a b : List D}, D.eqbL a b = true → a = b
  | [], b, h => by cases b <;> simp [D.eqbL] at h ⊢
  | a :: la, b, h => by
    cases b with
    | nil => simp [D.eqbL] at h
    | cons b lb => simp [D.eqbL] at h; rw [D.eqb_eq h.1, D.eqbL_eq h.2]
theorem D.eqbR_eq : ∀ {a b : List (List D)}, D.eqbR a b = true → a = b
  | [], b, h => by cases b <;> simp [D.eqbR] at h ⊢
  | a :: la, b, h => by
    cases b with
    | nil => simp [D.eqbR] at h
    | cons b lb => simp [D.eqbR] at h; rw [D.eqbL_eq h.1, D.eqbR_eq h.2]
end

/-- Whether a block is not as it was read. -/
def turned (rd : List (Nat × Blk)) (p : Nat × Blk) : Bool := !(rd.any fun q => decide (q.1 = p.1) && D.eqbR q.2 p.2)

theorem turned_spec {rd : List (Nat × Blk)} {p : Nat × Blk} (h : turned rd p = false) : p ∈ rd := by
  unfold turned at h
  simp only [Bool.not_eq_false', List.any_eq_true, Bool.and_eq_true, decide_eq_true_eq] at h
  obtain ⟨q, hq, e1, e2⟩ := h
  have := D.eqbR_eq e2
  obtain ⟨a, b⟩ := q
  obtain ⟨c, d⟩ := p
  simp only at e1 this
  subst e1 this
  exact hq

/-- How a call hands over: the places of the arguments that go by reference; whether its result's block may be changed behind it; the regions behind which blocks freeze. -/
structure Way where
  refs : List Nat
  keep : Bool
  frz : Nat → Bool

def rowsIds : Blk → List Nat
  | [] => []
  | r :: l => D.idsL r ++ rowsIds l

/-- All blocks that are reached from some. -/
def reach (H : Heap) : Nat → List Nat → List Nat → List Nat
  | 0, _, acc => acc
  | _ + 1, [], acc => acc
  | n + 1, b :: l, acc => if acc.contains b then reach H n l acc else match hget H b with
    | some rows => reach H n (l ++ rowsIds rows) (acc ++ [b])
    | none => reach H n l acc

def Prim := FuncId → List D → List Blk → Option (D × List Blk)

def callG (F : FuncId → List D → List Blk → Option (D × List Blk)) (X : List Nat) (tn : Bool) (rd : List (Nat × Blk)) (f : FuncId) (vals : List D) (slot : Nat) : Option (D × List (Nat × Blk) × List (Nat × Blk)) :=
  if decide X.Nodup then
    match trL (pos X) tn true false (look rd) vals, insA X rd X with
    | some args', some Hin => match F f args' Hin with
      | some (r, outs) => if decide (X.length ≤ outs.length) && decide (outs.length ≤ X.length + 12) then
          match tr (fun i => (X ++ slotsOf slot)[i]?) false false false (fun _ => none) r, backB X slot outs with
          | some r', some outs' => if !tn || (r'.flat && outs'.all flatB) then (if decide ((((X ++ slotsOf slot).zip outs').map (·.1)).Nodup) then some (r', ((X ++ slotsOf slot).zip outs').filter (turned rd), rd) else none) else none
          | _, _ => none
        else none
      | none => none
    | _, _ => none
  else none

/-- The arguments at some places, function values and pointers. -/
def pick (l : List Nat) : Nat → List D → List D
  | _, [] => []
  | i, d :: ds => if l.contains i || (match d with | .fn _ _ => true | .mv _ _ => true | .ptr _ _ _ _ => true | _ => false) then d :: pick l (i + 1) ds else pick l (i + 1) ds

def callF (P : Program) (F : FuncId → List D → List Blk → Option (D × List Blk)) (W : FuncId → Way) : CallF := fun f vals H slot =>
  match extA P f vals with
  | some d => some (d, [], [])
  | none => callG F (reach H 1000 (D.idsL (pick (W f).refs 0 vals)) []) false (rdOf H (reach H 1000 (D.idsL (pick (W f).refs 0 vals)) [] ++ D.idsL vals)) f vals slot

def endG (s : St) (k : Nat) (Y : List Nat) (l : List D) : Option (D × List Blk) :=
  if decide Y.Nodup && Y.all (fun y => decide (k ≤ y)) then
    match tr (expo k Y) true false false (hget s.H) (oneA l), outsA (expo k Y) true false s.H (List.range k ++ Y) with
    | some r, some outs => some (r, outs)
    | _, _ => none
  else none

/-- Some temporaries alone. -/
def only (ts : List Nat) (s : St) : St := ⟨s.n, ts.map fun t => (t, lk s.tm t), s.H⟩

def resTs : List ResultVar → List Nat
  | [] => []
  | .tmp t :: l => t :: resTs l
  | .cell a _ :: l => a :: resTs l

def frzBut (k : Nat) (Y : List Nat) (s : St) : St := ((List.range s.H.length ++ List.range s.H.length).filter fun b => !Y.contains b).foldl (frzOne k) s

def headIds : Nat → Heap → List Nat
  | 0, _ => []
  | _ + 1, [] => []
  | n + 1, some rows :: l => rowsIds rows ++ headIds n l
  | n + 1, none :: l => headIds n l

def endY (P : Program) (fn : Func) (k : Nat) (s0 : St) (Y : List Nat) : Option (D × List Blk) :=
  let s1 := frzBut k Y s0
  match resA P s1 fn.results.toList with
  | some l => endG s1 k Y l
  | none => none

def endX (P : Program) (fn : Func) (k : Nat) (w : Way) (s : St) : Option (D × List Blk) :=
  let s0 := only (resTs fn.results.toList) s
  match resA P s0 fn.results.toList with
  | some l0 =>
    match endY P fn k s0 (if w.keep then ((D.idsL l0 ++ headIds k s.H).eraseDups).filter (fun b => decide (k ≤ b)) else []) with
    | some x => some x
    | none => if w.keep then endY P fn k s0 ((reach s.H 1000 (D.idsL l0 ++ headIds k s.H) []).filter (fun b => decide (k ≤ b))) else none
  | none => none

def sameD : D → D → Bool
  | .nils, .nils => true
  | .bool a, .bool b => a == b
  | .int k a, .int k' b => decide (k = k') && decide (a = b)
  | _, _ => false

def outX (P : Program) (fn : Func) (k : Nat) (w : Way) (p : Exit × St) : Option (D × List Blk) :=
  match p.1 with
  | .normal => endX P fn k w p.2
  | .ret => endX P fn k w p.2
  | _ => none

def sameR (x : Option (D × List Blk)) (r : D) (outs : List Blk) : Bool :=
  match x with
  | some (r', outs') => sameD r' r && outs'.isEmpty && outs.isEmpty
  | none => false

def allX (P : Program) (fn : Func) (k : Nat) (w : Way) : List (Exit × St) → Option (D × List Blk)
  | [] => none
  | p :: l => match outX P fn k w p with
    | some (r, outs) => if l.all fun q => sameR (outX P fn k w q) r outs then some (r, outs) else none
    | none => none

def funX (P : Program) (prim : Prim) (W : FuncId → Way) (lim : Nat) : Nat → FuncId → List D → List Blk → Option (D × List Blk)
  | 0, f, args, Hin => none
  | n + 1, f, args, Hin => match prim f args Hin with
    | some x => some x
    | none => match P.funcs[f]? with
      | some fn => if fn.name == "runtime.NumGoroutine" then none else match fn.body with
        | some c => if args.length ≤ fn.ntmps then match codeX P (callF P (funX P prim W lim n) W) (W f).frz lim false Hin.length c ⟨fn.ntmps, enum 0 args, Hin.map some⟩ with
          | some l => allX P fn Hin.length (W f) l
          | none => none
          else none
        | none => none
      | none => none

theorem endG_fin {P : Program} {fn : Func} {k : Nat} {s : St} {r : D} {outs : List Blk} {e : Exit} {Y : List Nat} {l : List D} (he : e = .normal ∨ e = .ret) (hl : resA P s fn.results.toList = some l) (h : endG s k Y l = some (r, outs)) : Fin P fn k r outs e s := by
  unfold endG at h
  split at h
  · rename_i hn
    rw [Bool.and_eq_true] at hn
    cases h1 : tr (expo k Y) true false false (hget s.H) (oneA l) with
    | none => simp [h1] at h
    | some r1 =>
      cases h2 : outsA (expo k Y) true false s.H (List.range k ++ Y) with
      | none => simp [h1, h2] at h
      | some o1 =>
        simp only [h1, h2, Option.some.injEq, Prod.mk.injEq] at h
        obtain ⟨rfl, rfl⟩ := h
        refine ⟨he, l, Y, false, hl, of_decide_eq_true hn.1, ?_, h1, h2⟩
        intro y hy
        exact of_decide_eq_true (List.all_eq_true.1 hn.2 y hy)
  · cases h

theorem lk_only (f : Nat → D) (t : Nat) : ∀ ts : List Nat, lk (ts.map fun u => (u, f u)) t = f t ∨ lk (ts.map fun u => (u, f u)) t = .un
  | [] => .inr rfl
  | u :: ts => by
    simp only [List.map_cons, lk]
    by_cases h : u = t
    · subst h; simp
    · rw [if_neg h]; exact lk_only f t ts

theorem Conv.only (k : Nat) (ts : List Nat) (s : St) : Conv k s (AH.only ts s) := fun _ _ E a w h => by
  refine ⟨E, ⟨h.wr, h.defers, h.size, fun t v hv => ?_, h.hbase, h.up, h.own⟩, FrK.refl _ _ _⟩
  rcases lk_only (lk s.tm) t ts with e | e
  · show RelE _ _ _ (lk (ts.map fun u => (u, lk s.tm u)) t) v
    rw [e]
    exact h.tm t v hv
  · show RelE _ _ _ (lk (ts.map fun u => (u, lk s.tm u)) t) v
    rw [e]
    exact .pur _ _ (.un _)

theorem endY_fin {P : Program} {fn : Func} {k : Nat} {s0 : St} {Y : List Nat} {r : D} {outs : List Blk} {e : Exit} (he : e = .normal ∨ e = .ret) (h : endY P fn k s0 Y = some (r, outs)) : ∃ s', Conv k s0 s' ∧ Fin P fn k r outs e s' := by
  unfold endY at h
  simp only at h
  split at h
  · rename_i l h2
    exact ⟨_, Conv.frzL k _ _, endG_fin he h2 h⟩
  · cases h

theorem endX_fin {P : Program} {fn : Func} {k : Nat} {w : Way} {s : St} {r : D} {outs : List Blk} {e : Exit} (he : e = .normal ∨ e = .ret) (h : endX P fn k w s = some (r, outs)) : ∃ s', Conv k s s' ∧ Fin P fn k r outs e s' := by
  unfold endX at h
  simp only at h
  cases hl : resA P (AH.only (resTs fn.results.toList) s) fn.results.toList with
  | none => simp [hl] at h
  | some l0 =>
    simp only [hl] at h
    split at h
    · rename_i x hx
      cases h
      obtain ⟨s', h1, h2⟩ := endY_fin he hx
      exact ⟨s', (Conv.only k _ s).trans h1, h2⟩
    · split at h
      · obtain ⟨s', h1, h2⟩ := endY_fin he h
        exact ⟨s', (Conv.only k _ s).trans h1, h2⟩
      · cases h

theorem sameD_eq {a b : D} (h : sameD a b = true) : a = b := by
  unfold sameD at h
  split at h
  · rfl
  · simp at h; rw [h]
  · simp at h; rw [h.1, h.2]
  · cases h

theorem outX_fin {P : Program} {fn : Func} {k : Nat} {w : Way} {p : Exit × St} {r : D} {outs : List Blk} (h : outX P fn k w p = some (r, outs)) : ∃ s', Conv k p.2 s' ∧ Fin P fn k r outs p.1 s' := by
  unfold outX at h
  split at h
  · rename_i e; exact endX_fin (.inl e) h
  · rename_i e; exact endX_fin (.inr e) h
  · cases h

theorem allX_fin {P : Program} {fn : Func} {k : Nat} {w : Way} {l : List (Exit × St)} {r : D} {outs : List Blk} (h : allX P fn k w l = some (r, outs)) : ∀ p, p ∈ l → ∃ s', Conv k p.2 s' ∧ Fin P fn k r outs p.1 s' := by
  cases l with
  | nil => simp [allX] at h
  | cons p l =>
    simp only [allX] at h
    cases h1 : outX P fn k w p with
    | none => simp [h1] at h
    | some q =>
      obtain ⟨r1, o1⟩ := q
      simp only [h1] at h
      split at h
      · rename_i hall
        simp only [Option.some.injEq, Prod.mk.injEq] at h
        obtain ⟨rfl, rfl⟩ := h
        intro q hq
        rcases List.mem_cons.1 hq with rfl | hq
        · exact outX_fin h1
        · have := List.all_eq_true.1 hall q hq
          unfold sameR at this
          cases h2 : outX P fn k w q with
          | none => simp [h2] at this
          | some x =>
            obtain ⟨r', outs'⟩ := x
            simp only [h2, Bool.and_eq_true, List.isEmpty_iff] at this
            obtain ⟨⟨q1, q2⟩, q3⟩ := this
            have := sameD_eq q1
            subst this q2 q3
            exact outX_fin h2
      · cases h

theorem callG_obeys {P : Program} {F : FuncId → List D → List Blk → Option (D × List Blk)} (hF : ∀ f args Hin r outs, F f args Hin = some (r, outs) → FC P f args Hin r outs) {X : List Nat} {tn : Bool} {f : FuncId} {vals : List D} {H : Heap} {slot : Nat} {d : D} {wr rd : List (Nat × Blk)} {K : D → List (Nat × Blk) → List (Nat × Blk) → Prop} (h : callG F X tn (rdOf H (X ++ D.idsL vals)) f vals slot = some (d, wr, rd)) (hK : K d wr rd) : callX P f vals H slot K := by
  unfold callG at h
  split at h
  · rename_i hn
    cases ha : trL (pos X) tn true false (look (rdOf H (X ++ D.idsL vals))) vals with
    | none => simp [ha] at h
    | some args' =>
      cases hi : insA X (rdOf H (X ++ D.idsL vals)) X with
      | none => simp [ha, hi] at h
      | some Hin =>
        simp only [ha, hi] at h
        cases hf : F f args' Hin with
        | none => simp [hf] at h
        | some p =>
          obtain ⟨r, outs⟩ := p
          simp only [hf] at h
          split at h
          · rename_i hlen
            cases hr : tr (fun i => (X ++ slotsOf slot)[i]?) false false false (fun _ => none) r with
            | none => simp [hr] at h
            | some r' =>
              cases ho : backB X slot outs with
              | none => simp [hr, ho] at h
              | some outs' =>
                simp only [hr, ho] at h
                split at h
                · rename_i hfl
                  split at h
                  · rename_i hnd
                    simp only [Option.some.injEq, Prod.mk.injEq] at h
                    obtain ⟨rfl, rfl, rfl⟩ := h
                    refine .inr (.inr (.inl ⟨X, tn, false, args', Hin, r, r', outs, outs', of_decide_eq_true hn, ha, hi, hF _ _ _ _ _ hf, by simpa using hlen, hr, ho, ?_, turned (rdOf H (X ++ D.idsL vals)), of_decide_eq_true hnd, fun p _ hp => turned_spec hp, hK⟩))
                    intro htn
                    rw [htn] at hfl
                    simpa using hfl
                  · cases h
                · cases h
          · cases h
  · cases h

theorem callF_obeys {P : Program} {F : FuncId → List D → List Blk → Option (D × List Blk)} (W : FuncId → Way) (hF : ∀ f args Hin r outs, F f args Hin = some (r, outs) → FC P f args Hin r outs) : Obeys (callF P F W) (callX P) := by
  intro f vals H slot d wr rd K h hK
  unfold callF at h
  split at h
  · rename_i d' he
    simp only [Option.some.injEq, Prod.mk.injEq] at h
    obtain ⟨rfl, rfl, rfl⟩ := h
    exact .inr (.inl ⟨d', he, hK⟩)
  · exact callG_obeys hF h hK

theorem funX_sound {P : Program} {prim : Prim} {W : FuncId → Way} {lim : Nat} (hmix : P.follows .mixedOrders = true) (hp : ∀ f args Hin r outs, prim f args Hin = some (r, outs) → FC P f args Hin r outs) : ∀ (n : Nat) (f : FuncId) (args : List D) (Hin : List Blk) (r : D) (outs : List Blk), funX P prim W lim n f args Hin = some (r, outs) → FC P f args Hin r outs
  | 0, f, args, Hin, r, outs, h => by simp [funX] at h
  | n + 1, f, args, Hin, r, outs, h => by
    unfold funX at h
    split at h
    · rename_i x hx
      simp only [Option.some.injEq] at h
      subst h
      exact hp _ _ _ _ _ hx
    · split at h
      · rename_i fn hf
        split at h
        · cases h
        · rename_i hname
          split at h
          · rename_i c hb
            split at h
            · rename_i hle
              have hO := callF_obeys W (fun f args Hin r outs => funX_sound (W := W) (lim := lim) hmix hp n f args Hin r outs)
              split at h
              · rename_i l hc
                exact FC.of_body hf (by simpa using hname) hb hle ((codeX_sound hO (callX_sound P) hmix c false Hin.length _ l (fun e s1 => ∃ s2, Conv Hin.length s1 s2 ∧ Fin P fn Hin.length r outs e s2) hc (allX_fin h)).post fun e s1 q => q)
              · cases h
            · cases h
          · cases h
      · cases h

end Go.AH

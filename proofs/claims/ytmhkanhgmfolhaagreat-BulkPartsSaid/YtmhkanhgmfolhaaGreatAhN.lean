/- From a body to its contract; from a contract to a call. -/
import Derived.Test.YtmhkanhgmfolhaaGreatAhM
set_option linter.unusedSimpArgs false
set_option linter.unusedVariables false
namespace Go.AH

/-! ### From a body to its contract -/
def enum : Nat → List D → List (Nat × D)
  | _, [] => []
  | i, d :: ds => (i, d) :: enum (i + 1) ds

theorem lk_enum (ds : List D) : ∀ (i t : Nat), lk (enum i ds) t = if i ≤ t then (ds[t - i]?).getD .un else .un := by
  induction ds with
  | nil => intro i t; simp [enum, lk]
  | cons d ds ih =>
    intro i t
    simp only [enum, lk]
    by_cases e : i = t
    · subst e; simp
    · rw [if_neg e, ih]
      by_cases h : i ≤ t
      · rw [if_pos h, if_pos (by omega), show t - i = (t - (i + 1)) + 1 from by omega, List.getElem?_cons_succ]
      · rw [if_neg h, if_neg (by omega)]

def resA (P : Program) (s : St) : List ResultVar → Option (List D)
  | [] => some []
  | .tmp t :: l => match resA P s l with
    | some ds => some (s.get t :: ds)
    | none => none
  | .cell a t :: l => match aload P t (s.get a) (hget s.H), resA P s l with
    | some (d, _), some ds => some (d :: ds)
    | _, _ => none

def oneA : List D → D
  | [d] => d
  | ds => .tup ds

def pos : List Nat → Nat → Option Nat
  | [], _ => none
  | x :: xs, b => if x = b then some 0 else (pos xs b).map (· + 1)

theorem pos_some : ∀ {X : List Nat} {b i : Nat}, pos X b = some i → X[i]? = some b
  | [], b, i, h => by simp [pos] at h
  | x :: xs, b, i, h => by
    simp only [pos] at h
    split at h
    · rename_i e; cases h; simp [e]
    · cases hp : pos xs b with
      | none => simp [hp] at h
      | some q => simp [hp] at h; subst h; simpa using pos_some hp

theorem pos_none : ∀ {X : List Nat} {b : Nat}, pos X b = none → b ∉ X
  | [], b, h => by simp
  | x :: xs, b, h => by
    simp only [pos] at h
    split at h
    · cases h
    · rename_i e
      cases hp : pos xs b with
      | none => simp; exact ⟨fun h => e h.symm, pos_none hp⟩
      | some q => simp [hp] at h

theorem pos_of {X : List Nat} (hX : X.Nodup) : ∀ {b i : Nat}, X[i]? = some b → pos X b = some i := by
  induction X with
  | nil => intro b i h; simp at h
  | cons x xs ih =>
    intro b i h
    rw [List.nodup_cons] at hX
    simp only [pos]
    cases i with
    | zero => simp at h; simp [h]
    | succ i =>
      simp at h
      have hne : x ≠ b := fun e => hX.1 (by rw [e]; exact List.mem_of_getElem? h)
      rw [if_neg hne, ih hX.2 h]; rfl

/-- How a frame's own names are seen behind its end: the blocks that came in, then those that go out. -/
def expo (k : Nat) (Y : List Nat) (b : Nat) : Option Nat := if b < k then some b else (pos Y b).map (k + ·)

def outsA (ρ : Nat → Option Nat) (ss nn : Bool) (H : Heap) : List Nat → Option (List Blk)
  | [] => some []
  | b :: l => match hget H b with
    | some rows => match trB ρ ss nn (hget H) rows, outsA ρ ss nn H l with
      | some x, some r => some (x :: r)
      | _, _ => none
    | none => none

theorem outsA_at {ρ : Nat → Option Nat} {ss nn : Bool} {H : Heap} : ∀ {l : List Nat} {r : List Blk}, outsA ρ ss nn H l = some r → l.length = r.length ∧ ∀ (i b : Nat), l[i]? = some b → ∃ rows x, hget H b = some rows ∧ trB ρ ss nn (hget H) rows = some x ∧ r[i]? = some x
  | [], r, h => by simp [outsA] at h; subst h; simp
  | b :: l, r, h => by
    simp only [outsA] at h
    cases h1 : hget H b with
    | none => simp [h1] at h
    | some rows =>
      simp only [h1] at h
      cases h2 : trB ρ ss nn (hget H) rows with
      | none => simp [h2] at h
      | some x =>
        cases h3 : outsA ρ ss nn H l with
        | none => simp [h2, h3] at h
        | some rr =>
          simp only [h2, h3] at h
          cases h
          obtain ⟨q1, q2⟩ := outsA_at h3
          refine ⟨by simp [q1], fun i b' hb => ?_⟩
          cases i with
          | zero => simp at hb; subst hb; exact ⟨rows, x, h1, h2, rfl⟩
          | succ i => exact q2 i b' (by simpa using hb)

/-- What a body must come to. -/
def Fin (P : Program) (fn : Func) (k : Nat) (r : D) (outs : List Blk) (e : Exit) (s : St) : Prop :=
  (e = .normal ∨ e = .ret) ∧ ∃ (l : List D) (Y : List Nat) (nn : Bool), resA P s fn.results.toList = some l ∧ Y.Nodup ∧ (∀ y, y ∈ Y → k ≤ y) ∧
    tr (expo k Y) true false nn (hget s.H) (oneA l) = some r ∧ outsA (expo k Y) true nn s.H (List.range k ++ Y) = some outs

theorem resA_run {P : Program} {k base : Nat} {O : Nat → Prop} {E : Env} {s : St} {a : Act} {w : World} (hS : SR k base O E s a w) (f : ResultVar → Sem Value)
    (hf : ∀ x, f x = match x with | .tmp t => Pure.pure (a.tmps.getD t undef) | .cell b t => do loadVar t (← asAddr (a.tmps.getD b undef))) : ∀ (l : List ResultVar) (ds : List D), resA P s l = some ds →
      ∃ vs, (l.mapM f).run P w = .ok vs w ∧ RelL O E w ds vs := by
  intro l
  induction l with
  | nil => intro ds h; simp [resA] at h; subst h; exact ⟨[], by simp, rfl, fun i d v h1 _ => by simp at h1⟩
  | cons x l ih =>
    intro ds h
    have hcons : ∀ {d : D} {v : Value} {ds : List D} {vs : List Value}, RelE O E w d v → RelL O E w ds vs → RelL O E w (d :: ds) (v :: vs) := by
      intro d v ds vs h1 h2
      refine ⟨by simp [h2.1], fun i d' v' e1 e2 => ?_⟩
      cases i with
      | zero => simp at e1 e2; subst e1 e2; exact h1
      | succ i => exact h2.2 i d' v' (by simpa using e1) (by simpa using e2)
    cases x with
    | tmp t =>
      simp only [resA] at h
      cases hr : resA P s l with
      | none => simp [hr] at h
      | some ds' =>
        simp only [hr] at h
        cases h
        obtain ⟨vs, e1, e2⟩ := ih ds' hr
        have := hS.ev (.tmp t)
        exact ⟨a.tmps.getD t undef :: vs, by rw [List.mapM_cons, hf]; simp [e1], hcons this e2⟩
    | cell b t =>
      simp only [resA] at h
      cases hl : aload P t (s.get b) (hget s.H) with
      | none => simp [hl] at h
      | some q =>
        obtain ⟨d, rd⟩ := q
        cases hr : resA P s l with
        | none => simp [hl, hr] at h
        | some ds' =>
          simp only [hl, hr] at h
          cases h
          obtain ⟨vs, e1, e2⟩ := ih ds' hr
          have hb := hS.ev (.tmp b)
          obtain ⟨u, r1, r2⟩ := aload_run (P := P) (O := O) (E := E) (H := s.H) (w := w) hl hb hS.wr (aload_rd hl)
          have hav : ∃ ad, a.tmps.getD b undef = .pointer (some ad) := by
            simp only [Instr.loadAt, Sem.run_bind] at r1
            simp only [Act.eval] at r1
            generalize a.tmps.getD b undef = pv at r1
            cases pv <;> simp [Instr.sureAddr] at r1
            rename_i ao
            cases ao <;> simp at r1
            exact ⟨_, rfl⟩
          obtain ⟨ad, ha⟩ := hav
          simp only [Instr.loadAt, Act.eval, ha, Instr.sureAddr, Sem.run_bind, Sem.run_pure, Result.andThen_ok] at r1
          refine ⟨u :: vs, ?_, hcons r2 e2⟩
          rw [List.mapM_cons, hf]
          simp [ha, asAddr, r1, e1]

def resF (tmps : Array Value) (x : ResultVar) : Sem Value :=
  match x with
  | .tmp t => Pure.pure (tmps.getD t undef)
  | .cell b t => do loadVar t (← asAddr (tmps.getD b undef))

theorem results_eq (fn : Func) (tmps : Array Value) : results fn tmps = (do
    let vs ← fn.results.mapM (resF tmps)
    pure (if h : vs.size = 1 then vs[0] else .tuple vs)) := by
  unfold results
  have e : (fun (x : ResultVar) => (match x with
    | .tmp t => Pure.pure (tmps.getD t undef)
    | .cell a t => do loadVar t (← asAddr (tmps.getD a undef)) : Sem Value)) = resF tmps := by
    funext x
    cases x <;> rfl
  rw [← e]
  rfl

theorem results_run {P : Program} {k base : Nat} {O : Nat → Prop} {E : Env} {s : St} {a : Act} {w : World} (hS : SR k base O E s a w) (fn : Func) {l : List D} (h : resA P s fn.results.toList = some l) :
    ∃ v, (results fn a.tmps).run P w = .ok v w ∧ RelE O E w (oneA l) v := by
  obtain ⟨vs, e1, e2⟩ := resA_run hS (resF a.tmps) (fun x => by cases x <;> rfl) fn.results.toList l h
  have hm : (fn.results.mapM (resF a.tmps)).run P w = .ok vs.toArray w := by
    rw [Array.mapM_eq_mapM_toList, Sem.run_map, e1]
    rfl
  rw [results_eq]
  simp only [Sem.run_bind]
  rw [hm]
  simp only [Result.andThen_ok, Sem.run_pure]
  refine ⟨_, rfl, ?_⟩
  obtain ⟨q1, q2⟩ := e2
  cases l with
  | nil =>
    have : vs = [] := List.eq_nil_of_length_eq_zero (by simpa using q1.symm)
    subst this
    exact .tup [] #[] rfl (fun i d v h1 _ => by simp at h1)
  | cons d ds =>
    cases ds with
    | nil =>
      cases vs with
      | nil => simp at q1
      | cons v vs =>
        have : vs = [] := List.eq_nil_of_length_eq_zero (by simpa using q1.symm)
        subst this
        exact q2 0 d v rfl rfl
    | cons d2 ds =>
      have hne : ¬ vs.toArray.size = 1 := by simp at q1 ⊢; omega
      rw [dif_neg hne]
      exact .tup _ _ (by simpa using q1) (fun i d v h1 h2 => q2 i d v h1 (by simpa using h2))

theorem expo_spec {k : Nat} {Y : List Nat} {b i : Nat} (h : expo k Y b = some i) : (b < k ∧ i = b) ∨ (k ≤ b ∧ k ≤ i ∧ Y[i - k]? = some b) := by
  unfold expo at h
  split at h
  · cases h; exact .inl ⟨by assumption, rfl⟩
  · cases hp : pos Y b with
    | none => simp [hp] at h
    | some q =>
      simp [hp] at h
      subst h
      refine .inr ⟨by omega, by omega, ?_⟩
      rw [show k + q - k = q from by omega]
      exact pos_some hp

theorem range_append_at (k : Nat) (Y : List Nat) (i : Nat) : (List.range k ++ Y)[i]? = if i < k then some i else Y[i - k]? := by
  by_cases h : i < k
  · rw [if_pos h, List.getElem?_append_left (by simpa using h), List.getElem?_range h]
  · rw [if_neg h, List.getElem?_append_right (by simp; omega)]; simp

theorem hget_map (l : List Blk) (i : Nat) : hget (l.map some) i = l[i]? := by
  unfold hget
  rw [List.getElem?_map]
  cases l[i]? <;> rfl

theorem SR.turn {k base : Nat} {O Ds : Nat → Prop} {E : Env} {s : St} {a : Act} {w w' : World} (t : Turn Ds w w') (h : SR k base O E s a w) : SR k base O E s { a with defers := [] } w' :=
  ⟨h.wr.turn t, Marks.nil _ _ _, h.size, fun t' v hv => (h.tm t' v hv).turn t, by rw [t.size]; exact h.hbase, h.up, h.own⟩

/-- A frame on its way out passes its marks. -/
theorem leavesM {P : Program} {fn : Func} {R : Ending → World → Prop} {k base : Nat} {O : Nat → Prop} {E0 E : Env} {s : St} {a : Act} {w0 w : World} (hS : SR k base O E s a w) (hF : FrK k E0 w0 E w) (hbase : w0.heap.size = base := by rfl)
    (hfin : ∀ w', SR k base O E s { a with defers := [] } w' → FrK k E0 w0 E w' → ∃ v, (results fn a.tmps).run P w' = .ok v w' ∧ R (.returned v) w') : LeavesInM Fence.wide 0 P fn a.tmps R a.defers .returning w := by
  obtain ⟨Ds, hd, hn, hD⟩ := hS.defers
  have key : ∀ (l : List Nat) (w' : World), l.Nodup → (∀ D, D ∈ l → w'.heap[D]? = some (.deferred (some [])) ∧ base ≤ D) → SR k base O E s { a with defers := [] } w' → FrK k E0 w0 E w' → LeavesInM Fence.wide 0 P fn a.tmps R (l.map markD) .returning w' := by
    intro l
    induction l with
    | nil => intro w' _ _ h1 h2; exact hfin w' h1 h2
    | cons D l ih =>
      intro w' hn hD h1 h2
      rw [List.nodup_cons] at hn
      have hq := (hD D (by simp)).1
      have tq : Turn (fun k => k = D) w' (w'.putObj D (.deferred none)) := Turn.put hq rfl
      refine ⟨by simp, .inl ⟨D, w'.putObj D (.deferred none), rfl, run_takeDeferred hq, ?_⟩⟩
      refine ih _ hn.2 (fun D' hD' => ⟨?_, (hD D' (by simp [hD'])).2⟩) (SR.turn (a := { a with defers := [] }) tq h1) ⟨h2.fr.turn tq (fun q hq => by subst hq; rw [hbase]; exact (hD q (by simp)).2), h2.new⟩
      rw [tq.oth D' (fun e => hn.1 (e ▸ hD'))]
      exact (hD D' (by simp [hD'])).1
  rw [hd]
  refine key Ds w hn (fun D h => ⟨(hD D h).1, (hD D h).2.2⟩) ⟨hS.wr, Marks.nil _ _ _, hS.size, hS.tm, hS.hbase, hS.up, hS.own⟩ hF

theorem FC.of_body {P : Program} {f : FuncId} {fn : Func} {c : Code} {args : List D} {Hin : List Blk} {r : D} {outs : List Blk} (hf : P.funcs[f]? = some fn) (hname : (fn.name == "runtime.NumGoroutine") = false) (hb : fn.body = some c) (hn : args.length ≤ fn.ntmps)
    (h : AW P false Hin.length c (Fin P fn Hin.length r outs) ⟨fn.ntmps, enum 0 args, Hin.map some⟩) : FC P f args Hin r outs := by
  refine ⟨⟨fn, hf, hname, by simp [hb]⟩, fun O E w vs hw hO hL => ?_⟩
  refine callsIn_wide.1 (callsIn_of_wp_marks (F := Fence.wide) (n := 0) hf hb trivial ?_)
  have hvs : args.length = vs.size := by simpa using hL.1
  have hS : SR Hin.length w.heap.size O E ⟨fn.ntmps, enum 0 args, Hin.map some⟩ { tmps := vs ++ Array.replicate (fn.ntmps - vs.size) undef, defers := [] } w := by
    refine ⟨hw, Marks.nil _ _ _, by simp; omega, fun t v hv => ?_, Nat.le_refl _, hO, fun b bi hb hE => ?_⟩
    · simp only [lk_enum, Nat.zero_le, if_true, Nat.sub_zero]
      by_cases ht : t < vs.size
      · rw [Array.getElem?_append_left ht] at hv
        rw [List.getElem?_eq_getElem (by omega), Option.getD_some]
        exact hL.2 t _ v (List.getElem?_eq_getElem (by omega)) (by simpa using hv)
      · rw [List.getElem?_eq_none (by omega)]
        exact .pur _ _ (.un _)
    · obtain ⟨rows, _, _, g, _⟩ := hw.blk b bi hE
      rw [hget_map, List.getElem?_eq_none hb] at g
      cases g
  refine wpIn_mono (h none rfl w.heap.size O E _ w hS) ?_
  rintro e a' w0 ⟨E', s', ⟨he, l, Y, nn, h1, h2, h3, h4, h5⟩, hS0, hF0⟩
  suffices hfin : ∀ w', SR Hin.length w.heap.size O E' s' { a' with defers := [] } w' → FrK Hin.length E w E' w' →
      ∃ v, (results fn a'.tmps).run P w' = .ok v w' ∧ ∃ v' E'', Ending.returned v = Ending.returned v' ∧ RelE O E'' w' r v' ∧ Wrel O E'' (outs.map some) w' ∧ FrK Hin.length E w E'' w' ∧ (∀ b bi, Hin.length ≤ b → E'' b = some bi → w.heap.size ≤ bi.blk) by
    have := leavesM (P := P) (fn := fn) (R := fun e w' => ∃ v E', e = .returned v ∧ RelE O E' w' r v ∧ Wrel O E' (outs.map some) w' ∧ FrK Hin.length E w E' w' ∧ (∀ b bi, Hin.length ≤ b → E' b = some bi → w.heap.size ≤ bi.blk)) hS0 hF0 rfl hfin
    rcases he with rfl | rfl
    · exact this
    · exact this
  intro w' hS' hF
  obtain ⟨v, hv, hrel⟩ := results_run hS' fn h1
  obtain ⟨o1, o2⟩ := outsA_at h5
  let E2 : Env := fun i => match (List.range Hin.length ++ Y)[i]? with
    | some b => E' b
    | none => none
  have hE2 : ∀ i b, (List.range Hin.length ++ Y)[i]? = some b → E2 i = E' b := fun i b hb => by simp only [E2, hb]
  have hE2s : ∀ i bi, E2 i = some bi → ∃ b, (List.range Hin.length ++ Y)[i]? = some b ∧ E' b = some bi := fun i bi hi => by
    simp only [E2] at hi
    cases hb : (List.range Hin.length ++ Y)[i]? with
    | none => simp [hb] at hi
    | some b => simp only [hb] at hi; exact ⟨b, rfl, hi⟩
  have hexp : ∀ b i, expo Hin.length Y b = some i → (List.range Hin.length ++ Y)[i]? = some b := fun b i hb => by
    rw [range_append_at]
    rcases expo_spec hb with ⟨q1, rfl⟩ | ⟨q1, q2, q3⟩
    · rw [if_pos q1]
    · rw [if_neg (by omega)]; exact q3
  have hexp2 : ∀ b i, (List.range Hin.length ++ Y)[i]? = some b → expo Hin.length Y b = some i := fun b i hb => by
    rw [range_append_at] at hb
    unfold expo
    split at hb
    · rename_i hlt; cases hb; rw [if_pos hlt]
    · rename_i hlt
      have := h3 b (List.mem_of_getElem? hb)
      rw [if_neg (by omega), pos_of h2 hb]
      simp; omega
  have hseen : Seen (expo Hin.length Y) false true false O E' s'.H O E2 w' := by
    refine ⟨hS'.wr, fun b i hb => hE2 i b (hexp b i hb), fun _ k _ hk ho => ⟨hk, fun i bi hi => ?_⟩, (fun h => by cases h), fun b bi hb hE => ⟨fun _ => ⟨?_, fun i bi' hi => ?_⟩, fun h => by cases h⟩⟩
    · obtain ⟨b, _, hb2⟩ := hE2s i bi hi; exact ho b bi hb2
    · have hge : Hin.length ≤ b := by
        rcases Nat.lt_or_ge b Hin.length with h | h
        · simp [expo, h] at hb
        · exact h
      exact hS'.up _ (hS'.own b bi hge hE)
    · obtain ⟨b', q1, q2⟩ := hE2s i bi' hi
      intro e
      have := hS'.wr.inj b' b bi' bi q2 hE e
      subst this
      rw [hexp2 b' i q1] at hb
      cases hb
  · refine ⟨v, hv, v, E2, rfl, tr_rel hseen hrel h4 (fun h => by cases h), hseen.wrel (nn := nn) (fun i bi hi => ?_) (fun i rows hg => ?_), ⟨⟨hF.fr.os, hF.fr.tape, hF.fr.output, hF.fr.size, fun k hk ho => ?_, fun b bi hb hE => ?_, hF.fr.shape, hF.fr.drawn⟩, fun b bi' hb hE => ?_⟩, fun i bi hi hE => ?_⟩
    · obtain ⟨b, q1, q2⟩ := hE2s i bi hi
      obtain ⟨rows, x, z1, z2, z3⟩ := o2 i b q1
      refine ⟨b, rows, x, q2, z1, z2, by rw [hget_map]; exact z3, (fun h => by cases h), fun i' ⟨bi', hi', e⟩ => ?_⟩
      obtain ⟨b', q3, q4⟩ := hE2s i' bi' hi'
      have := hS'.wr.inj b' b bi' bi q4 q2 e
      subst this
      have e1 := hexp2 b' i q1
      rw [hexp2 b' i' q3] at e1
      exact Option.some.inj e1
    · rw [hget_map] at hg
      have hlt : i < (List.range Hin.length ++ Y).length := by rw [o1]; exact some_lt hg
      obtain ⟨rows', x, z1, _, _⟩ := o2 i _ (List.getElem?_eq_getElem hlt)
      obtain ⟨bi, hb⟩ := hS'.wr.live _ rows' z1
      exact ⟨bi, by rw [hE2 i _ (List.getElem?_eq_getElem hlt)]; exact hb⟩
    · obtain ⟨q1, q2⟩ := hF.fr.out k hk ho
      exact ⟨q1, fun i bi hi => by obtain ⟨b, _, hb2⟩ := hE2s i bi hi; exact q2 b bi hb2⟩
    · obtain ⟨bi', q1, q2⟩ := hF.fr.keep b bi hb hE
      exact ⟨bi', by rw [hE2 b b (by rw [range_append_at, if_pos hb])]; exact q1, q2⟩
    · refine hF.new b bi' hb ?_
      rw [← hE2 b b (by rw [range_append_at, if_pos hb])]
      exact hE
    · obtain ⟨b, q1, q2⟩ := hE2s i bi hE
      rw [range_append_at, if_neg (by omega)] at q1
      exact hS'.own b bi (h3 b (List.mem_of_getElem? q1)) q2


/-! ### From a contract to a call -/
mutual
def D.ids : D → List Nat
  | .rs _ b _ _ _ => [b]
  | .rx _ b _ _ _ => [b]
  | .ptr b _ _ _ => [b]
  | .agg cs => D.idsL cs
  | .tup cs => D.idsL cs
  | .fn _ cs => D.idsL cs
  | .mv _ cs => D.idsL cs
  | .mpv _ _ cs => D.idsL cs
  | _ => []
def D.idsL : List D → List Nat
  | [] => []
  | d :: ds => d.ids ++ D.idsL ds
end

def look : List (Nat × Blk) → Nat → Option Blk
  | [], _ => none
  | (i, x) :: l, b => if i = b then some x else look l b

def rdOf (H : Heap) : List Nat → List (Nat × Blk)
  | [] => []
  | b :: l => match hget H b with
    | some x => (b, x) :: rdOf H l
    | none => rdOf H l

theorem rdOf_spec {H : Heap} : ∀ {l : List Nat} (p : Nat × Blk), p ∈ rdOf H l → hget H p.1 = some p.2
  | [], p, h => by simp [rdOf] at h
  | b :: l, p, h => by
    simp only [rdOf] at h
    cases hg : hget H b with
    | none => simp only [hg] at h; exact rdOf_spec p h
    | some x =>
      simp only [hg] at h
      rcases List.mem_cons.1 h with rfl | h
      · exact hg
      · exact rdOf_spec p h

theorem look_mem : ∀ {l : List (Nat × Blk)} {b : Nat} {x : Blk}, look l b = some x → (b, x) ∈ l
  | [], b, x, h => by simp [look] at h
  | (i, y) :: l, b, x, h => by
    simp only [look] at h
    split at h
    · rename_i e; cases h; subst e; simp
    · exact List.mem_cons_of_mem _ (look_mem h)

mutual
theorem tr_mono {ρ : Nat → Option Nat} {ss sp nn : Bool} {g g' : Nat → Option Blk} (hg : ∀ b x, g b = some x → g' b = some x) : ∀ {d d' : D}, tr ρ ss sp nn g d = some d' → tr ρ ss sp nn g' d = some d'
  | .rx _ _ _ _ _, d', h => by simp [tr] at h
  | .rs sz b off len cap, d', h => by
    simp only [tr] at h ⊢
    cases hr : ρ b with
    | some i => simp only [hr] at h ⊢; exact h
    | none =>
      simp only [hr] at h ⊢
      split at h
      · rename_i hs
        rw [if_pos hs]
        cases hb : g b with
        | none => simp [hb] at h
        | some rows => simp only [hb] at h; simp only [hg b rows hb]; exact h
      · rename_i hs
        rw [if_neg hs]
        split at h
        · rename_i hs2
          rw [if_pos hs2]
          cases hb : g b with
          | none => simp [hb] at h
          | some rows => simp only [hb] at h; simp only [hg b rows hb]; exact h
        · cases h
  | .ptr b n i j, d', h => by
    simp only [tr] at h ⊢
    cases hr : ρ b with
    | some i => simp only [hr] at h ⊢; exact h
    | none =>
      simp only [hr] at h ⊢
      split at h
      · rename_i hs
        rw [if_pos hs]
        cases hb : g b with
        | none => simp [hb] at h
        | some rows => simp only [hb] at h; simp only [hg b rows hb]; exact h
      · cases h
  | .ip cells, d', h => by simp only [tr] at h ⊢; exact h
  | .bs rows, d', h => by simp only [tr] at h ⊢; exact h
  | .ub, d', h => by simp only [tr] at h ⊢; exact h
  | .nils, d', h => by simp only [tr] at h ⊢; exact h
  | .zs, d', h => by simp only [tr] at h ⊢; exact h
  | .agg cs, d', h => by
    simp only [tr] at h ⊢
    cases hl : trL ρ ss sp nn g cs with
    | none => simp [hl] at h
    | some l => simp only [hl] at h; rw [trL_mono hg hl]; exact h
  | .tup cs, d', h => by
    simp only [tr] at h ⊢
    cases hl : trL ρ ss sp nn g cs with
    | none => simp [hl] at h
    | some l => simp only [hl] at h; rw [trL_mono hg hl]; exact h
  | .mv f cs, d', h => by
    simp only [tr] at h ⊢
    cases hl : trL ρ ss sp nn g cs with
    | none => simp [hl] at h
    | some l => simp only [hl] at h; rw [trL_mono hg hl]; exact h
  | .mpv k keys cs, d', h => by
    simp only [tr] at h ⊢
    cases hl : trL ρ ss sp nn g cs with
    | none => simp [hl] at h
    | some l => simp only [hl] at h; rw [trL_mono hg hl]; exact h
  | .fn f cs, d', h => by
    simp only [tr] at h ⊢
    cases hl : trL ρ ss sp nn g cs with
    | none => simp [hl] at h
    | some l => simp only [hl] at h; rw [trL_mono hg hl]; exact h
  | .int _ _, d', h => by simp only [tr] at h ⊢; exact h
  | .bool _, d', h => by simp only [tr] at h ⊢; exact h
  | .str _, d', h => by simp only [tr] at h ⊢; exact h
  | .vs _, d', h => by simp only [tr] at h ⊢; exact h
  | .nilp, d', h => by simp only [tr] at h ⊢; exact h
  | .ifc _, d', h => by simp only [tr] at h ⊢; exact h
  | .mth _ _, d', h => by simp only [tr] at h ⊢; exact h
  | .un, d', h => by simp only [tr] at h ⊢; exact h
theorem trL_mono {ρ : Nat → Option Nat} {ss sp nn : Bool} {g g' : Nat → Option Blk} (hg : ∀ b x, g b = some x → g' b = some x) : ∀ {ds ds' : List D}, trL ρ ss sp nn g ds = some ds' → trL ρ ss sp nn g' ds = some ds'
  | [], ds', h => by simp only [trL] at h ⊢; exact h
  | d :: ds, ds', h => by
    simp only [trL] at h ⊢
    cases h1 : tr ρ ss sp nn g d with
    | none => simp [h1] at h
    | some x =>
      cases h2 : trL ρ ss sp nn g ds with
      | none => simp [h1, h2] at h
      | some l => simp only [h1, h2] at h; rw [tr_mono hg h1, trL_mono hg h2]; exact h
end

theorem trB_get {ρ : Nat → Option Nat} {nn : Bool} {g g' : Nat → Option Blk} (hg : ∀ b x, g b = some x → g' b = some x) {rows rows' : Blk} (h : trB ρ false nn g rows = some rows') : trB ρ false nn g' rows = some rows' := by
  unfold trB at h ⊢
  split at h
  · rename_i hp; rw [if_pos hp]; exact h
  · rename_i hp
    rw [if_neg hp]
    revert rows'
    clear hp
    induction rows with
    | nil => intro rows' h; exact h
    | cons r rs ih =>
      intro rows' h
      simp only [trRow] at h ⊢
      cases h1 : trL ρ false false nn g r with
      | none => simp [h1] at h
      | some x =>
        cases h2 : trRow ρ false nn g rs with
        | none => simp [h1, h2] at h
        | some l => simp only [h1, h2] at h; rw [trL_mono hg h1, ih h2]; exact h

/-- The blocks that go in by reference. -/
def insA (X : List Nat) (rd : List (Nat × Blk)) : List Nat → Option (List Blk)
  | [] => some []
  | b :: l => match look rd b with
    | some rows => match trB (pos X) false false (look rd) rows, insA X rd l with
      | some x, some r => some (x :: r)
      | _, _ => none
    | none => none

theorem insA_at {X : List Nat} {rd : List (Nat × Blk)} : ∀ {l : List Nat} {r : List Blk}, insA X rd l = some r → l.length = r.length ∧ ∀ (i b : Nat), l[i]? = some b → ∃ rows x, look rd b = some rows ∧ trB (pos X) false false (look rd) rows = some x ∧ r[i]? = some x
  | [], r, h => by simp [insA] at h; subst h; simp
  | b :: l, r, h => by
    simp only [insA] at h
    cases h1 : look rd b with
    | none => simp [h1] at h
    | some rows =>
      simp only [h1] at h
      cases h2 : trB (pos X) false false (look rd) rows with
      | none => simp [h2] at h
      | some x =>
        cases h3 : insA X rd l with
        | none => simp [h2, h3] at h
        | some rr =>
          simp only [h2, h3] at h
          cases h
          obtain ⟨q1, q2⟩ := insA_at h3
          refine ⟨by simp [q1], fun i b' hb => ?_⟩
          cases i with
          | zero => simp at hb; subst hb; exact ⟨rows, x, h1, h2, rfl⟩
          | succ i => exact q2 i b' (by simpa using hb)

/-- The places where a call may put new blocks. -/
def slotsOf (slot : Nat) : List Nat := [slot, slot + 1, slot + 2, slot + 3, slot + 4, slot + 5, slot + 6, slot + 7, slot + 8, slot + 9, slot + 10, slot + 11]

def backB (X : List Nat) (slot : Nat) : List Blk → Option (List Blk)
  | [] => some []
  | x :: l => match trB (fun i => (X ++ slotsOf slot)[i]?) false false (fun _ => none) x, backB X slot l with
    | some y, some r => some (y :: r)
    | _, _ => none

theorem backB_at {X : List Nat} {slot : Nat} : ∀ {l r : List Blk}, backB X slot l = some r → l.length = r.length ∧ ∀ (i : Nat) (x : Blk), l[i]? = some x → ∃ y, trB (fun i => (X ++ slotsOf slot)[i]?) false false (fun _ => none) x = some y ∧ r[i]? = some y
  | [], r, h => by simp [backB] at h; subst h; simp
  | x :: l, r, h => by
    simp only [backB] at h
    cases h2 : trB (fun i => (X ++ slotsOf slot)[i]?) false false (fun _ => none) x with
    | none => simp [h2] at h
    | some y =>
      cases h3 : backB X slot l with
      | none => simp [h2, h3] at h
      | some rr =>
        simp only [h2, h3] at h
        cases h
        obtain ⟨q1, q2⟩ := backB_at h3
        refine ⟨by simp [q1], fun i x' hx => ?_⟩
        cases i with
        | zero => simp at hx; subst hx; exact ⟨y, h2, rfl⟩
        | succ i => exact q2 i x' (by simpa using hx)

/-- A call by contract. `X`: the blocks that go in by reference; `tn`: other blocks of the caller are seen, too, and then nothing immutable comes back. -/
def callC (P : Program) : CallP := fun f vals H slot K =>
  ∃ (X : List Nat) (tn nn : Bool) (args' : List D) (Hin : List Blk) (r r' : D) (outs outs' : List Blk),
    X.Nodup ∧ trL (pos X) tn true nn (look (rdOf H (X ++ D.idsL vals))) vals = some args' ∧ insA X (rdOf H (X ++ D.idsL vals)) X = some Hin ∧
    FC P f args' Hin r outs ∧ (X.length ≤ outs.length ∧ outs.length ≤ X.length + 12) ∧
    tr (fun i => (X ++ slotsOf slot)[i]?) false false false (fun _ => none) r = some r' ∧ backB X slot outs = some outs' ∧
    (tn = true → r'.flat = true ∧ ∀ o, o ∈ outs' → flatB o = true) ∧ K r' ((X ++ slotsOf slot).zip outs') (rdOf H (X ++ D.idsL vals))

/-- Functions of the library that the model runs in place. -/
def extA (P : Program) (f : FuncId) (vals : List D) : Option D :=
  match P.funcs[f]? with
  | some fn => if fn.name = "math/bits.Add64" ∧ fn.origin = "" ∧ fn.body.isNone = true then (match vals with
    | [.int .u64 x, .int .u64 y, .int .u64 c] => if 0 ≤ x ∧ 0 ≤ y ∧ 0 ≤ c ∧ c ≤ 1 then some (.tup [.int .u64 ((x + y + c) % 18446744073709551616), .int .u64 ((x + y + c) / 18446744073709551616)]) else none
    | _ => none) else none
  | none => none

/-- A slice with cells that are not owned. -/
def apartD : D → Bool
  | .vs ((_ :: _) :: _) => true
  | .bs ((_ :: _) :: _) => true
  | _ => false

/-- slices.overlaps at a slice of memory that is not owned and one of an owned block: they are apart. -/
def overA (P : Program) (f : FuncId) (vals : List D) (H : Heap) : Option (List (Nat × Blk)) :=
  match P.funcs[f]? with
  | some fn => if fn.name = "slices.overlaps[shapesearch/api.Entry]" ∧ fn.origin = "slices.overlaps" ∧ fn.body.isNone = true then (match vals, fn.params.toList with
    | [x, .rs sz b off len cap], [t, t'] => if t = t' ∧ apartD x = true then (match esizeT P t, hget H b with
      | some esz, some rows => if sz = esz ∧ rows.length = off + cap then some [(b, rows)] else none
      | _, _ => none) else none
    | _, _ => none) else none
  | none => none

/-- A call: by contract (blocks that are behind it as they were ahead of it need not count as written), or of a function that the model runs in place. -/
def callX (P : Program) : CallP := fun f vals H slot K => callC P f vals H slot K ∨ (∃ d, extA P f vals = some d ∧ K d [] []) ∨
  callC P f vals H slot (fun d wr rd => ∃ g : Nat × Blk → Bool, (wr.map (·.1)).Nodup ∧ (∀ p, p ∈ wr → g p = false → p ∈ rd) ∧ K d (wr.filter g) rd) ∨
  (∃ rd, overA P f vals H = some rd ∧ K (.bool false) [] rd)

end Go.AH

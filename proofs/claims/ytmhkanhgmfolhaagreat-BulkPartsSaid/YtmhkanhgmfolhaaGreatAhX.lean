/- Regions whose order is open, of a function that is ranged over: what stands ahead of the call of yield comes in any order; from there on there is one order alone. -/
import Derived.Test.YtmhkanhgmfolhaaGreatAhW
set_option linter.unusedSimpArgs false
set_option linter.unusedVariables false
namespace Go.AH

theorem wpIn_monoQ {F : Fence} {n : Nat} {P : Program} {o : Oper} {a : Act} {w : World} {K K' : Act → World → Prop} {Q Q' : Exit → Act → World → Prop}
    (hK : ∀ v a' w', a'.tmps = (a.put o.dst v).tmps → (∀ x, o.op = .move x → v = a.eval x) → K a' w' → K' a' w') (hQ : ∀ e a w, e ≠ .normal → Q e a w → Q' e a w) (h : o.wpIn F n P a w K Q) : o.wpIn F n P a w K' Q' := by
  have hlet : LetsOut Q → LetsOut Q' := fun ⟨a0, w0, hq⟩ => ⟨a0, w0, hQ _ _ _ (by simp) hq⟩
  refine ⟨h.1, ?_⟩
  have hh := h.2
  by_cases hmv : ∃ x, o.op = .move x
  · obtain ⟨x, hx⟩ := hmv
    have hrun : (Oper.semAt F.round a.eval o).run P w = .ok (.value (a.eval x)) w := by
      rw [Oper.semAt_eq _ _ _ (fun c hc => by rw [hx] at hc; cases hc)]
      simp only [execOp, hx, Sem.run_pure]
    rw [hrun] at hh ⊢
    exact hK (a.eval x) _ _ rfl (fun y hy => by rw [hx] at hy; cases hy; rfl) hh
  · have hnm : ∀ v x, o.op = .move x → v = a.eval x := fun v x hx => absurd ⟨x, hx⟩ hmv
    generalize (o.semAt F.round a.eval).run P w = r at *
    cases r with
    | ok x w' =>
      cases x <;> simp only [Oper.uponIn] at hh ⊢
      all_goals first
        | exact hh.elim
        | exact hK _ _ _ rfl (hnm _) hh
        | exact hK undef _ _ (by cases o.dst <;> rfl) (hnm _) hh
        | exact ⟨hh.1, CallsIn.mono hh.2 (fun e w'' he => by cases e <;> first | exact hK _ _ _ rfl (hnm _) he | exact hQ _ _ _ (by simp) he | exact hlet he)⟩
        | exact ⟨hh.1, RowsIn.mono hh.2 (fun _ _ he => hK _ _ _ rfl (hnm _) he)⟩
        | exact ⟨hh.1, RoundIn.mono hh.2 (fun e w'' he => by cases e <;> first | exact hK _ _ _ rfl (hnm _) he | exact hQ _ _ _ (by simp) he | exact hlet he)⟩
    | halt x w' =>
      cases x <;> simp only [Oper.uponIn] at hh ⊢ <;> first | exact hh.elim | exact hQ _ _ _ (by simp) hh

theorem ready_mem {ops : Array Oper} {L : Array Bool} {i : Nat} : i ∈ Region.ready .any ops L ↔ ∃ o, ops[i]? = some o ∧ L.getD i true = false ∧ ∀ e, e ∈ binding o → L.getD e.on false = true := by
  unfold Region.ready
  rw [List.mem_filter]
  constructor
  · rintro ⟨hir, hic⟩
    have hin : i < ops.size := by simpa using hir
    simp only [Bool.and_eq_true, Bool.not_eq_true'] at hic
    obtain ⟨hnl, hpre⟩ := hic
    refine ⟨ops[i], Array.getElem?_eq_getElem hin, hnl, fun e he => ?_⟩
    rw [Array.getElem?_eq_getElem hin] at hpre
    simp only [Option.map_some, Option.getD_some, Array.all_eq_true'] at hpre
    unfold binding at he
    rw [List.mem_filter] at he
    have := hpre e (by simpa using he.1)
    simpa [he.2] using this
  · rintro ⟨o, ho, hnl, hpre⟩
    have hin : i < ops.size := (Array.getElem?_eq_some_iff.1 ho).1
    refine ⟨by simpa using hin, ?_⟩
    rw [hnl, ho]
    simp only [Bool.not_false, Option.map_some, Option.getD_some, Bool.true_and, Array.all_eq_true']
    intro e he
    cases hb : Region.binds .any e with
    | false => rfl
    | true => rw [hpre e (by unfold binding; rw [List.mem_filter]; exact ⟨by simpa using he, hb⟩)]; rfl

/-- What is said of the temporaries alone, carried through a region in any order. -/
theorem any_tmps {F : Fence} {n : Nat} {P : Program} {ops : Array Oper} {Q : Exit → Act → World → Prop} (Zl : Array Bool → Act → Prop)
    (hstep : ∀ (L : Array Bool) (i : Nat) (o : Oper) (a a' : Act) (v : Value), ops[i]? = some o → i ∈ Region.ready .any ops L → Zl L a → a'.tmps = (a.put o.dst v).tmps →
      ((∀ x, o.op = .move x → v = a.eval x) ∨ Region.wanted o (yielded ops a.tmps) = false) → Zl (L.setIfInBounds i true) a') :
    ∀ (fuel : Nat) (L : Array Bool) (a : Act) (w : World), Zl L a → wpAnyIn F n P .any ops Q fuel L a w →
      wpAnyIn F n P .any ops (fun e a w => Q e a w ∧ (e = .normal → ∃ L', Zl L' a ∧ Region.ready .any ops L' = [])) fuel L a w := by
  intro fuel
  induction fuel with
  | zero => rintro L a w hz ⟨h1, h2⟩; exact ⟨h1, h2, fun _ => ⟨L, hz, h1⟩⟩
  | succ fuel ih =>
    rintro L a w hz ⟨h1, h2⟩
    refine ⟨fun hn => ⟨h1 hn, fun _ => ⟨L, hz, hn⟩⟩, fun i hi => ?_⟩
    have := h2 i hi
    obtain ⟨o, ho, _⟩ := ready_mem.1 hi
    unfold wpOpIn at this ⊢
    simp only [ho] at this ⊢
    split
    · rename_i hw
      rw [if_pos hw] at this
      exact wpIn_monoQ (fun v a' w' e1 e2 hk => ih _ a' w' (hstep L i o a a' v ho hi hz e1 (.inl e2)) hk) (fun e a w hne hq => ⟨hq, fun h => absurd h hne⟩) this
    · rename_i hw
      rw [if_neg hw] at this
      exact ⟨this.1, ih _ _ w (hstep L i o a _ undef ho hi hz rfl (.inr (by simpa using hw))) this.2⟩

/-- Edges lead back; from `m` on each operation is behind all that stand ahead of it; guards of those ahead of `m` stand there too. -/
def barrier (ops : Array Oper) (m : Nat) : Bool :=
  let t := tbl ops.toList []
  decide (m ≤ ops.size) && ((List.range ops.size).all fun j => match ops[j]? with
    | some y => ((y.after.toList.filter (Region.binds .any)).all fun e => decide (e.on < j)) &&
      (if j < m then (match y.guard with | some (g, _) => decide (g < m) | none => true) else (List.range j).all fun i => ((t[j]?).getD []).contains i)
    | none => false)

section
variable {F : Fence} {n : Nat} {P : Program} {ops : Array Oper} {m : Nat}

theorem barrier_spec (h : barrier ops m = true) : m ≤ ops.size ∧ (∀ j y, ops[j]? = some y → ∀ e, e ∈ binding y → e.on < j) ∧
    (∀ j y, ops[j]? = some y → j < m → ∀ g b, y.guard = some (g, b) → g < m) ∧ (∀ j, j < ops.size → m ≤ j → ∃ l, (tbl ops.toList [])[j]? = some l ∧ ∀ i, i < j → i ∈ l) := by
  unfold barrier at h
  simp only [Bool.and_eq_true, decide_eq_true_eq, List.all_eq_true, List.mem_range] at h
  obtain ⟨h0, h⟩ := h
  have hlt : ∀ {j : Nat} {y : Oper}, ops[j]? = some y → j < ops.size := fun hy => (Array.getElem?_eq_some_iff.1 hy).1
  refine ⟨h0, fun j y hy e he => ?_, fun j y hy hj g b hg => ?_, fun j hj hm => ?_⟩
  · have := h j (hlt hy)
    simp only [hy, Bool.and_eq_true, List.all_eq_true] at this
    simpa using this.1 e he
  · have := h j (hlt hy)
    simp only [hy, Bool.and_eq_true, if_pos hj, hg] at this
    simpa using this.2
  · have := h j hj
    rw [Array.getElem?_eq_getElem hj] at this
    simp only [Bool.and_eq_true, if_neg (show ¬ j < m by omega), List.all_eq_true, List.mem_range] at this
    cases hq : (tbl ops.toList [])[j]? with
    | none =>
      cases j with
      | zero => 
        have hne : (tbl ops.toList [])[0]? = none := hq
        exfalso
        have hlen : ∀ (l : List Oper) (acc : List (List Nat)), (tbl l acc).length = acc.length + l.length := by
          intro l
          induction l with
          | nil => intro acc; simp [tbl]
          | cons x l ih => intro acc; simp only [tbl]; rw [ih]; simp; omega
        rw [List.getElem?_eq_none_iff, hlen] at hne
        simp only [List.length_nil, Array.length_toList] at hne; omega
      | succ j =>
        have := this.2 0 (by omega)
        simp [hq] at this
    | some l =>
      refine ⟨l, rfl, fun i hi => ?_⟩
      have := this.2 i hi
      simpa [hq] using this

/-- What is listed is closed. -/
def Closed (ops : Array Oper) (L : Array Bool) : Prop := ∀ j o, ops[j]? = some o → L.getD j false = true → ∀ e, e ∈ binding o → L.getD e.on false = true

theorem getD_set (L : Array Bool) (i j : Nat) (hi : i < L.size) (d : Bool) : (L.setIfInBounds i true).getD j d = if j = i then true else L.getD j d := by
  simp only [Array.getD_eq_getD_getElem?, Array.getElem?_setIfInBounds]
  by_cases e : i = j
  · subst e; rw [if_pos rfl, if_pos rfl, if_pos hi]; rfl
  · rw [if_neg e, if_neg (fun h => e h.symm)]

theorem getD_tf {L : Array Bool} {i : Nat} (hi : i < L.size) : L.getD i true = L.getD i false := by
  simp [Array.getD, hi]

theorem ready_behind (hb : barrier ops m = true) {L : Array Bool} (hc : Closed ops L) {j : Nat} (hm : m ≤ j) (hr : j ∈ Region.ready .any ops L) : ∀ i, i < j → L.getD i false = true := by
  obtain ⟨_, h1, _, h3⟩ := barrier_spec hb
  obtain ⟨o, ho, _, hd⟩ := ready_mem.1 hr
  obtain ⟨l, hl, hall⟩ := h3 j (Array.getElem?_eq_some_iff.1 ho).1 hm
  intro i hi
  exact tbl_listed (S := fun q => L.getD q false = true) hc j o l ho hd hl i (hall i hi)

theorem chain_any (hb : barrier ops m = true) {Q : Exit → Act → World → Prop} : ∀ (d j : Nat) (fuel : Nat) (L : Array Bool) (a : Act) (w : World), d = ops.size - j → m ≤ j → j ≤ ops.size → d ≤ fuel → L.size = ops.size →
    (∀ i, i < ops.size → (L.getD i false = true ↔ i < j)) → wpOpsIn F n P ops Q ((List.range ops.size).drop j) a w → wpAnyIn F n P .any ops Q fuel L a w := by
  obtain ⟨hms, hedge, hg, hbar⟩ := barrier_spec hb
  intro d
  induction d with
  | zero =>
    intro j fuel L a w hd hm hj hf hsz hL h
    have hjs : j = ops.size := by omega
    have hnil : Region.ready .any ops L = [] := by
      rw [List.eq_nil_iff_forall_not_mem]
      intro i hi
      obtain ⟨o, ho, hn, _⟩ := ready_mem.1 hi
      have hlt := (Array.getElem?_eq_some_iff.1 ho).1
      rw [getD_tf (by omega), (hL i hlt).2 (by omega)] at hn
      cases hn
    rw [List.drop_eq_nil_of_le (by simp; omega)] at h
    cases fuel with
    | zero => exact ⟨hnil, h⟩
    | succ fuel => exact ⟨fun _ => h, fun i hi => by rw [hnil] at hi; simp at hi⟩
  | succ d ih =>
    intro j fuel L a w hd hm hj hf hsz hL h
    have hjs : j < ops.size := by omega
    have hclosed : Closed ops L := fun q o ho hq e he => (hL e.on (by have := hedge q o ho e he; have := (Array.getElem?_eq_some_iff.1 ho).1; omega)).2 (by
      have h1 := hedge q o ho e he
      have h2 := (hL q (Array.getElem?_eq_some_iff.1 ho).1).1 hq
      omega)
    have hjr : j ∈ Region.ready .any ops L := ready_mem.2 ⟨ops[j], Array.getElem?_eq_getElem hjs, by
        rw [getD_tf (by omega)]
        cases hq : L.getD j false with
        | false => rfl
        | true => have := (hL j hjs).1 hq; omega, fun e he => (hL e.on (by have := hedge j ops[j] (Array.getElem?_eq_getElem hjs) e he; omega)).2 (hedge j ops[j] (Array.getElem?_eq_getElem hjs) e he)⟩
    cases fuel with
    | zero => omega
    | succ fuel =>
      refine ⟨fun hn => by rw [hn] at hjr; simp at hjr, fun i hi => ?_⟩
      have hij : i = j := by
        obtain ⟨o, ho, hn, _⟩ := ready_mem.1 hi
        have hlt := (Array.getElem?_eq_some_iff.1 ho).1
        rcases Nat.lt_trichotomy i j with h1 | h1 | h1
        · rw [getD_tf (by omega), (hL i hlt).2 h1] at hn; cases hn
        · exact h1
        · have := (hL j hjs).1 (ready_behind hb hclosed (by omega) hi j h1); omega
      subst hij
      rw [List.drop_eq_getElem_cons (by simpa using hjs)] at h
      simp only [List.getElem_range] at h
      rw [wpOpsIn_cons] at h
      refine wpOpIn_mono (fun a' w' hk => ?_) h
      refine ih (i + 1) fuel _ a' w' (by omega) (by omega) (by omega) (by omega) (by simp [hsz]) (fun q hq => ?_) hk
      rw [getD_set L i q (by omega)]
      by_cases e : q = i
      · rw [if_pos e]; simp; omega
      · rw [if_neg e, hL q hq]; omega

/-- What stands ahead of the barrier comes in any order, what stands behind it in its own. -/
theorem any_cut (hb : barrier ops m = true) {Q1 Q : Exit → Act → World → Prop} (hQ1 : ∀ e a w, e ≠ .normal → Q1 e a w → Q e a w) (cont : ∀ a w, Q1 .normal a w → wpOpsIn F n P ops Q ((List.range ops.size).drop m) a w) :
    ∀ (fuel : Nat) (L' L : Array Bool) (a : Act) (w : World), L'.size = m → L.size = ops.size → (∀ i, i < m → L.getD i false = L'.getD i false) → (∀ i, m ≤ i → i < ops.size → L.getD i false = false) → Closed ops L →
      wpAnyIn F n P .any (ops.extract 0 m) Q1 fuel L' a w → wpAnyIn F n P .any ops Q (fuel + (ops.size - m)) L a w := by
  obtain ⟨hms, hedge, hg, hbar⟩ := barrier_spec hb
  have hpre : ∀ i, i < m → (ops.extract 0 m)[i]? = ops[i]? := fun i hi => by
    rw [Array.getElem?_extract, if_pos (by omega)]; simp
  have hready : ∀ (L' L : Array Bool), L'.size = m → L.size = ops.size → (∀ i, i < m → L.getD i false = L'.getD i false) → ∀ i, i < m → (i ∈ Region.ready .any ops L ↔ i ∈ Region.ready .any (ops.extract 0 m) L') := by
    intro L' L h1 h2 h3 i hi
    rw [ready_mem, ready_mem, hpre i hi]
    constructor
    · rintro ⟨o, ho, hn, hd⟩
      refine ⟨o, ho, by rw [getD_tf (by omega), ← h3 i hi, ← getD_tf (by omega)]; exact hn, fun e he => ?_⟩
      rw [← h3 e.on (by have := hedge i o ho e he; omega)]; exact hd e he
    · rintro ⟨o, ho, hn, hd⟩
      refine ⟨o, ho, by rw [getD_tf (by omega), h3 i hi, ← getD_tf (by omega)]; exact hn, fun e he => ?_⟩
      rw [h3 e.on (by have := hedge i o ho e he; omega)]; exact hd e he
  have hwant : ∀ (o : Oper) (i : Nat) (tmps : Array Value), ops[i]? = some o → i < m → Region.wanted o (yielded (ops.extract 0 m) tmps) = Region.wanted o (yielded ops tmps) := by
    intro o i tmps ho hi
    unfold Region.wanted
    split
    · rfl
    · rename_i g want hgd
      have hgm := hg i o ho hi g want hgd
      unfold yielded
      rw [hpre g hgm]
  -- all that stands ahead has been carried out
  have hall : ∀ (fuel : Nat) (L' L : Array Bool) (a : Act) (w : World), L'.size = m → L.size = ops.size → (∀ i, i < m → L.getD i false = L'.getD i false) → (∀ i, m ≤ i → i < ops.size → L.getD i false = false) →
      (∀ i, i < m → L'.getD i false = true) → Q1 .normal a w → wpAnyIn F n P .any ops Q (fuel + (ops.size - m)) L a w := by
    intro fuel L' L a w h1 h2 h3 h4 h5 hq
    refine chain_any hb (ops.size - m) m _ L a w rfl (Nat.le_refl _) hms (by omega) h2 (fun i hi => ?_) (cont a w hq)
    by_cases him : i < m
    · rw [h3 i him, h5 i him]; simp [him]
    · rw [h4 i (by omega) hi]; simp; omega
  have hnil : ∀ (L' : Array Bool), L'.size = m → Region.ready .any (ops.extract 0 m) L' = [] → ∀ i, i < m → L'.getD i false = true := by
    intro L' h1 hn i
    induction i using Nat.strongRecOn with
    | _ i ih =>
      intro hi
      cases hb' : L'.getD i false with
      | true => rfl
      | false =>
        exfalso
        have hlt : i < ops.size := by omega
        have : i ∈ Region.ready .any (ops.extract 0 m) L' := ready_mem.2 ⟨ops[i], by rw [hpre i hi]; exact Array.getElem?_eq_getElem hlt, by rw [getD_tf (by omega)]; exact hb',
          fun e he => ih e.on (hedge i ops[i] (Array.getElem?_eq_getElem hlt) e he) (by have := hedge i ops[i] (Array.getElem?_eq_getElem hlt) e he; omega)⟩
        rw [hn] at this
        simp at this
  intro fuel
  induction fuel with
  | zero =>
    rintro L' L a w h1 h2 h3 h4 h5 ⟨hn, hq⟩
    exact hall 0 L' L a w h1 h2 h3 h4 (hnil L' h1 hn) hq
  | succ fuel ih =>
    rintro L' L a w h1 h2 h3 h4 h5 ⟨hn, hq⟩
    by_cases hr : Region.ready .any (ops.extract 0 m) L' = []
    · exact hall (fuel + 1) L' L a w h1 h2 h3 h4 (hnil L' h1 hr) (hn hr)
    · rw [show fuel + 1 + (ops.size - m) = (fuel + (ops.size - m)) + 1 from by omega]
      obtain ⟨i0, hi0⟩ := List.exists_mem_of_ne_nil _ hr
      have hi0m : i0 < m := by
        obtain ⟨o, ho, _⟩ := ready_mem.1 hi0
        have := (Array.getElem?_eq_some_iff.1 ho).1
        simp at this; omega
      refine ⟨fun he => ?_, fun i hi => ?_⟩
      · have := (hready L' L h1 h2 h3 i0 hi0m).2 hi0
        rw [he] at this; simp at this
      · have him : i < m := by
          rcases Nat.lt_or_ge i m with h | h
          · exact h
          · exfalso
            have := ready_behind hb h5 h hi i0 (by omega)
            obtain ⟨o, ho, hn0, _⟩ := ready_mem.1 hi0
            rw [getD_tf (by omega), ← h3 i0 hi0m, this] at hn0
            cases hn0
        have hop := hq i ((hready L' L h1 h2 h3 i him).1 hi)
        obtain ⟨o, ho, hnl, hd⟩ := ready_mem.1 hi
        unfold wpOpIn at hop ⊢
        rw [hpre i him] at hop
        simp only [ho] at hop ⊢
        rw [hwant o i a.tmps ho him] at hop
        have hnext : ∀ a' w', wpAnyIn F n P .any (ops.extract 0 m) Q1 fuel (L'.setIfInBounds i true) a' w' → wpAnyIn F n P .any ops Q (fuel + (ops.size - m)) (L.setIfInBounds i true) a' w' := by
          intro a' w' hk
          refine ih _ _ a' w' (by simp [h1]) (by simp [h2]) (fun q hq' => ?_) (fun q hq1 hq2 => ?_) (fun q o' ho' hlq e he => ?_) hk
          · rw [getD_set L i q (by omega), getD_set L' i q (by omega)]
            split
            · rfl
            · exact h3 q hq'
          · rw [getD_set L i q (by omega), if_neg (by omega)]; exact h4 q hq1 hq2
          · rw [getD_set L i q (by omega)] at hlq
            rw [getD_set L i _ (by omega)]
            split
            · rfl
            · split at hlq
              · rename_i hqi; subst hqi; rw [ho] at ho'; cases ho'; exact hd e he
              · exact h5 q o' ho' hlq e he
        split
        · rename_i hw
          rw [if_pos hw] at hop
          exact wpIn_monoQ (fun _ a' w' _ _ hk => hnext a' w' hk) hQ1 hop
        · rename_i hw
          rw [if_neg hw] at hop
          exact ⟨hop.1, hnext _ _ hop.2⟩
end

/-- The temporaries to which yield is moved ahead of the barrier. -/
def movesY : List Oper → List Nat
  | [] => []
  | o :: l => match o.op, o.dst, o.guard with
    | .move (.tmp 0), some d, none => d :: movesY l
    | _, _, _ => movesY l

/-- Nothing else is written to them, nor to yield's own. -/
def movesOK (pre : Array Oper) (N : Nat) : Bool :=
  ((List.range pre.size).all fun i => match pre[i]? with
    | some o => (match o.dst with
      | some d => decide (d ≠ 0) && decide (d < N) && ((List.range pre.size).all fun i' => decide (i' = i) || (match pre[i']? with | some o' => decide (o'.dst ≠ some d) | none => true))
      | none => true)
    | none => true)

theorem movesY_mem : ∀ {l : List Oper} {d : Nat}, d ∈ movesY l → ∃ (i : Nat) (o : Oper), l[i]? = some o ∧ o.op = .move (.tmp 0) ∧ o.dst = some d ∧ o.guard = none
  | [], d, h => by simp [movesY] at h
  | o :: l, d, h => by
    simp only [movesY] at h
    split at h
    · rename_i d' h1 h2 h3
      rcases List.mem_cons.1 h with rfl | h
      · exact ⟨0, o, rfl, h1, h2, h3⟩
      · obtain ⟨i, o', q⟩ := movesY_mem h
        exact ⟨i + 1, o', q⟩
    · obtain ⟨i, o', q⟩ := movesY_mem h
      exact ⟨i + 1, o', q⟩

theorem AWI.draw {R : RC} {C : CallP} (hC : C.Sound R.P) (hmix : R.P.follows .mixedOrders = true) {id : Nat} {ops : Array Oper} {Q : Exit → St → Option Code → Prop} {s : St} {j : Option Code} (m : Nat)
    (hb : barrier ops m = true) (hmv : movesOK (ops.extract 0 m) s.n = true)
    (h : runD R.P C (ops.extract 0 m) (ops.extract 0 m).toList s.H.length s [] (fun s1 fs => drawOK (ops.extract 0 m) fs = true ∧
      runI R C ops (ops.toList.drop m) s1.H.length (0 :: movesY (ops.extract 0 m).toList) s1 j (fun s2 j2 => Q .normal s2 j2))) : AWI R (.region id ops true) Q s j := by
  intro X E a w hI
  obtain ⟨hms, hedge, hgd, hbar⟩ := barrier_spec hb
  have hsz : (ops.extract 0 m).size = m := by simp; omega
  have hpre : ∀ i, i < m → (ops.extract 0 m)[i]? = ops[i]? := fun i hi => by
    rw [Array.getElem?_extract, if_pos (by omega)]; simp
  have hS : SR s.H.length w.heap.size X.O E s a w := ⟨hI.sr.wr, by rw [hI.df]; exact Marks.nil _ _ _, hI.sr.size, hI.sr.tm, Nat.le_refl _, fun n hn => hI.sr.up n (Nat.le_trans hI.sr.hbase hn), fun b bi hb hE => by rw [hI.sr.free b hb] at hE; cases hE⟩
  refine wpIn_region_any hmix ?_
  -- what the part ahead leaves
  let Q0 : Exit → Act → World → Prop := fun e a' w' => e = .normal ∧ ∃ E' s', SR s.H.length w.heap.size X.O E' s' a' w' ∧ FrK s.H.length E w E' w' ∧ a'.defers = [] ∧ runI R C ops (ops.toList.drop m) s'.H.length (0 :: movesY (ops.extract 0 m).toList) s' j (fun s2 j2 => Q .normal s2 j2)
  have h0 : wpAnyIn (Fw none) 0 R.P .any (ops.extract 0 m) Q0 (ops.extract 0 m).size (Array.replicate (ops.extract 0 m).size false) a { w with drawn := w.drawn + 1 } :=
    draw_any hC (fun a => a.defers = []) (fun a dst v hz => by cases dst <;> exact hz) h none hS hI.df (fun E' s' a' w' q1 q2 q3 q4 => ⟨rfl, E', s', q1, q2, q3, q4⟩)
  let yv : Value := .func (.yield X.l) #[] #[]
  let Zl : Array Bool → Act → Prop := fun L a' => L.size = m ∧ a'.tmps.size = s.n ∧ a'.tmps[0]? = some yv ∧ ∀ (i : Nat) (o : Oper) (d : Nat), (ops.extract 0 m)[i]? = some o → o.op = .move (.tmp 0) → o.dst = some d → o.guard = none → L.getD i false = true → a'.tmps[d]? = some yv
  unfold movesOK at hmv
  simp only [List.all_eq_true, List.mem_range] at hmv
  have hdst : ∀ (i : Nat) (o : Oper) (d : Nat), (ops.extract 0 m)[i]? = some o → o.dst = some d → d ≠ 0 ∧ d < s.n ∧ ∀ (i' : Nat) (o' : Oper), (ops.extract 0 m)[i']? = some o' → i' ≠ i → o'.dst ≠ some d := by
    intro i o d ho hd
    have := hmv i (Array.getElem?_eq_some_iff.1 ho).1
    simp only [ho, hd, Bool.and_eq_true, decide_eq_true_eq, List.all_eq_true, List.mem_range] at this
    refine ⟨this.1.1, this.1.2, fun i' o' ho' hne => ?_⟩
    have q := this.2 i' (Array.getElem?_eq_some_iff.1 ho').1
    simp only [ho', Bool.or_eq_true, decide_eq_true_eq] at q
    rcases q with q | q
    · exact absurd q hne
    · exact q
  have hz0 : Zl (Array.replicate (ops.extract 0 m).size false) a := by
    refine ⟨by simp; omega, hI.sr.size, hI.yl, fun i o d _ _ _ _ hl => ?_⟩
    simp [Array.getD_eq_getD_getElem?, Array.getElem?_replicate] at hl
    split at hl <;> simp at hl
  have h1 := any_tmps (F := Fw none) (n := 0) (P := R.P) (ops := ops.extract 0 m) (Q := Q0) Zl (by
    rintro L i o a1 a' v ho hi ⟨z1, z2, z3, z4⟩ he hv
    have hput : ∀ t, o.dst ≠ some t → a'.tmps[t]? = a1.tmps[t]? := fun t ht => by
      rw [he]
      cases hd : o.dst with
      | none => rfl
      | some d =>
        simp only [Act.put]
        rw [Array.getElem?_setIfInBounds_ne (fun e => ht (by rw [hd, e]))]
    refine ⟨by simp [z1], ?_, ?_, ?_⟩
    · rw [he]; cases hd : o.dst <;> simp [Act.put, z2]
    · rw [hput 0 (fun hd => (hdst i o 0 ho hd).1 rfl)]; exact z3
    · intro i' o' d ho' hop hd hgu hl
      have him : i < m := by have := (Array.getElem?_eq_some_iff.1 ho).1; omega
      rw [getD_set L i i' (by omega)] at hl
      by_cases hii : i' = i
      · subst hii
        rw [ho] at ho'; cases ho'
        have hv' : v = yv := by
          rcases hv with hv | hv
          · rw [hv (.tmp 0) hop]
            simp only [Act.eval, Array.getD_eq_getD_getElem?, z3, Option.getD_some]
          · rw [Region.wanted, hgu] at hv; cases hv
        rw [he, hd]
        simp only [Act.put, Array.getElem?_setIfInBounds]
        rw [if_pos trivial, if_pos (by rw [z2]; exact (hdst i' o d ho hd).2.1), hv']
      · rw [if_neg hii] at hl
        rw [hput d (fun hd' => (hdst i' o' d ho' hd).2.2 i o ho (fun e => hii e.symm) hd')]
        exact z4 i' o' d ho' hop hd hgu hl) _ _ a _ hz0 h0
  have := any_cut (F := Fw none) (n := 0) (P := R.P) hb (Q := fun e a' w' => ∃ E' s' j', Q e s' j' ∧ IOK R X s' j' E' a' w') (fun e a w hne hq => absurd hq.1.1 hne) (fun a' w' hq => by
    obtain ⟨⟨_, E', s', q1, q2, q3, q4⟩, hz⟩ := hq
    obtain ⟨L', ⟨z1, z2, z3, z4⟩, hn⟩ := hz rfl
    have hEl : ∀ b bi, E b = some bi → b < s.H.length := fun b bi hE => by
      rcases Nat.lt_or_ge b s.H.length with h1 | h1
      · exact h1
      · rw [hI.sr.free b h1] at hE; cases hE
    have hfr : Fr All E w E' w' := ⟨q2.fr.os, q2.fr.tape, q2.fr.output, q2.fr.size, q2.fr.out, fun b bi _ hE => q2.fr.keep b bi (hEl b bi hE) hE, q2.fr.shape, q2.fr.drawn⟩
    have hnw : OwnNew w E E' := fun b bi' hE => by
      by_cases hb : b < s.H.length
      · exact q2.new b bi' hb hE
      · exact .inl (q1.own b bi' (by omega) hE)
    have hI' : IOK R X s' j E' a' w' := by
      refine hI.step hfr hnw ⟨q1.wr, by rw [q3]; exact Marks.nil _ _ _, q1.size, q1.tm, Nat.le_trans hI.sr.hbase hfr.size, hI.sr.up, fun b bi' hb hE => ?_⟩ q3 (by rw [z3, hI.yl])
      rcases hnw b bi' hE with g | ⟨bi, g1, g2⟩
      · exact Nat.le_trans hI.sr.hbase g
      · rw [← g2]; exact hI.sr.own b bi hb g1
    have hlisted : ∀ i, i < m → L'.getD i false = true := by
      intro i
      induction i using Nat.strongRecOn with
      | _ i ih =>
        intro hi
        cases hb' : L'.getD i false with
        | true => rfl
        | false =>
          exfalso
          have hlt : i < ops.size := by omega
          have : i ∈ Region.ready .any (ops.extract 0 m) L' := ready_mem.2 ⟨ops[i], by rw [hpre i hi]; exact Array.getElem?_eq_getElem hlt, by rw [getD_tf (by omega)]; exact hb',
            fun e he => ih e.on (hedge i ops[i] (Array.getElem?_eq_getElem hlt) e he) (by have := hedge i ops[i] (Array.getElem?_eq_getElem hlt) e he; omega)⟩
          rw [hn] at this
          simp at this
    have hY : Ys X.l (0 :: movesY (ops.extract 0 m).toList) a' := by
      intro t ht
      rcases List.mem_cons.1 ht with rfl | ht
      · exact z3
      · obtain ⟨i, o, g1, g2, g3, g4⟩ := movesY_mem ht
        rw [Array.getElem?_toList] at g1
        exact z4 i o t g1 g2 g3 g4 (hlisted i (by have := (Array.getElem?_eq_some_iff.1 g1).1; omega))
    exact runI_sound (X := X) hC ops (fun s1 j1 => Q .normal s1 j1) _ (fun E' s' j' a' w' hI' q => ⟨E', s', j', q, hI'⟩) (ops.toList.drop m) m s'.H.length _ s' j E' a' w' rfl hI' hY (fun b hb => hI'.sr.free b hb) q4)
    (ops.extract 0 m).size _ (Array.replicate ops.size false) a _ (by simp; omega) (by simp) (fun i hi => by
      simp [Array.getD_eq_getD_getElem?, Array.getElem?_replicate]
      rw [if_pos (by omega), if_pos (by omega)]) (fun i _ hi => by
      simp [Array.getD_eq_getD_getElem?, Array.getElem?_replicate, hi]) (fun j o _ hj => by
      simp [Array.getD_eq_getD_getElem?, Array.getElem?_replicate] at hj
      split at hj <;> simp at hj) h1
  rw [hsz, show m + (ops.size - m) = ops.size from by omega] at this
  exact this

end Go.AH

/- Regions whose order Go leaves open: every order comes to what the order of the text comes to. -/
import Derived.Test.YtmhkanhgmfolhaaGreatAhP
set_option linter.unusedSimpArgs false
set_option linter.unusedVariables false
namespace Go.AH
variable {rr : Bool}

def binding (o : Oper) : List Edge := o.after.toList.filter (Region.binds .any)

theorem tbl_pre : ∀ (l : List Oper) (acc : List (List Nat)) (j : Nat), j < acc.length → (tbl l acc)[j]? = acc[j]?
  | [], acc, j, h => rfl
  | o :: l, acc, j, h => by
    simp only [tbl]
    rw [tbl_pre l _ j (by simp; omega), List.getElem?_append_left h]

theorem tbl_at : ∀ (l : List Oper) (acc : List (List Nat)) (m : Nat) (x : List Nat), (tbl l acc)[acc.length + m]? = some x →
    ∃ o, l[m]? = some o ∧ ∀ i, i ∈ x → ∃ e, e ∈ binding o ∧ (i = e.on ∨ (e.on < acc.length + m ∧ ∃ y, (tbl l acc)[e.on]? = some y ∧ i ∈ y))
  | [], acc, m, x, h => by
    simp only [tbl] at h
    rw [List.getElem?_eq_none (by omega)] at h; cases h
  | o :: l, acc, m, x, h => by
    simp only [tbl] at h
    cases m with
    | zero =>
      rw [tbl_pre l _ _ (by simp)] at h
      simp at h
      refine ⟨o, rfl, fun i hi => ?_⟩
      rw [← h, List.mem_eraseDups, List.mem_flatMap] at hi
      obtain ⟨e, he, hi⟩ := hi
      refine ⟨e, he, ?_⟩
      rcases List.mem_cons.1 hi with h1 | h1
      · exact .inl h1
      · cases hq : acc[e.on]? with
        | none => simp [hq] at h1
        | some y =>
          simp [hq] at h1
          have hlt := some_lt hq
          refine .inr ⟨by omega, y, ?_, h1⟩
          simp only [tbl]
          rw [tbl_pre l _ _ (by simp; omega), List.getElem?_append_left hlt]; exact hq
    | succ m =>
      have e1 : acc.length + (m + 1) = (acc ++ [(((o.after.toList.filter (Region.binds .any)).flatMap fun e => e.on :: (acc[e.on]?).getD []).eraseDups)]).length + m := by simp; omega
      rw [e1] at h
      obtain ⟨o', h1, h2⟩ := tbl_at l _ m x h
      refine ⟨o', by simpa using h1, fun i hi => ?_⟩
      obtain ⟨e, he, hc⟩ := h2 i hi
      refine ⟨e, he, ?_⟩
      rcases hc with hc | ⟨hlt, y, hy, hc⟩
      · exact .inl hc
      · exact .inr ⟨by simp at hlt; omega, y, by simp only [tbl]; exact hy, hc⟩

/-- What is before an operation has been carried out when it is ready. -/
theorem tbl_listed {ops : Array Oper} {S : Nat → Prop} (hcl : ∀ j o, ops[j]? = some o → S j → ∀ e, e ∈ binding o → S e.on) (j : Nat) :
    ∀ (o : Oper) (x : List Nat), ops[j]? = some o → (∀ e, e ∈ binding o → S e.on) → (tbl ops.toList [])[j]? = some x → ∀ i, i ∈ x → S i := by
  induction j using Nat.strongRecOn with
  | _ j ih =>
    intro o x ho hd hx i hi
    obtain ⟨o', h1, h2⟩ := tbl_at ops.toList [] j x (by simpa using hx)
    have : o' = o := by
      rw [Array.getElem?_toList, ho] at h1
      exact (Option.some.inj h1).symm
    subst this
    obtain ⟨e, he, hc⟩ := h2 i hi
    rcases hc with rfl | ⟨hlt, y, hy, hiy⟩
    · exact hd e he
    · have hlt' : e.on < j := by simpa using hlt
      have hoe : e.on < ops.size := by
        have hj : j < ops.size := by
          rcases Nat.lt_or_ge j ops.size with h | h
          · exact h
          · rw [Array.getElem?_eq_none h] at ho; cases ho
        omega
      exact ih e.on hlt' ops[e.on] y (Array.getElem?_eq_getElem hoe) (hcl e.on ops[e.on] (Array.getElem?_eq_getElem hoe) (hd e he)) hy i hiy

theorem meet_mem {a b : List Nat} {x : Nat} (ha : x ∈ a) (hb : x ∈ b) : meet a b = true := by
  unfold meet
  rw [List.any_eq_true]
  exact ⟨x, ha, by simpa using hb⟩

theorem countP_lt {α : Type} {p q : α → Bool} : ∀ (l : List α), (∀ x, x ∈ l → p x = true → q x = true) → (∃ x, x ∈ l ∧ q x = true ∧ p x = false) → l.countP p < l.countP q
  | [], _, h => by obtain ⟨x, hx, _⟩ := h; simp at hx
  | y :: l, h1, h2 => by
    rw [List.countP_cons, List.countP_cons]
    have hle : l.countP p ≤ l.countP q := List.countP_mono_left fun x hx => h1 x (by simp [hx])
    obtain ⟨x, hx, hq, hp⟩ := h2
    rcases List.mem_cons.1 hx with rfl | hx
    · simp [hq, hp]; omega
    · have := countP_lt l (fun x hx => h1 x (by simp [hx])) ⟨x, hx, hq, hp⟩
      have hy := h1 y (by simp)
      cases hpy : p y <;> cases hqy : q y <;> simp_all <;> omega

theorem stP_false (es : List Ent) : ∀ (i : Nat) (s : St) (p : Nat → Bool), (∀ k, p k = false) → stP p i es s = s := by
  induction es with
  | nil => intro i s p _; rfl
  | cons e es ih =>
    intro i s p h
    simp only [stP]
    rw [if_neg (by rw [h]; simp)]
    exact ih (i + 1) s p h

theorem SR.mem {k base : Nat} {O : Nat → Prop} {E : Env} {s : St} {a : Act} {w w' : World} (h : SR k base O E s a w) (hm : SameMem w w') : SR k base O E s a w' :=
  h.step (hm.fr E) (OwnNew.refl _ _) (h.wr.same hm)

theorem draw_any {P : Program} {C : CallP} (hC : C.Sound P) {k : Nat} {ops : Array Oper} {QA : St → Prop} {s : St} (Z : Act → Prop) (hZ : ∀ a dst v, Z a → Z (a.put dst v))
    (h : runD P C ops ops.toList s.H.length s [] (fun s1 fs => drawOK ops fs = true ∧ QA s1)) (ro : Option Nat) {base : Nat} {O : Nat → Prop} {E0 : Env} {a0 : Act} {w0 : World} (hS0 : SR k base O E0 s a0 w0) (hz0 : Z a0)
    {Q : Exit → Act → World → Prop} (hQ' : ∀ E s' a w, SR k base O E s' a w → FrK k E0 w0 E w → Z a → QA s' → Q .normal a w) :
    wpAnyIn (Fw ro) 0 P .any ops Q ops.size (Array.replicate ops.size false) a0 { w0 with drawn := w0.drawn + 1 } := by
  obtain ⟨es, sN, htr, hok, hQ⟩ := runD_trace hC ops.toList s.H.length s [] _ h
  simp only [List.reverse_nil, List.nil_append] at hok
  have hlen : es.length = ops.size := by rw [htr.length]; simp
  have hall := htr.stP 0
  have hD : ∀ {l : Array Bool} (i : Nat), i < ops.size → l.size = ops.size → l.getD i false = l.getD i true := fun {l} i hi hl => by
    simp [Array.getD, show i < l.size from by omega]
  -- what the check says
  unfold drawOK at hok
  simp only [List.all_eq_true, List.mem_range] at hok
  have hedge : ∀ j y, ops[j]? = some y → ∀ e, e ∈ binding y → e.on < j := by
    intro j y hy e he
    have hj : j < ops.size := by
      rcases Nat.lt_or_ge j ops.size with h | h
      · exact h
      · rw [Array.getElem?_eq_none h] at hy; cases hy
    have := hok j hj
    simp only [hy, Bool.and_eq_true, List.all_eq_true] at this
    simpa using this.1 e he
  have hclash : ∀ (i j : Nat) (x y : Oper) (ei ej : Ent), i < j → ops[i]? = some x → ops[j]? = some y → es[i]? = some ei → es[j]? = some ej → clash ops x y ei.foot ej.foot = true → ∃ l, (tbl ops.toList [])[j]? = some l ∧ i ∈ l := by
    intro i j x y ei ej hij hx hy hi hj hcl
    have hjs : j < ops.size := by
      rcases Nat.lt_or_ge j ops.size with h | h
      · exact h
      · rw [Array.getElem?_eq_none h] at hy; cases hy
    have := hok j hjs
    simp only [hy, Bool.and_eq_true, List.all_eq_true] at this
    have := this.2 i (by simpa using hij)
    simp only [hx, List.getElem?_map, hi, hj, Option.map_some, hcl, Bool.not_true, Bool.false_or] at this
    cases hq : (tbl ops.toList [])[j]? with
    | none => simp [hq] at this
    | some l => exact ⟨l, rfl, by simpa [hq] using this⟩
  have key : ∀ (fuel : Nat) (listed : Array Bool) (E : Env) (a : Act) (w : World), listed.size = ops.size → (List.range ops.size).countP (fun i => !listed.getD i true) ≤ fuel →
      (∀ j o, ops[j]? = some o → listed.getD j false = true → ∀ e, e ∈ binding o → listed.getD e.on false = true) →
      SR k base O E (stP (fun i => listed.getD i false) 0 es s) a w → FrK k E0 w0 E w → Z a →
      (∀ b, s.H.length ≤ b → E b ≠ none → ∃ j e, es[j]? = some e ∧ listed.getD j false = true ∧ b ∈ e.sl) →
      wpAnyIn (Fw ro) 0 P .any ops Q fuel listed a w := by
    intro fuel
    induction fuel with
    | zero =>
      intro listed E a w hsz hcnt hcl hS hF hz hfree
      have hl : ∀ i, i < ops.size → listed.getD i true = true := fun i hi => by
        cases hb : listed.getD i true with
        | true => rfl
        | false =>
          have : 0 < (List.range ops.size).countP (fun i => !listed.getD i true) := List.countP_pos_iff.2 ⟨i, by simpa using hi, by rw [hb]; rfl⟩
          omega
      refine ⟨?_, hQ' E sN a w (hS.same ?_) hF hz hQ⟩
      · unfold Region.ready
        rw [List.filter_eq_nil_iff]
        intro i hi
        rw [hl i (by simpa using hi)]
        simp
      · rw [← hall]
        have hp : ∀ (j : Nat) (e : Ent), es[j]? = some e → listed.getD (0 + j) false = true := fun j e hj => by
          have hj' := some_lt hj
          rw [Nat.zero_add, hD j (by omega) hsz]
          exact hl j (by omega)
        exact ⟨by rw [stP_n, stP_n], fun t => stP_lk _ _ t es 0 s s rfl fun j e hj _ => hp j e hj, fun b => stP_hget _ _ b es 0 s s rfl fun j e hj _ => hp j e hj⟩
    | succ fuel ih =>
      intro listed E a w hsz hcnt hcl hS hF hz hfree
      refine ⟨fun hnil => ?_, fun i hi => ?_⟩
      · -- nothing is ready: all is done
        have hl : ∀ i, i < ops.size → listed.getD i false = true := by
          intro i
          induction i using Nat.strongRecOn with
          | _ i ihh =>
            intro hi
            cases hb : listed.getD i false with
            | true => rfl
            | false =>
              exfalso
              have : i ∈ Region.ready .any ops listed := by
                unfold Region.ready
                rw [List.mem_filter]
                refine ⟨by simpa using hi, ?_⟩
                rw [← hD i hi hsz, hb, Array.getElem?_eq_getElem hi]
                simp only [Bool.not_false, Option.map_some, Option.getD_some, Bool.true_and]
                rw [Array.all_eq_true']
                intro e he
                cases hbd : Region.binds .any e with
                | false => rfl
                | true =>
                  have hlt := hedge i ops[i] (Array.getElem?_eq_getElem hi) e (by unfold binding; rw [List.mem_filter]; exact ⟨by simpa using he, hbd⟩)
                  rw [ihh e.on hlt (by omega)]
                  rfl
              rw [hnil] at this
              simp at this
        refine hQ' E sN a w (hS.same ?_) hF hz hQ
        rw [← hall]
        have hp : ∀ (j : Nat) (e : Ent), es[j]? = some e → listed.getD (0 + j) false = true := fun j e hj => by
          have hj' := some_lt hj
          rw [Nat.zero_add]
          exact hl j (by omega)
        exact ⟨by rw [stP_n, stP_n], fun t => stP_lk _ _ t es 0 s s rfl fun j e hj _ => hp j e hj, fun b => stP_hget _ _ b es 0 s s rfl fun j e hj _ => hp j e hj⟩
      · -- an operation that is ready
        unfold Region.ready at hi
        rw [List.mem_filter] at hi
        obtain ⟨hir, hic⟩ := hi
        have hin : i < ops.size := by simpa using hir
        simp only [Bool.and_eq_true, Bool.not_eq_true'] at hic
        obtain ⟨hnl, hpre⟩ := hic
        have ho : ops[i]? = some ops[i] := Array.getElem?_eq_getElem hin
        generalize ops[i] = o at ho
        rw [ho] at hpre
        simp only [Option.map_some, Option.getD_some, Array.all_eq_true'] at hpre
        have hnl' : listed.getD i false = false := by rw [hD i hin hsz]; exact hnl
        have hd : ∀ e, e ∈ binding o → listed.getD e.on false = true := fun e he => by
          unfold binding at he
          rw [List.mem_filter] at he
          have := hpre e (by simpa using he.1)
          simpa [he.2] using this
        obtain ⟨ent, hent, hslot, hdst, hrun⟩ := htr.at i 0 o (by simpa using ho)
        simp only [Nat.zero_add] at hdst hrun
        -- the operations that clash with this one stand as in the text
        have hbefore : ∀ (j : Nat) (x : Oper) (ej : Ent), j < i → ops[j]? = some x → es[j]? = some ej → clash ops x o ej.foot ent.foot = true → listed.getD j false = true := fun j x ej hji hx hej hc => by
          obtain ⟨l, hl, hjl⟩ := hclash j i x o ej ent hji hx ho hej hent hc
          exact tbl_listed (S := fun q => listed.getD q false = true) hcl i o l ho hd hl j hjl
        have hafter : ∀ (j : Nat) (y : Oper) (ej : Ent), i < j → ops[j]? = some y → es[j]? = some ej → clash ops o y ent.foot ej.foot = true → listed.getD j false = false := fun j y ej hij hy hej hc => by
          obtain ⟨l, hl, hil⟩ := hclash i j o y ent ej hij ho hy hent hej hc
          cases hb : listed.getD j false with
          | false => rfl
          | true =>
            have := tbl_listed (S := fun q => listed.getD q false = true) hcl j y l hy (hcl j y hy hb) hl i hil
            rw [hnl'] at this; cases this
        have hops : ∀ (j : Nat) (ej : Ent), es[j]? = some ej → ∃ x, ops[j]? = some x ∧ ej.dst = x.dst := fun j ej hej => by
          have hj : j < ops.size := by have := some_lt hej; omega
          obtain ⟨e', q1, _, q2, _⟩ := htr.at j 0 ops[j] (by simp)
          rw [hej] at q1; cases q1
          exact ⟨ops[j], Array.getElem?_eq_getElem hj, q2⟩
        let pS : Nat → Bool := fun q => listed.getD q false
        let pI : Nat → Bool := fun q => decide (q < i)
        have hagree : ∀ (j : Nat) (ej : Ent), es[j]? = some ej → (∀ x, ops[j]? = some x → j ≠ i → (j < i → clash ops x o ej.foot ent.foot = true) ∧ (i < j → clash ops o x ent.foot ej.foot = true)) → pS (0 + j) = pI (0 + j) := by
          intro j ej hej hcc
          obtain ⟨x, hx, _⟩ := hops j ej hej
          simp only [pS, pI, Nat.zero_add]
          rcases Nat.lt_trichotomy j i with h | h | h
          · rw [hbefore j x ej h hx hej ((hcc x hx (by omega)).1 h)]; simp [h]
          · subst h; rw [hnl']; simp
          · rw [hafter j x ej h hx hej ((hcc x hx (by omega)).2 h)]; simp; omega
        have hlk : ∀ t, t ∈ o.looksAt ops → lk (stP pS 0 es s).tm t = lk (stP pI 0 es s).tm t := fun t ht =>
          stP_lk pS pI t es 0 s s rfl fun j ej hej hdt => hagree j ej hej fun x hx hne => by
            obtain ⟨x', hx', hd'⟩ := hops j ej hej
            rw [hx] at hx'; cases hx'
            rw [hdt] at hd'
            exact ⟨fun _ => by simp only [clash, ← hd']; simp [ht], fun _ => by simp only [clash, ← hd']; simp [ht]⟩
        have hgt : ∀ t, t ∈ o.looksAt ops → (stP pS 0 es s).get t = (stP pI 0 es s).get t := fun t ht => by
          simp only [St.get, stP_n]; rw [hlk t ht]
        have hev : ∀ x, x ∈ o.op.operands → (stP pS 0 es s).ev x = (stP pI 0 es s).ev x := fun x hx => by
          cases x with
          | tmp t =>
            refine hgt t ?_
            unfold Oper.looksAt
            rw [List.mem_append]
            left
            rw [List.mem_filterMap]
            exact ⟨.tmp t, by simp [hx], rfl⟩
          | _ => rfl
        have hwant : wantedA ops o (stP pS 0 es s) = wantedA ops o (stP pI 0 es s) := by
          unfold wantedA
          split
          · rfl
          · rename_i g want hg
            split
            · rfl
            · rename_i t ht
              rw [hgt t ?_]
              unfold Oper.looksAt
              rw [List.mem_append]
              right
              rw [hg]
              simp only [ht, Option.toList_some, List.mem_singleton]
        have hrd : ∀ b, b ∈ ent.rd.map (·.1) → hget (stP pS 0 es s).H b = hget (stP pI 0 es s).H b := fun b hb =>
          stP_hget pS pI b es 0 s s rfl fun j ej hej hbw => hagree j ej hej fun x hx hne =>
            ⟨fun _ => by simp only [clash, Ent.foot]; rw [meet_mem hbw hb]; simp, fun _ => by simp only [clash, Ent.foot]; rw [meet_mem hb hbw]; simp⟩
        -- the state behind it
        let listed' := listed.setIfInBounds i true
        have hget' : ∀ q, listed'.getD q false = if q = i then true else listed.getD q false := fun q => by
          simp only [listed', Array.getD_eq_getD_getElem?, Array.getElem?_setIfInBounds]
          by_cases e : i = q
          · subst e; rw [if_pos rfl, if_pos rfl, if_pos (by omega)]; rfl
          · rw [if_neg e, if_neg (fun h => e h.symm)]
        have hsame : Same ((stP pS 0 es s).after ent.dst ent.d ent.wr) (stP (fun q => listed'.getD q false) 0 es s) := by
          have hstep := stP_step (fun q => decide (q < i + 1)) i es 0 s ent hent (fun q _ hq => by simp at hq; omega) (by simp)
          refine ⟨by rw [after_n, stP_n, stP_n], fun t => ?_, fun b => ?_⟩
          · rw [after_lk]
            by_cases hdt : ent.dst = some t
            · rw [if_pos hdt]
              have h1 : lk (stP (fun q => listed'.getD q false) 0 es s).tm t = lk (stP (fun q => decide (q < i + 1)) 0 es s).tm t :=
                stP_lk _ _ t es 0 s s rfl fun j ej hej hdj => by
                  obtain ⟨x, hx, hxd⟩ := hops j ej hej
                  simp only [Nat.zero_add, hget']
                  have hod : o.dst = some t := by rw [← hdst]; exact hdt
                  have hxd' : x.dst = some t := by rw [← hxd]; exact hdj
                  rcases Nat.lt_trichotomy j i with h | h | h
                  · rw [if_neg (by omega), hbefore j x ej h hx hej (by simp only [clash, hxd', hod]; simp)]; simp; omega
                  · subst h; simp
                  · rw [if_neg (by omega), hafter j x ej h hx hej (by simp only [clash, hxd', hod]; simp)]; simp; omega
              rw [h1, hstep, after_lk, if_pos hdt]
            · rw [if_neg hdt]
              exact stP_lk _ _ t es 0 s s rfl fun j ej hej hdj => by
                have hne : j ≠ i := by rintro rfl; rw [hent] at hej; cases hej; exact hdt hdj
                simp only [Nat.zero_add, hget', pS]; rw [if_neg hne]
          · by_cases hb : b ∈ ent.wr.map (·.1)
            · have h1 : AH.hget (stP (fun q => listed'.getD q false) 0 es s).H b = AH.hget (stP (fun q => decide (q < i + 1)) 0 es s).H b :=
                stP_hget _ _ b es 0 s s rfl fun j ej hej hbj => by
                  obtain ⟨x, hx, hxd⟩ := hops j ej hej
                  simp only [Nat.zero_add, hget']
                  rcases Nat.lt_trichotomy j i with h | h | h
                  · rw [if_neg (by omega), hbefore j x ej h hx hej (by simp only [clash, Ent.foot]; rw [meet_mem hbj hb]; simp)]; simp; omega
                  · subst h; simp
                  · rw [if_neg (by omega), hafter j x ej h hx hej (by simp only [clash, Ent.foot]; rw [meet_mem hb hbj]; simp)]; simp; omega
              rw [h1, hstep]
              exact hget_hput_same ent.wr _ _ b (fun h => absurd hb h)
            · show AH.hget (hput (stP pS 0 es s).H ent.wr) b = _
              rw [hget_hput_not ent.wr _ b hb]
              exact stP_hget _ _ b es 0 s s rfl fun j ej hej hbj => by
                have hne : j ≠ i := by rintro rfl; rw [hent] at hej; cases hej; exact hb hbj
                simp only [Nat.zero_add, hget', pS]; rw [if_neg hne]
        have hcnt' : (List.range ops.size).countP (fun q => !listed'.getD q true) ≤ fuel := by
          have hsz' : listed'.size = ops.size := by simp [listed', hsz]
          have := countP_lt (p := fun q => !listed'.getD q true) (q := fun q => !listed.getD q true) (List.range ops.size) (fun q hq hpq => by
            have hq' : q < ops.size := by simpa using hq
            rw [← hD q hq' hsz', hget'] at hpq
            rw [← hD q hq' hsz]
            split at hpq
            · simp at hpq
            · exact hpq) ⟨i, hir, by rw [hnl]; rfl, by rw [← hD i hin hsz', hget', if_pos rfl]; rfl⟩
          omega
        have hcl' : ∀ j o, ops[j]? = some o → listed'.getD j false = true → ∀ e, e ∈ binding o → listed'.getD e.on false = true := fun j x hx hlj e he => by
          rw [hget'] at hlj ⊢
          split
          · rfl
          · split at hlj
            · rename_i hji
              subst hji
              rw [ho] at hx; cases hx
              exact hd e he
            · exact hcl j x hx hlj e he
        unfold wpOpIn
        rw [ho]
        simp only
        rcases hrun with ⟨hw1, hd1, hw2, hr1, hs1⟩ | ⟨hw1, hOp, hrds, hsls⟩
        · -- it does not run
          have hw3 := wantedA_rel hS (ops := ops) (o := o) (r := false) (by rw [← hw1]; exact hwant)
          rw [hw3]
          simp only [Bool.false_eq_true, if_false]
          refine ⟨fun _ _ => trivial, ih listed' E _ w (by simp [listed', hsz]) hcnt' hcl' (SR.same ?_ hsame) hF (hZ _ _ _ hz) (fun b hb hE => ?_)⟩
          · have h1 := hS.put o.dst mkUndef
            rw [hd1, hw2, hdst]
            cases hq : o.dst <;> simp only [hq, St.put, St.after, hput, List.foldl_nil] at h1 ⊢ <;> exact h1
          · obtain ⟨j, e, q1, q2, q3⟩ := hfree b hb hE
            exact ⟨j, e, q1, by rw [hget']; split; rfl; exact q2, q3⟩
        · have hw3 := wantedA_rel hS (ops := ops) (o := o) (r := true) (by rw [← hw1]; exact hwant)
          rw [hw3]
          simp only [if_true]
          refine hOp O E (stP pS 0 es s).H a w (fun x hx => by rw [← hev x hx]; exact hS.ev x) hS.wr (fun n hn => hS.up n (Nat.le_trans hS.hbase hn)) (fun p hp => ?_) (fun b hb => ?_) ro _ _ ?_
          · rw [hrd p.1 (List.mem_map_of_mem hp)]; exact hrds p hp
          · cases hq : E b with
            | none => rfl
            | some bi =>
              exfalso
              have hbs := (hsls b hb).1
              obtain ⟨j, e, q1, q2, q3⟩ := hfree b (by omega) (by rw [hq]; simp)
              have hji : j ≠ i := by rintro rfl; rw [hnl'] at q2; cases q2
              obtain ⟨x, hx, _⟩ := hops j e q1
              obtain ⟨e', z1, _, _, z2⟩ := htr.at j 0 x (by simpa using hx)
              rw [q1] at z1; cases z1
              have hbe : e.slot ≤ b := by
                rcases z2 with ⟨_, _, _, _, z3⟩ | ⟨_, _, _, z3⟩
                · rw [z3] at q3; simp at q3
                · exact (z3 b q3).1
              rcases Nat.lt_or_gt_of_ne hji with h | h
              · have := htr.slots j i e ent h q1 hent b q3; omega
              · have := htr.slots i j ent e h hent q1 b hb; omega
          · intro v' w' E' r1 r2 r3 r4 r5
            refine ih listed' E' _ w' (by simp [listed', hsz]) hcnt' hcl' (SR.same ?_ hsame) (hF.trans (FrK.of r3 r4)) (hZ _ _ _ hz) (fun b hb hE => ?_)
            · have h1 := hS.step r3 r4 r2
              have h2 := h1.put o.dst r1
              rw [hdst]
              cases hq : o.dst <;> simp only [hq, St.put, St.after] at h2 ⊢ <;> exact h2
            · by_cases hbs : b ∈ ent.sl
              · exact ⟨i, ent, hent, by rw [hget', if_pos rfl], hbs⟩
              · have hEb : E b ≠ none := fun h => hE (r5 b hbs h)
                obtain ⟨j, e, q1, q2, q3⟩ := hfree b hb hEb
                exact ⟨j, e, q1, by rw [hget']; split; rfl; exact q2, q3⟩
  refine key ops.size _ E0 a0 _ (by simp) ?_ ?_ ?_ ?_ hz0 ?_
  · exact Nat.le_trans List.countP_le_length (by simp)
  · intro j o _ hj
    simp [Array.getD_eq_getD_getElem?, Array.getElem?_replicate] at hj
    split at hj <;> simp at hj
  · have h1 : stP (fun i => (Array.replicate ops.size false).getD i false) 0 es s = s := stP_false es 0 s _ fun q => by
      simp [Array.getD_eq_getD_getElem?, Array.getElem?_replicate]
      split <;> rfl
    rw [h1]
    exact hS0.mem ⟨rfl, rfl, rfl, rfl, Nat.le_succ _⟩
  · exact FrK.of (SameMem.fr (w := w0) (w1 := { w0 with drawn := w0.drawn + 1 }) ⟨rfl, rfl, rfl, rfl, Nat.le_succ _⟩ E0) (OwnNew.refl _ _)
  · intro b hb hE
    exact absurd (hS0.free b hb) hE

theorem AW.draw {P : Program} {C : CallP} (hC : C.Sound P) (hmix : P.follows .mixedOrders = true) {k id : Nat} {ops : Array Oper} {Q : Exit → St → Prop} {s : St}
    (h : runD P C ops ops.toList s.H.length s [] (fun s1 fs => drawOK ops fs = true ∧ Q .normal s1)) : AW P rr k (.region id ops true) Q s := by
  intro ro hro base O E0 a0 w0 hS0
  exact wpIn_region_any hmix (draw_any hC (fun _ => True) (fun _ _ _ _ => trivial) h ro hS0 trivial fun E s' a w h1 h2 _ h3 => ⟨E, s', h3, h1, h2⟩)

end Go.AH

/- A region whose order is open, with a fence: what stands ahead of it comes first, in any order; there the state may be seen as another one; what stands behind it comes in each of its orders. -/
import Derived.Test.YtmhkanhgmfolhaaGreatAhX
set_option linter.unusedSimpArgs false
set_option linter.unusedVariables false
namespace Go.AH

/-- Edges lead back; what stands from `m` on is behind all that stands ahead of `m`. -/
def fence (ops : Array Oper) (m : Nat) : Bool :=
  let t := tbl ops.toList []
  decide (m ≤ ops.size) && ((List.range ops.size).all fun j => match ops[j]? with
    | some y => ((y.after.toList.filter (Region.binds .any)).all fun e => decide (e.on < j)) &&
      (if j < m then (match y.guard with | some (g, _) => decide (g < m) | none => true) else (List.range m).all fun i => ((t[j]?).getD []).contains i)
    | none => false)

section
variable {F : Fence} {n : Nat} {P : Program} {ops : Array Oper} {m : Nat}

theorem fence_spec (h : fence ops m = true) : m ≤ ops.size ∧ (∀ j y, ops[j]? = some y → ∀ e, e ∈ binding y → e.on < j) ∧
    (∀ j y, ops[j]? = some y → j < m → ∀ g b, y.guard = some (g, b) → g < m) ∧ (∀ j, j < ops.size → m ≤ j → ∀ i, i < m → ∃ l, (tbl ops.toList [])[j]? = some l ∧ i ∈ l) := by
  unfold fence at h
  simp only [Bool.and_eq_true, decide_eq_true_eq, List.all_eq_true, List.mem_range] at h
  obtain ⟨h0, h⟩ := h
  have hlt : ∀ {j : Nat} {y : Oper}, ops[j]? = some y → j < ops.size := fun hy => (Array.getElem?_eq_some_iff.1 hy).1
  refine ⟨h0, fun j y hy e he => ?_, fun j y hy hj g b hg => ?_, fun j hj hm i hi => ?_⟩
  · have := h j (hlt hy)
    simp only [hy, Bool.and_eq_true, List.all_eq_true] at this
    simpa using this.1 e he
  · have := h j (hlt hy)
    simp only [hy, Bool.and_eq_true, if_pos hj, hg] at this
    simpa using this.2
  · have := h j hj
    rw [Array.getElem?_eq_getElem hj] at this
    simp only [Bool.and_eq_true, if_neg (show ¬ j < m by omega), List.all_eq_true, List.mem_range] at this
    have := this.2 i hi
    cases hq : (tbl ops.toList [])[j]? with
    | none => simp [hq] at this
    | some l => exact ⟨l, rfl, by simpa [hq] using this⟩

theorem fence_ready (hb : fence ops m = true) {L : Array Bool} (hc : Closed ops L) {j : Nat} (hm : m ≤ j) (hr : j ∈ Region.ready .any ops L) : ∀ i, i < m → L.getD i false = true := by
  obtain ⟨_, h1, _, h3⟩ := fence_spec hb
  obtain ⟨o, ho, _, hd⟩ := ready_mem.1 hr
  intro i hi
  obtain ⟨l, hl, hil⟩ := h3 j (Array.getElem?_eq_some_iff.1 ho).1 hm i hi
  exact tbl_listed (S := fun q => L.getD q false = true) hc j o l ho hd hl i hil

theorem any_fence (hb : fence ops m = true) {Q1 Q : Exit → Act → World → Prop} (hQ1 : ∀ e a w, e ≠ .normal → Q1 e a w → Q e a w)
    (cont : ∀ a w, Q1 .normal a w → ∀ (fuel : Nat) (L : Array Bool), ops.size - m ≤ fuel → L.size = ops.size → (∀ i, i < ops.size → (L.getD i false = true ↔ i < m)) → wpAnyIn F n P .any ops Q fuel L a w) :
    ∀ (fuel : Nat) (L' L : Array Bool) (a : Act) (w : World), L'.size = m → L.size = ops.size → (∀ i, i < m → L.getD i false = L'.getD i false) → (∀ i, m ≤ i → i < ops.size → L.getD i false = false) → Closed ops L →
      wpAnyIn F n P .any (ops.extract 0 m) Q1 fuel L' a w → wpAnyIn F n P .any ops Q (fuel + (ops.size - m)) L a w := by
  obtain ⟨hms, hedge, hg, hbar⟩ := fence_spec hb
  have hpre : ∀ i, i < m → (ops.extract 0 m)[i]? = ops[i]? := fun i hi => by
    rw [Array.getElem?_extract, if_pos (by omega)]; simp
  have hready : ∀ (L' L : Array Bool), L'.size = m → L.size = ops.size → (∀ i, i < m → L.getD i false = L'.getD i false) → ∀ i, i < m → (i ∈ Region.ready .any ops L ↔ i ∈ Region.ready .any (ops.extract 0 m) L') := by
    intro L' L h1 h2 h3 i hi
    rw [ready_mem, ready_mem, hpre i hi]
    constructor
    · rintro ⟨o, ho, hn, hd⟩
      refine ⟨o, ho, by rw [getD_tf (by omega), ← h3 i hi, ← getD_tf (by omega)]; exact hn, fun e he => ?_⟩
      rw [← h3 e.on (by have := hedge i o ho e he; omega)]; exact hd e he
    · rintro ⟨o, ho, hn, hd⟩
      refine ⟨o, ho, by rw [getD_tf (by omega), h3 i hi, ← getD_tf (by omega)]; exact hn, fun e he => ?_⟩
      rw [h3 e.on (by have := hedge i o ho e he; omega)]; exact hd e he
  have hwant : ∀ (o : Oper) (i : Nat) (tmps : Array Value), ops[i]? = some o → i < m → Region.wanted o (yielded (ops.extract 0 m) tmps) = Region.wanted o (yielded ops tmps) := by
    intro o i tmps ho hi
    unfold Region.wanted
    split
    · rfl
    · rename_i g want hgd
      have hgm := hg i o ho hi g want hgd
      unfold yielded
      rw [hpre g hgm]
  have hall : ∀ (fuel : Nat) (L' L : Array Bool) (a : Act) (w : World), L'.size = m → L.size = ops.size → (∀ i, i < m → L.getD i false = L'.getD i false) → (∀ i, m ≤ i → i < ops.size → L.getD i false = false) →
      (∀ i, i < m → L'.getD i false = true) → Q1 .normal a w → wpAnyIn F n P .any ops Q (fuel + (ops.size - m)) L a w := by
    intro fuel L' L a w h1 h2 h3 h4 h5 hq
    refine cont a w hq _ L (by omega) h2 (fun i hi => ?_)
    by_cases him : i < m
    · rw [h3 i him, h5 i him]; simp [him]
    · rw [h4 i (by omega) hi]; simp; omega
  have hnil : ∀ (L' : Array Bool), L'.size = m → Region.ready .any (ops.extract 0 m) L' = [] → ∀ i, i < m → L'.getD i false = true := by
    intro L' h1 hn i
    induction i using Nat.strongRecOn with
    | _ i ih =>
      intro hi
      cases hb' : L'.getD i false with
      | true => rfl
      | false =>
        exfalso
        have hlt : i < ops.size := by omega
        have : i ∈ Region.ready .any (ops.extract 0 m) L' := ready_mem.2 ⟨ops[i], by rw [hpre i hi]; exact Array.getElem?_eq_getElem hlt, by rw [getD_tf (by omega)]; exact hb',
          fun e he => ih e.on (hedge i ops[i] (Array.getElem?_eq_getElem hlt) e he) (by have := hedge i ops[i] (Array.getElem?_eq_getElem hlt) e he; omega)⟩
        rw [hn] at this
        simp at this
  intro fuel
  induction fuel with
  | zero =>
    rintro L' L a w h1 h2 h3 h4 h5 ⟨hn, hq⟩
    exact hall 0 L' L a w h1 h2 h3 h4 (hnil L' h1 hn) hq
  | succ fuel ih =>
    rintro L' L a w h1 h2 h3 h4 h5 ⟨hn, hq⟩
    by_cases hr : Region.ready .any (ops.extract 0 m) L' = []
    · exact hall (fuel + 1) L' L a w h1 h2 h3 h4 (hnil L' h1 hr) (hn hr)
    · rw [show fuel + 1 + (ops.size - m) = (fuel + (ops.size - m)) + 1 from by omega]
      obtain ⟨i0, hi0⟩ := List.exists_mem_of_ne_nil _ hr
      have hi0m : i0 < m := by
        obtain ⟨o, ho, _⟩ := ready_mem.1 hi0
        have := (Array.getElem?_eq_some_iff.1 ho).1
        simp at this; omega
      refine ⟨fun he => ?_, fun i hi => ?_⟩
      · have := (hready L' L h1 h2 h3 i0 hi0m).2 hi0
        rw [he] at this; simp at this
      · have him : i < m := by
          rcases Nat.lt_or_ge i m with h | h
          · exact h
          · exfalso
            have := fence_ready hb h5 h hi i0 (by omega)
            obtain ⟨o, ho, hn0, _⟩ := ready_mem.1 hi0
            rw [getD_tf (by omega), ← h3 i0 hi0m, this] at hn0
            cases hn0
        have hop := hq i ((hready L' L h1 h2 h3 i him).1 hi)
        obtain ⟨o, ho, hnl, hd⟩ := ready_mem.1 hi
        unfold wpOpIn at hop ⊢
        rw [hpre i him] at hop
        simp only [ho] at hop ⊢
        rw [hwant o i a.tmps ho him] at hop
        have hnext : ∀ a' w', wpAnyIn F n P .any (ops.extract 0 m) Q1 fuel (L'.setIfInBounds i true) a' w' → wpAnyIn F n P .any ops Q (fuel + (ops.size - m)) (L.setIfInBounds i true) a' w' := by
          intro a' w' hk
          refine ih _ _ a' w' (by simp [h1]) (by simp [h2]) (fun q hq' => ?_) (fun q hq1 hq2 => ?_) (fun q o' ho' hlq e he => ?_) hk
          · rw [getD_set L i q (by omega), getD_set L' i q (by omega)]
            split
            · rfl
            · exact h3 q hq'
          · rw [getD_set L i q (by omega), if_neg (by omega)]; exact h4 q hq1 hq2
          · rw [getD_set L i q (by omega)] at hlq
            rw [getD_set L i _ (by omega)]
            split
            · rfl
            · split at hlq
              · rename_i hqi; subst hqi; rw [ho] at ho'; cases ho'; exact hd e he
              · exact h5 q o' ho' hlq e he
        split
        · rename_i hw
          rw [if_pos hw] at hop
          exact wpIn_monoQ (fun _ a' w' _ _ hk => hnext a' w' hk) hQ1 hop
        · rename_i hw
          rw [if_neg hw] at hop
          exact ⟨hop.1, hnext _ _ hop.2⟩
end

/-- What is hidden from simp. -/
structure Hid (p : Prop) : Prop where
  out : p

/-- What stands behind the fence, in each of its orders. -/
def runA (P : Program) (C : CallP) (ops : Array Oper) : Nat → Array Bool → St → (St → Prop) → Prop
  | 0, L, s, K => Region.ready .any ops L = [] ∧ K s
  | n + 1, L, s, K => (Region.ready .any ops L = [] → K s) ∧ ∀ i, i ∈ Region.ready .any ops L → ∃ o, ops[i]? = some o ∧ runOps P C ops [o] s.H.length s (fun s1 => Hid (runA P C ops n (L.setIfInBounds i true) s1 K))

theorem runA_nil {P : Program} {C : CallP} {ops : Array Oper} {n : Nat} {L : Array Bool} {s : St} {K : St → Prop} (hr : Region.ready .any ops L = []) (h : K s) : runA P C ops n L s K := by
  cases n with
  | zero => exact ⟨hr, h⟩
  | succ n => exact ⟨fun _ => h, fun i hi => by rw [hr] at hi; simp at hi⟩
theorem at_drop {ops : Array Oper} {i : Nat} {o : Oper} {r : List Oper} (h : ops.toList.drop i = o :: r) : ops[i]? = some o := by
  have h1 : (ops.toList.drop i)[0]? = some o := by rw [h]; rfl
  rw [List.getElem?_drop, Nat.add_zero, Array.getElem?_toList] at h1
  exact h1
theorem runA_one {P : Program} {C : CallP} {ops : Array Oper} {n i : Nat} {L : Array Bool} {s : St} {K : St → Prop} {o : Oper} {r : List Oper} (hr : Region.ready .any ops L = [i]) (ho : ops.toList.drop i = o :: r)
    (h : runOps P C ops [o] s.H.length s (fun s1 => Hid (runA P C ops n (L.setIfInBounds i true) s1 K))) : runA P C ops (n + 1) L s K :=
  ⟨fun e => (by rw [hr] at e; cases e), fun j hj => by
    rw [hr] at hj
    obtain rfl : j = i := by simpa using hj
    exact ⟨o, at_drop ho, h⟩⟩
theorem runA_two {P : Program} {C : CallP} {ops : Array Oper} {n i i2 : Nat} {L : Array Bool} {s : St} {K : St → Prop} {o o2 : Oper} {r r2 : List Oper} (hr : Region.ready .any ops L = [i, i2]) (ho : ops.toList.drop i = o :: r) (ho2 : ops.toList.drop i2 = o2 :: r2)
    (h : runOps P C ops [o] s.H.length s (fun s1 => Hid (runA P C ops n (L.setIfInBounds i true) s1 K))) (h2 : runOps P C ops [o2] s.H.length s (fun s1 => Hid (runA P C ops n (L.setIfInBounds i2 true) s1 K))) : runA P C ops (n + 1) L s K :=
  ⟨fun e => (by rw [hr] at e; cases e), fun j hj => by
    rw [hr] at hj
    rcases List.mem_cons.1 hj with rfl | hj
    · exact ⟨o, at_drop ho, h⟩
    · obtain rfl : j = i2 := by simpa using hj
      exact ⟨o2, at_drop ho2, h2⟩⟩

theorem runOne_sound {ro : Option Nat} {P : Program} {C : CallP} (hC : C.Sound P) {k base : Nat} {O : Nat → Prop} (ops : Array Oper) (QA : St → Prop) (Q : Exit → Act → World → Prop) (Q2 : Act → World → Prop) (E0 : Env) (w0 : World)
    (hQ : ∀ E s a w, SR k base O E s a w → FrK k E0 w0 E w → QA s → Q2 a w) {i : Nat} {o : Oper} (ho : ops[i]? = some o) {s : St} {E : Env} {a : Act} {w : World} (hS : SR k base O E s a w) (hF : FrK k E0 w0 E w) (h : runOps P C ops [o] s.H.length s QA) :
    wpOpIn (Fw ro) 0 P ops Q i Q2 a w := by
  unfold wpOpIn
  simp only [ho]
  simp only [runOps, wnt, mark_eq] at h
  cases hw : wantedA ops o s with
  | none => simp [hw] at h
  | some b =>
    have hwr := wantedA_rel hS hw
    rw [hwr]
    cases b with
    | false =>
      simp only [hw] at h
      simp only [Bool.false_eq_true, if_false]
      exact ⟨fun _ _ => trivial, hQ E _ _ w (hS.put o.dst mkUndef) hF h⟩
    | true =>
      simp only [hw] at h
      simp only [if_true]
      obtain ⟨d, wr, rd, sl, hK, hSop, hrd, hsl⟩ := opRun_sound hC h
      refine hSop O E s.H a w (fun x _ => hS.ev x) hS.wr (fun n hn => hS.up n (Nat.le_trans hS.hbase hn)) hrd (fun b hb => hS.free b (hsl b hb).1) ro _ _ ?_
      intro v' w' E' r1 r2 r3 r4 r5
      refine hQ E' _ _ w' ?_ (hF.trans (FrK.of r3 r4)) hK
      have h1 := hS.step r3 r4 r2
      have h2 := h1.put o.dst r1
      cases hd : o.dst <;> simp only [hd, St.put, St.after] at h2 ⊢ <;> exact h2

theorem runA_sound {ro : Option Nat} {P : Program} {C : CallP} (hC : C.Sound P) {k base : Nat} {O : Nat → Prop} (ops : Array Oper) (QA : St → Prop) (Q : Exit → Act → World → Prop) (E0 : Env) (w0 : World)
    (hQ : ∀ E s a w, SR k base O E s a w → FrK k E0 w0 E w → QA s → Q .normal a w) :
    ∀ (n : Nat) (fuel : Nat) (L L2 : Array Bool) (s : St) (E : Env) (a : Act) (w : World), n ≤ fuel → L.size = L2.size → (∀ i, L.getD i true = L2.getD i true) → SR k base O E s a w → FrK k E0 w0 E w → runA P C ops n L2 s QA →
      wpAnyIn (Fw ro) 0 P .any ops Q fuel L a w := by
  have hrd : ∀ {L L2 : Array Bool}, L.size = L2.size → (∀ i, L.getD i true = L2.getD i true) → Region.ready .any ops L = Region.ready .any ops L2 := fun {L L2} hs h => by
    have h2 : ∀ i, L.getD i false = L2.getD i false := fun i => by
      rcases Nat.lt_or_ge i L.size with q | q
      · rw [← getD_tf q, h i, getD_tf (by omega)]
      · simp [Array.getD, show ¬ i < L.size from by omega, show ¬ i < L2.size from by omega]
    unfold Region.ready
    congr 1
    funext i
    simp only [h, h2]
  intro n
  induction n with
  | zero =>
    intro fuel L L2 s E a w hf hsz hL hS hF h
    have hr : Region.ready .any ops L = [] := by rw [hrd hsz hL]; exact h.1
    cases fuel with
    | zero => exact ⟨hr, hQ E s a w hS hF h.2⟩
    | succ fuel => exact ⟨fun _ => hQ E s a w hS hF h.2, fun i hi => by rw [hr] at hi; simp at hi⟩
  | succ n ih =>
    intro fuel L L2 s E a w hf hsz hL hS hF h
    cases fuel with
    | zero => omega
    | succ fuel =>
      refine ⟨fun hr => hQ E s a w hS hF (h.1 (by rw [← hrd hsz hL]; exact hr)), fun i hi => ?_⟩
      obtain ⟨o, ho, hrun⟩ := h.2 i (by rw [← hrd hsz hL]; exact hi)
      refine runOne_sound hC ops _ Q _ E0 w0 (fun E s a w hS hF hq => ?_) ho hS hF hrun
      refine ih fuel (L.setIfInBounds i true) (L2.setIfInBounds i true) s E a w (by omega) (by simp [hsz]) (fun q => ?_) hS hF hq.out
      have := hL q
      simp only [Array.getD_eq_getD_getElem?, Array.getElem?_setIfInBounds, hsz] at this ⊢
      split
      · rfl
      · exact this

theorem AW.fence {rr : Bool} {P : Program} {C : CallP} (hC : C.Sound P) (hmix : P.follows .mixedOrders = true) {k id : Nat} {ops : Array Oper} {Q : Exit → St → Prop} {s : St} (m : Nat) (pre : Array Oper) (L : Array Bool) (hb : fence ops m = true) (hp : ops.extract 0 m = pre)
    (hL : L = (Array.replicate m true) ++ (Array.replicate (ops.size - m) false))
    (h : runD P C pre pre.toList s.H.length s [] (fun s1 fs => drawn pre fs fun _ => ∃ s2, Conv k s1 s2 ∧ Hid (runA P C ops (ops.size - m) L s2 (fun s3 => Q .normal s3)))) : AW P rr k (.region id ops true) Q s := by
  subst hp
  intro ro hro base O E0 a0 w0 hS0
  refine wpIn_region_any hmix ?_
  obtain ⟨hms, hedge, hgd, hbar⟩ := fence_spec hb
  have hsz : (ops.extract 0 m).size = m := by simp; omega
  let Q0 : Exit → Act → World → Prop := fun e a' w' => e = .normal ∧ ∃ E' s', SR k base O E' s' a' w' ∧ FrK k E0 w0 E' w' ∧ ∃ s2, Conv k s' s2 ∧ Hid (runA P C ops (ops.size - m) L s2 (fun s3 => Q .normal s3))
  have h0 : wpAnyIn (Fw ro) 0 P .any (ops.extract 0 m) Q0 (ops.extract 0 m).size (Array.replicate (ops.extract 0 m).size false) a0 { w0 with drawn := w0.drawn + 1 } :=
    draw_any hC (fun _ => True) (fun _ _ _ _ => trivial) h ro hS0 trivial (fun E' s' a' w' q1 q2 q3 q4 => ⟨rfl, E', s', q1, q2, q4⟩)
  have := any_fence hb (Q := fun e a' w' => ∃ E' s', Q e s' ∧ SR k base O E' s' a' w' ∧ FrK k E0 w0 E' w') (fun e a w hne hq => absurd hq.1 hne) (fun a w hq fuel L1 hf hs1 hL1 => by
    obtain ⟨_, E', s', q1, q2, s2, hc, hr⟩ := hq
    obtain ⟨E2, q3, q4⟩ := hc base O E' a w q1
    have hLs : L.size = ops.size := by rw [hL]; simp; omega
    refine runA_sound hC ops _ _ E0 w0 (fun E s a w hS hF hQ => ⟨E, s, hQ, hS, hF⟩) _ fuel L1 L s2 E2 a w hf (by rw [hs1, hLs]) (fun i => ?_) q3 (q2.trans q4) hr.out
    by_cases hi : i < ops.size
    · rw [getD_tf (by omega), getD_tf (by omega)]
      have h1 := hL1 i hi
      have h2 : L.getD i false = decide (i < m) := by
        rw [hL, Array.getD_eq_getD_getElem?, Array.getElem?_append]
        by_cases him : i < m
        · rw [if_pos (by simpa using him), Array.getElem?_replicate, if_pos him]; simp [him]
        · rw [if_neg (by simpa using him), Array.getElem?_replicate]
          simp only [Array.size_replicate]
          rw [if_pos (by omega)]; simp [him]
      rw [h2]
      cases hq : L1.getD i false with
      | true => simp [h1.1 hq]
      | false =>
        have : ¬ i < m := fun hh => by rw [h1.2 hh] at hq; cases hq
        simp [this]
    · simp [Array.getD, hs1, hLs, hi]) (ops.extract 0 m).size (Array.replicate (ops.extract 0 m).size false) (Array.replicate ops.size false) a0 _ (by simp; omega) (by simp) (fun i hi => by
      simp [Array.getD_eq_getD_getElem?, Array.getElem?_replicate]
      rw [if_pos (by omega), if_pos (by omega)]) (fun i _ hi => by
      simp [Array.getD_eq_getD_getElem?, Array.getElem?_replicate, hi]) (fun j o _ hj => by
      simp [Array.getD_eq_getD_getElem?, Array.getElem?_replicate] at hj
      split at hj <;> simp at hj) h0
  rw [hsz, show m + (ops.size - m) = ops.size from by omega] at this
  exact this
end Go.AH
namespace Go.AH
theorem AW.seqG {rr : Bool} {P : Program} {k : Nat} {x y : Code} {Q : Exit → St → Prop} {s : St} (h : ∀ y', Hid (y' = y) → AW P rr k x (nxt (AW P rr k y' Q) Q) s) : AW P rr k (.seq x y) Q s := AW.seq (h y ⟨rfl⟩)
end Go.AH

/- Sorting an owned block: from the library's contract of slices.SortFunc to one of abstract blocks. -/
import Derived.Test.YtmhkanhgmfolhaaGreatAhX
import Derived.Shelf.SlSortCmp.InsertionK
set_option linter.unusedSimpArgs false
set_option linter.unusedVariables false
namespace Go.AH
open Go.Sort Go.Proofs

/-- What the library's contract says of a function that sorts rows of `k` cells, called with the function `g`. -/
def SortsAt (P : Program) (f g k : Nat) : Prop :=
  ∀ (enc : Nat → List Value) (_ : ∀ x, (enc x).length = k) (_ : ∀ x, ∀ v ∈ enc x, v.oneCell' = true) (cf : Nat → Nat → Int) (_ : SWO (ltOf cf)) (cb : Array Value) (blk off cap : Nat) (d : Array Nat) (w : World),
    CmpLays P g cb enc k cf blk off d.size w → HoldsK enc k w blk off d → blk < w.heap.size → d.size < 4611686018427387904 →
    Calls P f #[.slice (some ⟨blk, off, none⟩) d.size cap, .func (.func g) #[] cb] w fun e w' =>
      e = .returned (.tuple #[]) ∧ ∃ d' n os, PermIn 0 d.size d d' ∧ SortedIn (ltOf cf) 0 d.size d' ∧ w' = sortWorldK enc k w blk off n d' os

theorem put_heap {enc : Nat → List Value} {k : Nat} {w : World} {blk m : Nat} {d' : Array Nat} {c : Array Value} {el : TypeId} {fz : Nat × Nat} (h : w.heap[blk]? = some (.cells c el fz)) :
    (putRowK enc k (Sort.ahead w m) blk 0 d').heap.size = w.heap.size ∧ (∀ q, q ≠ blk → (putRowK enc k (Sort.ahead w m) blk 0 d').heap[q]? = w.heap[q]?) ∧
    (putRowK enc k (Sort.ahead w m) blk 0 d').heap[blk]? = some (.cells (putCells id 0 (flatK enc k d') c) el fz) := by
  unfold putRowK putRow mapBlock
  refine ⟨by simp, fun q hq => ?_, ?_⟩
  · simp only [Sort.heap_ahead, Array.getElem?_modify]
    rw [if_neg (fun e => hq e.symm)]
  · simp only [Sort.heap_ahead, Array.getElem?_modify]
    rw [if_pos trivial, h]
    rfl

theorem put_get {enc : Nat → List Value} {k : Nat} (hk : ∀ x, (enc x).length = k) {d' : Array Nat} {c : Array Value} (hle : d'.size * k ≤ c.size) (p : Nat) :
    (putCells id 0 (flatK enc k d') c)[p]? = if p < d'.size * k then (enc d'[p / k]!)[p % k]? else c[p]? := by
  unfold putCells
  simp only [Array.getElem?_mapIdx, size_flatK, Nat.zero_le, true_and, Nat.zero_add, Nat.sub_zero, id]
  by_cases hp : p < d'.size * k
  · rw [if_pos hp, Array.getElem?_eq_getElem (by omega)]
    simp only [Option.map_some, if_pos hp]
    have hk0 : 0 < k := by
      rcases Nat.eq_zero_or_pos k with h | h
      · subst h; simp at hp
      · exact h
    rw [get_flatK _ _ _ _ hp]
    have hlt : p % k < (enc d'[p / k]!).length := by rw [hk]; exact Nat.mod_lt _ hk0
    rw [List.getElem?_eq_getElem hlt, getElem!_pos (enc d'[p / k]!) (p % k) hlt]
  · rw [if_neg hp]
    cases c[p]? with
    | none => rfl
    | some v => simp [hp]

/-- A world that has grown out of another one, from what a frame says of both. -/
theorem grown_of {K : Nat → Prop} {E E' : Env} {w w' : World} (hE : ∀ b, E b = none) (h : Fr K E w E' w') : ∃ q os, w' = Sort.grow (w.drewN q) os := by
  refine ⟨w'.drawn - w.drawn, w'.heap.extract w.heap.size w'.heap.size, ?_⟩
  have h1 := h.drawn
  have h2 := h.size
  have hheap : w'.heap = w.heap ++ w'.heap.extract w.heap.size w'.heap.size := by
    apply Array.ext_getElem?
    intro i
    rw [Array.getElem?_append]
    split
    · rename_i hi
      exact (h.out i hi (fun b bi hb => by rw [hE b] at hb; cases hb)).1
    · rename_i hi
      rw [Array.getElem?_extract]
      split
      · rename_i hlt
        congr 1; omega
      · rename_i hlt
        exact Array.getElem?_eq_none (by omega)
  unfold Sort.grow World.drewN
  cases w' with
  | mk heap tape drawn os output =>
    cases w with
    | mk heap0 tape0 drawn0 os0 output0 =>
      have e1 := h.os
      have e2 := h.tape
      have e3 := h.output
      simp only at e1 e2 e3 hheap h1
      subst e1 e2 e3
      simp only [World.mk.injEq, and_true, true_and]
      exact ⟨hheap, by omega⟩

theorem FC.sort {P : Program} {f g k n : Nat} {caps : List D} {rows rows' : Blk} {q : Nat → Nat → Int} (hc : Callable P f) (hn : rows.length = n) (h0 : 0 < n) (hk0 : 0 < k) (hn2 : n < 4611686018427387904)
    (hp : pureB rows = true) (hcaps : D.refsL (fun _ => false) caps = true) (hg : ∀ i j, i < n → j < n → FC P g (.agg (rows.getD i []) :: .agg (rows.getD j []) :: caps) [] (.int .i64 (q i j)) [])
    (hO : SWO (ltOf fun i j => q (min i (n - 1)) (min j (n - 1)))) (hS : SortsAt P f g k)
    (hd : ∀ l : List Nat, l.Perm (List.range n) → (∀ i j, i < j → j < n → ¬ q (l.getD j 0) (l.getD i 0) < 0) → l.map (fun i => rows.getD i []) = rows') :
    FC P f [.rs k 0 0 n n, .fn g caps] [rows] (.tup []) [rows'] := by
  refine ⟨hc, fun O E w vs hw hO1 hv => ?_⟩
  obtain ⟨v0, us, e0, r0, hL⟩ := hv.head
  obtain ⟨v1, us1, rfl, r1, hL⟩ := hL.head
  have := hL.nil; subst this
  have evs : vs = #[v0, v1] := by apply Array.ext'; rw [e0]
  subst evs
  cases r0 with
  | pur _ _ hpp => cases hpp
  | rs _ _ _ _ bi a cap' hE hb0 h1 h2 h3 h4 =>
  cases r1 with
  | pur _ _ hpp => cases hpp
  | fn _ _ cb hcl hcr =>
  obtain ⟨rr, c, el, g1, g2, g3, g4, g5, g6⟩ := hw.blk 0 bi hE
  have : rr = rows := by simpa [hget] using g1.symm
  subst this
  have hbn : bi.n = n := by omega
  obtain ⟨o, rfl, ho, c1, el1, hc1, hle1⟩ := h4 (by omega)
  rw [g4] at hc1; cases hc1
  obtain rfl : o = 0 := by rw [ho (by omega), Nat.zero_mul]
  have hEb : ∀ b, b ≠ 0 → E b = none := fun b hb => Wrel.beyond (l := [rr]) hw (by simp; omega)
  have hblk : bi.blk < w.heap.size := hw.lt hE
  have hsz : n * bi.sz ≤ c.size := by rw [← hbn]; exact g5
  -- the cells of a row
  obtain ⟨enc, henc⟩ : ∃ enc : Nat → List Value, enc = fun i => (c.toList.drop (min i (n - 1) * bi.sz)).take bi.sz := ⟨_, rfl⟩
  have hidx : ∀ i, min i (n - 1) < n := fun i => by omega
  have hin : ∀ i j, i < n → j < bi.sz → i * bi.sz + j < c.size := fun i j hi hj => by
    have : (i + 1) * bi.sz ≤ n * bi.sz := Nat.mul_le_mul_right _ hi
    rw [Nat.add_mul, Nat.one_mul] at this
    omega
  have hk : ∀ x, (enc x).length = bi.sz := fun x => by
    have := hin (min x (n - 1)) (bi.sz - 1) (hidx x) (by omega)
    rw [henc]
    simp only [List.length_take, List.length_drop, Array.length_toList]
    omega
  have hencg : ∀ i j, i < n → j < bi.sz → (enc i)[j]? = c[i * bi.sz + j]? := fun i j hi hj => by
    rw [henc]
    simp only [show min i (n - 1) = i from by omega]
    rw [List.getElem?_take, if_pos hj, List.getElem?_drop, Array.getElem?_toList]
  have hscal : ∀ x, ∀ v ∈ enc x, v.oneCell' = true := fun x v hv => by
    rw [henc] at hv
    have hm := List.mem_of_mem_drop (List.mem_of_mem_take hv)
    obtain ⟨i, hi⟩ := List.mem_iff_getElem?.1 hm
    exact hw.sc 0 bi hE c el g4 i v (by simpa using hi)
  have hH : HoldsK enc bi.sz w bi.blk 0 (Array.range n) := by
    intro t ht
    rw [size_flatK, Array.size_range] at ht
    have ht1 : t / bi.sz < n := Nat.div_lt_of_lt_mul (by rw [Nat.mul_comm]; exact ht)
    have ht2 : t % bi.sz < bi.sz := Nat.mod_lt _ hb0
    refine ⟨?_, by simp [World.frozen?, g4]⟩
    rw [cell?_some g4, Nat.zero_add, get_flatK _ _ _ _ (by simpa using ht)]
    have e1 : (Array.range n)[t / bi.sz]! = t / bi.sz := by rw [getElem!_pos _ _ (by simpa using ht1)]; simp
    rw [e1]
    have e2 := hencg _ _ ht1 ht2
    rw [Nat.mul_comm, Nat.div_add_mod] at e2
    rw [← e2]
    have hlt : t % bi.sz < (enc (t / bi.sz)).length := by rw [hk]; exact ht2
    rw [List.getElem?_eq_getElem hlt, getElem!_pos (enc (t / bi.sz)) (t % bi.sz) hlt]
    rfl
  -- the comparison in every world of the sort's
  have hcmp : CmpLays P g cb enc bi.sz (fun i j => q (min i (n - 1)) (min j (n - 1))) bi.blk 0 (Array.range n).size w := by
    intro m os dk hs x y
    obtain ⟨W, hW⟩ : ∃ W, W = sortWorldK enc bi.sz w bi.blk 0 m dk os := ⟨_, rfl⟩
    rw [← hW]
    obtain ⟨p1, p2, p3⟩ := put_heap (enc := enc) (k := bi.sz) (m := m) (d' := dk) g4
    have hWs : w.heap.size ≤ W.heap.size := by rw [hW]; unfold sortWorldK; rw [Sort.size_grow, p1]; omega
    have hWo : ∀ k', k' < w.heap.size → k' ≠ bi.blk → W.heap[k']? = w.heap[k']? := fun k' hk' hne => by
      rw [hW]; unfold sortWorldK Sort.grow
      rw [Array.getElem?_append_left (by rw [p1]; exact hk')]
      exact p2 k' hne
    let N : Env := fun _ => none
    have hmv : ∀ {d : D} {v : Value}, RelE O E w d v → d.refs (fun _ => false) = true → RelE (fun _ => True) N W d v := fun {d v} hr hd => by
      have s1 : Rel (fun k' => k' ≠ bi.blk) (fun k' => k' ≠ bi.blk) N w d v :=
        Rel.restrict (ok := fun _ => false) (fun b hb => by cases hb) (fun k' hu => fun e => hu.2 0 bi hE e.symm) (fun k' hu => fun e => hu 0 bi hE e.symm) hr hd
      have hshape : ∀ (k' : Nat) (c' : Array Value) (el' : TypeId) (fz : Nat × Nat), w.heap[k']? = some (.cells c' el' fz) → ∃ c2 : Array Value, W.heap[k']? = some (.cells c2 el' fz) ∧ c2.size = c'.size := by
        intro k' c' el' fz hq
        by_cases e : k' = bi.blk
        · subst e
          rw [g4] at hq; cases hq
          refine ⟨putCells id 0 (flatK enc bi.sz dk) c, ?_, ?_⟩
          · rw [hW]; unfold sortWorldK Sort.grow
            rw [Array.getElem?_append_left (by rw [p1]; exact hblk)]
            exact p3
          · simp [putCells]
        · exact ⟨c', by rw [hWo k' (Array.getElem?_eq_some_iff.1 hq).1 e]; exact hq, rfl⟩
      exact Rel.mono hWs (fun k' hk' hu => ⟨hWo k' hk' hu, trivial, fun b bi' hb => (by cases hb)⟩) (fun k' hk' hu => ⟨hWo k' hk' hu, fun b bi' hb => (by cases hb)⟩) (fun b bi' hb => (by cases hb)) hshape s1
    have hrow : ∀ x, RelE (fun _ => True) N W (.agg (rr.getD (min x (n - 1)) [])) (.agg (enc x).toArray) := fun x => by
      have hlt : min x (n - 1) < rr.length := by rw [hn]; exact hidx x
      have hr : rr[min x (n - 1)]? = some (rr.getD (min x (n - 1)) []) := by simp [List.getD, List.getElem?_eq_getElem hlt]
      have hex : enc x = enc (min x (n - 1)) := by rw [henc]; simp only [show min (min x (n - 1)) (n - 1) = min x (n - 1) from by omega]
      refine .agg _ _ ?_ ?_ ?_
      · rw [g3 _ (List.mem_of_getElem? hr)]; simp [hk]
      · intro i v hv
        exact hscal x v (List.mem_of_getElem? (by simpa using hv))
      · intro i d v h1 h2
        have hib : i < bi.sz := by rw [← g3 _ (List.mem_of_getElem? hr)]; exact some_lt h1
        obtain ⟨v', q1, q2, q3⟩ := g6 _ _ _ _ hr h1
        have : (enc x)[i]? = some v := by simpa using h2
        rw [hex, hencg _ _ (hidx x) hib, q1] at this
        cases this
        refine hmv q3 ?_
        have hpd : d.isPur = true := by
          unfold pureB at hp
          rw [List.all_eq_true] at hp
          have := hp _ (List.mem_of_getElem? hr)
          rw [List.all_eq_true] at this
          exact this d (List.mem_of_getElem? h1)
        cases d <;> simp [D.isPur, D.refs] at hpd ⊢
    have hwn : Wrel (fun _ => True) N (([] : List Blk).map some) W :=
      ⟨fun b bi' hb => (by cases hb), fun b r hb => (by simp [hget] at hb), fun b b' x y hb => (by cases hb), fun b bi' hb => (by cases hb)⟩
    have hargs : RelL (fun _ => True) N W (.agg (rr.getD (min x (n - 1)) []) :: .agg (rr.getD (min y (n - 1)) []) :: caps) (#[Value.agg (enc x).toArray, Value.agg (enc y).toArray] ++ cb).toList := by
      rw [Array.toList_append]
      refine ⟨by simp [hcl], fun i d v h1 h2 => ?_⟩
      match i, h1, h2 with
      | 0, h1, h2 => simp at h1 h2; subst h1 h2; exact hrow x
      | 1, h1, h2 => simp at h1 h2; subst h1 h2; exact hrow y
      | i + 2, h1, h2 =>
        simp at h1 h2
        exact hmv (hcr i d v h1 h2) (refsL_at hcaps i d h1)
    refine ((hg _ _ (hidx x) (hidx y)).2 (fun _ => True) N W _ hwn (fun _ _ => trivial) hargs).mono ?_
    rintro e w' ⟨v, E', rfl, hrv, _, hf, _⟩
    have := rel_int hrv
    subst this
    exact ⟨rfl, grown_of (fun _ => rfl) hf.fr⟩
  have hrun := hS enc hk hscal _ hO cb bi.blk 0 cap' (Array.range n) w hcmp hH hblk (by simpa using hn2)
  rw [Array.size_range] at hrun
  refine hrun.mono ?_
  rintro e w' ⟨rfl, d', m, os, hperm, hsort, rfl⟩
  obtain ⟨p1, p2, p3⟩ := put_heap (enc := enc) (k := bi.sz) (m := m) (d' := d') g4
  have hds : d'.size = n := by have := hperm.1; simpa using this
  have hpl : d'.toList.Perm (List.range n) := by
    have := hperm.2.2
    have e1 : d'.extract 0 n = d' := by rw [← hds]; simp
    have e2 : (Array.range n).extract 0 n = Array.range n := by
      have : (Array.range n).size = n := by simp
      conv => lhs; rw [← this]
      simp
    rw [e1, e2] at this
    simpa using this
  have hdm : ∀ i, i < n → d'[i]! < n := fun i hi => by
    rw [getElem!_pos d' i (by omega)]
    have := hpl.subset (by simp : d'[i] ∈ d'.toList)
    simpa using this
  have hgd : ∀ i, i < n → d'.toList.getD i 0 = d'[i]! := fun i hi => by
    rw [getElem!_pos d' i (by omega)]
    simp [List.getD, show i < d'.size from by omega]
  have hrows := hd d'.toList hpl (fun i j hij hj => by
    rw [hgd i (by omega), hgd j hj]
    have := hsort i j (Nat.zero_le _) hij hj
    unfold ltOf at this
    rw [decide_eq_false_iff_not] at this
    have z1 := hdm i (by omega)
    have z2 := hdm j hj
    simp only at this
    rw [show min d'[j]! (n - 1) = d'[j]! from by omega, show min d'[i]! (n - 1) = d'[i]! from by omega] at this
    exact this)
  have hr' : ∀ i r, rows'[i]? = some r → i < n ∧ rr[d'[i]!]? = some r := fun i r hi => by
    rw [← hrows] at hi
    rw [List.getElem?_map] at hi
    have hlt : i < d'.toList.length := by
      rcases Nat.lt_or_ge i d'.toList.length with h | h
      · exact h
      · rw [List.getElem?_eq_none h] at hi; cases hi
    rw [List.getElem?_eq_getElem hlt] at hi
    simp only [Option.map_some, Option.some.injEq] at hi
    have hi2 : i < n := by simpa [hds] using hlt
    have : d'[i]! = d'.toList[i] := by rw [getElem!_pos d' i (by omega)]; simp
    have hm := hdm i hi2
    refine ⟨hi2, ?_⟩
    rw [this] at hm ⊢
    have hq : d'.toList[i] < rr.length := by omega
    rw [← hi, List.getElem?_eq_getElem hq]
    simp only [List.getD, List.getElem?_eq_getElem hq, Option.getD_some]
  have hlen' : rows'.length = n := by rw [← hrows]; simp [hds]
  obtain ⟨w1, hw1⟩ : ∃ w1, w1 = putRowK enc bi.sz (Sort.ahead w m) bi.blk 0 d' := ⟨_, rfl⟩
  rw [← hw1] at p1 p2 p3
  have hget1 := put_get hk (d' := d') (c := c) (by rw [hds]; exact hsz)
  obtain ⟨k1, k2⟩ := hw.write (w1 := w1) (b := 0) (bi := bi) hE (rows := rows') (c := c) (c' := putCells id 0 (flatK enc bi.sz d') c) (el := el) g4 p1 p2 p3 (by simp [putCells])
    (by rw [hw1]; rfl) (by rw [hw1]; rfl) (by rw [hw1]; rfl) (by rw [hw1]; show w.drawn ≤ w.drawn + m; omega) (by omega)
    (fun r hr => by
      obtain ⟨i, hi⟩ := List.mem_iff_getElem?.1 hr
      exact g3 r (List.mem_of_getElem? (hr' i r hi).2)) (by rw [hlen']; simpa [putCells] using hsz)
    (fun i j r d hi hj => by
      obtain ⟨hin1, hr2⟩ := hr' i r hi
      have hjb : j < bi.sz := by rw [← g3 r (List.mem_of_getElem? hr2)]; exact some_lt hj
      obtain ⟨v, q1, q2, q3⟩ := g6 _ _ _ _ hr2 hj
      refine ⟨v, ?_, q2, q3⟩
      have hlt : i * bi.sz + j < n * bi.sz := by
        have : (i + 1) * bi.sz ≤ n * bi.sz := Nat.mul_le_mul_right _ hin1
        rw [Nat.add_mul, Nat.one_mul] at this; omega
      rw [hget1, if_pos (by rw [hds]; exact hlt)]
      have e1 : (i * bi.sz + j) / bi.sz = i := (blk_iff bi.sz i _ hb0).1 ⟨by omega, by omega⟩
      have e2 : (i * bi.sz + j) % bi.sz = j := by rw [Nat.mod_eq_sub_div_mul, e1]; omega
      rw [e1, e2, hencg _ _ (hdm i hin1) hjb]
      exact q1)
    (fun j v hj => by
      rw [hget1] at hj
      split at hj
      · exact hscal _ v (List.mem_of_getElem? hj)
      · exact hw.sc 0 bi hE c el g4 j v hj)
  have hw2 : sortWorldK enc bi.sz w bi.blk 0 m d' os = Sort.grow w1 os := by rw [hw1]; rfl
  rw [hw2]
  have hbi : (⟨bi.blk, bi.sz, rows'.length⟩ : BI) = bi := by rw [hlen', ← hbn]
  rw [hbi] at k1 k2
  have hEs : ∀ b, E.set 0 bi b = E b := fun b => by
    by_cases e : b = 0
    · subst e; rw [Env.set_self]; exact hE.symm
    · rw [Env.set_ne _ _ e]
  have hgr : ∀ k', k' < w1.heap.size → (Sort.grow w1 os).heap[k']? = w1.heap[k']? := fun k' hk' => by
    unfold Sort.grow
    exact Array.getElem?_append_left hk'
  have hgs : w1.heap.size ≤ (Sort.grow w1 os).heap.size := by rw [Sort.size_grow]; omega
  have hWf := Wrel.grown hgs hgr k1
  refine ⟨_, E.set 0 bi, rfl, .tup _ _ rfl (fun i d v h1 _ => by simp at h1), hWf.congr (fun b => ?_), ⟨⟨k2.os, k2.tape, k2.output, Nat.le_trans k2.size hgs, fun k' hk' ho' => ?_, fun b b1 hb hb1 => ?_, fun k' c' el' fz hq => ?_, k2.drawn⟩, fun b bi' hb hb' => ?_⟩, fun b bi' hb hb' => ?_⟩
  · rw [hget_hset]
    cases b with
    | zero => simp [hget]
    | succ b => simp [hget]
  · obtain ⟨z1, z2⟩ := k2.out k' hk' ho'
    exact ⟨(hgr k' (Nat.lt_of_lt_of_le hk' k2.size)).trans z1, z2⟩
  · exact k2.keep b b1 trivial hb1
  · obtain ⟨c2, z1, z2⟩ := k2.shape k' c' el' fz hq
    exact ⟨c2, by rw [hgr k' (Array.getElem?_eq_some_iff.1 z1).1]; exact z1, z2⟩
  · rw [hEs] at hb'
    exact .inr ⟨bi', hb', rfl⟩
  · rw [hEs, hEb b (by simp at hb; omega)] at hb'
    cases hb'
end Go.AH

/- A call by contract is sound. -/
import Derived.Test.YtmhkanhgmfolhaaGreatAhN
import Derived.Laws.Externs
import Derived.Lib.Overlaps
import Derived.KernelRfl
set_option linter.unusedSimpArgs false
set_option linter.unusedVariables false
namespace Go.AH

theorem pos_lt {X : List Nat} {b i : Nat} (h : pos X b = some i) : i < X.length := some_lt (pos_some h)

theorem hget_hput_zip : ∀ (ids : List Nat) (_ : ids.Nodup) (blks : List Blk) (H : Heap) (b : Nat),
    hget (hput H (ids.zip blks)) b = match pos ids b with
      | some i => match blks[i]? with
        | some x => some x
        | none => hget H b
      | none => hget H b
  | [], _, blks, H, b => by simp [hput, pos]
  | x :: ids, hn, [], H, b => by
    simp only [List.zip_nil_right, hput, List.foldl_nil]
    cases pos (x :: ids) b <;> simp
  | x :: ids, hn, y :: blks, H, b => by
    rw [List.nodup_cons] at hn
    simp only [List.zip_cons_cons]
    have e : hput H ((x, y) :: ids.zip blks) = hput (hset H x y) (ids.zip blks) := rfl
    rw [e, hget_hput_zip ids hn.2 blks]
    simp only [pos]
    by_cases hx : x = b
    · subst hx
      rw [if_pos rfl]
      have : pos ids x = none := by
        cases hp : pos ids x with
        | none => rfl
        | some i => exact absurd (List.mem_of_getElem? (pos_some hp)) hn.1
      rw [this]
      simp [hget_hset]
    · rw [if_neg hx]
      have hne : ¬ b = x := fun e => hx e.symm
      cases hp : pos ids b with
      | none => simp [hget_hset, hne]
      | some i => simp [hget_hset, hne]

/-- What a call of a function value comes to. -/
theorem call_run {P : Program} {o : Oper} {c : Call} {x : Operand} {f : FuncId} {fs caps : List D} {s : St} (ho : o.op = .call c) (hx : Leads P c.callee s x f fs caps)
    {O : Nat → Prop} {E : Env} {a : Act} {w : World} (hops : ∀ x, x ∈ o.op.operands → RelE O E w (s.ev x) (a.eval x)) :
    ∃ vs : Array Value, RelL O E w (fs ++ (c.args.toList.map s.ev ++ caps)) vs.toList ∧ (execOp a.eval o).run P w = (callFunc f vs).run P w := by
  have hfx := hops x (by rw [ho]; rcases hx with ⟨hc, _⟩ | ⟨t, name, hc, _⟩ <;> simp [Op.operands, Call.operands, hc])
  obtain ⟨fv, cv, hrun, hfl, hcl, hfr0, hcr⟩ : ∃ fv cv, (execOp a.eval o).run P w = (callFunc f (fv ++ (c.args.map a.eval ++ cv))).run P w ∧ fs.length = fv.size ∧ caps.length = cv.size ∧ (∀ (i : Nat) (d : D) (v : Value), fs[i]? = some d → fv[i]? = some v → RelE O E w d v) ∧ ∀ (i : Nat) (d : D) (v : Value), caps[i]? = some d → cv[i]? = some v → RelE O E w d v := by
    have hex : c.callee = .value x → ∀ {fv cv : Array Value}, a.eval x = .func (.func f) fv cv → (execOp a.eval o).run P w = (callFunc f (fv ++ (c.args.map a.eval ++ cv))).run P w := by
      intro hc fv cv hev
      simp only [execOp, ho, resolve, hc, hev, Deferred.ofValue, Sem.run_bind, Sem.run_pure, Result.andThen_ok, invoke]
      simp
    rcases hx with ⟨hc, ⟨hx, rfl⟩ | ⟨hx, rfl⟩ | ⟨t, name, hx, hm, rfl, rfl⟩⟩ | ⟨t, name, hc, hx, hm, rfl, rfl⟩
    · rw [hx] at hfx
      generalize hev : a.eval x = fv at hfx
      cases hfx with
      | pur _ _ hp => cases hp
      | fn _ _ vs hl h => exact ⟨#[], vs, hex hc hev, rfl, hl, fun i d v h1 _ => by simp at h1, h⟩
    · rw [hx] at hfx
      generalize hev : a.eval x = fv at hfx
      cases hfx with
      | pur _ _ hp => cases hp
      | mv _ _ vs hl h => exact ⟨vs, #[], hex hc hev, hl, rfl, h, fun i d v h1 _ => by simp at h1⟩
    · rw [hx] at hfx
      generalize hev : a.eval x = fv at hfx
      cases hfx with
      | pur _ _ hp =>
        cases hp
        refine ⟨#[.agg #[]], #[], ?_, rfl, rfl, fun i d v h1 h2 => ?_, fun i d v h1 _ => by simp at h1⟩
        · have hd : P.types.size + Made.depth = (P.types.size + 99) + 1 := rfl
          simp only [execOp, ho, resolve, hc, hev, Deferred.ofValue, Sem.run_bind, Sem.run_pure, Result.andThen_ok, invoke]
          have h0 : (#[Value.iface t (.agg #[])] ++ c.args.map a.eval)[0]? = some (.iface t (.agg #[])) := by rw [Array.getElem?_append_left (by simp)]; rfl
          have h1 : (#[Value.iface t (.agg #[])] ++ c.args.map a.eval).extract 1 (#[Value.iface t (.agg #[])] ++ c.args.map a.eval).size = c.args.map a.eval := by
            apply Array.ext'; simp [List.take_of_length_le]
          simp only [h0, h1, callMethod, Sem.run_bind, run_program, Result.andThen_ok, hd, run_methT hm]
          simp
        · cases i with
          | zero => simp at h1 h2; subst h1 h2; exact .agg [] #[] rfl (fun i v h => by simp at h) (fun i d v h _ => by simp at h)
          | succ i => simp at h1
    · rw [hx] at hfx
      generalize hev : a.eval x = fv at hfx
      cases hfx with
      | pur _ _ hp =>
        cases hp
        refine ⟨#[.agg #[]], #[], ?_, rfl, rfl, fun i d v h1 h2 => ?_, fun i d v h1 _ => by simp at h1⟩
        · have hd : P.types.size + Made.depth = (P.types.size + 99) + 1 := rfl
          simp only [execOp, ho, resolve, hc, hev, Sem.run_bind, Sem.run_pure, Result.andThen_ok, invoke]
          have h0 : (#[Value.iface t (.agg #[])] ++ c.args.map a.eval)[0]? = some (.iface t (.agg #[])) := by rw [Array.getElem?_append_left (by simp)]; rfl
          have h1 : (#[Value.iface t (.agg #[])] ++ c.args.map a.eval).extract 1 (#[Value.iface t (.agg #[])] ++ c.args.map a.eval).size = c.args.map a.eval := by
            apply Array.ext'; simp [List.take_of_length_le]
          simp only [h0, h1, callMethod, Sem.run_bind, run_program, Result.andThen_ok, hd, run_methT hm]
          simp
        · cases i with
          | zero => simp at h1 h2; subst h1 h2; exact .agg [] #[] rfl (fun i v h => by simp at h) (fun i d v h _ => by simp at h)
          | succ i => simp at h1
  refine ⟨fv ++ (c.args.map a.eval ++ cv), ?_, hrun⟩
  have hvals0 : RelL O E w (c.args.toList.map s.ev ++ caps) (c.args.map a.eval ++ cv).toList := by
    have hL := relL_args s.ev a c.args (fun y hy => hops y (by rw [ho]; simp [Op.operands, Call.operands, hy]))
    have hll := hL.1
    refine ⟨by rw [Array.toList_append, List.length_append, List.length_append, hll]; simp [hcl], fun i d v h1 h2 => ?_⟩
    rw [Array.toList_append] at h2
    by_cases hi : i < (c.args.toList.map s.ev).length
    · rw [List.getElem?_append_left hi] at h1
      rw [List.getElem?_append_left (by rw [← hll]; exact hi)] at h2
      exact hL.2 i d v h1 h2
    · rw [List.getElem?_append_right (by omega)] at h1
      rw [List.getElem?_append_right (by omega), ← hll] at h2
      exact hcr _ d v h1 (by simpa using h2)
  have hl0 := hvals0.1
  refine ⟨by simp at hl0 ⊢; omega, fun i d v h1 h2 => ?_⟩
  rw [Array.toList_append] at h2
  by_cases hi : i < fs.length
  · rw [List.getElem?_append_left hi] at h1
    rw [List.getElem?_append_left (by simpa [← hfl] using hi)] at h2
    exact hfr0 i d v h1 (by simpa using h2)
  · rw [List.getElem?_append_right (by omega)] at h1
    rw [List.getElem?_append_right (by simp [← hfl]; omega)] at h2
    exact hvals0.2 _ d v h1 (by simpa [← hfl] using h2)

theorem find_add64 {fn : Func} (hn : fn.name = "math/bits.Add64") (ho : fn.origin = "") : Extern.findNext fn = none ∧ Extern.find fn = some add64Entry := by
  have h1 : Extern.allNextRows.lookup "math/bits.Add64" = none := by kernel_rfl
  have h2 : Extern.allNextRows.lookup "" = none := by kernel_rfl
  have h3 : Extern.allGenericRows.lookup "math/bits.Add64" = none := by kernel_rfl
  have h4 : Extern.allTypedRows.lookup "math/bits.Add64" = none := by kernel_rfl
  have h5 : Extern.allRows.lookup "math/bits.Add64" = some add64Entry := by kernel_rfl
  refine ⟨?_, ?_⟩
  · unfold Extern.findNext
    simp only [hn, ho, h1, h2]
    rfl
  · unfold Extern.find
    simp only [hn, ho, h3, h4, h5]
    rfl

theorem extA_run {P : Program} {f : FuncId} {vals : List D} {d : D} (h : extA P f vals = some d) {O : Nat → Prop} {E : Env} {w : World} {vs : Array Value} (hv : RelL O E w vals vs.toList) : ∃ v, (callFunc f vs).run P w = .ok (.value v) w ∧ RelE O E w d v := by
  unfold extA at h
  split at h
  · rename_i fn hf
    split at h
    · rename_i hq
      obtain ⟨hn, ho, hb⟩ := hq
      split at h
      · rename_i x y c
        split at h
        · rename_i hr
          cases h
          obtain ⟨v0, us, e0, r0, hL⟩ := hv.head
          obtain ⟨v1, us1, rfl, r1, hL⟩ := hL.head
          obtain ⟨v2, us2, rfl, r2, hL⟩ := hL.head
          have := hL.nil; subst this
          have := rel_int r0; subst this
          have := rel_int r1; subst this
          have := rel_int r2; subst this
          have evs : vs = #[.int .u64 x, .int .u64 y, .int .u64 c] := by apply Array.ext'; rw [e0]
          subst evs
          obtain ⟨q1, q2⟩ := find_add64 hn ho
          refine ⟨.tuple #[.int .u64 ((x + y + c) % 18446744073709551616), .int .u64 ((x + y + c) / 18446744073709551616)], ?_, ?_⟩
          · rw [run_callFunc_extern hf (by rw [hn]; rfl) hb q1 q2, run_add64 x y c hr.1 hr.2.1 hr.2.2.1 hr.2.2.2]
            rfl
          · refine .tup _ _ rfl fun i d v h1 h2 => ?_
            match i, h1, h2 with
            | 0, h1, h2 => simp at h1 h2; subst h1 h2; exact mkInt _ _
            | 1, h1, h2 => simp at h1 h2; subst h1 h2; exact mkInt _ _
            | i + 2, h1, _ => simp at h1
        · cases h
      · cases h
    · cases h
  · cases h

theorem find_over {fn : Func} (hn : fn.name = "slices.overlaps[shapesearch/api.Entry]") (ho : fn.origin = "slices.overlaps") : Extern.findNext fn = none ∧ Extern.find fn = some (Extern.SlicesOverlaps.overlaps fn.params fn.resultTypes) := by
  have h1 : Extern.allNextRows.lookup "slices.overlaps[shapesearch/api.Entry]" = none := by kernel_rfl
  have h2 : Extern.allNextRows.lookup "slices.overlaps" = none := by kernel_rfl
  have h3 : Extern.allGenericRows.lookup "slices.overlaps[shapesearch/api.Entry]" = none := by kernel_rfl
  have h4 : Extern.allTypedRows.lookup "slices.overlaps[shapesearch/api.Entry]" = none := by kernel_rfl
  have h5 : Extern.allRows.lookup "slices.overlaps[shapesearch/api.Entry]" = none := by kernel_rfl
  have h6 : Extern.allGenericRows.lookup "slices.overlaps" = none := by kernel_rfl
  have h7 : Extern.allTypedRows.lookup "slices.overlaps" = some Extern.SlicesOverlaps.overlaps := by kernel_rfl
  refine ⟨?_, ?_⟩
  · unfold Extern.findNext
    simp only [hn, ho, h1, h2]
    rfl
  · unfold Extern.find
    simp only [hn, ho, h3, h4, h5, h6, h7]
    rfl

theorem run_overlaps_owned {P : Program} (w : World) (tS e : TypeId) (tR : Array TypeId) (ht : P.underlying tS = some (.slice e)) (size : Nat) (hz : ∀ w, (Go.sizeOf e).run P w = .ok size w)
    (a b : Addr) (la ca lb cb : Nat) (hne : a.block ≠ b.block) (tA tB : TypeId) (kA kB : Nat)
    (hsa : w.shape? a.block = some (tA, kA)) (hsb : w.shape? b.block = some (tB, kB)) (hkA : kA ≠ 0) (hkB : lb ≠ 0 → size ≠ 0 → kB ≠ 0)
    (hfb : w.frozen? b = false) (hfe : w.frozen? { block := b.block, off := kB } = false) :
    (Extern.SlicesOverlaps.overlaps #[tS, tS] tR #[.slice (some a) la ca, .slice (some b) lb cb]).run P w = .ok (.bool false) w := by
  have hnb : (a.block != b.block) = true := by simpa using hne
  have hnb' : (a.block == b.block) = false := by simpa using hne
  change Sem.run P (α := Value) (do
    let some t := (#[tS, tS] : Array TypeId)[0]? | stuck "slices.overlaps: no parameter types"
    let .slice elem ← underlying t | stuck "slices.overlaps: slice type expected"
    let size ← sizeOf elem
    match (some a : Option Addr), (some b : Option Addr) with
    | some a, some b =>
      if la = 0 ∨ lb = 0 ∨ size = 0 then pure (Value.bool false)
      else if a.block != b.block && (← frozen a) && (← frozen b) then unsupported .addressObserved
      else do
        if a.block != b.block then do
          noView a; noView b
          if ← mayBeOne a b then return Value.bool ((← choose (.extern "sameAddr.stringBytes" 2)) == 1)
        pure (Value.bool (a.block == b.block && a.off < b.off + lb * size && b.off < a.off + la * size))
    | _, _ => pure (Value.bool false)) w = _
  by_cases h0 : la = 0 ∨ lb = 0 ∨ size = 0
  · simp [run_underlying ht, hz, h0]
  · have hk0 : kB ≠ 0 := hkB (fun h => h0 (.inr (.inl h))) (fun h => h0 (.inr (.inr h)))
    cases kB with
    | zero => exact absurd rfl hk0
    | succ kB =>
     cases kA with
     | zero => exact absurd rfl hkA
     | succ kA =>
      cases hfa : w.frozen? a <;> cases hfa2 : w.frozen? { block := a.block, off := kA + 1 } <;>
        simp [run_underlying ht, hz, h0, hnb, hnb', frozen, noView, viewAt, mayBeOne, stringish, shape, Sem.run, hsa, hsb, hfb, hfe, hfa, hfa2]

theorem overA_rd {P : Program} {f : FuncId} {vals : List D} {H : Heap} {rd : List (Nat × Blk)} (h : overA P f vals H = some rd) : ∀ p, p ∈ rd → hget H p.1 = some p.2 := by
  unfold overA at h
  split at h
  · split at h
    · split at h
      · split at h
        · split at h
          · rename_i hg
            split at h
            · cases h
              intro p hp
              simp at hp; subst hp; exact hg
            · cases h
          · cases h
        · cases h
      · cases h
    · cases h
  · cases h

theorem overA_run {P : Program} {f : FuncId} {vals : List D} {H0 : Heap} {rd : List (Nat × Blk)} (h : overA P f vals H0 = some rd) {O : Nat → Prop} {E : Env} {H : Heap} {w : World} {vs : Array Value} (hv : RelL O E w vals vs.toList)
    (hw : Wrel O E H w) (hrd : ∀ p, p ∈ rd → hget H p.1 = some p.2) : (callFunc f vs).run P w = .ok (.value (.bool false)) w := by
  unfold overA at h
  split at h
  · rename_i fn hf
    split at h
    · rename_i hq
      obtain ⟨hn, ho, hb⟩ := hq
      split at h
      · rename_i x sz b off len cap t t' hp
        split at h
        · rename_i ht
          obtain ⟨ht, hx⟩ := ht
          subst ht
          split at h
          · rename_i esz rows he hg
            split at h
            · rename_i hc
              cases h
              obtain ⟨hszz, hlen⟩ := hc
              have hH := hrd (b, rows) (by simp)
              obtain ⟨e, hu, hsz, hpos⟩ := esizeT_spec he
              obtain ⟨v0, us, e0, q0, hL⟩ := hv.head
              obtain ⟨v1, us1, rfl, q1, hL⟩ := hL.head
              have := hL.nil; subst this
              have evs : vs = #[v0, v1] := by apply Array.ext'; rw [e0]
              have hpar : fn.params = #[t, t] := by apply Array.ext'; rw [hp]
              subst evs
              obtain ⟨f1, f2⟩ := find_over hn ho
              rw [run_callFunc_extern hf (by rw [hn]; rfl) hb f1 f2, hpar]
              have key : (Extern.SlicesOverlaps.overlaps #[t, t] fn.resultTypes #[v0, v1]).run P w = .ok (.bool false) w := by
                cases q1 with
                | pur _ _ hp => cases hp
                | rs _ _ _ _ bi a2 cap' hE h0 h1 h2 h3 h4 =>
                  obtain ⟨rr, c, el, g1, g2, g3, g4, g5, g6⟩ := hw.blk b bi hE
                  simp only at hH
                  rw [hH] at g1; cases g1
                  obtain ⟨o2, rfl, ho2, c1, el1, hc1, hle1⟩ := h4 (by omega)
                  rw [g4] at hc1; cases hc1
                  have hq0 : ∃ (a1 : Addr) (n1 c1 : Nat) (tA : TypeId) (kA : Nat), v0 = .slice (some a1) n1 c1 ∧ a1.block ≠ bi.blk ∧ w.shape? a1.block = some (tA, kA) ∧ kA ≠ 0 := by
                    have hshape : ∀ {k o : Nat} {u : Value}, w.cell? ⟨k, o, none⟩ = some u → ∃ tA kA, w.shape? k = some (tA, kA) ∧ kA ≠ 0 := by
                      intro k o u hcell
                      unfold World.cell? at hcell
                      unfold World.shape?
                      simp only at hcell
                      split at hcell
                      · rename_i cc eel ffz hh
                        exact ⟨eel, cc.size, by simp only, fun q => by
                          rw [Array.getElem?_eq_none (by omega)] at hcell
                          split at hcell <;> cases hcell⟩
                      · cases hcell
                    unfold apartD at hx
                    split at hx
                    · rename_i d0 r0 rs0
                      cases q0 with
                      | pur _ _ hpp =>
                        cases hpp with
                        | vs _ a1 cap1 sz1 ff hcap1 hsz1 ha1 hr1 =>
                          obtain ⟨k, o1, rfl, hU, hk, hcells⟩ := ha1 (by simp)
                          have hs1 : sz1 ≠ 0 := by
                            have := hsz1 (d0 :: r0) (by simp)
                            simp at this; omega
                          obtain ⟨tA, kA, z1, z2⟩ := hshape (hcells 0 0 (by simp) (by omega)).1
                          exact ⟨_, _, _, tA, kA, rfl, fun q => hU.2 b bi hE q.symm, z1, z2⟩
                    · rename_i d0 r0 rs0
                      cases q0 with
                      | pur _ _ hpp => cases hpp
                      | bs _ a1 cap1 sz1 ff hcap1 hsz1 ha1 hr1 =>
                        obtain ⟨k, o1, rfl, hU, hk, hcells⟩ := ha1 (by simp)
                        have hs1 : sz1 ≠ 0 := by
                          have := hsz1 (d0 :: r0) (by simp)
                          simp at this; omega
                        obtain ⟨tA, kA, z1, z2⟩ := hshape (hcells 0 0 (by simp) (by omega)).1
                        exact ⟨_, _, _, tA, kA, rfl, fun q => hU b bi hE q.symm, z1, z2⟩
                    · cases hx
                  obtain ⟨a1, n1, cc1, tA, kA, rfl, hne, hsa, hkA⟩ := hq0
                  exact run_overlaps_owned w t e fn.resultTypes hu esz (fun w' => sizeOf_run hsz w') a1 ⟨bi.blk, o2, none⟩ _ _ _ _ hne tA el kA c.size hsa
                    (by unfold World.shape?; simp only [g4]) hkA (fun hl _ hc0 => by
                      rw [hc0] at hle1
                      have : 0 < (off + cap') * bi.sz := Nat.mul_pos (by omega) h0
                      omega) (by simp [World.frozen?, g4]) (by simp [World.frozen?, g4])
              rw [key]; rfl
            · cases h
          · cases h
        · cases h
      · cases h
    · cases h
  · cases h

theorem hget_hput_in : ∀ (wr : List (Nat × Blk)) (H : Heap) (p : Nat × Blk), (wr.map (·.1)).Nodup → p ∈ wr → hget (hput H wr) p.1 = some p.2
  | [], H, p, _, h => by simp at h
  | q :: wr, H, p, hn, h => by
    rw [List.map_cons, List.nodup_cons] at hn
    show hget (hput (hset H q.1 q.2) wr) p.1 = some p.2
    rcases List.mem_cons.1 h with rfl | h
    · have : ∀ (wr : List (Nat × Blk)) (H : Heap) (b : Nat), b ∉ wr.map (·.1) → hget (hput H wr) b = hget H b := by
        intro wr
        induction wr with
        | nil => intro H b _; rfl
        | cons q wr ih =>
          intro H b hb
          simp only [List.map_cons, List.mem_cons, not_or] at hb
          show hget (hput (hset H q.1 q.2) wr) b = _
          rw [ih _ b hb.2, hget_hset, if_neg hb.1]
      rw [this wr _ _ hn.1, hget_hset, if_pos rfl]
    · exact hget_hput_in wr _ p hn.2 h

theorem hget_hput_out : ∀ (wr : List (Nat × Blk)) (H : Heap) (b : Nat), b ∉ wr.map (·.1) → hget (hput H wr) b = hget H b
  | [], H, b, _ => rfl
  | q :: wr, H, b, hb => by
    simp only [List.map_cons, List.mem_cons, not_or] at hb
    show hget (hput (hset H q.1 q.2) wr) b = _
    rw [hget_hput_out wr _ b hb.2, hget_hset, if_neg hb.1]

theorem hget_thin {wr : List (Nat × Blk)} {H : Heap} {g : Nat × Blk → Bool} (hn : (wr.map (·.1)).Nodup) (hg : ∀ p, p ∈ wr → g p = false → hget H p.1 = some p.2) (b : Nat) : hget (hput H (wr.filter g)) b = hget (hput H wr) b := by
  have hnf : ((wr.filter g).map (·.1)).Nodup := hn.sublist (List.Sublist.map _ List.filter_sublist)
  by_cases hb : b ∈ wr.map (·.1)
  · obtain ⟨p, hp, rfl⟩ := List.mem_map.1 hb
    rw [hget_hput_in wr H p hn hp]
    cases hgp : g p with
    | true => exact hget_hput_in _ H p hnf (List.mem_filter.2 ⟨hp, hgp⟩)
    | false =>
      rw [hget_hput_out _ H p.1, hg p hp hgp]
      intro hm
      obtain ⟨q, hq, e⟩ := List.mem_map.1 hm
      obtain ⟨hq1, hq2⟩ := List.mem_filter.1 hq
      have : q = p := by
        obtain ⟨i, hi⟩ := List.mem_iff_getElem?.1 hq1
        obtain ⟨k, hk⟩ := List.mem_iff_getElem?.1 hp
        have hi' : (wr.map (·.1))[i]? = some p.1 := by rw [List.getElem?_map, hi]; simp [e]
        have hk' : (wr.map (·.1))[k]? = some p.1 := by rw [List.getElem?_map, hk]; rfl
        have hik : i = k := (List.getElem?_inj (by have := some_lt hi'; exact this) hn).1 (hi'.trans hk'.symm)
        subst hik
        rw [hi] at hk; exact Option.some.inj hk
      rw [this, hgp] at hq2; cases hq2
  · rw [hget_hput_out wr H b hb, hget_hput_out _ H b]
    intro hm
    obtain ⟨q, hq, e⟩ := List.mem_map.1 hm
    exact hb (List.mem_map.2 ⟨q, (List.mem_filter.1 hq).1, e⟩)

theorem Wrel.congr {O : Nat → Prop} {E : Env} {H H' : Heap} {w : World} (h : Wrel O E H w) (he : ∀ b, hget H' b = hget H b) : Wrel O E H' w :=
  ⟨fun b bi hb => by
    obtain ⟨rows, c, el, g1, g2⟩ := h.blk b bi hb
    exact ⟨rows, c, el, by rw [he]; exact g1, g2⟩, fun b rows hg => h.live b rows (by rw [← he]; exact hg), h.inj, h.sc⟩

theorem OpS.thin {P : Program} {o : Oper} {ρ : Operand → D} {rd : List (Nat × Blk)} {sl : List Nat} {d : D} {wr : List (Nat × Blk)} (h : OpS P o ρ rd sl d wr) {g : Nat × Blk → Bool} (hn : (wr.map (·.1)).Nodup)
    (hg : ∀ p, p ∈ wr → g p = false → p ∈ rd) : OpS P o ρ rd sl d (wr.filter g) := by
  intro O E H a w h1 h2 h3 h4 h5 ro next Q hnext
  exact h O E H a w h1 h2 h3 h4 h5 ro next Q fun v' w' E' r1 r2 r3 r4 r5 => hnext v' w' E' r1 (r2.congr (hget_thin hn fun p hp hgp => h4 p (hg p hp hgp))) r3 r4 r5

theorem callC_sound (P : Program) : (callC P).Sound P := by
  intro o c x f fs caps s slot K ho hx h
  have hndf : ∀ c', o.op ≠ .defer c' := fun c' h => by rw [ho] at h; cases h
  obtain ⟨X, tn, nn, args', Hin, r, r', outs, outs', hX, hargs, hins, ⟨⟨fn, hfn, hname, hbody⟩, hcall⟩, hlen, hr, hback, hflat, hK⟩ := h
  refine ⟨r', _, _, hK, ?_, fun p hp => rdOf_spec p hp⟩
  intro O E H a w hops hw hO hrd hsl ro next Q hn
  have hmono : ∀ b y, look (rdOf s.H (X ++ D.idsL (fs ++ (c.args.toList.map s.ev ++ caps)))) b = some y → hget H b = some y := fun b y hb => hrd (b, y) (look_mem hb)
  obtain ⟨vs, hvals, hrun⟩ := call_run ho hx hops
  have hslotE : ∀ b, b ∈ slotsOf slot → E b = none := fun b hb => hsl b hb
  obtain ⟨i1, i2⟩ := insA_at hins
  have hXl : ∀ i b, X[i]? = some b → ∃ bi rows y, E b = some bi ∧ hget H b = some rows ∧ trB (pos X) false false (hget H) rows = some y ∧ Hin[i]? = some y := fun i b hb => by
    obtain ⟨rows, y, z1, z2, z3⟩ := i2 i b hb
    obtain ⟨bi, hbi⟩ := hw.live b rows (hmono b rows z1)
    exact ⟨bi, rows, y, hbi, hmono b rows z1, trB_get hmono z2, z3⟩
  have hslotX : ∀ b, b ∈ slotsOf slot → b ∉ X := fun b hb hX => by
    obtain ⟨i, hi⟩ := List.mem_iff_getElem?.1 hX
    obtain ⟨bi, _, _, hb', _⟩ := hXl i b hi
    rw [hslotE b hb] at hb'; cases hb'
  have hnd : (X ++ slotsOf slot).Nodup := by
    rw [List.nodup_append]
    exact ⟨hX, by simp [slotsOf], fun x hx y hy e => hslotX y hy (e ▸ hx)⟩
  have hZl : (X ++ slotsOf slot).length = X.length + 12 := by simp [slotsOf]
  let Oc : Nat → Prop := fun k => tn = true ∨ (O k ∧ E.Out k ∧ k < w.heap.size) ∨ w.heap.size ≤ k
  let Ec : Env := fun i => (X[i]?).bind E
  have hEc : ∀ i b, X[i]? = some b → Ec i = E b := fun i b hb => by simp only [Ec, hb, Option.bind_some]
  have hEcs : ∀ i bi, Ec i = some bi → ∃ b, X[i]? = some b ∧ E b = some bi := fun i bi hi => by
    simp only [Ec] at hi
    cases hb : X[i]? with
    | none => simp [hb] at hi
    | some b => simp [hb] at hi; exact ⟨b, rfl, hi⟩
  have hseen : ∀ ss, (ss = true → tn = true) → Seen (pos X) false ss true O E H Oc Ec w := fun ss hss => by
    have hout : ∀ b bi, pos X b = none → E b = some bi → Ec.Out bi.blk := fun b bi hb hE i bi' hi e => by
      obtain ⟨b', q1, q2⟩ := hEcs i bi' hi
      have := hw.inj b' b bi' bi q2 hE e
      subst this
      exact pos_none hb (List.mem_of_getElem? q1)
    refine ⟨hw, fun b i hb => hEc i b (pos_some hb), fun _ k hk h1 h2 => ⟨.inr (.inl ⟨h1, h2, hk⟩), fun i bi hi => ?_⟩, fun _ k _ h2 i bi hi => ?_, fun b bi hb hE => ⟨fun hs => ⟨.inl (hss hs), hout b bi hb hE⟩, fun _ => hout b bi hb hE⟩⟩
    · obtain ⟨b, _, q2⟩ := hEcs i bi hi; exact h2 b bi q2
    · obtain ⟨b, _, q2⟩ := hEcs i bi hi; exact h2 b bi q2
  have hwc : Wrel Oc Ec (Hin.map some) w := (hseen false (fun h => by cases h)).wrel (nn := false) (fun i bi hi => by
      obtain ⟨b, q1, q2⟩ := hEcs i bi hi
      obtain ⟨bi', rows, y, e1, e2, e3, e4⟩ := hXl i b q1
      refine ⟨b, rows, y, q2, e2, e3, by rw [hget_map]; exact e4, (fun h => by cases h), fun i' ⟨bi2, hi2, e⟩ => ?_⟩
      obtain ⟨b2, q3, q4⟩ := hEcs i' bi2 hi2
      have := hw.inj b2 b bi2 bi q4 q2 e
      subst this
      have p1 := pos_of hX q1
      rw [pos_of hX q3] at p1
      exact Option.some.inj p1) (fun i rows hg => by
      rw [hget_map] at hg
      have hlt : i < X.length := by rw [i1]; exact some_lt hg
      obtain ⟨bi, _, _, e1, _⟩ := hXl i X[i] (List.getElem?_eq_getElem hlt)
      exact ⟨bi, by rw [hEc i X[i] (List.getElem?_eq_getElem hlt)]; exact e1⟩)
  have hLc : RelL Oc Ec w args' vs.toList := by
    obtain ⟨q1, q2⟩ := trL_at (trL_mono hmono hargs)
    refine ⟨by rw [← q1]; exact hvals.1, fun i d v h1 h2 => ?_⟩
    obtain ⟨d0, e1, e2⟩ := q2 i d h1
    exact tr_rel (hseen tn (fun h => h)) (hvals.2 i d0 v e1 h2) e2 (fun h => by cases h)
  have hC := hcall Oc Ec w vs hwc (fun n hn => .inr (.inr hn)) hLc
  refine ⟨fun _ _ => trivial, ?_⟩
  rw [show (Fw ro).round = ro from rfl, Oper.semAt_eq ro _ _ hndf, hrun, show (callFunc f vs).run P w = .ok (.enter f vs) w from by simp only [callFunc, Sem.run_bind, run_program, Result.andThen_ok, hfn, hname, hbody, Bool.false_eq_true, if_false]; simp, Oper.uponIn_enter]
  refine ⟨(fun h => by cases h), (callsIn_Fw hC).mono ?_⟩
  rintro e w' ⟨v, E', rfl, hrel, hw', hF, hnew⟩
  simp only
  have hHin : Hin.length = X.length := i1.symm
  have hEl : ∀ i, outs.length ≤ i → E' i = none := fun i hi => hw'.beyond hi
  let E2 : Env := fun b => match pos (X ++ slotsOf slot) b with
    | some i => E' i
    | none => E b
  have hE2X : ∀ b i, pos (X ++ slotsOf slot) b = some i → E2 b = E' i := fun b i hb => by simp only [E2, hb]
  have hE2n : ∀ b, pos (X ++ slotsOf slot) b = none → E2 b = E b := fun b hb => by simp only [E2, hb]
  have hcases : ∀ b bi, E2 b = some bi → (∃ i, pos (X ++ slotsOf slot) b = some i ∧ E' i = some bi) ∨ (pos (X ++ slotsOf slot) b = none ∧ E b = some bi) := fun b bi hb => by
    cases hp : pos (X ++ slotsOf slot) b with
    | some i => exact .inl ⟨i, rfl, by rw [← hE2X b i hp]; exact hb⟩
    | none => exact .inr ⟨rfl, by rw [← hE2n b hp]; exact hb⟩
  have hZX : ∀ b i, pos X b = some i → pos (X ++ slotsOf slot) b = some i := fun b i hb => pos_of hnd (by rw [List.getElem?_append_left (pos_lt hb)]; exact pos_some hb)
  have hZn : ∀ b, pos (X ++ slotsOf slot) b = none → pos X b = none := fun b hb => by
    cases hp : pos X b with
    | none => rfl
    | some i => rw [hZX b i hp] at hb; cases hb
  have hZl2 : ∀ b i, pos (X ++ slotsOf slot) b = some i → i < X.length → X[i]? = some b := fun b i hb hi => by
    have := pos_some hb
    rwa [List.getElem?_append_left hi] at this
  have hEcOut : ∀ k, E.Out k → Ec.Out k := fun k ho i bi hi => by obtain ⟨b, _, q2⟩ := hEcs i bi hi; exact ho b bi q2
  -- the caller's other blocks are none of the callee's
  have hother : ∀ b bi, pos X b = none → E b = some bi → E'.Out bi.blk := fun b bi hb hE =>
    (hF.fr.out bi.blk (hw.lt hE) (fun i bi' hi e => by
      obtain ⟨b', q1, q2⟩ := hEcs i bi' hi
      have := hw.inj b' b bi' bi q2 hE e
      subst this
      exact pos_none hb (List.mem_of_getElem? q1))).2
  have hXEc : ∀ b i bi, pos (X ++ slotsOf slot) b = some i → E b = some bi → X[i]? = some b ∧ Ec i = some bi := fun b i bi hp hE => by
    have hi : i < X.length := by
      rcases Nat.lt_or_ge i X.length with h | h
      · exact h
      · have hm := pos_some hp
        rw [List.getElem?_append_right h] at hm
        rw [hslotE b (List.mem_of_getElem? hm)] at hE; cases hE
    have hx := hZl2 b i hp hi
    exact ⟨hx, by rw [hEc i b hx]; exact hE⟩
  have hfr : Fr All E w E2 w' := by
    refine ⟨hF.fr.os, hF.fr.tape, hF.fr.output, hF.fr.size, fun k hk ho => ?_, fun b bi _ hE => ?_, hF.fr.shape, hF.fr.drawn⟩
    · obtain ⟨q1, q2⟩ := hF.fr.out k hk (hEcOut k ho)
      refine ⟨q1, fun b bi hb => ?_⟩
      rcases hcases b bi hb with ⟨i, _, h2⟩ | ⟨_, h2⟩
      · exact q2 i bi h2
      · exact ho b bi h2
    · cases hp : pos (X ++ slotsOf slot) b with
      | some i =>
        obtain ⟨hx, hEi⟩ := hXEc b i bi hp hE
        obtain ⟨bi', q1, q2⟩ := hF.fr.keep i bi (by rw [hHin]; exact some_lt hx) hEi
        exact ⟨bi', by rw [hE2X b i hp]; exact q1, q2⟩
      | none => exact ⟨bi, by rw [hE2n b hp]; exact hE, rfl, Nat.le_refl _, fun _ => rfl⟩
  have hback' := backB_at hback
  obtain ⟨b1, b2⟩ := hback'
  have hseenR : Seen (fun i => (X ++ slotsOf slot)[i]?) tn false false Oc E' (outs.map some) O E2 w' := by
    refine ⟨hw', fun i b hb => hE2X b i (pos_of hnd hb), fun hf k _ h1 h2 => ?_, (fun h => by cases h), fun _ _ _ _ => ⟨(fun h => by cases h), (fun h => by cases h)⟩⟩
    · have hO' : O k ∧ (E.Out k ∧ k < w.heap.size ∨ w.heap.size ≤ k) := by
        rcases h1 with h1 | ⟨h1, h3, h4⟩ | h1
        · rw [hf] at h1; cases h1
        · exact ⟨h1, .inl ⟨h3, h4⟩⟩
        · exact ⟨hO k h1, .inr h1⟩
      refine ⟨hO'.1, fun b bi hb => ?_⟩
      rcases hcases b bi hb with ⟨i, _, q2⟩ | ⟨_, q2⟩
      · exact h2 i bi q2
      · rcases hO'.2 with ⟨h3, _⟩ | h3
        · exact h3 b bi q2
        · have := hw.lt q2; omega
  have hH2 : ∀ b, hget (hput H ((X ++ slotsOf slot).zip outs')) b = match pos (X ++ slotsOf slot) b with
      | some i => match outs'[i]? with
        | some x => some x
        | none => hget H b
      | none => hget H b := hget_hput_zip _ hnd outs' H
  -- a block that has come back
  have hcame : ∀ i bi, E' i = some bi → ∃ rows y c el, outs'[i]? = some y ∧ y.length = bi.n ∧ (∀ r, r ∈ y → r.length = bi.sz) ∧ w'.heap[bi.blk]? = some (.cells c el (0, 0)) ∧ bi.n * bi.sz ≤ c.size ∧ outs[i]? = some rows ∧
      ∀ (p q : Nat) (r : List D) (d : D), y[p]? = some r → r[q]? = some d → ∃ v, c[p * bi.sz + q]? = some v ∧ Scal v ∧ RelE O E2 w' d v := by
    intro i bi hi
    obtain ⟨rows, c, el, g1, g2, g3, g4, g5, g6⟩ := hw'.blk i bi hi
    rw [hget_map] at g1
    obtain ⟨y, z1, z2⟩ := b2 i rows g1
    have z1' := trB_get (g' := hget (outs.map some)) (fun b x h => by cases h) z1
    obtain ⟨t1, t2, t3⟩ := trB_rel hseenR z1' (fun hb => (hflat hb).2 y (List.mem_of_getElem? z2))
    refine ⟨rows, y, c, el, z2, by omega, t2 _ g3, g4, g5, g1, fun p q r d hp hq => ?_⟩
    obtain ⟨r0, d0, e1, e2, e3⟩ := t3 p q r d hp hq
    obtain ⟨v, k1, k2, k3⟩ := g6 p q r0 d0 e1 e2
    exact ⟨v, k1, k2, e3 v k3⟩
  have hwr : Wrel O E2 (hput H ((X ++ slotsOf slot).zip outs')) w' := by
    refine ⟨fun b bi hb => ?_, fun b rows hg => ?_, fun p q bi bj hp hq e => ?_, fun b bi hb c0 el0 hc0 => ?_⟩
    · rcases hcases b bi hb with ⟨i, h1, h2⟩ | ⟨h1, h2⟩
      · obtain ⟨rows, y, c, el, e1, e2, e3, e4, e5, _, e6⟩ := hcame i bi h2
        exact ⟨y, c, el, by rw [hH2, h1]; simp only [e1], e2, e3, e4, e5, e6⟩
      · obtain ⟨rows, c, el, e1, e2, e3, e4, e5, e6⟩ := hw.blk b bi h2
        have hkeep : w'.heap[bi.blk]? = w.heap[bi.blk]? := (hF.fr.out bi.blk (hw.lt h2) (fun i bi' hi e => by
          obtain ⟨b', q1, q2⟩ := hEcs i bi' hi
          have := hw.inj b' b bi' bi q2 h2 e
          subst this
          exact pos_none (hZn _ h1) (List.mem_of_getElem? q1))).1
        refine ⟨rows, c, el, by rw [hH2, h1]; exact e1, e2, e3, by rw [hkeep]; exact e4, e5, fun i j r d hi hj => ?_⟩
        obtain ⟨v, k1, k2, k3⟩ := e6 i j r d hi hj
        exact ⟨v, k1, k2, k3.mono hfr⟩
    · cases hp : pos (X ++ slotsOf slot) b with
      | some i =>
        rw [hE2X b i hp]
        rw [hH2, hp] at hg
        simp only at hg
        cases ho' : outs'[i]? with
        | some y =>
          have hlt : i < outs.length := by rw [b1]; exact some_lt ho'
          exact hw'.live i outs[i] (by rw [hget_map]; exact List.getElem?_eq_getElem hlt)
        | none =>
          rw [ho'] at hg
          simp only at hg
          obtain ⟨bi, hbi⟩ := hw.live b rows hg
          obtain ⟨hx, hEi⟩ := hXEc b i bi hp hbi
          obtain ⟨bi', q1, _⟩ := hF.fr.keep i bi (by rw [hHin]; exact some_lt hx) hEi
          exact ⟨bi', q1⟩
      | none =>
        rw [hE2n b hp]
        rw [hH2, hp] at hg
        exact hw.live b rows hg
    · rcases hcases p bi hp with ⟨i, h1, h2⟩ | ⟨h1, h2⟩ <;> rcases hcases q bj hq with ⟨j, g1, g2⟩ | ⟨g1, g2⟩
      · have := hw'.inj i j bi bj h2 g2 e
        subst this
        have e1 := pos_some h1
        rw [pos_some g1] at e1
        exact (Option.some.inj e1).symm
      · exact absurd e (hother q bj (hZn _ g1) g2 i bi h2)
      · exact absurd e.symm (hother p bi (hZn _ h1) h2 j bj g2)
      · exact hw.inj p q bi bj h2 g2 e
    · rcases hcases b bi hb with ⟨i, h1, h2⟩ | ⟨h1, h2⟩
      · exact hw'.sc i bi h2 c0 el0 hc0
      · have hkeep : w'.heap[bi.blk]? = w.heap[bi.blk]? := (hF.fr.out bi.blk (hw.lt h2) (fun i bi' hi e => by
          obtain ⟨b', q1, q2⟩ := hEcs i bi' hi
          have := hw.inj b' b bi' bi q2 h2 e
          subst this
          exact pos_none (hZn _ h1) (List.mem_of_getElem? q1))).1
        rw [hkeep] at hc0
        exact hw.sc b bi h2 c0 el0 hc0
  refine hn v w' E2 (tr_rel hseenR hrel (tr_mono (fun b x h => by cases h) hr) (fun hb => (hflat hb).1)) hwr hfr (fun b bi' hb => ?_) (fun b hb hE => ?_)
  · rcases hcases b bi' hb with ⟨i, h1, h2⟩ | ⟨_, h2⟩
    · rcases Nat.lt_or_ge i X.length with hi | hi
      · have hx := hZl2 b i h1 hi
        rcases hF.new i bi' (by rw [hHin]; exact hi) h2 with h3 | ⟨bi, h3, e⟩
        · exact .inl h3
        · exact .inr ⟨bi, by rw [← hEc i b hx]; exact h3, e⟩
      · exact .inl (hnew i bi' (by rw [hHin]; exact hi) h2)
    · exact .inr ⟨bi', h2, rfl⟩
  · cases hp : pos (X ++ slotsOf slot) b with
    | some i =>
      have hm := List.mem_of_getElem? (pos_some hp)
      rw [List.mem_append] at hm
      rcases hm with hm | hm
      · obtain ⟨i', hi'⟩ := List.mem_iff_getElem?.1 hm
        obtain ⟨bi, _, _, h1, _⟩ := hXl i' b hi'
        rw [hE] at h1; cases h1
      · exact absurd hm (by simpa [slotsOf] using hb)
    | none => rw [hE2n b hp]; exact hE

theorem callX_sound (P : Program) : (callX P).Sound P := by
  intro o c x f fs caps s slot K ho hx h
  have hndf : ∀ c', o.op ≠ .defer c' := fun c' h => by rw [ho] at h; cases h
  rcases h with h | ⟨d, hd, hK⟩ | h | ⟨rd, hd, hK⟩
  · exact callC_sound P o c x f fs caps s slot K ho hx h
  · -- in place
    refine ⟨d, [], [], hK, ?_, fun p hp => by simp at hp⟩
    intro O E H a w hops hw hO hrd hsl ro next Q hn
    obtain ⟨vs, hvals, hrun⟩ := call_run ho hx hops
    obtain ⟨v, hv, hrel⟩ := extA_run hd hvals
    refine ⟨fun _ _ => trivial, ?_⟩
    rw [show (Fw ro).round = ro from rfl, Oper.semAt_eq ro _ _ hndf, hrun, hv, Oper.uponIn_value]
    exact hn v w E hrel hw (Fr.refl _ _ _) (OwnNew.refl _ _) (fun _ _ h => h)
  · obtain ⟨d, wr, rd, ⟨g, hn, hg, hK⟩, hS, hr⟩ := callC_sound P o c x f fs caps s slot _ ho hx h
    exact ⟨d, wr.filter g, rd, hK, hS.thin hn hg, hr⟩
  · -- slices.overlaps
    refine ⟨.bool false, [], rd, hK, ?_, overA_rd hd⟩
    intro O E H a w hops hw hO hrd hsl ro next Q hn
    obtain ⟨vs, hvals, hrun⟩ := call_run ho hx hops
    have hv := overA_run hd hvals hw hrd
    refine ⟨fun _ _ => trivial, ?_⟩
    rw [show (Fw ro).round = ro from rfl, Oper.semAt_eq ro _ _ hndf, hrun, hv, Oper.uponIn_value]
    exact hn (.bool false) w E (.pur _ _ (.bool _)) hw (Fr.refl _ _ _) (OwnNew.refl _ _) (fun _ _ h => h)

end Go.AH

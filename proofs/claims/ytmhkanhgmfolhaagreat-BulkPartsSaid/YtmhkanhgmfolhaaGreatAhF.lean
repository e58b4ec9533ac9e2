/- Operations on slices and memory: slicing, new blocks, append, copy, len. -/
import Derived.Test.YtmhkanhgmfolhaaGreatAhE
import Derived.Deep.AppendSrc
set_option linter.unusedVariables false
set_option linter.unusedSimpArgs false
namespace Go.AH

/-! ### Slicing -/
def abnd : Option D → Option (Option Nat)
  | none => some none
  | some (.int _ n) => if n < 0 then none else some (some n.toNat)
  | _ => none

def aslice (P : Program) (t : TypeId) (x : D) (lo hi mx : Option D) : Option D :=
  match abnd lo, abnd hi, abnd mx with
  | some lo, some hi, some mx =>
    match x with
    | .str s => if (P.underlying t matches some .string) ∧ mx = none ∧ lo.getD 0 ≤ hi.getD s.size ∧ hi.getD s.size ≤ s.size then some (.str (s.extract (lo.getD 0) (hi.getD s.size))) else none
    | .vs rows => match esizeT P t with
      | some esz => if lo.getD 0 ≤ hi.getD rows.length ∧ hi.getD rows.length ≤ mx.getD rows.length ∧ mx.getD rows.length ≤ rows.length ∧ (mx.isSome = true → hi.isSome = true) ∧ (lo.getD 0 = 0 ∨ rows.all (fun r => r.length == esz) = true)
        then some (.vs ((rows.take (hi.getD rows.length)).drop (lo.getD 0))) else none
      | none => none
    | .bs rows => match esizeT P t with
      | some esz => if lo.getD 0 ≤ hi.getD rows.length ∧ hi.getD rows.length ≤ mx.getD rows.length ∧ mx.getD rows.length ≤ rows.length ∧ (mx.isSome = true → hi.isSome = true) ∧ (lo.getD 0 = 0 ∨ rows.all (fun r => r.length == esz) = true)
        then some (.bs ((rows.take (hi.getD rows.length)).drop (lo.getD 0))) else none
      | none => none
    | .nils => match esizeT P t with
      | some _ => if lo.getD 0 = 0 ∧ hi.getD 0 = 0 ∧ mx.getD 0 = 0 ∧ (mx.isSome = true → hi.isSome = true) then some .nils else none
      | none => none
    | .rs sz b off len cap => match esizeT P t with
      | some esz => if (mx = none ∨ (hi.isSome = true ∧ mx = some cap)) ∧ sz = esz ∧ lo.getD 0 ≤ hi.getD len ∧ hi.getD len ≤ cap then some (.rs sz b (off + lo.getD 0) (hi.getD len - lo.getD 0) (cap - lo.getD 0)) else none
      | none => none
    | .rx sz b len cap rc => match esizeT P t with
      | some esz => if mx = none ∧ sz = esz ∧ lo.getD 0 ≤ hi.getD len ∧ hi.getD len ≤ cap then
          (if lo = none ∧ hi.getD len ≤ len then some (.rx sz b (hi.getD len) cap rc) else some (.rs sz b (lo.getD 0) (hi.getD len - lo.getD 0) (cap - lo.getD 0))) else none
      | none => none
    | _ => none
  | _, _, _ => none

def RelO (O : Nat → Prop) (E : Env) (w : World) (x : Option D) (u : Option Value) : Prop :=
  match x, u with
  | none, none => True
  | some d, some v => RelE O E w d v
  | _, _ => False

theorem abnd_rel {O : Nat → Prop} {E : Env} {w : World} {x : Option D} {u : Option Value} {r : Option Nat} (h : abnd x = some r) (hx : RelO O E w x u) :
    (x = none ∧ u = none ∧ r = none) ∨ ∃ k n, u = some (.int k n) ∧ 0 ≤ n ∧ r = some n.toNat := by
  unfold abnd at h
  cases x with
  | none =>
    cases u with
    | none => cases h; exact .inl ⟨rfl, rfl, rfl⟩
    | some v => exact hx.elim
  | some d =>
    cases u with
    | none => exact hx.elim
    | some v =>
      cases d <;> simp only at h <;> try (cases h; done)
      rename_i k n
      have := rel_int hx; subst this
      by_cases hn : n < 0
      · rw [if_pos hn] at h; cases h
      · rw [if_neg hn] at h; cases h
        exact .inr ⟨k, n, rfl, by omega, rfl⟩

theorem sliceBounds_rel {P : Program} {O : Nat → Prop} {E : Env} {w : World} {lo hi mx : Option D} {ul uh um : Option Value} {rl rh rm : Option Nat} (hl : abnd lo = some rl) (hh : abnd hi = some rh) (hm : abnd mx = some rm)
    (xl : RelO O E w lo ul) (xh : RelO O E w hi uh) (xm : RelO O E w mx um) (isSlice : Bool) (len cap : Nat) (h1 : rl.getD 0 ≤ rh.getD len) (h2 : rh.getD len ≤ rm.getD cap) (h3 : rm.getD cap ≤ cap) (h4 : rm.isSome = true → rh.isSome = true) :
    (Instr.sliceBounds isSlice len cap ul uh um).run P w = .ok (rl.getD 0, rh.getD len, rm.getD cap) w := by
  rcases abnd_rel hm xm with ⟨_, rfl, rfl⟩ | ⟨km, nm, rfl, hm0, rfl⟩ <;> rcases abnd_rel hh xh with ⟨_, rfl, rfl⟩ | ⟨kh, nh, rfl, hh0, rfl⟩ <;>
    rcases abnd_rel hl xl with ⟨_, rfl, rfl⟩ | ⟨kl, nl, rfl, hl0, rfl⟩ <;> simp only [Option.getD_none, Option.getD_some, Option.isSome_some, Option.isSome_none] at h1 h2 h3 h4 ⊢
  · simp [Instr.sliceBounds]
  · simp [Instr.sliceBounds, run_sliceBound w kl nl len _ hl0 (by omega)]
  · simp [Instr.sliceBounds, run_sliceBound w kh nh cap _ hh0 (by omega)]
  · simp [Instr.sliceBounds, run_sliceBound w kh nh cap _ hh0 (by omega), run_sliceBound w kl nl nh.toNat _ hl0 (by omega)]
  · simp at h4
  · simp at h4
  · simp [Instr.sliceBounds, run_sliceBound w km nm cap _ hm0 (by omega), run_sliceBound w kh nh nm.toNat _ hh0 (by omega)]
  · simp [Instr.sliceBounds, run_sliceBound w km nm cap _ hm0 (by omega), run_sliceBound w kh nh nm.toNat _ hh0 (by omega), run_sliceBound w kl nl nh.toNat _ hl0 (by omega)]

theorem esizeT_spec {P : Program} {t : TypeId} {n : Nat} (h : esizeT P t = some n) : ∃ e, P.underlying t = some (.slice e) ∧ sizeT P e = some n ∧ 0 < n := by
  unfold esizeT at h
  split at h
  · rename_i e he
    unfold elemT at he
    split at he
    · rename_i e' hu
      cases he
      split at h
      · rename_i m hm
        cases h
        exact ⟨e, hu, hm, by omega⟩
      · cases h
    · cases he
  · cases h

theorem run_sliceAt_of {P : Program} {w : World} {t e : TypeId} {s : Nat} (hu : P.underlying t = some (.slice e)) (hs : sizeT P e = some s) (a : Option Addr) (len cap : Nat) (lo hi mx : Option Value) {l h m : Nat}
    (hb : (Instr.sliceBounds true len cap lo hi mx).run P w = .ok (l, h, m) w) :
    (Instr.sliceAt t (.slice a len cap) lo hi mx).run P w = .ok (.slice (if m = l then a else a.map (·.add (l * s))) (h - l) (m - l)) w := by
  simp [Instr.sliceAt, run_underlying hu, Instr.slice, hb, sizeOf_run hs]

theorem aslice_run {P : Program} {O : Nat → Prop} {E : Env} {w : World} {t : TypeId} {x r : D} {lo hi mx : Option D} {u : Value} {ul uh um : Option Value} (h : aslice P t x lo hi mx = some r)
    (hx : RelE O E w x u) (xl : RelO O E w lo ul) (xh : RelO O E w hi uh) (xm : RelO O E w mx um) :
    ∃ z, (Instr.sliceAt t u ul uh um).run P w = .ok z w ∧ RelE O E w r z := by
  unfold aslice at h
  split at h
  · rename_i rl rh rm hl hh hm
    cases x <;> simp only at h <;> try (cases h; done)
    case str s =>
      have := rel_str hx; subst this
      by_cases hc : (P.underlying t matches some .string) ∧ rm = none ∧ rl.getD 0 ≤ rh.getD s.size ∧ rh.getD s.size ≤ s.size
      · rw [if_pos hc] at h; cases h
        obtain ⟨hu, rfl, h1, h2⟩ := hc
        have hu' : P.underlying t = some .string := by
          cases hq : P.underlying t with
          | none => simp [hq] at hu
          | some d => cases d <;> simp [hq] at hu; rfl
        have hum : um = none := by
          rcases abnd_rel hm xm with ⟨_, e, _⟩ | ⟨_, _, _, _, e⟩
          · exact e
          · cases e
        subst hum
        have hb := sliceBounds_rel (P := P) hl hh hm xl xh xm false s.size s.size h1 (by simpa using h2) (by simp) (by simp)
        refine ⟨.string (s.extract (rl.getD 0) (rh.getD s.size)), ?_, mkStr _⟩
        simp [Instr.sliceAt, run_underlying hu', Instr.slice, hb]
      · rw [if_neg hc] at h; cases h
    case vs rows =>
      cases he : esizeT P t with
      | none => simp [he] at h
      | some esz =>
        simp only [he] at h
        obtain ⟨e, hu, hs, hpos⟩ := esizeT_spec he
        split at h
        · rename_i hc
          cases h
          obtain ⟨h1, h2, h3, h4, h5⟩ := hc
          cases hx with
          | pur _ _ hp =>
            cases hp with
            | vs _ a cap sz f hcap hsz ha hrr =>
              have hb := sliceBounds_rel (P := P) hl hh hm xl xh xm true rows.length cap h1 (by cases rm <;> simp at h2 ⊢ <;> omega) (by cases rm <;> simp at h3 ⊢; omega) h4
              refine ⟨_, run_sliceAt_of hu hs a rows.length cap ul uh um hb, ?_⟩
              have hlen : ((rows.take (rh.getD rows.length)).drop (rl.getD 0)).length = rh.getD rows.length - rl.getD 0 := by
                rw [List.length_drop, List.length_take]; omega
              have hget : ∀ (i : Nat) (r : List D), ((rows.take (rh.getD rows.length)).drop (rl.getD 0))[i]? = some r → rows[rl.getD 0 + i]? = some r := by
                intro i r hr
                rw [List.getElem?_drop, List.getElem?_take] at hr
                split at hr
                · exact hr
                · cases hr
              rw [← hlen]
              refine .pur _ _ (.vs _ _ _ sz (fun i j => f (rl.getD 0 + i) j) (by rw [hlen]; cases rm <;> simp at h2 h3 ⊢ <;> omega)
                (fun r hr => ?_) (fun hne => ?_) (fun i j r d hi hj => hrr _ j r d (hget i r hi) hj))
              · obtain ⟨i, hi⟩ := List.mem_iff_getElem?.1 hr
                exact hsz r (List.mem_of_getElem? (hget i r hi))
              · have hlt : 0 < rh.getD rows.length - rl.getD 0 := by
                  rw [← hlen]; exact List.length_pos_iff.2 hne
                obtain ⟨k, o, rfl, hU, hk, hcell⟩ := ha (by rintro rfl; simp at h2 h3 hlt; omega)
                have hml : ¬ rm.getD cap = rl.getD 0 := by cases rm <;> simp at h2 h3 ⊢ <;> omega
                refine ⟨k, o + rl.getD 0 * esz, by rw [if_neg hml]; simp [addr_add], hU, hk, fun i j hi hj => ?_⟩
                have hi' : rl.getD 0 + i < rows.length := by
                  rw [hlen] at hi
                  cases rm <;> simp at h2 h3 <;> omega
                have hsz' : rl.getD 0 * esz = rl.getD 0 * sz := by
                  rcases h5 with h5 | h5
                  · rw [h5, Nat.zero_mul, Nat.zero_mul]
                  · rw [List.all_eq_true] at h5
                    have hm0 : rows[rl.getD 0 + i] ∈ rows := List.getElem_mem hi'
                    have e1 := h5 _ hm0
                    have e2 := hsz _ hm0
                    have : esz = sz := by simp at e1; omega
                    rw [this]
                have := hcell (rl.getD 0 + i) j hi' hj
                rw [hsz', Nat.add_assoc, ← Nat.add_assoc (rl.getD 0 * sz), ← Nat.add_mul]
                exact this
        · cases h
    case bs rows =>
      cases he : esizeT P t with
      | none => simp [he] at h
      | some esz =>
        simp only [he] at h
        obtain ⟨e, hu, hs, hpos⟩ := esizeT_spec he
        split at h
        · rename_i hc
          cases h
          obtain ⟨h1, h2, h3, h4, h5⟩ := hc
          cases hx with
          | pur _ _ hp => cases hp
          | bs _ a cap sz f hcap hsz ha hrr =>
            have hb := sliceBounds_rel (P := P) hl hh hm xl xh xm true rows.length cap h1 (by cases rm <;> simp at h2 ⊢ <;> omega) (by cases rm <;> simp at h3 ⊢; omega) h4
            refine ⟨_, run_sliceAt_of hu hs a rows.length cap ul uh um hb, ?_⟩
            have hlen : ((rows.take (rh.getD rows.length)).drop (rl.getD 0)).length = rh.getD rows.length - rl.getD 0 := by
              rw [List.length_drop, List.length_take]; omega
            have hget : ∀ (i : Nat) (r : List D), ((rows.take (rh.getD rows.length)).drop (rl.getD 0))[i]? = some r → rows[rl.getD 0 + i]? = some r := by
              intro i r hr
              rw [List.getElem?_drop, List.getElem?_take] at hr
              split at hr
              · exact hr
              · cases hr
            rw [← hlen]
            refine .bs _ _ _ sz (fun i j => f (rl.getD 0 + i) j) (by rw [hlen]; cases rm <;> simp at h2 h3 ⊢ <;> omega)
              (fun r hr => ?_) (fun hne => ?_) (fun i j r d hi hj => hrr _ j r d (hget i r hi) hj)
            · obtain ⟨i, hi⟩ := List.mem_iff_getElem?.1 hr
              exact hsz r (List.mem_of_getElem? (hget i r hi))
            · have hlt : 0 < rh.getD rows.length - rl.getD 0 := by
                rw [← hlen]; exact List.length_pos_iff.2 hne
              obtain ⟨k, o, rfl, hU, hk, hcell⟩ := ha (by rintro rfl; simp at h2 h3 hlt; omega)
              have hml : ¬ rm.getD cap = rl.getD 0 := by cases rm <;> simp at h2 h3 ⊢ <;> omega
              refine ⟨k, o + rl.getD 0 * esz, by rw [if_neg hml]; simp [addr_add], hU, hk, fun i j hi hj => ?_⟩
              have hi' : rl.getD 0 + i < rows.length := by
                rw [hlen] at hi
                cases rm <;> simp at h2 h3 <;> omega
              have hsz' : rl.getD 0 * esz = rl.getD 0 * sz := by
                rcases h5 with h5 | h5
                · rw [h5, Nat.zero_mul, Nat.zero_mul]
                · rw [List.all_eq_true] at h5
                  have hm0 : rows[rl.getD 0 + i] ∈ rows := List.getElem_mem hi'
                  have e1 := h5 _ hm0
                  have e2 := hsz _ hm0
                  have : esz = sz := by simp at e1; omega
                  rw [this]
              have := hcell (rl.getD 0 + i) j hi' hj
              rw [hsz', Nat.add_assoc, ← Nat.add_assoc (rl.getD 0 * sz), ← Nat.add_mul]
              exact this
        · cases h
    case nils =>
      cases he : esizeT P t with
      | none => simp [he] at h
      | some esz =>
        simp only [he] at h
        obtain ⟨e, hu, hs, hpos⟩ := esizeT_spec he
        split at h
        · rename_i hc
          cases h
          obtain ⟨h1, h2, h3, h4⟩ := hc
          obtain ⟨a, rfl⟩ := rel_nils hx
          have hb := sliceBounds_rel (P := P) hl hh hm xl xh xm true 0 0 (by omega) (by omega) (by omega) h4
          rw [h1, h2, h3] at hb
          refine ⟨_, run_sliceAt_of hu hs a 0 0 ul uh um hb, ?_⟩
          exact .pur _ _ (.nils _)
        · cases h
    case rs sz b off len cap =>
      cases he : esizeT P t with
      | none => simp [he] at h
      | some esz =>
        simp only [he] at h
        obtain ⟨e, hu, hs, hpos⟩ := esizeT_spec he
        split at h
        · rename_i hc
          cases h
          obtain ⟨hmx, hsz, h1, h2⟩ := hc
          cases hx with
          | pur _ _ hp => cases hp
          | rs _ _ _ _ bi a cap' hE h0 g1 g2 g3 g4 =>
            obtain ⟨c2, hc2, hlo2, hhi2, hso⟩ : ∃ c2, rm.getD cap' = c2 ∧ cap ≤ c2 ∧ c2 ≤ cap' ∧ (rm.isSome = true → rh.isSome = true) := by
              rcases hmx with rfl | ⟨q1, rfl⟩
              · exact ⟨cap', rfl, g3, Nat.le_refl _, by simp⟩
              · exact ⟨cap, rfl, Nat.le_refl _, g3, fun _ => q1⟩
            have hb := sliceBounds_rel (P := P) hl hh hm xl xh xm true len cap' h1 (by rw [hc2]; omega) (by rw [hc2]; exact hhi2) hso
            rw [hc2] at hb
            refine ⟨_, run_sliceAt_of hu hs (some a) len cap' ul uh um hb, ?_⟩
            simp only [Option.map_some]
            have e1 : (if c2 = rl.getD 0 then some a else some (a.add (rl.getD 0 * esz))) = some (if c2 = rl.getD 0 then a else a.add (rl.getD 0 * esz)) := by split <;> rfl
            rw [e1]
            refine .rs b (off + rl.getD 0) (rh.getD len - rl.getD 0) (cap - rl.getD 0) bi _ (c2 - rl.getD 0) hE h0 (by omega) (by omega) (by omega) fun en => ?_
            obtain ⟨o, rfl, ho, c, el, hcc, hle⟩ := g4 (by omega)
            refine ⟨if c2 = rl.getD 0 then o else o + rl.getD 0 * esz, by split <;> simp [addr_add], fun hne => ?_, c, el, hcc, ?_⟩
            · rw [if_neg (by omega), ho (by omega), hsz, Nat.add_mul]
            · rw [show off + rl.getD 0 + (c2 - rl.getD 0) = off + c2 from by omega]
              exact Nat.le_trans (Nat.mul_le_mul_right _ (by omega)) hle
        · cases h
    case rx sz b len cap rc =>
      cases he : esizeT P t with
      | none => simp [he] at h
      | some esz =>
        simp only [he] at h
        obtain ⟨e, hu, hs, hpos⟩ := esizeT_spec he
        split at h
        · rename_i hc
          obtain ⟨rfl, hsz, h1, h2⟩ := hc
          cases hx with
          | pur _ _ hp => cases hp
          | rx _ _ _ _ bi a hE h0 g1 g2 g3 g4 =>
            have hb := sliceBounds_rel (P := P) hl hh hm xl xh xm true len rc h1 (by simp only [Option.getD_none]; omega) (by simp) (by simp)
            simp only [Option.getD_none] at hb
            have hrun := run_sliceAt_of hu hs (some a) len rc ul uh um hb
            split at h
            · rename_i hq
              obtain ⟨rfl, hq⟩ := hq
              cases h
              simp only [Option.getD_none, Nat.sub_zero, Option.map_some] at hrun
              refine ⟨_, hrun, ?_⟩
              have e1 : (if rc = 0 then some a else some (a.add (0 * esz))) = some a := by
                have : a.add (0 * esz) = a := by simp [Addr.add]
                rw [this]; split <;> rfl
              rw [e1]
              exact .rx b (rh.getD len) cap rc bi a hE h0 g1 (by omega) g3 g4
            · cases h
              refine ⟨_, hrun, ?_⟩
              simp only [Option.map_some]
              have e1 : (if rc = rl.getD 0 then some a else some (a.add (rl.getD 0 * esz))) = some (if rc = rl.getD 0 then a else a.add (rl.getD 0 * esz)) := by split <;> rfl
              rw [e1]
              refine .rs b (rl.getD 0) (rh.getD len - rl.getD 0) (cap - rl.getD 0) bi _ (rc - rl.getD 0) hE h0 (by omega) (by omega) (by omega) fun en => ?_
              obtain ⟨o, rfl, ho, c, el, hcc, hle⟩ := g4 (by omega)
              refine ⟨if rc = rl.getD 0 then o else o + rl.getD 0 * esz, by split <;> simp [addr_add], fun hne => ?_, c, el, hcc, ?_⟩
              · rw [if_neg (by omega), ho (by omega), hsz, Nat.zero_mul, Nat.zero_add]
              · rw [show rl.getD 0 + (rc - rl.getD 0) = rc from by omega]
                simpa using hle
        · cases h
  · cases h

/-! ### New blocks -/
def aalloc (P : Program) (t : TypeId) (slot : Nat) : Option (D × List (Nat × Blk)) :=
  match zeroT P t with
  | some z => some (.ptr slot 1 0 0, [(slot, [z])])
  | none => none

def abox (x : D) (slot : Nat) : Option (D × List (Nat × Blk)) :=
  match cellsOf x with
  | some cs => some (.ptr slot 1 0 0, [(slot, [cs])])
  | none => none

/-- The world with a row more. -/
def push (w : World) (cells : Array Value) (el : TypeId) : World := { w with heap := w.heap.push (.cells cells el) }

theorem new_box {O : Nat → Prop} {E : Env} {H : Heap} {w : World} (hw : Wrel O E H w) (_hO : ∀ n, w.heap.size ≤ n → O n) {slot : Nat} (hs : E slot = none) {cs : List D} {vs : Array Value} (hc : RelCs O E w cs vs) (el : TypeId) :
    ∃ E1, RelE O E1 (push w vs el) (.ptr slot 1 0 0) (.pointer (some ⟨w.heap.size, 0, none⟩)) ∧ Wrel O E1 (hset H slot [cs]) (push w vs el) ∧ Fr All E w E1 (push w vs el) ∧ OwnNew w E E1 ∧ (∀ b, b ≠ slot → E b = none → E1 b = none) := by
  have hl := hc.len
  obtain ⟨k1, k2⟩ := hw.place (w1 := push w vs el) (b := slot) (sz := cs.length) (rows := [cs]) (cells := vs) (el := el) (hsc := hc.scal) (fun bi hb => by rw [hs] at hb; cases hb) rfl rfl rfl rfl (Nat.le_refl _)
    (fun r hr => by simp at hr; rw [hr]) (by simp; omega) (fun i j r d hi hj => by
      cases i with
      | succ i => simp at hi
      | zero =>
        simp at hi; subst hi
        have hlt : j < vs.size := by
          rcases Nat.lt_or_ge j cs.length with h | h
          · omega
          · rw [List.getElem?_eq_none h] at hj; cases hj
        exact ⟨vs[j], by simp [Array.getElem?_eq_getElem hlt], hc.scal j _ (Array.getElem?_eq_getElem hlt), hc.rel j d _ hj (Array.getElem?_eq_getElem hlt)⟩)
  refine ⟨_, .ptr slot 1 0 0 ⟨w.heap.size, cs.length, 1⟩ _ (Env.set_self _ _ _) (by simp) (fun _ => by simp), k1, k2, fun b bi' hb => ?_, fun b hb he => by rw [Env.set_ne _ _ hb]; exact he⟩
  rcases Env.set_some hb with ⟨rfl, rfl⟩ | ⟨_, hb⟩
  · exact .inl (Nat.le_refl _)
  · exact .inr ⟨bi', hb, rfl⟩

/-- A new slice of rows. -/
theorem new_rows {O : Nat → Prop} {E : Env} {H : Heap} {w w1 : World} (hw : Wrel O E H w) (_hO : ∀ n, w.heap.size ≤ n → O n) {slot : Nat} (hs : E slot = none) {rows : Blk} {esz : Nat} {vs : Array Value} {el : TypeId} (hpos : 0 < esz)
    (hw1 : w1.heap = w.heap.push (.cells vs el)) (ho : w1.os = w.os) (ht : w1.tape = w.tape) (hu : w1.output = w.output) (hdr : w.drawn ≤ w1.drawn) {len cap : Nat} (hlen : len ≤ rows.length) (hcap : rows.length ≤ cap) (hsize : cap * esz ≤ vs.size)
    (hsz : ∀ r, r ∈ rows → r.length = esz)
    (hr : ∀ (i j : Nat) (r : List D) (d : D), rows[i]? = some r → r[j]? = some d → ∃ v, vs[i * esz + j]? = some v ∧ Scal v ∧ RelE O E w d v) (hsc : ∀ (j : Nat) (v : Value), vs[j]? = some v → Scal v) :
    ∃ E1, RelE O E1 w1 (.rs esz slot 0 len rows.length) (.slice (some ⟨w.heap.size, 0, none⟩) len cap) ∧ Wrel O E1 (hset H slot rows) w1 ∧ Fr All E w E1 w1 ∧ OwnNew w E E1 ∧ (∀ b, b ≠ slot → E b = none → E1 b = none) := by
  have hmul : rows.length * esz ≤ cap * esz := Nat.mul_le_mul_right _ hcap
  obtain ⟨k1, k2⟩ := hw.place (w1 := w1) (b := slot) (sz := esz) (rows := rows) (cells := vs) (el := el) (fun bi hb => by rw [hs] at hb; cases hb) hw1 ho ht hu hdr hsz (by omega) hr hsc
  have hE1 : E.set slot ⟨w.heap.size, esz, rows.length⟩ slot = some ⟨w.heap.size, esz, rows.length⟩ := Env.set_self _ _ _
  refine ⟨_, ?_, k1, k2, fun b bi' hb => ?_, fun b hb he => by rw [Env.set_ne _ _ hb]; exact he⟩
  · exact .rs slot 0 len rows.length ⟨w.heap.size, esz, rows.length⟩ ⟨w.heap.size, 0, none⟩ cap hE1 hpos (by simp) hlen hcap fun _ =>
      ⟨0, rfl, fun _ => by simp, vs, el, by rw [hw1]; simp, by simpa using hsize⟩
  · rcases Env.set_some hb with ⟨rfl, rfl⟩ | ⟨_, hb⟩
    · exact .inl (Nat.le_refl _)
    · exact .inr ⟨bi', hb, rfl⟩

/-- A new row that nothing abstract stands for. -/
theorem new_waste {O : Nat → Prop} {E : Env} {H : Heap} {w w1 : World} (hw : Wrel O E H w) {o : Obj} (hw1 : w1.heap = w.heap.push o) (ho : w1.os = w.os) (ht : w1.tape = w.tape) (hu : w1.output = w.output) (hdr : w.drawn ≤ w1.drawn) :
    Wrel O E H w1 ∧ Fr All E w E w1 := by
  have hf : Fr All E w E w1 := by
    refine ⟨ho, ht, hu, by rw [hw1]; simp, fun k hk hout => ⟨by rw [hw1, Array.getElem?_push, if_neg (by omega)], hout⟩, fun b bi _ hE => ⟨bi, hE, rfl, Nat.le_refl _, fun _ => rfl⟩, fun k c el' fz hk => ?_, hdr⟩
    have hlt : k < w.heap.size := by
      rcases Nat.lt_or_ge k w.heap.size with h | h
      · exact h
      · rw [Array.getElem?_eq_none h] at hk; cases hk
    exact ⟨c, by rw [hw1, Array.getElem?_push, if_neg (by omega)]; exact hk, rfl⟩
  refine ⟨⟨fun b bi hb => ?_, hw.live, hw.inj, fun b bi hb c el hc => hw.sc b bi hb c el (by rw [hw1, Array.getElem?_push, if_neg (by have := hw.lt hb; omega)] at hc; exact hc)⟩, hf⟩
  obtain ⟨rows, c, el, h1, h2, h3, h4, h5, h6⟩ := hw.blk b bi hb
  refine ⟨rows, c, el, h1, h2, h3, by rw [hw1, Array.getElem?_push, if_neg (by have := hw.lt hb; omega)]; exact h4, h5, fun i j r d hi hj => ?_⟩
  obtain ⟨v, e, s, r⟩ := h6 i j r d hi hj
  exact ⟨v, e, s, r.mono hf⟩

/-! ### Rows that are handed on -/
/-- The rows of a slice that is read, and the block that this reads. -/
def srcRows (esz : Nat) (get : Nat → Option Blk) (x : D) : Option (Blk × List (Nat × Blk)) :=
  match x with
  | .vs rows => if rows.all (fun r => r.length == esz) then some (rows, []) else none
  | .bs rows => if rows.all (fun r => r.length == esz) then some (rows, []) else none
  | .nils => some ([], [])
  | .rs sz b off len cap => if sz = esz then (match get b with
      | some rows => if rows.length = off + cap then some ((rows.drop off).take len, [(b, rows)]) else none
      | none => none) else none
  | _ => none

structure Rows (O : Nat → Prop) (E : Env) (w : World) (esz : Nat) (rows : Blk) (news : List Value) : Prop where
  len : news.length = rows.length * esz
  row : ∀ r, r ∈ rows → r.length = esz
  scal : ∀ u, u ∈ news → Scal u
  rel : ∀ (i j : Nat) (r : List D) (d : D), rows[i]? = some r → r[j]? = some d → ∃ v, news[i * esz + j]? = some v ∧ RelE O E w d v

theorem Rows.of_cells {O : Nat → Prop} {E : Env} {w : World} {esz : Nat} {rows : Blk} (hpos : 0 < esz) (hrow : ∀ r, r ∈ rows → r.length = esz) (k o : Nat)
    (h : ∀ (i j : Nat) (r : List D) (d : D), rows[i]? = some r → r[j]? = some d → ∃ v, w.cell? ⟨k, o + (i * esz + j), none⟩ = some v ∧ Scal v ∧ RelE O E w d v) :
    ∃ news, Rows O E w esz rows news ∧ ∀ (j : Nat) (u : Value), news[j]? = some u → w.cell? ((⟨k, o, none⟩ : Addr).add j) = some u := by
  have key : ∀ p, p < rows.length * esz → ∃ v r d, w.cell? ⟨k, o + p, none⟩ = some v ∧ Scal v ∧ RelE O E w d v ∧ rows[p / esz]? = some r ∧ r[p % esz]? = some d := by
    intro p hp
    have hi : p / esz < rows.length := Nat.div_lt_of_lt_mul (by rw [Nat.mul_comm]; exact hp)
    have hj : p % esz < rows[p / esz].length := by rw [hrow _ (List.getElem_mem hi)]; exact Nat.mod_lt _ hpos
    obtain ⟨v, h1, h2, h3⟩ := h (p / esz) (p % esz) rows[p / esz] _ (List.getElem?_eq_getElem hi) (List.getElem?_eq_getElem hj)
    have e : p / esz * esz + p % esz = p := by rw [Nat.mul_comm]; exact Nat.div_add_mod p esz
    rw [e] at h1
    exact ⟨v, _, _, h1, h2, h3, List.getElem?_eq_getElem hi, List.getElem?_eq_getElem hj⟩
  refine ⟨(List.range (rows.length * esz)).map fun p => (w.cell? ⟨k, o + p, none⟩).getD undef, ⟨by simp, hrow, fun u hu => ?_, fun i j r d hi hj => ?_⟩, fun j u hu => ?_⟩
  · obtain ⟨p, hp, rfl⟩ := List.mem_map.1 hu
    obtain ⟨v, _, _, h1, h2, _⟩ := key p (by simpa using hp)
    rw [h1]; exact h2
  · obtain ⟨v, h1, h2, h3⟩ := h i j r d hi hj
    refine ⟨v, ?_, h3⟩
    have hi' : i < rows.length := by
      rcases Nat.lt_or_ge i rows.length with h | h
      · exact h
      · rw [List.getElem?_eq_none h] at hi; cases hi
    have hj' : j < esz := by
      rw [← hrow r (List.mem_of_getElem? hi)]
      rcases Nat.lt_or_ge j r.length with h | h
      · exact h
      · rw [List.getElem?_eq_none h] at hj; cases hj
    have hb : i * esz + j < rows.length * esz := by
      have : (i + 1) * esz ≤ rows.length * esz := Nat.mul_le_mul_right _ hi'
      rw [Nat.add_mul, Nat.one_mul] at this
      omega
    rw [List.getElem?_map, List.getElem?_range hb]
    simp [h1]
  · rw [addr_add]
    have hlt : j < rows.length * esz := by
      rcases Nat.lt_or_ge j (rows.length * esz) with h | h
      · exact h
      · rw [List.getElem?_eq_none (by simp; omega)] at hu; cases hu
    rw [List.getElem?_map, List.getElem?_range hlt] at hu
    obtain ⟨v, _, _, h1, _⟩ := key j hlt
    simp [h1] at hu
    rw [h1, hu]

theorem srcRows_rel {O : Nat → Prop} {E : Env} {H : Heap} {w : World} {esz : Nat} {get : Nat → Option Blk} {x : D} {u : Value} {rows : Blk} {rd : List (Nat × Blk)} (hpos : 0 < esz) (h : srcRows esz get x = some (rows, rd))
    (hx : RelE O E w x u) (hw : Wrel O E H w) (hrd : ∀ p, p ∈ rd → hget H p.1 = some p.2) :
    ∃ a cap news, u = .slice a rows.length cap ∧ Rows O E w esz rows news ∧ (rows = [] ∨ ∃ ad, a = some ad ∧ ∀ (j : Nat) (v : Value), news[j]? = some v → w.cell? (ad.add j) = some v) := by
  unfold srcRows at h
  cases x <;> simp only at h <;> try (cases h; done)
  case vs rows' =>
    split at h
    · rename_i hall
      cases h
      rw [List.all_eq_true] at hall
      have hrow : ∀ r, r ∈ rows → r.length = esz := fun r hr => by simpa using hall r hr
      cases hx with
      | pur _ _ hp =>
        cases hp with
        | vs _ a cap sz f hcap hsz ha hrr =>
          by_cases hne : rows = []
          · subst hne
            exact ⟨a, cap, [], rfl, ⟨by simp, by simp, by simp, by simp⟩, .inl rfl⟩
          · obtain ⟨k, o, rfl, hU, hk, hc⟩ := ha hne
            obtain ⟨news, n1, n2⟩ := Rows.of_cells (O := O) (E := E) (w := w) hpos hrow k o (fun i j r d hi hj => by
              have hi' : i < rows.length := by
                rcases Nat.lt_or_ge i rows.length with h | h
                · exact h
                · rw [List.getElem?_eq_none h] at hi; cases hi
              have hrl := hrow r (List.mem_of_getElem? hi)
              have hsl := hsz r (List.mem_of_getElem? hi)
              have hj' : j < sz := by
                rcases Nat.lt_or_ge j r.length with h | h
                · omega
                · rw [List.getElem?_eq_none h] at hj; cases hj
              obtain ⟨c1, c2⟩ := hc i j hi' hj'
              have : esz = sz := by omega
              rw [this]
              exact ⟨f i j, c1, c2, .pur _ _ (hrr i j r d hi hj)⟩)
            exact ⟨_, cap, news, rfl, n1, .inr ⟨_, rfl, n2⟩⟩
    · cases h
  case bs rows' =>
    split at h
    · rename_i hall
      cases h
      rw [List.all_eq_true] at hall
      have hrow : ∀ r, r ∈ rows → r.length = esz := fun r hr => by simpa using hall r hr
      cases hx with
      | pur _ _ hp => cases hp
      | bs _ a cap sz f hcap hsz ha hrr =>
        by_cases hne : rows = []
        · subst hne
          exact ⟨a, cap, [], rfl, ⟨by simp, by simp, by simp, by simp⟩, .inl rfl⟩
        · obtain ⟨k, o, rfl, hU, hk, hc⟩ := ha hne
          obtain ⟨news, n1, n2⟩ := Rows.of_cells (O := O) (E := E) (w := w) hpos hrow k o (fun i j r d hi hj => by
            have hi' : i < rows.length := by
              rcases Nat.lt_or_ge i rows.length with h | h
              · exact h
              · rw [List.getElem?_eq_none h] at hi; cases hi
            have hrl := hrow r (List.mem_of_getElem? hi)
            have hsl := hsz r (List.mem_of_getElem? hi)
            have hj' : j < sz := by
              rcases Nat.lt_or_ge j r.length with h | h
              · omega
              · rw [List.getElem?_eq_none h] at hj; cases hj
            obtain ⟨c1, c2⟩ := hc i j hi' hj'
            have : esz = sz := by omega
            rw [this]
            exact ⟨f i j, c1, c2, .pur _ _ (hrr i j r d hi hj)⟩)
          exact ⟨_, cap, news, rfl, n1, .inr ⟨_, rfl, n2⟩⟩
    · cases h
  case nils =>
    cases h
    obtain ⟨a, rfl⟩ := rel_nils hx
    exact ⟨a, 0, [], rfl, ⟨by simp, by simp, by simp, by simp⟩, .inl rfl⟩
  case rs sz b off len cap =>
    split at h
    · rename_i hsz
      split at h
      · rename_i rows' hg
        split at h
        · rename_i hn
          cases h
          have hH := hrd (b, rows') (by simp)
          simp only at hH
          cases hx with
          | pur _ _ hp => cases hp
          | rs _ _ _ _ bi a cap' hE h0 h1 h2 h3 h4 =>
            obtain ⟨rr, c, el, g1, g2, g3, g4, g5, g6⟩ := hw.blk b bi hE
            rw [hH] at g1; cases g1
            obtain ⟨o, rfl, ho, c', el', hc', hle⟩ := h4 (by omega)
            have hlen : ((rows'.drop off).take len).length = len := by rw [List.length_take, List.length_drop]; omega
            have hrow : ∀ r, r ∈ (rows'.drop off).take len → r.length = esz := fun r hr => by
              rw [← hsz]; exact g3 r (List.mem_of_mem_drop (List.mem_of_mem_take hr))
            by_cases hl0 : len = 0
            · subst hl0
              exact ⟨some ⟨bi.blk, o, none⟩, cap', [], by simp, ⟨by simp, by simp, by simp, by simp⟩, .inl (by simp)⟩
            · have hoo := ho (by omega)
              obtain ⟨news, n1, n2⟩ := Rows.of_cells (O := O) (E := E) (w := w) hpos hrow bi.blk o (fun i j r d hi hj => by
                rw [List.getElem?_take, List.getElem?_drop] at hi
                split at hi
                · obtain ⟨v, e1, e2, e3⟩ := g6 (off + i) j r d hi hj
                  refine ⟨v, ?_, e2, e3⟩
                  rw [cell?_some g4, hoo, ← hsz, ← Nat.add_assoc, ← Nat.add_mul]
                  exact e1
                · cases hi)
              exact ⟨_, cap', news, by rw [hlen], n1, .inr ⟨_, rfl, n2⟩⟩
        · cases h
      · cases h
    · cases h

end Go.AH

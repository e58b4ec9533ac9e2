/- Code: what a piece of code comes to on abstract states. -/
import Derived.Test.YtmhkanhgmfolhaaGreatAhK
set_option linter.unusedSimpArgs false
set_option linter.unusedVariables false
namespace Go.AH

variable {rr : Bool}

/-- The code `c` comes from `s` to states of which `Q` holds, in every world that reads as `s`. -/
def AW (P : Program) (rr : Bool) (k : Nat) (c : Code) (Q : Exit → St → Prop) (s : St) : Prop :=
  ∀ (ro : Option Nat), ro.isSome = rr → ∀ (base : Nat) (O : Nat → Prop) (E : Env) (a : Act) (w : World), SR k base O E s a w →
    c.wpIn (Fw ro) 0 P (fun e a' w' => ∃ E' s', Q e s' ∧ SR k base O E' s' a' w' ∧ FrK k E w E' w') a w

def nxt (K : St → Prop) (Q : Exit → St → Prop) : Exit → St → Prop
  | .normal, s => K (mark s)
  | e, s => Q e (mark s)

def brb (b : Bool) (T F : Unit → Prop) : Prop :=
  match b with
  | true => T ()
  | false => F ()

theorem brb_true (T F : Unit → Prop) : brb true T F = T () := rfl
theorem brb_false (T F : Unit → Prop) : brb false T F = F () := rfl
theorem brb_congr {b b' : Bool} {T F : Unit → Prop} (h : b = b') : brb b T F = brb b' T F := by rw [h]

def inBlk (id : Nat) (Q : Exit → St → Prop) : Exit → St → Prop
  | .exit id', s => brb (id' == id) (fun _ => Q .normal (mark s)) (fun _ => Q (.exit id') (mark s))
  | e, s => Q e (mark s)

theorem AW.mono {P : Program} {k : Nat} {c : Code} {Q Q' : Exit → St → Prop} {s : St} (h : AW P rr k c Q s) (hq : ∀ e s, Q e s → Q' e s) : AW P rr k c Q' s :=
  fun ro hro base O E a w hS => wpIn_mono (h ro hro base O E a w hS) fun e a' w' ⟨E', s', q, r⟩ => ⟨E', s', hq _ _ q, r⟩

theorem AW.skip {P : Program} {k : Nat} {Q : Exit → St → Prop} {s : St} (h : Q .normal s) : AW P rr k .skip Q s :=
  fun _ _ _ _ E _ w hS => wpIn_skip ⟨E, s, h, hS, FrK.refl _ _ _⟩

theorem AW.ret {P : Program} {k : Nat} {Q : Exit → St → Prop} {s : St} (h : Q .ret s) : AW P rr k .ret Q s :=
  fun _ _ _ _ E _ w hS => wpIn_ret ⟨E, s, h, hS, FrK.refl _ _ _⟩

theorem AW.exit {P : Program} {k id : Nat} {Q : Exit → St → Prop} {s : St} (h : Q (.exit id) s) : AW P rr k (.exit id) Q s :=
  fun _ _ _ _ E _ w hS => wpIn_exit ⟨E, s, h, hS, FrK.refl _ _ _⟩

theorem AW.seq {P : Program} {k : Nat} {x y : Code} {Q : Exit → St → Prop} {s : St} (h : AW P rr k x (nxt (AW P rr k y Q) Q) s) : AW P rr k (.seq x y) Q s := by
  intro ro hro base O E a w hS
  refine wpIn_seq (wpIn_mono (h ro hro base O E a w hS) ?_)
  rintro e a1 w1 ⟨E1, s1, q, hS1, hF⟩
  cases e with
  | normal =>
    exact wpIn_mono (q ro hro base O E1 a1 w1 hS1) fun e a2 w2 ⟨E2, s2, q2, hS2, hF2⟩ => ⟨E2, s2, q2, hS2, hF.trans hF2⟩
  | _ => exact ⟨E1, s1, q, hS1, hF⟩

theorem AW.cond {P : Program} {k : Nat} {c : Operand} {x y : Code} {Q : Exit → St → Prop} {s : St} {b : Bool} (hc : s.ev c = .bool b) (ht : b = true → AW P rr k x Q s) (hf : b = false → AW P rr k y Q s) : AW P rr k (.cond c x y) Q s := by
  intro ro hro base O E a w hS
  have hr := hS.ev c
  rw [hc] at hr
  have := rel_bool hr
  exact wpIn_cond_split this (fun e => ht e ro hro base O E a w hS) (fun e => hf e ro hro base O E a w hS)

theorem AW.condU {P : Program} {k : Nat} {c : Operand} {x y : Code} {Q : Exit → St → Prop} {s : St} (hc : s.ev c = .ub) (ht : AW P rr k x Q s) (hf : AW P rr k y Q s) : AW P rr k (.cond c x y) Q s := by
  intro ro hro base O E a w hS
  have hr := hS.ev c
  rw [hc] at hr
  obtain ⟨b, hb⟩ : ∃ b, a.eval c = .bool b := by
    generalize a.eval c = v at hr
    cases hr with
    | pur _ _ hp => cases hp with | ub b => exact ⟨b, rfl⟩
  exact wpIn_cond_split hb (fun _ => ht ro hro base O E a w hS) (fun _ => hf ro hro base O E a w hS)

theorem AW.block {P : Program} {k id : Nat} {x : Code} {Q : Exit → St → Prop} {s : St} (h : AW P rr k x (inBlk id Q) s) : AW P rr k (.block id x) Q s := by
  intro ro hro base O E a w hS
  refine wpIn_block (wpIn_mono (h ro hro base O E a w hS) ?_)
  rintro e a1 w1 ⟨E1, s1, q, r⟩
  cases e with
  | exit id' =>
    simp only [inBlk, mark_eq] at q
    simp only [Exit.inBlock]
    split
    · rename_i e; rw [show (id' == id) = true from by simpa using e] at q; exact ⟨E1, s1, q, r⟩
    · rename_i e; rw [show (id' == id) = false from by simpa using e] at q; exact ⟨E1, s1, q, r⟩
  | _ => exact ⟨E1, s1, q, r⟩

/-- A state seen as another one of the same world. -/
def Conv (k : Nat) (s s' : St) : Prop :=
  ∀ (base : Nat) (O : Nat → Prop) (E : Env) (a : Act) (w : World), SR k base O E s a w → ∃ E', SR k base O E' s' a w ∧ FrK k E w E' w

theorem Conv.refl (k : Nat) (s : St) : Conv k s s := fun _ _ E _ w h => ⟨E, h, FrK.refl _ _ _⟩

theorem Conv.trans {k : Nat} {s s1 s2 : St} (h : Conv k s s1) (g : Conv k s1 s2) : Conv k s s2 := fun base O E a w hS => by
  obtain ⟨E1, h1, f1⟩ := h base O E a w hS
  obtain ⟨E2, h2, f2⟩ := g base O E1 a w h1
  exact ⟨E2, h2, f1.trans f2⟩

theorem AW.conv {P : Program} {k : Nat} {c : Code} {Q : Exit → St → Prop} {s s' : St} (hc : Conv k s s') (h : AW P rr k c Q s') : AW P rr k c Q s := by
  intro ro hro base O E a w hS
  obtain ⟨E1, h1, f1⟩ := hc base O E a w hS
  exact wpIn_mono (h ro hro base O E1 a w h1) fun e a2 w2 ⟨E2, s2, q2, hS2, hF2⟩ => ⟨E2, s2, q2, hS2, f1.trans hF2⟩

/-- Afterwards: a state may be seen as another one. -/
theorem AW.post {P : Program} {k : Nat} {c : Code} {Q Q' : Exit → St → Prop} {s : St} (h : AW P rr k c Q s) (hq : ∀ e s, Q e s → ∃ s', Conv k s s' ∧ Q' e s') : AW P rr k c Q' s := by
  intro ro hro base O E a w hS
  refine wpIn_mono (h ro hro base O E a w hS) ?_
  rintro e a1 w1 ⟨E1, s1, q, hS1, hF⟩
  obtain ⟨s2, hc, q2⟩ := hq e s1 q
  obtain ⟨E2, h2, f2⟩ := hc base O E1 a1 w1 hS1
  exact ⟨E2, s2, q2, h2, hF.trans f2⟩

/-- A loop: `I n` holds at the head of each round, and `n` goes down. -/
theorem AW.loop {P : Program} {k : Nat} {c : Code} {Q : Exit → St → Prop} (I : Nat → St → Prop)
    (round : ∀ n s, I n s → AW P rr k c (nxt (fun s1 => ∃ m s2, m < n ∧ Conv k s1 s2 ∧ I m s2) Q) s) {n : Nat} {s : St} (h : I n s) : AW P rr k (.loop c) Q s := by
  intro ro hro base O E0 a0 w0 hS0 b kk cs hrb hfb hroom
  have key : ∀ n s, I n s → ∀ E a w, SR k base O E s a w → FrK k E0 w0 E w →
      ∃ e a' w', (∃ E' s', Q e s' ∧ SR k base O E' s' a' w' ∧ FrK k E0 w0 E' w') ∧ ArrivesIn (Machine.fenced P (Fw ro)) P (lone (b.atR a (.code c :: .inLoop c :: kk)) cs w) b kk cs e a' w' := by
    intro n
    induction n using Nat.strongRecOn with
    | _ n ih =>
      intro s hI E a w hS hF
      obtain ⟨e, a1, w1, ⟨E1, s1, q, hS1, hF1⟩, harr⟩ := round n s hI ro hro base O E a w hS b (.inLoop c :: kk) cs hrb hfb hroom
      cases e with
      | normal =>
        obtain ⟨m, s2, hlt, hc, hI2⟩ := q
        obtain ⟨E2, hS2, hF2⟩ := hc base O E1 a1 w1 hS1
        obtain ⟨e3, a3, w3, hq3, harr3⟩ := ih m hlt s2 hI2 E2 a1 w1 hS2 ((hF.trans hF1).trans hF2)
        exact ⟨e3, a3, w3, hq3, .of_steps (StepsIn.trans harr (.one (fenced_calm hfb hroom rfl) stepR_inLoop)) harr3⟩
      | exit id => exact ⟨_, a1, w1, ⟨E1, s1, q, hS1, hF.trans hF1⟩, .pass (x := .inLoop c) rfl (fun _ _ => .inl (by simp)) harr⟩
      | goto l => exact ⟨_, a1, w1, ⟨E1, s1, q, hS1, hF.trans hF1⟩, .pass (x := .inLoop c) rfl (fun _ _ => .inl (by simp)) harr⟩
      | ret => exact ⟨_, a1, w1, ⟨E1, s1, q, hS1, hF.trans hF1⟩, .pass (x := .inLoop c) rfl (fun _ _ => .inl (by simp)) harr⟩
      | panic ch => exact ⟨_, a1, w1, ⟨E1, s1, q, hS1, hF.trans hF1⟩, .pass (x := .inLoop c) rfl (fun _ _ => .inl (by simp)) harr⟩
      | outgrown => exact ⟨_, a1, w1, ⟨E1, s1, q, hS1, hF.trans hF1⟩, .pass (x := .inLoop c) rfl (fun _ _ => .inl (by simp)) harr⟩
  obtain ⟨e, a', w', hq, harr⟩ := key n s h E0 a0 w0 hS0 (FrK.refl _ _ _)
  exact ⟨e, a', w', hq, .of_steps (.one (fenced_calm hfb hroom rfl) stepR_loop) harr⟩

theorem SR.free {k base : Nat} {O : Nat → Prop} {E : Env} {s : St} {a : Act} {w : World} (h : SR k base O E s a w) (b : Nat) (hb : s.H.length ≤ b) : E b = none := by
  cases hq : E b with
  | none => rfl
  | some bi =>
    obtain ⟨rows, _, _, g, _⟩ := h.wr.blk _ bi hq
    rw [hget, List.getElem?_eq_none hb] at g
    cases g

theorem AW.region {P : Program} {C : CallP} (hC : C.Sound P) {k id : Nat} {ops : Array Oper} {Q : Exit → St → Prop} {s : St} (h : runOps P C ops ops.toList s.H.length s (fun s1 => Q .normal s1)) : AW P rr k (.region id ops false) Q s := by
  intro ro hro base O E a w hS
  refine wpIn_region ?_
  have := runOps_sound (ro := ro) hC ops (fun s1 => Q .normal s1) (fun e a' w' => ∃ E' s', Q e s' ∧ SR k base O E' s' a' w' ∧ FrK k E w E' w') E w
    (fun E' s' a' w' hS' hF' q => ⟨E', s', q, hS', hF'⟩) ops.toList 0 s.H.length s E a w (by simp) hS (FrK.refl _ _ _) (fun b hb => hS.free b hb) h
  simpa using this

/-! ### What may be forgotten -/
mutual
def D.refs (ok : Nat → Bool) : D → Bool
  | .rs _ b _ _ _ => ok b
  | .rx _ b _ _ _ => ok b
  | .ptr b _ _ _ => ok b
  | .agg cs => D.refsL ok cs
  | .tup cs => D.refsL ok cs
  | .fn _ cs => D.refsL ok cs
  | .mv _ cs => D.refsL ok cs
  | .mpv _ _ cs => D.refsL ok cs
  | _ => true
def D.refsL (ok : Nat → Bool) : List D → Bool
  | [] => true
  | d :: ds => d.refs ok && D.refsL ok ds
end

theorem refsL_at {ok : Nat → Bool} : ∀ {cs : List D} (_ : D.refsL ok cs = true) (i : Nat) (d : D), cs[i]? = some d → d.refs ok = true
  | [], _, i, d, h => by simp at h
  | c :: cs, h, i, d, hd => by
    simp only [D.refsL, Bool.and_eq_true] at h
    cases i with
    | zero => simp at hd; subst hd; exact h.1
    | succ i => exact refsL_at h.2 i d (by simpa using hd)

/-- Fewer owned blocks: what does not refer to those that have gone reads as before. -/
theorem Rel.restrict {U U' V V' : Nat → Prop} {E E' : Env} {w : World} {ok : Nat → Bool} (hE : ∀ b, ok b = true → E' b = E b) (hU : ∀ k, U k → U' k) (hV : ∀ k, V k → V' k) {d : D} {v : Value} (h : Rel U V E w d v) (hd : d.refs ok = true) : Rel U' V' E' w d v := by
  induction h with
  | pur d v hp => exact .pur d v (hp.mono (Nat.le_refl _) (fun k _ hu => ⟨rfl, hU k hu⟩))
  | bs rows a cap sz f hcap hsz ha hr =>
    refine .bs rows a cap sz f hcap hsz (fun hne => ?_) (fun i j r d h1 h2 => (hr i j r d h1 h2).mono (Nat.le_refl _) (fun k _ hu => ⟨rfl, hU k hu⟩))
    obtain ⟨k, o, e, hk, q⟩ := ha hne
    exact ⟨k, o, e, hV k hk, q⟩
  | ip cells k o f hVk hk h =>
    exact .ip cells k o f (hV k hVk) hk fun j d hj => by
      obtain ⟨h1, h2, h3⟩ := h j d hj
      exact ⟨h1, h2, h3.mono (Nat.le_refl _) (fun k _ hu => ⟨rfl, hU k hu⟩)⟩
  | rs b off len cap bi a cap' hEb h0 h1 h2 h3 h4 => exact .rs b off len cap bi a cap' (by rw [hE b (by simpa [D.refs] using hd)]; exact hEb) h0 h1 h2 h3 h4
  | rx b len cap rc bi a hEb h0 h1 h2 h3 h4 => exact .rx b len cap rc bi a (by rw [hE b (by simpa [D.refs] using hd)]; exact hEb) h0 h1 h2 h3 h4
  | ptr b n i j bi a hEb h1 h => exact .ptr b n i j bi a (by rw [hE b (by simpa [D.refs] using hd)]; exact hEb) h1 h
  | mv f caps vs hl h ih => exact .mv f caps vs hl fun i d v h1 h2 => ih i d v h1 h2 (refsL_at (by simpa [D.refs] using hd) i d h1)
  | mpv k keys vals r vs hl hUr hlt hm h ih => exact .mpv k keys vals r vs hl (hU r hUr) hlt hm fun i d v h1 h2 => ih i d v h1 h2 (refsL_at (by simpa [D.refs] using hd) i d h1)
  | fn f caps vs hl h ih => exact .fn f caps vs hl fun i d v h1 h2 => ih i d v h1 h2 (refsL_at (by simpa [D.refs] using hd) i d h1)
  | agg cs vs hl hs h ih => exact .agg cs vs hl hs fun i d v h1 h2 => ih i d v h1 h2 (refsL_at (by simpa [D.refs] using hd) i d h1)
  | tup cs vs hl h ih => exact .tup cs vs hl fun i d v h1 h2 => ih i d v h1 h2 (refsL_at (by simpa [D.refs] using hd) i d h1)

theorem RelE.restrict {O : Nat → Prop} {E E' : Env} {w : World} {ok : Nat → Bool} (hE : ∀ b, ok b = true → E' b = E b) (hsub : ∀ b bi, E' b = some bi → E b = some bi) {d : D} {v : Value} (h : RelE O E w d v) (hd : d.refs ok = true) : RelE O E' w d v :=
  Rel.restrict hE (fun _ hu => ⟨hu.1, fun b bi hb => hu.2 b bi (hsub b bi hb)⟩) (fun _ hu b bi hb => hu b bi (hsub b bi hb)) h hd

def okH (H : Heap) (b : Nat) : Bool := (hget H b).isSome

/-- Forget: some temporaries, and blocks that nothing refers to any more (none of those that came in). -/
theorem Conv.drop {k : Nat} {s s' : St} (hn : s'.n = s.n) (htm : ∀ p, p ∈ s'.tm → lk s.tm p.1 = p.2) (href : ∀ p, p ∈ s'.tm → p.2.refs (okH s'.H) = true)
    (hH : ∀ b rows, hget s'.H b = some rows → hget s.H b = some rows) (hk : ∀ b, b < k → hget s'.H b = hget s.H b)
    (hrows : ∀ b rows, hget s'.H b = some rows → ∀ r, r ∈ rows → D.refsL (okH s'.H) r = true) : Conv k s s' := by
  intro base O E a w h
  let E' : Env := fun b => if okH s'.H b = true then E b else none
  have hE : ∀ b, okH s'.H b = true → E' b = E b := fun b hb => by simp only [E']; rw [if_pos hb]
  have hsub : ∀ b bi, E' b = some bi → okH s'.H b = true ∧ E b = some bi := fun b bi hb => by
    simp only [E'] at hb
    split at hb
    · rename_i h1; exact ⟨h1, hb⟩
    · cases hb
  have hlive : ∀ b, okH s'.H b = true → ∃ rows, hget s'.H b = some rows := fun b hb => Option.isSome_iff_exists.1 hb
  have hlk : ∀ t, lk s'.tm t = lk s.tm t ∧ (lk s'.tm t).refs (okH s'.H) = true ∨ lk s'.tm t = .un := by
    intro t
    have : ∀ l : List (Nat × D), (∀ p, p ∈ l → p ∈ s'.tm) → lk l t = lk s.tm t ∧ (lk l t).refs (okH s'.H) = true ∨ lk l t = .un := by
      intro l
      induction l with
      | nil => intro _; exact .inr rfl
      | cons p l ih =>
        intro hl
        obtain ⟨i, d⟩ := p
        simp only [lk]
        by_cases e : i = t
        · subst e
          rw [if_pos rfl]
          exact .inl ⟨(htm (i, d) (hl _ (by simp))).symm, href (i, d) (hl _ (by simp))⟩
        · rw [if_neg e]
          exact ih fun p hp => hl p (by simp [hp])
    exact this s'.tm fun p hp => hp
  refine ⟨E', ⟨⟨fun b bi hb => ?_, fun b rows hg => ?_, fun b b' x y h1 h2 e => h.wr.inj b b' x y (hsub b x h1).2 (hsub b' y h2).2 e, fun b bi hb => h.wr.sc b bi (hsub b bi hb).2⟩, h.defers.sub (fun b bi hb => (hsub b bi hb).2), by rw [hn]; exact h.size, fun t v hv => ?_, h.hbase, h.up, fun b bi hb hE2 => h.own b bi hb (hsub b bi hE2).2⟩, ⟨⟨rfl, rfl, rfl, Nat.le_refl _, fun k' _ ho => ⟨rfl, fun b bi hb => ho b bi (hsub b bi hb).2⟩, fun b bi hb hE2 => ?_, fun _ c _ _ hc => ⟨c, hc, rfl⟩, Nat.le_refl _⟩, fun b bi' hb hE2 => .inr ⟨bi', (hsub b bi' hE2).2, rfl⟩⟩⟩
  · obtain ⟨h1, h2⟩ := hsub b bi hb
    obtain ⟨rows', hr'⟩ := hlive b h1
    obtain ⟨rows, c, el, g1, g2, g3, g4, g5, g6⟩ := h.wr.blk b bi h2
    have e := hH b rows' hr'
    rw [g1] at e; cases e
    refine ⟨rows', c, el, hr', g2, g3, g4, g5, fun i j r d hi hj => ?_⟩
    obtain ⟨v, e1, e2, e3⟩ := g6 i j r d hi hj
    exact ⟨v, e1, e2, e3.restrict hE (fun b bi hb => (hsub b bi hb).2) (refsL_at (hrows b rows' hr' r (List.mem_of_getElem? hi)) j d hj)⟩
  · obtain ⟨bi, hb⟩ := h.wr.live b rows (hH b rows hg)
    exact ⟨bi, by rw [hE b (by simp [okH, hg])]; exact hb⟩
  · rcases hlk t with ⟨e1, e2⟩ | e
    · rw [e1] at e2 ⊢
      exact (h.tm t v hv).restrict hE (fun b bi hb => (hsub b bi hb).2) e2
    · rw [e]; exact .pur _ _ (.un _)
  · have hg : okH s'.H b = true := by
      obtain ⟨rows, c, el, g1, _⟩ := h.wr.blk b bi hE2
      simp [okH, hk b hb, g1]
    exact ⟨bi, by rw [hE b hg]; exact hE2, rfl, Nat.le_refl _, fun _ => rfl⟩

end Go.AH

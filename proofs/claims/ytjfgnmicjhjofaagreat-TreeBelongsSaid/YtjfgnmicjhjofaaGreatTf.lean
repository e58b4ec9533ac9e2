/- The tree walked: part f. -/
import Derived.Test.YtjfgnmicjhjofaaGreatTe
/- tree.Check at the trees of Of. -/
open Go Go.Proofs Go.AH
set_option linter.unusedSimpArgs false
set_option linter.unusedVariables false
namespace TR
set_option maxRecDepth 20000 in
theorem cChk1 (t : Tr) (e : En) : FC Tryz.prog 69 [.agg e.row, .ip t.row] [] (.bool (decide (¬ e.ok t.sc))) [] := by
  have hd : (!decide (e.ok t.sc)) = decide (¬ e.ok t.sc) := by simp
  refine FC.of_run mix Tryz.func69 rfl rfl (by simp [Tryz.ntmps69]) ?_
  repeat' first
    | simp (maxSteps := 1000000) only [go_sem, Int.reduceLT, Int.reduceLE, Int.reduceToNat, Int.reduceEq, Nat.reduceMul, ↓reduceIte, Nat.reduceLT, Nat.reduceLeDiff, Nat.reduceEqDiff, Nat.reduceAdd, Nat.reduceSub, Nat.reduceBEq, reduceCtorEq, *]
    | contradiction
    | refine wntB_decT (fun _ => ?_) (fun _ => ?_)
    | refine wntB_decF (fun _ => ?_) (fun _ => ?_)
    | refine cndB_dec (fun _ => ?_) (fun _ => ?_)
    | refine drawnB_ok (by kernel_rfl) ?_
    | refine (kcrValid (s := t.sc) (e := e)) ?_
    | ((first | refine Fin.q ?_ ?_ | refine Fin.qn ?_ ?_) <;> ((try simp (maxSteps := 1000000) only [go_sem, Int.reduceLT, Int.reduceLE, Int.reduceToNat, Int.reduceEq, Nat.reduceMul, ↓reduceIte, Nat.reduceLT, Nat.reduceLeDiff, Nat.reduceEqDiff, Nat.reduceAdd, Nat.reduceSub, Nat.reduceBEq, reduceCtorEq, *]) <;> (first | done | rfl)))
set_option maxRecDepth 20000 in
theorem cChk2 (t : Tr) (x y : En) : FC Tryz.prog 71 [.agg x.row, .agg y.row, .ip t.row] [] (.int .i64 (ecmp t.sc x y)) [] := by
  refine FC.of_run mix Tryz.func71 rfl rfl (by simp [Tryz.ntmps71]) ?_
  repeat' first
    | simp (maxSteps := 1000000) only [go_sem, Int.reduceLT, Int.reduceLE, Int.reduceToNat, Int.reduceEq, Nat.reduceMul, ↓reduceIte, Nat.reduceLT, Nat.reduceLeDiff, Nat.reduceEqDiff, Nat.reduceAdd, Nat.reduceSub, Nat.reduceBEq, reduceCtorEq, *]
    | contradiction
    | refine wntB_decT (fun _ => ?_) (fun _ => ?_)
    | refine wntB_decF (fun _ => ?_) (fun _ => ?_)
    | refine cndB_dec (fun _ => ?_) (fun _ => ?_)
    | refine drawnB_ok (by kernel_rfl) ?_
    | refine (kceCmp (s := t.sc)) ?_
    | ((first | refine Fin.q ?_ ?_ | refine Fin.qn ?_ ?_) <;> ((try simp (maxSteps := 1000000) only [go_sem, Int.reduceLT, Int.reduceLE, Int.reduceToNat, Int.reduceEq, Nat.reduceMul, ↓reduceIte, Nat.reduceLT, Nat.reduceLeDiff, Nat.reduceEqDiff, Nat.reduceAdd, Nat.reduceSub, Nat.reduceBEq, reduceCtorEq, *]) <;> (skip)))
theorem nods_pure1 (t : Tr) : pureB [t.row] = true := by simp [pureB, Tr.row, D.isPur]
theorem kContT {t : Tr} {l : List En} {q : Nat} {H : Heap} (hH : hget H q = some [t.row]) {slot : Nat} {K : D → List (Nat × Blk) → List (Nat × Blk) → Prop} (hl : l.length ≤ 2000) (hok : ∀ x, x ∈ l → x.ok t.sc) (hK : K (.bool false) [] [(q, [t.row])]) : @callB ⟨callX Tryz.prog⟩ 68 [.vs (ents l), .fn 69 [.ptr q 1 0 0]] H slot ⟨K⟩ := by
  have e : rdOf H (D.idsL [.vs (ents l), .fn 69 [.ptr q 1 0 0]]) = [(q, [t.row])] := by simp [D.idsL, D.ids, rdOf, hH]
  have hb : decide (∃ x, x ∈ l ∧ ¬ x.ok t.sc) = false := by simp only [decide_eq_false_iff_not, not_exists, not_and, Decidable.not_not]; exact hok
  refine call0 true (cCont_en l 69 [.ip t.row] (fun x => ¬ x.ok t.sc) (by omega) (caps1 _) (fun x => cChk1 t x)) ?_ rfl (fun _ => rfl) ?_
  · rw [e]
    simp [trL, tr, pos, AH.look, nods_pure1]
  · rw [e, hb]; exact hK
theorem kSortT {t : Tr} {l : List En} {q : Nat} {H : Heap} (hH : hget H q = some [t.row]) {slot : Nat} {K : D → List (Nat × Blk) → List (Nat × Blk) → Prop} (hl : l.length ≤ 64) (hs : sorted t.sc l) (hK : K (.tup []) [] [(q, [t.row])]) : @callB ⟨callX Tryz.prog⟩ 70 [.vs (ents l), .fn 71 [.ptr q 1 0 0]] H slot ⟨K⟩ := by
  have e : rdOf H (D.idsL [.vs (ents l), .fn 71 [.ptr q 1 0 0]]) = [(q, [t.row])] := by simp [D.idsL, D.ids, rdOf, hH]
  refine call0 true (cSort 71 t.row (ecmp t.sc) l ⟨fun x y => cChk2 t x y, sorted_asc hs, by omega⟩ hl) ?_ rfl (fun _ => rfl) ?_
  · rw [e]
    simp [trL, tr, pos, AH.look, nods_pure1]
  · rw [e]; exact hK
theorem ofT_ok {s : Sc} {c : Int} {l : List En} (h : ofE s c l = 0) : emE s c = 0 ∧ l.length ≤ 2000 ∧ sorted s l ∧ ofT s c l = ⟨s, c, growF s c 32 0 (rootW s) l⟩ := by
  have h0 := h
  unfold ofE at h
  split at h
  · rename_i h1
    split at h
    · omega
    · split at h
      · exact ⟨h1, by omega, by assumption, by unfold ofT; rw [if_pos h0]⟩
      · omega
  · exact absurd h (by assumption)
set_option maxHeartbeats 4000000 in
set_option maxRecDepth 20000 in
theorem cChk (s : Sc) (c : Int) (l : List En) (h : ofE s c l = 0) (h64 : l.length ≤ 64) : FC Tryz.prog 33 [.agg (ofT s c l).row] [] (.int .i64 0) [] := by
  obtain ⟨h1, h2, h3, h4⟩ := ofT_ok h
  have hs := (emE_0.1 h1).1
  have ho := sorted_ord hs h3
  have hf := flatE_growF s c 32 0 (rootW s) l ho
  have hgl := growF_len s c (emE_0.1 h1).2.1 32 0 (rootW s) l
  have hrw := len8 (root_ok hs)
  have hln := growF_lens s c 32 0 (rootW s) l (by omega) (by omega) (by omega) (fun x hx => ok_lens (sorted_at h3 hx))
  rw [h4]
  have kO : ∀ {H : Heap} {slot : Nat} {K : D → List (Nat × Blk) → List (Nat × Blk) → Prop}, K (.tup [.agg (⟨s, c, growF s c 32 0 (rootW s) l⟩ : Tr).row, .int .i64 0]) [] [] → @callB ⟨callX Tryz.prog⟩ 15 [.agg s.row, .int .i64 c, .vs (ents l)] H slot ⟨K⟩ := fun hK => kcOf (by rw [h, h4]; exact hK) (by omega)
  generalize growF s c 32 0 (rootW s) l = ns at *
  have g1 : ns.length ≤ 4294967296 := by omega
  have g2 : ns.length ≤ 1000000 := by omega
  have g3 : (flatE ns).length ≤ 1000000 := by rw [hf]; omega
  have g4 : l.length ≤ 4294967296 := by omega
  have g5 : ∀ x, x ∈ l → x.ok s := fun x hx => sorted_at h3 hx
  have hd : decide (ns = ns) = true := decide_eq_true rfl
  clear hgl hrw ho h4
  refine FC.of_run mix Tryz.func33 rfl rfl (by simp [Tryz.ntmps33]) ?_
  repeat' first
    | simp (maxSteps := 1000000) only [go_sem, Int.reduceLT, Int.reduceLE, Int.reduceToNat, Int.reduceEq, Nat.reduceMul, ↓reduceIte, Nat.reduceLT, Nat.reduceLeDiff, Nat.reduceEqDiff, Nat.reduceAdd, Nat.reduceSub, Nat.reduceBEq, reduceCtorEq, *, if_pos]
    | contradiction
    | refine wntB_decT (fun _ => ?_) (fun _ => ?_)
    | refine wntB_decF (fun _ => ?_) (fun _ => ?_)
    | refine cndB_dec (fun _ => ?_) (fun _ => ?_)
    | refine drawnB_ok (by kernel_rfl) ?_
    | refine kempty ?_
    | refine (kcEntr (t := ⟨s, c, ns⟩)) ?_
    | refine kCloneE ?_
    | refine (kContT (t := ⟨s, c, ns⟩) rfl h2 g5) ?_
    | refine (kSortT (t := ⟨s, c, ns⟩) rfl h64 h3) ?_
    | refine kO ?_
    | refine (kEqN g1 hln) ?_
    | ((first | refine Fin.q ?_ ?_ | refine Fin.qn ?_ ?_) <;> ((try simp (maxSteps := 1000000) only [go_sem, Int.reduceLT, Int.reduceLE, Int.reduceToNat, Int.reduceEq, Nat.reduceMul, ↓reduceIte, Nat.reduceLT, Nat.reduceLeDiff, Nat.reduceEqDiff, Nat.reduceAdd, Nat.reduceSub, Nat.reduceBEq, reduceCtorEq, *, if_pos]) <;> (skip)))
end TR

/- Depth. -/
open Go Go.Proofs Go.AH
set_option linter.unusedSimpArgs false
set_option linter.unusedVariables false
namespace TR
def depthF (s : Sc) (c : Int) : Nat → Wd → List En → Nat
  | 0, _, _ => 1
  | d + 1, w, l => if (l.length : Int) ≤ c ∨ fewestF w.b w.b.length < 0 then 1 else
      1 + max (depthF s c d (w.with (fewestF w.b w.b.length).toNat 0) (l.filter fun x => decide ((w.with (fewestF w.b w.b.length).toNat 0).has s x.w)))
        (depthF s c d (w.with (fewestF w.b w.b.length).toNat 1) (l.filter fun x => !decide ((w.with (fewestF w.b w.b.length).toNat 0).has s x.w)))
theorem depthF_le (s : Sc) (c : Int) : ∀ (d : Nat) (w : Wd) (l : List En), 1 ≤ depthF s c d w l ∧ depthF s c d w l ≤ d + 1
  | 0, w, l => by simp [depthF]
  | d + 1, w, l => by
    unfold depthF
    split
    · omega
    · have h1 := depthF_le s c d (w.with (fewestF w.b w.b.length).toNat 0) (l.filter fun x => decide ((w.with (fewestF w.b w.b.length).toNat 0).has s x.w))
      have h2 := depthF_le s c d (w.with (fewestF w.b w.b.length).toNat 1) (l.filter fun x => !decide ((w.with (fewestF w.b w.b.length).toNat 0).has s x.w))
      omega
theorem depthF_mono (s : Sc) {c c' : Int} (h : c ≤ c') : ∀ (d : Nat) (w : Wd) (l : List En), depthF s c' d w l ≤ depthF s c d w l
  | 0, w, l => by simp [depthF]
  | d + 1, w, l => by
    by_cases h1 : (l.length : Int) ≤ c' ∨ fewestF w.b w.b.length < 0
    · rw [depthF, if_pos h1]; exact (depthF_le s c (d + 1) w l).1
    · have h2 : ¬ ((l.length : Int) ≤ c ∨ fewestF w.b w.b.length < 0) := fun h3 => h1 (h3.imp (fun x => Int.le_trans x h) id)
      rw [depthF, depthF, if_neg h1, if_neg h2]
      have h1 := depthF_mono s h d (w.with (fewestF w.b w.b.length).toNat 0) (l.filter fun x => decide ((w.with (fewestF w.b w.b.length).toNat 0).has s x.w))
      have h2 := depthF_mono s h d (w.with (fewestF w.b w.b.length).toNat 1) (l.filter fun x => !decide ((w.with (fewestF w.b w.b.length).toNat 0).has s x.w))
      omega
/-- How many nodes. -/
def sizeF (s : Sc) (c : Int) : Nat → Wd → List En → Nat
  | 0, _, _ => 1
  | d + 1, w, l => if (l.length : Int) ≤ c ∨ fewestF w.b w.b.length < 0 then 1 else
      1 + (sizeF s c d (w.with (fewestF w.b w.b.length).toNat 0) (l.filter fun x => decide ((w.with (fewestF w.b w.b.length).toNat 0).has s x.w))
        + sizeF s c d (w.with (fewestF w.b w.b.length).toNat 1) (l.filter fun x => !decide ((w.with (fewestF w.b w.b.length).toNat 0).has s x.w)))
theorem sizeF_pos (s : Sc) (c : Int) : ∀ (d : Nat) (w : Wd) (l : List En), 1 ≤ sizeF s c d w l
  | 0, w, l => by simp [sizeF]
  | d + 1, w, l => by unfold sizeF; split <;> omega
theorem sizeF_mono (s : Sc) {c c' : Int} (h : c ≤ c') : ∀ (d : Nat) (w : Wd) (l : List En), sizeF s c' d w l ≤ sizeF s c d w l
  | 0, w, l => by simp [sizeF]
  | d + 1, w, l => by
    by_cases h1 : (l.length : Int) ≤ c' ∨ fewestF w.b w.b.length < 0
    · rw [sizeF, if_pos h1]; exact sizeF_pos s c (d + 1) w l
    · have h2 : ¬ ((l.length : Int) ≤ c ∨ fewestF w.b w.b.length < 0) := fun h3 => h1 (h3.imp (fun x => Int.le_trans x h) id)
      rw [sizeF, sizeF, if_neg h1, if_neg h2]
      have h1 := sizeF_mono s h d (w.with (fewestF w.b w.b.length).toNat 0) (l.filter fun x => decide ((w.with (fewestF w.b w.b.length).toNat 0).has s x.w))
      have h2 := sizeF_mono s h d (w.with (fewestF w.b w.b.length).toNat 1) (l.filter fun x => !decide ((w.with (fewestF w.b w.b.length).toNat 0).has s x.w))
      omega
def leafs : List Nd → Nat
  | [] => 0
  | n :: ns => (if n.left = -1 then 1 else 0) + leafs ns
theorem leafs_app (a b : List Nd) : leafs (a ++ b) = leafs a + leafs b := by
  induction a with
  | nil => simp [leafs]
  | cons n a ih => simp only [List.cons_append, leafs, ih]; omega
theorem growF_size (s : Sc) (c : Int) : ∀ (d a : Nat) (w : Wd) (l : List En), (growF s c d a w l).length = sizeF s c d w l ∧ (growF s c d a w l).length + 1 = 2 * leafs (growF s c d a w l)
  | 0, a, w, l => by simp [growF, sizeF, leafs]
  | d + 1, a, w, l => by
    by_cases h : (l.length : Int) ≤ c ∨ fewestF w.b w.b.length < 0
    · rw [growF, if_pos h, sizeF, if_pos h]; simp [leafs]
    · obtain ⟨h1, h2⟩ := not_or.1 h
      obtain ⟨p, hp⟩ : ∃ p : Nat, fewestF w.b w.b.length = p := ⟨(fewestF w.b w.b.length).toNat, by omega⟩
      rw [growF_split h1 hp, sizeF, if_neg h, hp, Int.toNat_natCast]
      have i1 := growF_size s c d (a + 1) (w.with p 0) (l.filter fun x => decide ((w.with p 0).has s x.w))
      generalize growF s c d (a + 1) (w.with p 0) (l.filter fun x => decide ((w.with p 0).has s x.w)) = L at *
      have i2 := growF_size s c d (a + 1 + L.length) (w.with p 1) (l.filter fun x => !decide ((w.with p 0).has s x.w))
      generalize growF s c d (a + 1 + L.length) (w.with p 1) (l.filter fun x => !decide ((w.with p 0).has s x.w)) = R at *
      simp only [List.length_cons, List.length_append, leafs, leafs_app]
      rw [if_neg (by omega)]
      omega
/-- A part of the nodes. -/
def Seg (ns : List Nd) (a : Nat) (G : List Nd) : Prop := a + G.length ≤ ns.length ∧ ∀ k, k < G.length → ns.getD (a + k) default = G.getD k default
theorem seg_cons {ns : List Nd} {a : Nat} {n : Nd} {L R : List Nd} (h : Seg ns a (n :: (L ++ R))) : a < ns.length ∧ ns.getD a default = n ∧ Seg ns (a + 1) L ∧ Seg ns (a + 1 + L.length) R := by
  obtain ⟨h1, h2⟩ := h
  simp only [List.length_cons, List.length_append] at h1 h2
  refine ⟨by omega, by simpa using h2 0 (by omega), ⟨by omega, fun k hk => ?_⟩, ⟨by omega, fun k hk => ?_⟩⟩
  · have := h2 (k + 1) (by omega)
    rw [show a + (k + 1) = a + 1 + k by omega] at this
    rw [this]
    simp [List.getD, List.getElem?_append, hk]
  · have := h2 (L.length + k + 1) (by omega)
    rw [show a + (L.length + k + 1) = a + 1 + L.length + k by omega] at this
    rw [this]
    simp [List.getD, List.getElem?_append_right (Nat.le_add_right L.length k)]
theorem seg_one {ns : List Nd} {a : Nat} {n : Nd} (h : Seg ns a [n]) : a < ns.length ∧ ns.getD a default = n := by
  have := seg_cons (L := []) (R := []) h
  exact ⟨this.1, this.2.1⟩
set_option maxHeartbeats 4000000 in
set_option maxRecDepth 20000 in
theorem cDep (s : Sc) (c cc : Int) (ns : List Nd) : ∀ (d a : Nat) (w : Wd) (l : List En), d ≤ 32 → Seg ns a (growF s c d a w l) → FC Tryz.prog 41 [.agg (⟨s, cc, ns⟩ : Tr).row, .int .i64 (a : Int)] [] (.int .i64 (depthF s c d w l : Int)) []
  | d, a, w, l, hd, hs => by
    have leaf : ∀ {e : Nd}, e.left = -1 → a < ns.length → ns.getD a default = e → FC Tryz.prog 41 [.agg (⟨s, cc, ns⟩ : Tr).row, .int .i64 (a : Int)] [] (.int .i64 1) [] := by
      intro e he ha hx
      have hg := nods_get ha
      rw [hx] at hg
      clear hs hd
      refine FC.of_run mix Tryz.func41 rfl rfl (by simp [Tryz.ntmps41]) ?_
      repeat' first
        | simp (maxSteps := 1000000) only [go_sem, Int.reduceLT, Int.reduceLE, Int.reduceToNat, Int.reduceEq, Nat.reduceMul, ↓reduceIte, Nat.reduceLT, Nat.reduceLeDiff, Nat.reduceEqDiff, Nat.reduceAdd, Nat.reduceSub, Nat.reduceBEq, reduceCtorEq, *, nods_len, Nd.row]
        | contradiction
        | refine wntB_decT (fun _ => ?_) (fun _ => ?_)
        | refine wntB_decF (fun _ => ?_) (fun _ => ?_)
        | refine cndB_dec (fun _ => ?_) (fun _ => ?_)
        | refine drawnB_ok (by kernel_rfl) ?_
        | ((first | refine Fin.q ?_ ?_ | refine Fin.qn ?_ ?_) <;> ((try simp (maxSteps := 1000000) only [go_sem, Int.reduceLT, Int.reduceLE, Int.reduceToNat, Int.reduceEq, Nat.reduceMul, ↓reduceIte, Nat.reduceLT, Nat.reduceLeDiff, Nat.reduceEqDiff, Nat.reduceAdd, Nat.reduceSub, Nat.reduceBEq, reduceCtorEq, *, nods_len, Nd.row]) <;> (skip)))
    rcases d with _ | d
    · obtain ⟨h1, h2⟩ := seg_one (by simpa [growF] using hs)
      exact leaf rfl h1 h2
    · by_cases h : (l.length : Int) ≤ c ∨ fewestF w.b w.b.length < 0
      · rw [growF, if_pos h] at hs
        obtain ⟨h1, h2⟩ := seg_one hs
        rw [depthF, if_pos h]
        exact leaf rfl h1 h2
      · obtain ⟨k1, k2⟩ := not_or.1 h
        obtain ⟨p, hp⟩ : ∃ p : Nat, fewestF w.b w.b.length = p := ⟨(fewestF w.b w.b.length).toNat, by omega⟩
        rw [growF_split k1 hp] at hs
        rw [depthF, if_neg h, hp, Int.toNat_natCast]
        obtain ⟨h1, h2, h3, h4⟩ := seg_cons hs
        have i1 := cDep s c cc ns d _ _ _ (by omega) h3
        have i2 := cDep s c cc ns d _ _ _ (by omega) h4
        have b1 := depthF_le s c d (w.with p 0) (l.filter fun x => decide ((w.with p 0).has s x.w))
        have b2 := depthF_le s c d (w.with p 1) (l.filter fun x => !decide ((w.with p 0).has s x.w))
        generalize growF s c d (a + 1) (w.with p 0) (l.filter fun x => decide ((w.with p 0).has s x.w)) = L at *
        generalize depthF s c d (w.with p 0) (l.filter fun x => decide ((w.with p 0).has s x.w)) = x at *
        generalize depthF s c d (w.with p 1) (l.filter fun x => !decide ((w.with p 0).has s x.w)) = y at *
        have hg := nods_get h1
        rw [h2] at hg
        have kl : ∀ {H : Heap} {slot : Nat} {K : D → List (Nat × Blk) → List (Nat × Blk) → Prop}, K (.int .i64 (x : Int)) [] [] → @callB ⟨callX Tryz.prog⟩ 41 [.agg (⟨s, cc, ns⟩ : Tr).row, .int .i64 ((a + 1 : Nat) : Int)] H slot ⟨K⟩ := fun hK => call0 false i1 rfl rfl (fun h => nomatch h) hK
        have kr : ∀ {H : Heap} {slot : Nat} {K : D → List (Nat × Blk) → List (Nat × Blk) → Prop}, K (.int .i64 (y : Int)) [] [] → @callB ⟨callX Tryz.prog⟩ 41 [.agg (⟨s, cc, ns⟩ : Tr).row, .int .i64 ((a + 1 + L.length : Nat) : Int)] H slot ⟨K⟩ := fun hK => call0 false i2 rfl rfl (fun h => nomatch h) hK
        have hw : IntKind.i64.wrap (1 + if x < y then (y : Int) else (x : Int)) = ((1 + max x y : Nat) : Int) := by
          rw [show (1 + if x < y then (y : Int) else (x : Int)) = ((1 + max x y : Nat) : Int) by split <;> omega, wrapS] <;> omega
        have hn : (((a + 1 : Nat) : Int) < 0) = False := by simp only [eq_iff_iff, iff_false]; omega
        clear hs h3 h4 h k1 k2 hp i1 i2 leaf h2
        refine FC.of_run mix Tryz.func41 rfl rfl (by simp [Tryz.ntmps41]) ?_
        repeat' first
          | simp (maxSteps := 1000000) only [go_sem, Int.reduceLT, Int.reduceLE, Int.reduceToNat, Int.reduceEq, Nat.reduceMul, ↓reduceIte, Nat.reduceLT, Nat.reduceLeDiff, Nat.reduceEqDiff, Nat.reduceAdd, Nat.reduceSub, Nat.reduceBEq, reduceCtorEq, *, nods_len, Nd.row]
          | contradiction
          | refine wntB_decT (fun _ => ?_) (fun _ => ?_)
          | refine wntB_decF (fun _ => ?_) (fun _ => ?_)
          | refine cndB_dec (fun _ => ?_) (fun _ => ?_)
          | refine drawnB_ok (by kernel_rfl) ?_
          | refine kl ?_
          | refine kr ?_
          | ((first | refine Fin.q ?_ ?_ | refine Fin.qn ?_ ?_) <;> ((try simp (maxSteps := 1000000) only [go_sem, Int.reduceLT, Int.reduceLE, Int.reduceToNat, Int.reduceEq, Nat.reduceMul, ↓reduceIte, Nat.reduceLT, Nat.reduceLeDiff, Nat.reduceEqDiff, Nat.reduceAdd, Nat.reduceSub, Nat.reduceBEq, reduceCtorEq, *, nods_len, Nd.row]) <;> (skip)))
theorem kChk {s : Sc} {c : Int} {l : List En} {H : Heap} {slot : Nat} {K : D → List (Nat × Blk) → List (Nat × Blk) → Prop} (h : ofE s c l = 0) (h64 : l.length ≤ 64) (hK : K (.int .i64 0) [] []) : @callB ⟨callX Tryz.prog⟩ 33 [.agg (ofT s c l).row] H slot ⟨K⟩ := call0 false (cChk s c l h h64) rfl rfl (fun h => nomatch h) hK
set_option maxHeartbeats 4000000 in
set_option maxRecDepth 20000 in
theorem cDepth (s : Sc) (c : Int) (l : List En) (h : ofE s c l = 0) (h64 : l.length ≤ 64) : FC Tryz.prog 16 [.agg (ofT s c l).row] [] (.int .i64 (depthF s c 32 (rootW s) l : Int)) [] := by
  obtain ⟨_, _, _, h4⟩ := ofT_ok h
  have kC : ∀ {H : Heap} {slot : Nat} {K : D → List (Nat × Blk) → List (Nat × Blk) → Prop}, K (.int .i64 0) [] [] → @callB ⟨callX Tryz.prog⟩ 33 [.agg (ofT s c l).row] H slot ⟨K⟩ := fun hK => kChk h h64 hK
  have hd := cDep s c c (growF s c 32 0 (rootW s) l) 32 0 (rootW s) l (by omega) ⟨by omega, fun k hk => by rw [Nat.zero_add]⟩
  rw [h4] at kC ⊢
  generalize growF s c 32 0 (rootW s) l = ns at *
  generalize depthF s c 32 (rootW s) l = x at *
  have kl : ∀ {H : Heap} {slot : Nat} {K : D → List (Nat × Blk) → List (Nat × Blk) → Prop}, K (.int .i64 (x : Int)) [] [] → @callB ⟨callX Tryz.prog⟩ 41 [.agg (⟨s, c, ns⟩ : Tr).row, .int .i64 0] H slot ⟨K⟩ := fun hK => call0 false hd rfl rfl (fun h => nomatch h) hK
  clear hd h4 h
  refine FC.of_run mix Tryz.func16 rfl rfl (by simp [Tryz.ntmps16]) ?_
  repeat' first
    | simp (maxSteps := 1000000) only [go_sem, Int.reduceLT, Int.reduceLE, Int.reduceToNat, Int.reduceEq, Nat.reduceMul, ↓reduceIte, Nat.reduceLT, Nat.reduceLeDiff, Nat.reduceEqDiff, Nat.reduceAdd, Nat.reduceSub, Nat.reduceBEq, reduceCtorEq, *]
    | contradiction
    | refine wntB_decT (fun _ => ?_) (fun _ => ?_)
    | refine wntB_decF (fun _ => ?_) (fun _ => ?_)
    | refine cndB_dec (fun _ => ?_) (fun _ => ?_)
    | refine drawnB_ok (by kernel_rfl) ?_
    | refine kC ?_
    | refine kl ?_
    | ((first | refine Fin.q ?_ ?_ | refine Fin.qn ?_ ?_) <;> ((try simp (maxSteps := 1000000) only [go_sem, Int.reduceLT, Int.reduceLE, Int.reduceToNat, Int.reduceEq, Nat.reduceMul, ↓reduceIte, Nat.reduceLT, Nat.reduceLeDiff, Nat.reduceEqDiff, Nat.reduceAdd, Nat.reduceSub, Nat.reduceBEq, reduceCtorEq, *]) <;> (skip)))
theorem kDepth {s : Sc} {c : Int} {l : List En} {H : Heap} {slot : Nat} {K : D → List (Nat × Blk) → List (Nat × Blk) → Prop} (h : ofE s c l = 0) (h64 : l.length ≤ 64) (hK : K (.int .i64 (depthF s c 32 (rootW s) l : Int)) [] []) : @callB ⟨callX Tryz.prog⟩ 16 [.agg (ofT s c l).row] H slot ⟨K⟩ := call0 false (cDepth s c l h h64) rfl rfl (fun h => nomatch h) hK
/-- A tree is no deeper than the bits that are left. -/
theorem depthF_bits (s : Sc) (c : Int) : ∀ (d : Nat) (w : Wd) (k p : Nat) (l : List En), Bal s w k p → k ≤ 4 → depthF s c d w l ≤ 1 + (w.b.length * (4 - k) - p)
  | 0, w, k, p, l, _, _ => by simp [depthF]
  | d + 1, w, k, p, l, hB, hk4 => by
    by_cases h : (l.length : Int) ≤ c ∨ fewestF w.b w.b.length < 0
    · rw [depthF, if_pos h]; omega
    · by_cases hk : k = 4
      · subst hk
        have hf : fewestF w.b w.b.length < 0 := by
          rw [bal_full (fun q hq => ?_) _ (Nat.le_refl _)]
          · decide
          · by_cases hq2 : p ≤ q
            · have := hB.hi q hq2 hq; simpa using this
            · have h1 := hB.lo q (by omega)
              have h2 := hB.ok.2.2.2 q hq
              unfold bitOK at h2
              omega
        exact absurd (.inr hf) h
      · have hk' : k < 4 := by omega
        have hp := hB.hp
        have hf : fewestF w.b w.b.length = (p : Int) := by
          rw [bal_fewest hk' hB.lo hB.hi _ (Nat.le_refl _), if_pos hp]
        have hlen : ∀ b, (w.with p b).b.length = w.b.length := fun b => by simp [Wd.with]
        have hmul : w.b.length * (4 - k) = w.b.length * (4 - (k + 1)) + w.b.length := by
          rw [show 4 - k = (4 - (k + 1)) + 1 by omega, Nat.mul_add, Nat.mul_one]
        have rcs : ∀ (b : Int) (l' : List En), 0 ≤ b → b ≤ 1 → depthF s c d (w.with p b) l' ≤ w.b.length * (4 - k) - p := by
          intro b l' h0 h1
          have := bal_with hB hk' h0 h1
          split at this
          · have := depthF_bits s c d _ k (p + 1) l' this hk4
            rw [hlen] at this
            omega
          · have := depthF_bits s c d _ (k + 1) 0 l' this (by omega)
            rw [hlen] at this
            omega
        rw [depthF, if_neg h, hf, Int.toNat_natCast]
        have r0 := rcs 0 (l.filter fun x => decide ((w.with p 0).has s x.w)) (by omega) (by omega)
        have r1 := rcs 1 (l.filter fun x => !decide ((w.with p 0).has s x.w)) (by omega) (by omega)
        omega
theorem depthF_root {s : Sc} (hs : s.ok) (c : Int) (l : List En) : (depthF s c 32 (rootW s) l : Int) ≤ 1 + s.pcs * 4 := by
  have l1 := len8 (root_ok hs)
  have h1 := hs.1.2.2.2.1
  have := depthF_bits s c 32 (rootW s) 0 0 l ⟨root_ok hs, by omega, fun q hq => by omega, fun q _ hq => (root_zero hq).1⟩ (by omega)
  omega
end TR

/- tree.New; the tree that awake begins with. -/
open Go Go.Proofs Go.AH
set_option linter.unusedSimpArgs false
set_option linter.unusedVariables false
namespace TR
set_option maxHeartbeats 2000000 in
set_option maxRecDepth 20000 in
theorem cTNew (s : Sc) (c : Int)  : FC Tryz.prog 22 [.agg s.row, .int .i64 c] [] (.tup [.agg (ofT s c []).row, .int .i64 (ofE s c [])]) [] := by
  refine FC.of_run mix Tryz.func22 rfl rfl (by simp [Tryz.ntmps22]) ?_
  have kO : ∀ {H : Heap} {slot : Nat} {K : D → List (Nat × Blk) → List (Nat × Blk) → Prop}, K (.tup [.agg (ofT s c []).row, .int .i64 (ofE s c [])]) [] [] → @callB ⟨callX Tryz.prog⟩ 15 [.agg s.row, .int .i64 c, .zs] H slot ⟨K⟩ := fun hK => call0 (args' := [.agg s.row, .int .i64 c, .vs (ents [])]) false (cOf s c [] (by simp)) rfl rfl (fun h => nomatch h) hK
  repeat' first
    | simp (maxSteps := 1000000) only [go_sem, Int.reduceLT, Int.reduceLE, Int.reduceToNat, Int.reduceEq, Nat.reduceMul, ↓reduceIte, Nat.reduceLT, Nat.reduceLeDiff, Nat.reduceEqDiff, Nat.reduceAdd, Nat.reduceSub, Nat.reduceBEq, reduceCtorEq, *]
    | contradiction
    | refine wntB_decT (fun _ => ?_) (fun _ => ?_)
    | refine wntB_decF (fun _ => ?_) (fun _ => ?_)
    | refine cndB_dec (fun _ => ?_) (fun _ => ?_)
    | refine drawnB_ok (by kernel_rfl) ?_
    | refine kO ?_
    | ((first | refine Fin.q ?_ ?_ | refine Fin.qn ?_ ?_) <;> ((try simp (maxSteps := 1000000) only [go_sem, Int.reduceLT, Int.reduceLE, Int.reduceToNat, Int.reduceEq, Nat.reduceMul, ↓reduceIte, Nat.reduceLT, Nat.reduceLeDiff, Nat.reduceEqDiff, Nat.reduceAdd, Nat.reduceSub, Nat.reduceBEq, reduceCtorEq, *]) <;> (skip)))
set_option maxRecDepth 20000 in
theorem kcTNew {s : Sc} {c : Int} {H : Heap} {slot : Nat} {K : D → List (Nat × Blk) → List (Nat × Blk) → Prop} (hK : K (.tup [.agg (ofT s c []).row, .int .i64 (ofE s c [])]) [] []) : @callB ⟨callX Tryz.prog⟩ 22 [.agg s.row, .int .i64 c] H slot ⟨K⟩ := by
  have he0 : rdOf H (D.idsL [.agg s.row, .int .i64 c]) = [] := by simp (maxSteps := 1000000) only [go_sem, Int.reduceLT, Int.reduceLE, Int.reduceToNat, Int.reduceEq, Nat.reduceMul, ↓reduceIte, Nat.reduceLT, Nat.reduceLeDiff, Nat.reduceEqDiff, Nat.reduceAdd, Nat.reduceSub, Nat.reduceBEq, reduceCtorEq]
  refine call0 false (cTNew s c ) ?_ ?_ (fun h => nomatch h) (by rw [he0]; exact hK)
  iterate 2 (· simp (maxSteps := 1000000) only [go_sem, Int.reduceLT, Int.reduceLE, Int.reduceToNat, Int.reduceEq, Nat.reduceMul, ↓reduceIte, Nat.reduceLT, Nat.reduceLeDiff, Nat.reduceEqDiff, Nat.reduceAdd, Nat.reduceSub, Nat.reduceBEq, reduceCtorEq])
def s0 : Sc := ⟨1, 0, 0, 2, 1, [-3, -2, -1, 0, 1, 2, 3, 4]⟩
theorem growF_leaf {s : Sc} {c : Int} {d a : Nat} {w : Wd} {l : List En} (h : (l.length : Int) ≤ c) : growF s c (d + 1) a w l = [⟨w, 0, -1, -1, l⟩] := by rw [growF, if_pos (.inl h)]
theorem s0_ok : s0.ok := by
  refine ⟨⟨by unfold mOK s0; decide, by decide, by decide, by decide, by decide, by decide, by decide⟩, ?_⟩
  unfold cutsOK s0
  decide
theorem ofE0 : ofE s0 2 [] = 0 := by
  have h : sorted s0 [] := fun i hi => by simp at hi
  unfold ofE
  rw [if_pos (emE_0.2 ⟨s0_ok, by decide, by decide⟩), if_neg (by decide), if_pos h]
theorem ofT0 : ofT s0 2 [] = ⟨s0, 2, [⟨⟨[0], [0]⟩, 0, -1, -1, []⟩]⟩ := by
  rw [(ofT_ok ofE0).2.2.2, growF_leaf (d := 31) (by simp)]
  rfl
theorem base1 : FC Tryz.prog 22 [.agg [.int .i64 1, .int .i64 0, .int .i64 0, .int .i64 2, .int .i64 1, .vs [[.int .i64 (-3)], [.int .i64 (-2)], [.int .i64 (-1)], [.int .i64 0], [.int .i64 1], [.int .i64 2], [.int .i64 3], [.int .i64 4]]], .int .i64 2] []
    (.tup [.agg [.int .i64 1, .int .i64 0, .int .i64 0, .int .i64 2, .int .i64 1, .vs [[.int .i64 (-3)], [.int .i64 (-2)], [.int .i64 (-1)], [.int .i64 0], [.int .i64 1], [.int .i64 2], [.int .i64 3], [.int .i64 4]], .int .i64 2, .vs [[.vs [[.int .i64 0]], .vs [[.int .i64 0]], .int .i64 0, .int .i64 (-1), .int .i64 (-1), .vs []]]], .int .i64 0]) [] := by
  have := cTNew s0 2
  rw [ofT0, ofE0] at this
  exact this
theorem base2 : FC Tryz.prog 33 [.agg [.int .i64 1, .int .i64 0, .int .i64 0, .int .i64 2, .int .i64 1, .vs [[.int .i64 (-3)], [.int .i64 (-2)], [.int .i64 (-1)], [.int .i64 0], [.int .i64 1], [.int .i64 2], [.int .i64 3], [.int .i64 4]], .int .i64 2, .vs [[.vs [[.int .i64 0]], .vs [[.int .i64 0]], .int .i64 0, .int .i64 (-1), .int .i64 (-1), .vs []]]]] [] (.int .i64 0) [] := by
  have := cChk s0 2 [] ofE0 (by simp)
  rw [ofT0] at this
  exact this
end TR


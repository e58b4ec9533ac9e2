/- The tree walked: part g. -/
import Derived.Test.YtjfgnmicjhjofaaGreatTf
import Derived.Test.YtjfgnmicjhjofaaGreatRows
import Derived.Test.YtjfgnmicjhjofaaGreatAhRow
import Derived.Test.YtjfgnmicjhjofaaGreatAhRowV
import Derived.WalkKit
import Derived.ProofKit
import Derived.OpenShut
import Derived.Carry
import Derived.ChangeArms
/- TreeDepth. -/
open Go Go.Proofs Go.AH
set_option linter.unusedSimpArgs false
set_option linter.unusedVariables false
namespace TR
theorem kLength {L : List Int} {a q : Nat} {H : Heap} (hH : hget H q = some [[V L, .int .i64 a]]) {slot : Nat} {K : D → List (Nat × Blk) → List (Nat × Blk) → Prop} (hK : K (.int .i64 (2 + dv L a 5)) [(q, [[V L, .int .i64 (da L a 5)]])] [(q, [[V L, .int .i64 a]]), (q, [[V L, .int .i64 a]])]) (hL : L.length ≤ 1000 := by assumption) (ha : a ≤ 1000 := by first | assumption | (repeat' first | assumption | apply da_le)) : @callB ⟨callX Tryz.prog⟩ 12 [.ptr q 1 0 0] H slot ⟨K⟩ := by
  have e : rdOf H ([q] ++ D.idsL [.ptr q 1 0 0]) = [(q, [[V L, .int .i64 a]]), (q, [[V L, .int .i64 a]])] := by simp [D.idsL, D.ids, rdOf, hH]
  refine callX2 [q] (cLength L a hL ha) (by simp) ?_ ?_ ⟨by simp, by simp⟩ (r' := .int .i64 (2 + dv L a 5)) (outs' := [[[V L, .int .i64 (da L a 5)]]]) rfl ?_ ?_
  · simp [trL, tr, pos]
  · rw [e]; simp [insA, AH.look, trB, pureB, D.isPur]
  · simp [backB, trB, pureB, D.isPur]
  · rw [e]; exact hK
theorem kEnts {L : List Int} {a q : Nat} {s : Sc} {most : Int} {H : Heap} (hH : hget H q = some [[V L, .int .i64 a]]) {slot : Nat} {K : D → List (Nat × Blk) → List (Nat × Blk) → Prop} (hs : s.ok) (hL : L.length ≤ 1000) (ha : a ≤ 1000) (hm : 0 ≤ most) (hm2 : most ≤ 1000) (hK : ∀ (l : List En) (b : Nat), (l.length : Int) ≤ most → b ≤ 1000 → K (.vs (ents l)) [(q, [[V L, .int .i64 b]])] [(q, [[V L, .int .i64 a]]), (q, [[V L, .int .i64 a]])]) : @callB ⟨callX Tryz.prog⟩ 14 [.ptr q 1 0 0, .agg s.row, .int .i64 most] H slot ⟨K⟩ := by
  have e : rdOf H ([q] ++ D.idsL [.ptr q 1 0 0, .agg s.row, .int .i64 most]) = [(q, [[V L, .int .i64 a]]), (q, [[V L, .int .i64 a]])] := by simp [D.idsL, D.ids, rdOf, hH, Sc.row]
  have h1 := hs.1.2.1
  have h2 := hs.1.2.2.2.1
  have hd := dv_lt L a (n := most + 1) (by omega)
  obtain ⟨m, hm'⟩ : ∃ m : Nat, s.len = m := ⟨s.len.toNat, by omega⟩
  obtain ⟨n, hn'⟩ : ∃ n : Nat, s.pcs = n := ⟨s.pcs.toNat, by omega⟩
  obtain ⟨c, hc'⟩ : ∃ c : Nat, dv L a (most + 1) = c := ⟨(dv L a (most + 1)).toNat, by omega⟩
  have hf := cEnts L a s m n c most hs hm' hn' hL ha hm hm2 hc'
  have hb := enA_le L m n (da L a (most + 1)) (da_le _ _ _ ha hL) hL c
  have hl : ((rangeE (enE L s m n (da L a (most + 1)) c) c).length : Int) ≤ most := by rw [rangeE_len]; omega
  have hk := hK _ _ hl hb
  generalize rangeE (enE L s m n (da L a (most + 1)) c) c = x at *
  generalize enA L m n (da L a (most + 1)) c = y at *
  refine callX2 [q] hf (by simp) ?_ ?_ ⟨by simp, by simp⟩ (r' := .vs (ents x)) (outs' := [[[V L, .int .i64 y]]]) rfl ?_ ?_
  · simp [trL, tr, pos, Sc.row]
  · rw [e]; simp [insA, AH.look, trB, pureB, D.isPur]
  · simp [backB, trB, pureB, D.isPur]
  · rw [e]; exact hk
theorem leafs_snoc {ns : List Nd} {i : Nat} (h : i < ns.length) : leafs (ns.take (i + 1)) = leafs (ns.take i) + (if (ns.getD i default).left = -1 then 1 else 0) := by
  rw [take_snoc default h, leafs_app]
  simp [leafs]
theorem leafs_take (ns : List Nd) (i : Nat) : leafs (ns.take i) ≤ i := by
  induction i with
  | zero => simp [leafs]
  | succ i ih =>
    by_cases h : i < ns.length
    · rw [leafs_snoc h]; split <;> omega
    · rw [List.take_of_length_le (by omega)] at ih ⊢; omega
set_option maxHeartbeats 8000000 in
set_option maxRecDepth 20000 in
theorem cDLaw (h9 : FC Tryz.prog 9 [] [] (.bool true) []) (L : List Int) (b1 b2 : Nat) (hb1 : b1 ≤ 255) (hb2 : b2 ≤ 255) : FC Tryz.prog 3 [V L, .int .u8 b1, .int .u8 b2] [] (.bool true) [] := by
  have kAw : ∀ {H : Heap} {slot : Nat} {K : D → List (Nat × Blk) → List (Nat × Blk) → Prop}, K (.bool true) [] [] → @callB ⟨callX Tryz.prog⟩ 9 [] H slot ⟨K⟩ := fun hK => call0 true h9 rfl rfl (fun _ => rfl) hK
  clear h9
  by_cases hF : L.length ≤ 400
  · have hL : L.length ≤ 1000 := by omega
    have d0 := dv_lt L 0 (n := 5) (by decide)
    have a0 : da L 0 5 ≤ 1000 := da_le _ _ _ (by omega) hL
    obtain ⟨len, hlen⟩ : ∃ len, 2 + dv L 0 5 = len := ⟨_, rfl⟩
    obtain ⟨p, hp⟩ : ∃ p, preS L (da L 0 5) len = p := ⟨_, rfl⟩
    have hpo := pre_ok L (da L 0 5) len (by omega) hL a0
    rw [hp] at hpo
    have hso := scOf_ok (L := L) hpo (by omega) (by omega)
    have hap := posC_le L p.step p.a hpo.ha hL p.cnt.toNat
    have hl2 : 2 ≤ len := by omega
    have hl32 : len ≤ 32 := by omega
    have kS : ∀ {q : Nat} {H : Heap} (hH : hget H q = some [[V L, .int .i64 (da L 0 5)]]) {slot : Nat} {K : D → List (Nat × Blk) → List (Nat × Blk) → Prop}, K (.agg (scOf L p len).row) [(q, [[V L, .int .i64 (posC L p.step p.a p.cnt.toNat)]])] [(q, [[V L, .int .i64 (da L 0 5)]]), (q, [[V L, .int .i64 (da L 0 5)]])] → @callB ⟨callX Tryz.prog⟩ 11 [.ptr q 1 0 0, .int .i64 len] H slot ⟨K⟩ := fun hH _ _ hK => kSch hH p hp hK hL a0 hl2 hl32
    generalize scOf L p len = s at *
    generalize posC L p.step p.a p.cnt.toNat = a at *
    clear hp hpo
    refine FC.of_run mix Tryz.func3 rfl rfl (by simp [Tryz.ntmps3]) ?_
    repeat' first
      | simp (maxSteps := 1000000) only [go_sem, Int.reduceLT, Int.reduceLE, Int.reduceToNat, Int.reduceEq, Nat.reduceMul, ↓reduceIte, Nat.reduceLT, Nat.reduceLeDiff, Nat.reduceEqDiff, Nat.reduceAdd, Nat.reduceSub, Nat.reduceBEq, reduceCtorEq, *]
      | contradiction
      | refine wntB_decT (fun _ => ?_) (fun _ => ?_)
      | refine wntB_decF (fun _ => ?_) (fun _ => ?_)
      | refine cndB_dec (fun _ => ?_) (fun _ => ?_)
      | refine drawnB_ok (by kernel_rfl) ?_
      | refine kcFew ?_
      | refine kNew ?_
      | refine (kLength (a := 0) rfl (ha := Nat.zero_le 1000)) ?_
      | refine (kS rfl) ?_
      | ((first | refine Fin.q ?_ ?_ | refine Fin.qn ?_ ?_) <;> ((try simp (maxSteps := 1000000) only [go_sem, Int.reduceLT, Int.reduceLE, Int.reduceToNat, Int.reduceEq, Nat.reduceMul, ↓reduceIte, Nat.reduceLT, Nat.reduceLeDiff, Nat.reduceEqDiff, Nat.reduceAdd, Nat.reduceSub, Nat.reduceBEq, reduceCtorEq, *]) <;> (skip)))
    refine kEnts (s := s) rfl hso hL hap (by decide) (by decide) fun l b hl hb => ?_
    have hl40 : l.length ≤ 40 := by omega
    have hx1 := srtO_sorted s l
    have hx2 := srtO_len s l
    have hl2000 : l.length ≤ 2000 := by omega
    have kR : ∀ {H : Heap} {slot : Nat} {K : D → List (Nat × Blk) → List (Nat × Blk) → Prop}, K (.vs (ents (srtO s l))) [] [] → @callB ⟨callX Tryz.prog⟩ 13 [.agg s.row, .vs (ents l)] H slot ⟨K⟩ := fun hK => kcSrt hK hso hl2000
    generalize srtO s l = x at *
    have hx40 : x.length ≤ 40 := by omega
    clear hx2 hl hF hb hlen
    have u0 : IntKind.i64.wrap (b1 : Int) = (b1 : Int) := by rw [wrapS] <;> omega
    have u1 : IntKind.i64.wrap (b2 : Int) = (b2 : Int) := by rw [wrapS] <;> omega
    have t1 : ((b1 : Int)).tmod 5 = ((b1 % 5 : Nat) : Int) := rfl
    have t2 : ((b2 : Int)).tmod 5 = ((b2 % 5 : Nat) : Int) := rfl
    obtain ⟨e1, he1⟩ : ∃ e : Nat, b1 % 5 = e := ⟨_, rfl⟩
    obtain ⟨e2, he2⟩ : ∃ e : Nat, b2 % 5 = e := ⟨_, rfl⟩
    rw [he1] at t1
    rw [he2] at t2
    have w1 : IntKind.i64.wrap (e1 : Int) = (e1 : Int) := by rw [wrapS] <;> omega
    have w2 : IntKind.i64.wrap (e2 : Int) = (e2 : Int) := by rw [wrapS] <;> omega
    obtain ⟨c1, hc1⟩ : ∃ c, 1 + (e1 : Int) = c := ⟨_, rfl⟩
    obtain ⟨c2, hc2⟩ : ∃ c, c1 + (e2 : Int) = c := ⟨_, rfl⟩
    have w3 : IntKind.i64.wrap c1 = c1 := by rw [wrapS] <;> omega
    have w4 : IntKind.i64.wrap c2 = c2 := by rw [wrapS] <;> omega
    have h0 : ∀ c, 1 ≤ c → c ≤ 64 → ofE s c x = 0 := fun c h1 h2 => by
      unfold ofE; rw [if_pos (emE_0.2 ⟨hso, h1, h2⟩), if_neg (by omega), if_pos hx1]
    have o1 := h0 c1 (by omega) (by omega)
    have o2 := h0 c2 (by omega) (by omega)
    have hx15 : x.length < 1000000000000000 := by omega
    have hx64 : x.length ≤ 64 := by omega
    have kO1 : ∀ {H : Heap} {slot : Nat} {K : D → List (Nat × Blk) → List (Nat × Blk) → Prop}, K (.tup [.agg (ofT s c1 x).row, .int .i64 0]) [] [] → @callB ⟨callX Tryz.prog⟩ 15 [.agg s.row, .int .i64 c1, .vs (ents x)] H slot ⟨K⟩ := fun hK => kcOf (by rw [o1]; exact hK) hx15
    have kO2 : ∀ {H : Heap} {slot : Nat} {K : D → List (Nat × Blk) → List (Nat × Blk) → Prop}, K (.tup [.agg (ofT s c2 x).row, .int .i64 0]) [] [] → @callB ⟨callX Tryz.prog⟩ 15 [.agg s.row, .int .i64 c2, .vs (ents x)] H slot ⟨K⟩ := fun hK => kcOf (by rw [o2]; exact hK) hx15
    have kD1 : ∀ {H : Heap} {slot : Nat} {K : D → List (Nat × Blk) → List (Nat × Blk) → Prop}, K (.int .i64 (depthF s c1 32 (rootW s) x : Int)) [] [] → @callB ⟨callX Tryz.prog⟩ 16 [.agg (ofT s c1 x).row] H slot ⟨K⟩ := fun hK => kDepth o1 hx64 hK
    have kD2 : ∀ {H : Heap} {slot : Nat} {K : D → List (Nat × Blk) → List (Nat × Blk) → Prop}, K (.int .i64 (depthF s c2 32 (rootW s) x : Int)) [] [] → @callB ⟨callX Tryz.prog⟩ 16 [.agg (ofT s c2 x).row] H slot ⟨K⟩ := fun hK => kDepth o2 hx64 hK
    have g1 := growF_size s c1 32 0 (rootW s) x
    have g2 := growF_size s c2 32 0 (rootW s) x
    have g3 := sizeF_mono s (c := c1) (c' := c2) (by omega) 32 (rootW s) x
    have g4 := depthF_mono s (c := c1) (c' := c2) (by omega) 32 (rootW s) x
    have g5 := depthF_le s c1 32 (rootW s) x
    have g6 := depthF_root hso c1 x
    have g7 := growF_len s c1 (by omega) 32 0 (rootW s) x
    have r1 : (ofT s c1 x).ns = growF s c1 32 0 (rootW s) x := by rw [(ofT_ok o1).2.2.2]
    have r2 : (ofT s c2 x).ns = growF s c2 32 0 (rootW s) x := by rw [(ofT_ok o2).2.2.2]
    rw [← r1] at g1 g7
    rw [← r2] at g2
    generalize sizeF s c1 32 (rootW s) x = n1 at *
    generalize sizeF s c2 32 (rootW s) x = n2 at *
    generalize depthF s c1 32 (rootW s) x = d1 at *
    generalize depthF s c2 32 (rootW s) x = d2 at *
    clear r1 r2 o1 o2 h0
    generalize ofT s c1 x = y1 at *
    generalize ofT s c2 x = y2 at *
    have hpc := hso.1.2.2.2.2.1
    have hpc1 := hso.1.2.2.2.1
    have u5 : (Tryz.prog.underlying 5).isSome = true := by kernel_rfl
    repeat' first
      | simp (maxSteps := 1000000) only [go_sem, Int.reduceLT, Int.reduceLE, Int.reduceToNat, Int.reduceEq, Nat.reduceMul, ↓reduceIte, Nat.reduceLT, Nat.reduceLeDiff, Nat.reduceEqDiff, Nat.reduceAdd, Nat.reduceSub, Nat.reduceBEq, reduceCtorEq, *]
      | contradiction
      | refine wntB_decT (fun _ => ?_) (fun _ => ?_)
      | refine wntB_decF (fun _ => ?_) (fun _ => ?_)
      | refine cndB_dec (fun _ => ?_) (fun _ => ?_)
      | refine drawnB_ok (by kernel_rfl) ?_
      | refine kR ?_
      | refine kO1 ?_
      | refine kO2 ?_
      | ((first | refine Fin.q ?_ ?_ | refine Fin.qn ?_ ?_) <;> ((try simp (maxSteps := 1000000) only [go_sem, Int.reduceLT, Int.reduceLE, Int.reduceToNat, Int.reduceEq, Nat.reduceMul, ↓reduceIte, Nat.reduceLT, Nat.reduceLeDiff, Nat.reduceEqDiff, Nat.reduceAdd, Nat.reduceSub, Nat.reduceBEq, reduceCtorEq, *]) <;> (skip)))
    have g8 := leafs_take y1.ns
    have hbig : y1.ns.length ≤ 10000 := by omega
    clear kS kR kO1 kO2 hx1 u0 u1 t1 t2 he1 he2 w1 w2 w3 w4 hc1 hc2 hso d0 a0 hap hl40 hl2000 hx40 hx15 hx64 g7
    refine AW.loopx (σ := Nat) mix (fun i => ⟨120, [(16, .int .i64 i), (15, .int .i64 (leafs (y1.ns.take i) : Nat)), (14, .int .i64 0), (13, .ptr 51 1 0 0), (12, .int .i64 0), (11, .ptr 38 1 0 0), (8, .ptr 25 1 0 0), (7, .ptr 0 1 0 0), (6, .bool false)], [some [[V L, .int .i64 b]], none, none, none, none, none, none, none, none, none, none, none, none, none, none, none, none, none, none, none, none, none, none, none, none, some [s.row], none, none, none, none, none, none, none, none, none, none, none, none, some [y1.row], none, none, none, none, none, none, none, none, none, none, none, none, some [y2.row]]⟩) (fun i => i ≤ y1.ns.length) (fun i => y1.ns.length - i) 0 (Nat.zero_le _) (Conv.mk ?_ ?_ ?_ ?_ ?_) ?_
    iterate 5 (· (simp (maxSteps := 1000000) only [go_sem, Int.reduceLT, Int.reduceLE, Int.reduceToNat, Int.reduceEq, Nat.reduceMul, ↓reduceIte, Nat.reduceLT, Nat.reduceLeDiff, Nat.reduceEqDiff, Nat.reduceAdd, Nat.reduceSub, Nat.reduceBEq, reduceCtorEq, List.take_zero, leafs]) <;> (first | rfl | (simp [ints]; done) | (simp [*]; done) | ((repeat' (first | rfl | apply And.intro)); done)))
    intro i hi
    have hv := wrap1 (i := i) (by omega)
    have hlf := g8 i
    by_cases h : i < y1.ns.length
    · have hx := nods_get h
      have hs := leafs_snoc h
      have hv2 := wrap1 (i := leafs (y1.ns.take i)) (by omega)
      clear kD1 kD2 g8 kAw g1 g2 g3 g4 g5 g6 hpc hpc1 hb1 hb2 hl2 hl32
      by_cases h1 : (y1.ns.getD i default).left = -1
      · rw [if_pos h1] at hs
        rw [← hs] at hv2
        clear hs
        repeat' first
          | (refine ⟨i + 1, ?_, ?_, Conv.mk ?_ ?_ ?_ ?_ ?_⟩; (· (first | omega | (simp only; omega) | (simp only [List.length_nil, List.length_cons]; omega))); (· (omega)); (all_goals simp (maxSteps := 1000000) only [go_sem, Int.reduceLT, Int.reduceLE, Int.reduceToNat, Int.reduceEq, Nat.reduceMul, ↓reduceIte, Nat.reduceLT, Nat.reduceLeDiff, Nat.reduceEqDiff, Nat.reduceAdd, Nat.reduceSub, Nat.reduceBEq, reduceCtorEq, *, Nd.row, nods_len]); done)
          | simp (maxSteps := 1000000) only [go_sem, Int.reduceLT, Int.reduceLE, Int.reduceToNat, Int.reduceEq, Nat.reduceMul, ↓reduceIte, Nat.reduceLT, Nat.reduceLeDiff, Nat.reduceEqDiff, Nat.reduceAdd, Nat.reduceSub, Nat.reduceBEq, reduceCtorEq, *, Nd.row, nods_len]
          | contradiction
          | refine wntB_decT (fun _ => ?_) (fun _ => ?_)
          | refine wntB_decF (fun _ => ?_) (fun _ => ?_)
          | refine cndB_dec (fun _ => ?_) (fun _ => ?_)
          | refine drawnB_ok (by kernel_rfl) ?_
          | ((first | refine Fin.q ?_ ?_ | refine Fin.qn ?_ ?_) <;> ((try simp (maxSteps := 1000000) only [go_sem, Int.reduceLT, Int.reduceLE, Int.reduceToNat, Int.reduceEq, Nat.reduceMul, ↓reduceIte, Nat.reduceLT, Nat.reduceLeDiff, Nat.reduceEqDiff, Nat.reduceAdd, Nat.reduceSub, Nat.reduceBEq, reduceCtorEq, *, Nd.row, nods_len]) <;> (skip)))
      · rw [if_neg h1] at hs
        replace hs : leafs (y1.ns.take (i + 1)) = leafs (y1.ns.take i) := hs
        repeat' first
          | (refine ⟨i + 1, ?_, ?_, Conv.mk ?_ ?_ ?_ ?_ ?_⟩; (· (first | omega | (simp only; omega) | (simp only [List.length_nil, List.length_cons]; omega))); (· (omega)); (all_goals simp (maxSteps := 1000000) only [go_sem, Int.reduceLT, Int.reduceLE, Int.reduceToNat, Int.reduceEq, Nat.reduceMul, ↓reduceIte, Nat.reduceLT, Nat.reduceLeDiff, Nat.reduceEqDiff, Nat.reduceAdd, Nat.reduceSub, Nat.reduceBEq, reduceCtorEq, *, Nd.row, nods_len]); done)
          | simp (maxSteps := 1000000) only [go_sem, Int.reduceLT, Int.reduceLE, Int.reduceToNat, Int.reduceEq, Nat.reduceMul, ↓reduceIte, Nat.reduceLT, Nat.reduceLeDiff, Nat.reduceEqDiff, Nat.reduceAdd, Nat.reduceSub, Nat.reduceBEq, reduceCtorEq, *, Nd.row, nods_len]
          | contradiction
          | refine wntB_decT (fun _ => ?_) (fun _ => ?_)
          | refine wntB_decF (fun _ => ?_) (fun _ => ?_)
          | refine cndB_dec (fun _ => ?_) (fun _ => ?_)
          | refine drawnB_ok (by kernel_rfl) ?_
          | ((first | refine Fin.q ?_ ?_ | refine Fin.qn ?_ ?_) <;> ((try simp (maxSteps := 1000000) only [go_sem, Int.reduceLT, Int.reduceLE, Int.reduceToNat, Int.reduceEq, Nat.reduceMul, ↓reduceIte, Nat.reduceLT, Nat.reduceLeDiff, Nat.reduceEqDiff, Nat.reduceAdd, Nat.reduceSub, Nat.reduceBEq, reduceCtorEq, *, Nd.row, nods_len]) <;> (skip)))
    · have hz : y1.ns.take i = y1.ns := List.take_of_length_le (by omega)
      rw [hz] at hlf ⊢
      have hlt : ((i : Int) < (y1.ns.length : Int)) = False := by simp only [eq_iff_iff, iff_false]; omega
      obtain ⟨F, hF⟩ : ∃ F, leafs y1.ns = F := ⟨_, rfl⟩
      rw [hF] at hlf g1 ⊢
      have q1 : ((d1 : Int) ≥ 1) = True := by simp only [eq_iff_iff, iff_true]; omega
      have q2 : IntKind.i64.wrap (s.pcs * 4) = s.pcs * 4 := by rw [wrapS] <;> omega
      have q3 : IntKind.i64.wrap (1 + s.pcs * 4) = 1 + s.pcs * 4 := by rw [wrapS] <;> omega
      have q4 : ((d1 : Int) ≤ 1 + s.pcs * 4) = True := by simp only [eq_iff_iff, iff_true]; omega
      have q5 : ((d2 : Int) ≤ (d1 : Int)) = True := by simp only [eq_iff_iff, iff_true]; omega
      have q6 : ((y2.ns.length : Int) ≤ (y1.ns.length : Int)) = True := by simp only [eq_iff_iff, iff_true]; omega
      have q6' : (y2.ns.length ≤ y1.ns.length) = True := by simp only [eq_iff_iff, iff_true]; omega
      have q5' : (d2 ≤ d1) = True := by simp only [eq_iff_iff, iff_true]; omega
      have q7 : IntKind.i64.wrap (2 * (F : Int)) = 2 * (F : Int) := by rw [wrapS] <;> omega
      have q8 : IntKind.i64.wrap (2 * (F : Int) - 1) = 2 * (F : Int) - 1 := by rw [wrapS] <;> omega
      have q9 : ((y1.ns.length : Int) = 2 * (F : Int) - 1) = True := by simp only [eq_iff_iff, iff_true]; omega
      clear hz h hi hv hlf g1 g2 g3 g4 g5 g6 g8 hF hbig hpc hpc1 hb1 hb2
      repeat' first
        | simp (maxSteps := 1000000) only [go_sem, Int.reduceLT, Int.reduceLE, Int.reduceToNat, Int.reduceEq, Nat.reduceMul, ↓reduceIte, Nat.reduceLT, Nat.reduceLeDiff, Nat.reduceEqDiff, Nat.reduceAdd, Nat.reduceSub, Nat.reduceBEq, reduceCtorEq, *, nods_len]
        | contradiction
        | refine wntB_decT (fun _ => ?_) (fun _ => ?_)
        | refine wntB_decF (fun _ => ?_) (fun _ => ?_)
        | refine cndB_dec (fun _ => ?_) (fun _ => ?_)
        | refine drawnB_ok (by kernel_rfl) ?_
        | refine kD1 ?_
        | refine kD2 ?_
        | refine kAw ?_
        | ((first | refine Fin.q ?_ ?_ | refine Fin.qn ?_ ?_) <;> ((try simp (maxSteps := 1000000) only [go_sem, Int.reduceLT, Int.reduceLE, Int.reduceToNat, Int.reduceEq, Nat.reduceMul, ↓reduceIte, Nat.reduceLT, Nat.reduceLeDiff, Nat.reduceEqDiff, Nat.reduceAdd, Nat.reduceSub, Nat.reduceBEq, reduceCtorEq, *, nods_len]) <;> (skip)))
  · have hF2 : ¬ L.length ≤ 400 := hF
    refine FC.of_run mix Tryz.func3 rfl rfl (by simp [Tryz.ntmps3]) ?_
    repeat' first
      | simp (maxSteps := 1000000) only [go_sem, Int.reduceLT, Int.reduceLE, Int.reduceToNat, Int.reduceEq, Nat.reduceMul, ↓reduceIte, Nat.reduceLT, Nat.reduceLeDiff, Nat.reduceEqDiff, Nat.reduceAdd, Nat.reduceSub, Nat.reduceBEq, reduceCtorEq, *]
      | contradiction
      | refine wntB_decT (fun _ => ?_) (fun _ => ?_)
      | refine wntB_decF (fun _ => ?_) (fun _ => ?_)
      | refine cndB_dec (fun _ => ?_) (fun _ => ?_)
      | refine drawnB_ok (by kernel_rfl) ?_
      | refine kcFew ?_
      | refine kAw ?_
      | ((first | refine Fin.q ?_ ?_ | refine Fin.qn ?_ ?_) <;> ((try simp (maxSteps := 1000000) only [go_sem, Int.reduceLT, Int.reduceLE, Int.reduceToNat, Int.reduceEq, Nat.reduceMul, ↓reduceIte, Nat.reduceLT, Nat.reduceLeDiff, Nat.reduceEqDiff, Nat.reduceAdd, Nat.reduceSub, Nat.reduceBEq, reduceCtorEq, *]) <;> (skip)))
end TR

/- The row of TreeDepth. -/
open Go Go.Proofs Go.Proofs.YtjfgnmicjhjofaaGreat Go.AH Go.ChangeShapes Go.WideShapes Go.ChangeAt Go.RowKit
set_option linter.unusedVariables false
namespace TR
theorem own : ownKnob Tryz.prog.godebug = none := by kernel_rfl
theorem laidOut : laidOutB Tryz.prog = true := by kernel_rfl
theorem uq4 : Tryz.prog.underlying 4 = some .bool := by kernel_rfl
theorem uq5 : Tryz.prog.underlying 5 = some (.int .u8) := by kernel_rfl
theorem uq22 : Tryz.prog.underlying 22 = some (.slice 3) := by kernel_rfl
theorem fq3 : flatI Tryz.prog 5 3 = some 1 := by kernel_rfl
theorem cq3 : Tryz.prog.cellsOf 3 = 1 := by kernel_rfl
theorem ones_rows : ∀ (rows : List (List Int)), (∀ r, r ∈ rows → r.length = 1) → ∃ L : List Int, (rows.map fun r => r.map (D.int .i64)) = ints L
  | [], _ => ⟨[], rfl⟩
  | r :: rs, h => by
    obtain ⟨L, h2⟩ := ones_rows rs (fun s hs => h s (by simp [hs]))
    have := h r (by simp)
    match r, this with
    | [a], _ => exact ⟨a :: L, by simp only [List.map_cons, h2]; rfl⟩
/-- A list of numbers that is handed in. -/
theorem in_ints {H : Type} {enc : TypeId × Value → H} {w : World} {spare : Nat → Bool} {held : Bool} {m : Nat} {v : Value} {x : DataW H × List MemPlace} (h : DataW.trod enc Tryz.prog w 0 spare held m 22 [v] = some x) : ∃ L : List Int, RelE (fun _ => True) (fun _ => none) w (V L) v := by
  obtain ⟨rows, _, h2, h3⟩ := slice_trod 5 uq22 fq3 cq3 (by decide) h
  obtain ⟨L, hL⟩ := ones_rows rows h2
  rw [hL] at h3
  exact ⟨L, h3⟩
theorem in_u8 {H : Type} {enc : TypeId × Value → H} {w : World} {spare : Nat → Bool} {held : Bool} {m : Nat} {v : Value} {x : DataW H × List MemPlace} (h : DataW.trod enc Tryz.prog w 0 spare held m 5 [v] = some x) : ∃ n : Nat, n ≤ 255 ∧ v = .int .u8 (n : Int) := by
  obtain ⟨n, h1, _, h3⟩ := DataW.trod_int uq5 h
  simp only [List.cons.injEq, and_true] at h1
  obtain ⟨h4, h5⟩ : IntKind.min .u8 ≤ n ∧ n ≤ IntKind.max .u8 := by simpa [Lit.wf] using h3
  have h4' : (0 : Int) ≤ n := h4
  have h5' : n ≤ (255 : Int) := h5
  exact ⟨n.toNat, by omega, by rw [h1, Int.toNat_of_nonneg h4']⟩
set_option maxRecDepth 100000 in
theorem lifted (h9 : FC Tryz.prog 9 [] [] (.bool true) []) (os : Os) (started : os.Started) (H : Type) (enc : TypeId × Value → H) :
    ReturnsInHanded {} Tryz.checked os 3 .any (Rows.treeDepthSpec.pre6 enc Tryz.prog Tryz.f3 Rows.treeDepthRow.domain false) (Rows.treeDepthSpec.post enc Tryz.prog Tryz.f3 false true false false) := by
  refine returnsInHanded_of_change (C := Tryz.checked) own started (by kernel_rfl) Tryz.func3
    (ChangeSpec.witness6 (enc := enc) (C := Tryz.checked) false ⟨#[], #[.slice none 0 0, .int .u8 0, .int .u8 0], []⟩ 8 (by kernel_rfl) (by kernel_rfl) (by kernel_rfl) (by kernel_rfl)) ?_
  intro W base args ds gs before hval0 hW hcnd _
  have hval : ∀ (j : Nat) t v, Tryz.f3.params[j]? = some t → args[j]? = some v → Value.okWide Tryz.prog W .any base t v := hval0
  have hW' := hW
  obtain ⟨p, q, hA0, hV, rfl, hfz, hnd⟩ := hW
  have hA : DataW.TrodAll enc Tryz.prog W 0 (fun _ => true) true Tryz.f3.params.toList args.toList ds p := hA0
  rw [Tryz.params3] at hA hval
  obtain ⟨v0, vs0, d0, ds0, p0, q0, hargs, rfl, rfl, h0, r0⟩ := trodAll_cons hA
  obtain ⟨v1, vs1, d1, ds1, p1, q1, rfl, rfl, rfl, h1, r1⟩ := trodAll_cons r0
  obtain ⟨v2, vs2, d2, ds2, p2, q2, rfl, rfl, rfl, h2, r2⟩ := trodAll_cons r1
  obtain ⟨rfl, rfl, rfl⟩ := trodAll_nil r2
  obtain rfl : args = #[v0, v1, v2] := by cases args; simp_all
  obtain ⟨rfl, rfl⟩ := trodVars_none hV
  have k0 := h0
  have k1 := h1
  have k2 := h2
  have lt0 : ∀ x ∈ p0, x.block < W.heap.size := by obtain ⟨m, hm⟩ := k0; exact DataW.trod_lt m _ _ _ hm
  have lt1 : ∀ x ∈ p1, x.block < W.heap.size := by obtain ⟨m, hm⟩ := k1; exact DataW.trod_lt m _ _ _ hm
  have lt2 : ∀ x ∈ p2, x.block < W.heap.size := by obtain ⟨m, hm⟩ := k2; exact DataW.trod_lt m _ _ _ hm
  obtain ⟨sa, sl, sc, rfl⟩ := okWide_slice uq22 (hval 0 22 v0 rfl rfl)
  obtain ⟨n1, rfl⟩ := okWide_int uq5 (hval 1 5 v1 rfl rfl)
  obtain ⟨n2, rfl⟩ := okWide_int uq5 (hval 2 5 v2 rfl rfl)
  obtain ⟨fuel0, hf0⟩ := h0
  obtain ⟨fuel1, hf1⟩ := h1
  obtain ⟨fuel2, hf2⟩ := h2
  obtain ⟨L, hrel⟩ := in_ints hf0
  obtain ⟨b1, hb1, e1⟩ := in_u8 hf1
  obtain ⟨b2, hb2, e2⟩ := in_u8 hf2
  cases e1
  cases e2
  clear hA0 hval0
  refine (law_below (cDLaw h9 L b1 b2 hb1 hb2) (vs := #[.slice sa sl sc, .int .u8 (b1 : Int), .int .u8 (b2 : Int)]) ⟨rfl, fun i x v hx hv => ?_⟩).mono fun e' W' ⟨he, bel⟩ => ?_
  · match i, hx, hv with
    | 0, hx, hv => cases hx; cases hv; exact hrel
    | 1, hx, hv => cases hx; cases hv; exact .pur _ _ (.int _ _)
    | 2, hx, hv => cases hx; cases hv; exact .pur _ _ (.int _ _)
    | i + 3, hx, hv => cases hx
  subst he
  exact ⟨_, rfl, _, _, _, [], _, [], hW', trodAll_mk1 (shut_bool uq4 _), (trodAll_cons_mk (Below.trod laidOut (by kernel_rfl) (of_decide_eq_true (by kernel_rfl)) k0 bel lt0) (trodAll_cons_mk (Below.trod laidOut (by kernel_rfl) (of_decide_eq_true (by kernel_rfl)) k1 bel lt1) (trodAll_cons_mk (Below.trod laidOut (by kernel_rfl) (of_decide_eq_true (by kernel_rfl)) k2 bel lt2) trodAll_mk0))), rfl, bel.frame _, fun h => by cases h⟩
set_option maxRecDepth 100000 in
theorem over (h9 : FC Tryz.prog 9 [] [] (.bool true) []) : Rows.treeDepthRow.holds Tryz.pinned (OpenSpec.ofChange Rows.treeDepthSpec) :=
  OpenClaim.holds_of_wide 3 Tryz.f3 rfl rfl rfl rfl rfl rfl rfl ⟨rfl, rfl, rfl, rfl, rfl⟩ rfl rfl rfl rfl rfl (by kernel_rfl) Tryz.func3 (by kernel_rfl)
    (of_decide_eq_true (by kernel_rfl)) (by unfold Func.isWrapper; first | (rw [if_pos (by decide +kernel)]; kernel_rfl) | (rw [if_neg (by decide +kernel)]; exact ⟨rfl, rfl⟩))
    (fun os started H enc _ => lifted h9 os started H enc)
end TR


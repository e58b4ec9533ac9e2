/- Words for walking a body by simp: what is opened, loops with a named state, forgetting. -/
import Derived.Test.YtmhkanhgmfolhaaGreatAhR
set_option linter.unusedSimpArgs false
set_option linter.unusedVariables false
namespace Go.AH

def subH : Heap → Heap → Prop
  | [], _ => True
  | x :: xs, y :: ys => (x = none ∨ x = y) ∧ subH xs ys
  | x :: xs, [] => x = none ∧ subH xs []

theorem subH_get : ∀ {A B : Heap}, subH A B → ∀ b rows, hget A b = some rows → hget B b = some rows
  | [], B, _, b, rows, h => by simp [hget] at h
  | x :: xs, y :: ys, hs, b, rows, h => by
    obtain ⟨h1, h2⟩ := hs
    cases b with
    | zero =>
      simp [hget] at h ⊢
      rcases h1 with rfl | rfl
      · simp at h
      · exact h
    | succ b => simpa [hget] using subH_get h2 b rows (by simpa [hget] using h)
  | x :: xs, [], hs, b, rows, h => by
    obtain ⟨h1, h2⟩ := hs
    subst h1
    cases b with
    | zero => simp [hget] at h
    | succ b =>
      have := subH_get h2 b rows (by simpa [hget] using h)
      simp [hget] at this

def sameH : Nat → Heap → Heap → Prop
  | 0, _, _ => True
  | k + 1, A, B => hget A k = hget B k ∧ sameH k A B

theorem sameH_get : ∀ {k : Nat} {A B : Heap}, sameH k A B → ∀ b, b < k → hget A b = hget B b
  | 0, A, B, _, b, h => by omega
  | k + 1, A, B, hs, b, h => by
    by_cases e : b = k
    · subst e; exact hs.1
    · exact sameH_get hs.2 b (by omega)

def closedH (ok : Nat → Bool) (H : Heap) : Bool := H.all fun
  | some rows => rows.all (D.refsL ok)
  | none => true

/-- Forget, in a form that simp can check. -/
theorem Conv.mk {k n : Nat} {tm tm' : List (Nat × D)} {H H' : Heap} (h1 : ∀ p, p ∈ tm' → lk tm p.1 = p.2) (h2 : (tm'.all fun p => p.2.refs (okH H')) = true) (h3 : subH H' H) (h4 : sameH k H' H) (h5 : closedH (okH H') H' = true) : Conv k ⟨n, tm, H⟩ ⟨n, tm', H'⟩ := by
  refine Conv.drop rfl h1 (fun p hp => by rw [List.all_eq_true] at h2; exact h2 p hp) (subH_get h3) (fun b hb => sameH_get h4 b hb) ?_
  intro b rows hg r hr
  unfold closedH at h5
  rw [List.all_eq_true] at h5
  have hm : some rows ∈ H' := by
    simp only [hget] at hg
    cases hb : H'[b]? with
    | none => rw [hb] at hg; cases hg
    | some o =>
      rw [hb] at hg
      have : o = some rows := by simpa using hg
      subst this
      exact List.mem_of_getElem? hb
  have := h5 _ hm
  simp only [List.all_eq_true] at this
  exact this r hr

/-- A loop whose states have names. -/
theorem AW.loopx {P : Program} {rr : Bool} {k : Nat} {c : Code} {Q : Exit → St → Prop} {s : St} {σ : Type} (hmix : P.follows .mixedOrders = true) (inv : σ → St) (I : σ → Prop) (μ : σ → Nat) (x0 : σ) (h0 : I x0) (hc : Conv k s (inv x0))
    (round : ∀ x, I x → run P rr (callX P) k c (nxt (fun s1 => ∃ y, μ y < μ x ∧ I y ∧ Conv k s1 (inv y)) Q) (mark (inv x))) : AW P rr k (.loop c) Q s := by
  refine AW.conv hc ?_
  refine AW.loop (I := fun n s => ∃ x, μ x = n ∧ I x ∧ s = inv x) ?_ ⟨x0, rfl, h0, rfl⟩
  rintro n s1 ⟨x, rfl, hx, rfl⟩
  refine (AW.of_run (callX_sound P) hmix (round x hx)).mono ?_
  intro e s2 hq
  cases e with
  | normal =>
    obtain ⟨y, h1, h2, h3⟩ := hq
    exact ⟨μ y, inv y, h1, h3, y, rfl, h2, rfl⟩
  | _ => exact hq

/-- What a return asks. -/
theorem Fin.ret {P : Program} {fn : Func} {k : Nat} {r : D} {outs : List Blk} {s : St} (l : List D) (Y : List Nat) (nn : Bool) (h1 : resA P s fn.results.toList = some l) (h2 : Y.Nodup) (h3 : ∀ y, y ∈ Y → k ≤ y)
    (h4 : tr (expo k Y) true false nn (hget s.H) (oneA l) = some r) (h5 : outsA (expo k Y) true nn s.H (List.range k ++ Y) = some outs) : Fin P fn k r outs .ret s := ⟨.inr rfl, l, Y, nn, h1, h2, h3, h4, h5⟩

theorem call0 {P : Program} {f : FuncId} {vals : List D} {H : Heap} {slot : Nat} {K : D → List (Nat × Blk) → List (Nat × Blk) → Prop} {args' : List D} {r r' : D} (tn : Bool) (hf : FC P f args' [] r []) (ha : trL (pos []) tn true true (look (rdOf H (D.idsL vals))) vals = some args')
    (hr : tr (fun i => (slotsOf slot)[i]?) false false false (fun _ => none) r = some r') (ht : tn = true → r'.flat = true) (hK : K r' [] (rdOf H (D.idsL vals))) : callX P f vals H slot K :=
  .inl ⟨[], tn, true, args', [], r, r', [], [], by simp, ha, rfl, hf, by simp, hr, rfl, fun h => ⟨ht h, by simp⟩, hK⟩

/-- What simp is not to look into. -/
class Box (α : Type) where
  val : α

def bndB (x : Option (D × List (Nat × Blk) × List (Nat × Blk))) [K : Box (D → List (Nat × Blk) → List (Nat × Blk) → Prop)] : Prop := bnd x K.val
def wntB (x : Option Bool) [F : Box (Unit → Prop)] [T : Box (Unit → Prop)] : Prop := wnt x F.val T.val
def cndB (d : D) [T : Box (Unit → Prop)] [F : Box (Unit → Prop)] : Prop := cnd d T.val F.val
def brbB (b : Bool) [T : Box (Unit → Prop)] [F : Box (Unit → Prop)] : Prop := brb b T.val F.val
def brCB (c : Option (Operand × Array Operand)) [T : Box (Operand → Array Operand → Prop)] [F : Box (Unit → Prop)] : Prop := brC c T.val F.val
def callVB (P : Program) (m : Option String) (d : D) [T : Box (FuncId → List D → List D → Prop)] : Prop := callV P m d T.val
def drawnB [ops : Box (Array Oper)] (fs : List Foot) [T : Box (Unit → Prop)] : Prop := drawn ops.val fs T.val
def callB [C : Box CallP] (f : FuncId) (vals : List D) (H : Heap) (slot : Nat) [K : Box (D → List (Nat × Blk) → List (Nat × Blk) → Prop)] : Prop := C.val f vals H slot K.val
def awB (P : Program) (rr : Bool) (k : Nat) [c : Box Code] [Q : Box (Exit → St → Prop)] (s : St) : Prop := AW P rr k c.val Q.val s
def runB (P : Program) (rr : Bool) [C : Box CallP] (k : Nat) [c : Box Code] [Q : Box (Exit → St → Prop)] (s : St) : Prop := run P rr C.val k c.val Q.val s

section
variable (d : D) (wr rd : List (Nat × Blk)) (K : Box (D → List (Nat × Blk) → List (Nat × Blk) → Prop)) (T F : Box (Unit → Prop)) (x : Operand) (a : Array Operand) (f : FuncId) (caps : List D)
theorem bndB_some : @bndB (some (d, wr, rd)) K = K.val d wr rd := _root_.id rfl
theorem wntB_false : @wntB (some false) F T = F.val () := _root_.id rfl
theorem wntB_true : @wntB (some true) F T = T.val () := _root_.id rfl
theorem cndB_true : @cndB (.bool true) T F = T.val () := by simp [cndB, cnd]
theorem cndB_false : @cndB (.bool false) T F = F.val () := by simp [cndB, cnd]
theorem brbB_true : @brbB true T F = T.val () := _root_.id rfl
theorem brbB_false : @brbB false T F = F.val () := _root_.id rfl
theorem brCB_some (T : Box (Operand → Array Operand → Prop)) : @brCB (some (x, a)) T F = T.val x a := _root_.id rfl
theorem brCB_none (T : Box (Operand → Array Operand → Prop)) : @brCB none T F = F.val () := _root_.id rfl
theorem callVB_fn (P : Program) (T : Box (FuncId → List D → List D → Prop)) : @callVB P none (.fn f caps) T = T.val f [] caps := _root_.id rfl
theorem callVB_mv (P : Program) (T : Box (FuncId → List D → List D → Prop)) : @callVB P none (.mv f caps) T = T.val f caps [] := _root_.id rfl
end

theorem cndB_split {b : Bool} {T F : Unit → Prop} (h1 : b = true → T ()) (h2 : b = false → F ()) : @cndB (.bool b) ⟨T⟩ ⟨F⟩ := ⟨h1, h2⟩
theorem cndB_dec {p : Prop} [Decidable p] {T F : Unit → Prop} (h1 : p → T ()) (h2 : ¬ p → F ()) : @cndB (.bool (decide p)) ⟨T⟩ ⟨F⟩ := ⟨fun h => h1 (of_decide_eq_true h), fun h => h2 (of_decide_eq_false h)⟩

theorem wntB_split {b : Bool} {T F : Unit → Prop} (h1 : b = true → T ()) (h2 : b = false → F ()) : @wntB (some b) ⟨F⟩ ⟨T⟩ := by
  cases b
  · exact h2 rfl
  · exact h1 rfl
theorem wntB_decT {p : Prop} [Decidable p] {T F : Unit → Prop} (h1 : p → T ()) (h2 : ¬ p → F ()) : @wntB (some (decide p == true)) ⟨F⟩ ⟨T⟩ :=
  wntB_split (fun h => h1 (of_decide_eq_true (by simpa using h))) (fun h => h2 (of_decide_eq_false (by simpa using h)))
theorem wntB_decF {p : Prop} [Decidable p] {T F : Unit → Prop} (h1 : ¬ p → T ()) (h2 : p → F ()) : @wntB (some (decide p == false)) ⟨F⟩ ⟨T⟩ :=
  wntB_split (fun h => h1 (of_decide_eq_false (by simpa using h))) (fun h => h2 (of_decide_eq_true (by simpa using h)))
section
variable (P : Program) (rr : Bool) (C : CallP) (k : Nat) (Q : Exit → St → Prop) (s : St)
theorem run_B (c : Code) : run P rr C k c Q s = @runB P rr ⟨C⟩ k ⟨c⟩ ⟨Q⟩ (mark s) := _root_.id rfl
theorem run_skip : run P rr C k .skip Q s = Q .normal (mark s) := _root_.id rfl
theorem run_regT (id : Nat) (ops : Array Oper) : run P rr C k (.region id ops true) Q s = runD P C ops ops.toList (mark s.H.length) (mark s) [] (fun s1 fs => @drawnB ⟨ops⟩ (mark fs) ⟨fun _ => Q .normal (mark s1)⟩) := _root_.id rfl
theorem run_regF (id : Nat) (ops : Array Oper) : run P rr C k (.region id ops false) Q s = runOps P C ops ops.toList (mark s.H.length) (mark s) (fun s1 => Q .normal (mark s1)) := _root_.id rfl
theorem run_seq (x y : Code) : run P rr C k (.seq x y) Q s = run P rr C k x (nxt (run P rr C k y Q) Q) (mark s) := _root_.id rfl
theorem run_cond (c : Operand) (x y : Code) : run P rr C k (.cond c x y) Q s = @cndB (mark (s.ev c)) ⟨fun _ => run P rr C k x Q (mark s)⟩ ⟨fun _ => run P rr C k y Q (mark s)⟩ := _root_.id rfl
theorem run_block (id : Nat) (x : Code) : run P rr C k (.block id x) Q s = run P rr C k x (inBlk id Q) (mark s) := _root_.id rfl
theorem run_exit (id : Nat) : run P rr C k (.exit id) Q s = Q (.exit id) (mark s) := _root_.id rfl
theorem run_ret : run P rr C k .ret Q s = Q .ret (mark s) := _root_.id rfl
theorem run_loop (x : Code) : run P rr C k (.loop x) Q s = @awB P rr k ⟨.loop x⟩ ⟨Q⟩ (mark s) := _root_.id rfl
theorem run_rangeFunc (g : Operand) (ps : Array Tmp) (x y : Code) : run P rr C k (.rangeFunc g ps x y) Q s = @awB P rr k ⟨.rangeFunc g ps x y⟩ ⟨Q⟩ (mark s) := _root_.id rfl
theorem nxt_normal (K : St → Prop) : nxt K Q .normal s = K (mark s) := _root_.id rfl
theorem nxt_exit (K : St → Prop) (id : Nat) : nxt K Q (.exit id) s = Q (.exit id) (mark s) := _root_.id rfl
theorem nxt_ret (K : St → Prop) : nxt K Q .ret s = Q .ret (mark s) := _root_.id rfl
theorem inBlk_normal (id : Nat) : inBlk id Q .normal s = Q .normal (mark s) := _root_.id rfl
theorem inBlk_exit (id id' : Nat) : inBlk id Q (.exit id') s = @brbB (mark (id' == id)) ⟨fun _ => Q .normal (mark s)⟩ ⟨fun _ => Q (.exit id') (mark s)⟩ := _root_.id rfl
theorem inBlk_ret (id : Nat) : inBlk id Q .ret s = Q .ret (mark s) := _root_.id rfl
theorem runOps_nil (ops : Array Oper) (slot : Nat) (K : St → Prop) : runOps P C ops [] slot s K = K (mark s) := _root_.id rfl
theorem runOps_cons (ops : Array Oper) (slot : Nat) (K : St → Prop) (o : Oper) (rest : List Oper) : runOps P C ops (o :: rest) slot s K = @wntB (mark (wantedA ops o s))
    ⟨fun _ => runOps P C ops rest (mark (slot + nslots o.op)) (mark (s.put o.dst (.tup []))) K⟩
    ⟨fun _ => opRun P C o (mark s) slot fun d wr _ => runOps P C ops rest (mark (slot + nslots o.op)) (mark (s.after o.dst d wr)) K⟩ := _root_.id rfl
theorem runD_nil (ops : Array Oper) (slot : Nat) (acc : List Foot) (K : St → List Foot → Prop) : runD P C ops [] slot s acc K = K (mark s) (mark acc.reverse) := _root_.id rfl
theorem runD_cons (ops : Array Oper) (slot : Nat) (acc : List Foot) (K : St → List Foot → Prop) (o : Oper) (rest : List Oper) : runD P C ops (o :: rest) slot s acc K = @wntB (mark (wantedA ops o s))
    ⟨fun _ => runD P C ops rest (mark (slot + nslots o.op)) (mark (s.after o.dst (.tup []) [])) (mark (([], []) :: acc)) K⟩
    ⟨fun _ => opRun P C o (mark s) slot fun d wr rd => runD P C ops rest (mark (slot + nslots o.op)) (mark (s.after o.dst d wr)) (mark ((rd.map (·.1), wr.map (·.1)) :: acc)) K⟩ := _root_.id rfl
theorem opRun_eq (o : Oper) (slot : Nat) (K : D → List (Nat × Blk) → List (Nat × Blk) → Prop) : opRun P C o s slot K = @brCB (mark (callOf o.op)) ⟨fun x args => @callVB P (invOf o.op) (mark (s.ev x)) ⟨fun f fs caps => @callB ⟨C⟩ f (mark (fs ++ (args.toList.map s.ev ++ caps))) (mark s.H) (mark slot) ⟨K⟩⟩⟩
    ⟨fun _ => @bndB (mark (aop P o s.ev (hget s.H) slot)) ⟨K⟩⟩ := _root_.id rfl
end

attribute [congr] run_congr runOps_congr runD_congr opRun_congr nxt_congr inBlk_congr Fin_congr Conv_congr
attribute [go_sem] mark_eq bndB_some wntB_true wntB_false cndB_true cndB_false brbB_true brbB_false brCB_some brCB_none callVB_fn callVB_mv run_skip run_regT run_regF run_seq run_cond run_block run_exit run_ret run_loop run_rangeFunc nxt_normal nxt_exit nxt_ret inBlk_normal inBlk_exit inBlk_ret runOps_nil runOps_cons runD_nil runD_cons opRun_eq
attribute [go_sem] wantedA callOf invOf aop St.ev St.get lk St.after St.put enum hput hset hget abox aalloc cellsOf Option.map nslots allocs ofConst ofCell List.foldl List.length List.map List.replicate List.append Array.toList
  afieldAddr afield aload aread astore splice abuiltin alen aindexAddr aindex abin aint ashift aun aconv aextract abuild fillA Places.at abuildSlice fillR aslice abnd srcRows aappend acopy amake afold resA oneA tr trL trB trRow outsA expo pos okH subH sameH closedH D.refs D.refsL
  soft softF D.isPur pureB D.ids D.idsL rdOf look eqInts apnil insA backB D.flat D.flatL flatB
  Nat.zero_add Nat.add_zero if_true if_false Bool.false_eq_true List.getElem?_cons_zero List.getElem?_cons_succ List.nil_append List.cons_append List.append_nil List.drop_succ_cons List.drop_zero List.take_succ_cons List.take_zero Option.join_some
  List.length_cons List.length_nil List.set_cons_zero List.set_cons_succ Nat.not_lt_zero List.forall_mem_cons List.all_cons List.all_nil Bool.and_true Bool.true_and List.not_mem_nil false_imp_iff implies_true and_true true_and
  decide_eq_true_eq decide_eq_false_iff_not Option.isSome_some Bool.and_eq_true Option.getD_some Option.getD_none Nat.sub_self or_false false_or or_true true_or List.mem_cons forall_eq_or_imp forall_eq

end Go.AH

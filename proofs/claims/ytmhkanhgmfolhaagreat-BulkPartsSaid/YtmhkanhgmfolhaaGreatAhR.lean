/- Code as a function on abstract states: `run`; it is sound. -/
import Derived.Test.YtmhkanhgmfolhaaGreatAhQ
set_option linter.unusedSimpArgs false
set_option linter.unusedVariables false
namespace Go.AH
variable {rr : Bool}

/-- A test: `T` where it holds, `F` where it does not. -/
def cnd (d : D) (T F : Unit → Prop) : Prop :=
  match d with
  | .bool b => (b = true → T ()) ∧ (b = false → F ())
  | .ub => T () ∧ F ()
  | _ => False

theorem cnd_true (T F : Unit → Prop) : cnd (.bool true) T F = T () := by simp [cnd]
theorem cnd_false (T F : Unit → Prop) : cnd (.bool false) T F = F () := by simp [cnd]
theorem cnd_congr {d d' : D} {T F : Unit → Prop} (h : d = d') : cnd d T F = cnd d' T F := by rw [h]
theorem cnd_split {b : Bool} {T F : Unit → Prop} (h1 : b = true → T ()) (h2 : b = false → F ()) : cnd (.bool b) T F := ⟨h1, h2⟩
theorem cnd_dec {p : Prop} [Decidable p] {T F : Unit → Prop} (h1 : p → T ()) (h2 : ¬ p → F ()) : cnd (.bool (decide p)) T F := ⟨fun h => h1 (of_decide_eq_true h), fun h => h2 (of_decide_eq_false h)⟩
theorem AW_congr {P : Program} {k : Nat} {c : Code} {Q : Exit → St → Prop} {s s' : St} (h : s = s') : AW P rr k c Q s = AW P rr k c Q s' := by rw [h]

/-- Behind a region whose order is open. -/
def drawn (ops : Array Oper) (fs : List Foot) (T : Unit → Prop) : Prop := drawOK ops fs = true ∧ T ()
theorem drawn_congr {ops : Array Oper} {fs fs' : List Foot} {T : Unit → Prop} (h : fs = fs') : drawn ops fs T = drawn ops fs' T := by rw [h]

def run (P : Program) (rr : Bool) (C : CallP) (k : Nat) : Code → (Exit → St → Prop) → St → Prop
  | .skip, Q, s => Q .normal (mark s)
  | .region _ ops true, Q, s => runD P C ops ops.toList s.H.length (mark s) [] (fun s1 fs => drawn ops fs fun _ => Q .normal (mark s1))
  | .region _ ops false, Q, s => runOps P C ops ops.toList s.H.length (mark s) (fun s1 => Q .normal (mark s1))
  | .seq x y, Q, s => run P rr C k x (nxt (run P rr C k y Q) Q) (mark s)
  | .cond c x y, Q, s => cnd (s.ev c) (fun _ => run P rr C k x Q (mark s)) (fun _ => run P rr C k y Q (mark s))
  | .block id x, Q, s => run P rr C k x (inBlk id Q) (mark s)
  | .exit id, Q, s => Q (.exit id) (mark s)
  | .ret, Q, s => Q .ret (mark s)
  | .loop x, Q, s => AW P rr k (.loop x) Q (mark s)
  | .rangeFunc g ps x y, Q, s => AW P rr k (.rangeFunc g ps x y) Q (mark s)
  | _, _, _ => False

theorem AW.of_run {P : Program} {C : CallP} (hC : C.Sound P) (hmix : P.follows .mixedOrders = true) {k : Nat} : ∀ {c : Code} {Q : Exit → St → Prop} {s : St}, run P rr C k c Q s → AW P rr k c Q s
  | .skip, Q, s, h => AW.skip h
  | .region id ops true, Q, s, h => AW.draw hC hmix h
  | .region id ops false, Q, s, h => AW.region hC h
  | .seq x y, Q, s, h => by
    simp only [run] at h
    refine AW.seq ((AW.of_run hC hmix h).mono ?_)
    intro e s1 hq
    cases e with
    | normal => exact AW.of_run hC hmix hq
    | _ => exact hq
  | .cond c x y, Q, s, h => by
    simp only [run, cnd] at h
    split at h
    · rename_i b hb
      exact AW.cond hb (fun e => AW.of_run hC hmix (h.1 e)) (fun e => AW.of_run hC hmix (h.2 e))
    · rename_i hb
      exact AW.condU hb (AW.of_run hC hmix h.1) (AW.of_run hC hmix h.2)
    · exact h.elim
  | .block id x, Q, s, h => by
    simp only [run] at h
    exact AW.block (AW.of_run hC hmix h)
  | .exit id, Q, s, h => AW.exit h
  | .ret, Q, s, h => AW.ret h
  | .loop x, Q, s, h => h
  | .rangeFunc _ _ _ _, Q, s, h => h
  | .scope _, Q, s, h => by simp [run] at h
  | .label _, Q, s, h => by simp [run] at h
  | .goto _, Q, s, h => by simp [run] at h
  | .refuse _, Q, s, h => by simp [run] at h

theorem run_congr {P : Program} {C : CallP} {k : Nat} {c : Code} {Q : Exit → St → Prop} {s s' : St} (h : s = s') : run P rr C k c Q s = run P rr C k c Q s' := by rw [h]
theorem runOps_congr {P : Program} {C : CallP} {ops : Array Oper} {l : List Oper} {slot slot' : Nat} {s s' : St} {Q : St → Prop} (h1 : slot = slot') (h : s = s') : runOps P C ops l slot s Q = runOps P C ops l slot' s' Q := by rw [h1, h]
theorem runD_congr {P : Program} {C : CallP} {ops : Array Oper} {l : List Oper} {slot slot' : Nat} {s s' : St} {acc acc' : List Foot} {Q : St → List Foot → Prop} (h1 : slot = slot') (h : s = s') (h2 : acc = acc') : runD P C ops l slot s acc Q = runD P C ops l slot' s' acc' Q := by rw [h1, h, h2]
theorem opRun_congr {P : Program} {C : CallP} {o : Oper} {slot slot' : Nat} {s s' : St} {K : D → List (Nat × Blk) → List (Nat × Blk) → Prop} (h : s = s') (h1 : slot = slot') : opRun P C o s slot K = opRun P C o s' slot' K := by rw [h1, h]
theorem nxt_congr {K : St → Prop} {Q : Exit → St → Prop} {e e' : Exit} {s s' : St} (h1 : e = e') (h : s = s') : nxt K Q e s = nxt K Q e' s' := by rw [h1, h]
theorem inBlk_congr {id : Nat} {Q : Exit → St → Prop} {e e' : Exit} {s s' : St} (h1 : e = e') (h : s = s') : inBlk id Q e s = inBlk id Q e' s' := by rw [h1, h]
theorem callX_congr {P : Program} {f : FuncId} {vals vals' : List D} {H H' : Heap} {slot slot' : Nat} {K : D → List (Nat × Blk) → List (Nat × Blk) → Prop} (h1 : vals = vals') (h2 : H = H') (h3 : slot = slot') : callX P f vals H slot K = callX P f vals' H' slot' K := by rw [h1, h2, h3]
theorem Fin_congr {P : Program} {fn : Func} {k : Nat} {r : D} {outs : List Blk} {e e' : Exit} {s s' : St} (h1 : e = e') (h : s = s') : Fin P fn k r outs e s = Fin P fn k r outs e' s' := by rw [h1, h]
theorem Conv_congr {k : Nat} {s s' t : St} (h : s = s') : Conv k s t = Conv k s' t := by rw [h]

/-- From a run of a body to its contract. -/
theorem FC.of_run {P : Program} (hmix : P.follows .mixedOrders = true) {f : FuncId} {fn : Func} {c : Code} {args : List D} {Hin : List Blk} {r : D} {outs : List Blk} (hf : P.funcs[f]? = some fn) (hname : (fn.name == "runtime.NumGoroutine") = false) (hb : fn.body = some c) (hn : args.length ≤ fn.ntmps)
    (h : run P false (callX P) (mark Hin.length) c (Fin P fn (mark Hin.length) r outs) (mark ⟨fn.ntmps, enum 0 args, Hin.map some⟩)) : FC P f args Hin r outs :=
  FC.of_body hf hname hb hn (AW.of_run (callX_sound P) hmix h)

end Go.AH

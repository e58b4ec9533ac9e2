/- Operations without memory: numbers, comparisons, fields, indices, slices of slices. -/
import Derived.Test.YtmhkanhgmfolhaaGreatAhD
import Derived.Laws.Pointers
set_option linter.unusedVariables false
set_option linter.unusedSimpArgs false
namespace Go.AH

/-! ### Numbers and comparisons -/
def aint (op : BinOp) (k : IntKind) (a b : Int) : Option D :=
  match op with
  | .add => some (.int k (k.wrap (a + b)))
  | .sub => some (.int k (k.wrap (a - b)))
  | .mul => some (.int k (k.wrap (a * b)))
  | .quo => if b = 0 then none else some (.int k (k.wrap (a.tdiv b)))
  | .rem => if b = 0 then none else some (.int k (a.tmod b))
  | .and => some (.int k (k.wrap (BitVec.ofInt k.bits a &&& BitVec.ofInt k.bits b).toNat))
  | .or => some (.int k (k.wrap (BitVec.ofInt k.bits a ||| BitVec.ofInt k.bits b).toNat))
  | .xor => some (.int k (k.wrap (BitVec.ofInt k.bits a ^^^ BitVec.ofInt k.bits b).toNat))
  | .andNot => some (.int k (k.wrap (BitVec.ofInt k.bits a &&& ~~~ BitVec.ofInt k.bits b).toNat))
  | .eql => some (.bool (a == b))
  | .neq => some (.bool (a != b))
  | .lss => some (.bool (decide (a < b)))
  | .leq => some (.bool (decide (a ≤ b)))
  | .gtr => some (.bool (decide (a > b)))
  | .geq => some (.bool (decide (a ≥ b)))
  | _ => none

def ashift (op : BinOp) (k : IntKind) (a b : Int) : Option D :=
  if b < 0 then none else
  match op with
  | .shl => some (.int k (k.wrap (a * 2 ^ (min b.toNat k.bits))))
  | .shr => some (.int k (a.fdiv (2 ^ (min b.toNat k.bits))))
  | _ => none

def intT (P : Program) (t : TypeId) : Option IntKind :=
  match P.underlying t with
  | some (.int k) => some k
  | _ => none
def boolT (P : Program) (t : TypeId) : Bool :=
  match P.underlying t with
  | some .bool => true
  | _ => false
def ptrT (P : Program) (t : TypeId) : Bool :=
  match P.underlying t with
  | some (.pointer _) => true
  | _ => false

def flatF (P : Program) : Nat → List Field → Bool
  | _, [] => true
  | k, f :: fs => decide (f.offset = k) && decide (f.name ≠ "_") && (intT P f.type).isSome && flatF P (k + 1) fs
/-- The number of fields of a struct of whole numbers alone. -/
def flatT (P : Program) (t : TypeId) : Option Nat :=
  match P.underlying t with
  | some (.struct fs) => if P.stoodInHeld t = false ∧ P.eqGuardType P.depth t = false ∧ flatF P 0 fs.toList = true then some fs.size else none
  | _ => none

def eqInts : List D → List D → Option Bool
  | [], [] => some true
  | .int k a :: xs, .int k' b :: ys => if k = k' then (match eqInts xs ys with | some r => some ((a == b) && r) | none => none) else none
  | _, _ => none

def astr (op : BinOp) (a b : ByteArray) : Option D :=
  match op with
  | .eql => some (.bool (a.toList == b.toList))
  | .neq => some (.bool (!(a.toList == b.toList)))
  | .lss => some (.bool (Op.bytesLess a.toList b.toList))
  | .leq => some (.bool (Op.bytesLess a.toList b.toList || a.toList == b.toList))
  | .gtr => some (.bool (!(Op.bytesLess a.toList b.toList || a.toList == b.toList)))
  | .geq => some (.bool (!(Op.bytesLess a.toList b.toList)))
  | .add => if a.size + b.size ≤ 4611686018427387904 then some (.str (a ++ b)) else none
  | _ => none

def apnil (op : BinOp) (r : Bool) : Option D :=
  match op with
  | .eql => some (.bool r)
  | .neq => some (.bool (!r))
  | _ => none

def abin (P : Program) (op : BinOp) (t : TypeId) (x y : D) : Option D :=
  match x, y with
  | .int k a, .int k' b => if op = .shl ∨ op = .shr then ashift op k a b else if k = k' then aint op k a b else none
  | .bool a, .bool b => if boolT P t then (match op with | .eql => some (.bool (a == b)) | .neq => some (.bool (!(a == b))) | _ => none) else none
  | .str a, .str b => astr op a b
  | .agg xs, .agg ys => match flatT P t with
    | some n => if xs.length = n ∧ ys.length = n then (match eqInts xs ys with
        | some r => (match op with | .eql => some (.bool r) | .neq => some (.bool (!r)) | _ => none)
        | none => none) else none
    | none => none
  | .nilp, .nilp => if ptrT P t then apnil op true else none
  | .ptr _ _ _ _, .nilp => if ptrT P t then apnil op false else none
  | .ip _, .nilp => if ptrT P t then apnil op false else none
  | _, _ => none

theorem eqFields_run {P : Program} {O : Nat → Prop} {E : Env} {w : World} (d : Nat) {cs ds : List D} {xs ys : Array Value} (hx : RelCs O E w cs xs) (hy : RelCs O E w ds ys) (fs : List Field) :
    ∀ (k : Nat) (r : Bool), flatF P k fs = true → cs.length = k + fs.length → ds.length = k + fs.length → eqInts (cs.drop k) (ds.drop k) = some r →
      (Op.eqFields (d + 1) xs ys fs).run P w = .ok r w := by
  induction fs with
  | nil =>
    intro k r _ h1 h2 h
    rw [List.drop_eq_nil_of_le (by simp at h1; omega), List.drop_eq_nil_of_le (by simp at h2; omega)] at h
    simp [eqInts] at h
    subst h
    simp [Op.eqFields]
  | cons f fs ih =>
    intro k r hf h1 h2 h
    simp only [List.length_cons] at h1 h2
    simp only [flatF, Bool.and_eq_true, decide_eq_true_eq] at hf
    obtain ⟨⟨⟨hoff, hname⟩, hint⟩, hrest⟩ := hf
    have hk1 : k < cs.length := by omega
    have hk2 : k < ds.length := by omega
    rw [List.drop_eq_getElem_cons hk1, List.drop_eq_getElem_cons hk2] at h
    cases ha : cs[k] <;> cases hb : ds[k] <;> simp only [ha, hb, eqInts] at h <;> try (cases h; done)
    rename_i ka a kb b
    by_cases hk : ka = kb
    · subst hk
      rw [if_pos rfl] at h
      cases hr : eqInts (cs.drop (k + 1)) (ds.drop (k + 1)) with
      | none => simp [hr] at h
      | some r' =>
        simp only [hr] at h
        cases h
        have e1 : xs[k]? = some (.int ka a) := by
          have hlt : k < xs.size := by have := hx.len; omega
          have := hx.rel k (.int ka a) xs[k] (by rw [List.getElem?_eq_getElem hk1, ha]) (Array.getElem?_eq_getElem hlt)
          rw [Array.getElem?_eq_getElem hlt, rel_int this]
        have e2 : ys[k]? = some (.int ka b) := by
          have hlt : k < ys.size := by have := hy.len; omega
          have := hy.rel k (.int ka b) ys[k] (by rw [List.getElem?_eq_getElem hk2, hb]) (Array.getElem?_eq_getElem hlt)
          rw [Array.getElem?_eq_getElem hlt, rel_int this]
        cases hu : P.underlying f.type with
        | none => simp [intT, hu] at hint
        | some dd =>
          cases dd <;> simp [intT, hu] at hint
          rename_i kk
          have hagg : (isAgg f.type).run P w = .ok false w := isAgg_run (by simp [aggT, hu]) w
          have p1 : (part f.type xs f.offset).run P w = .ok (.int ka a) w := by simp [part, hagg, hoff, e1]
          have p2 : (part f.type ys f.offset).run P w = .ok (.int ka b) w := by simp [part, hagg, hoff, e2]
          simp only [Op.eqFields]
          rw [if_pos hname]
          simp only [Sem.run_bind, p1, p2, Result.andThen_ok, run_equalIn_int w d f.type ka kk a b hu]
          cases hab : (a == b) with
          | true => simp [ih (k + 1) r' hrest (by omega) (by omega) hr]
          | false => simp
    · rw [if_neg hk] at h; cases h

theorem eqGuard_flat {P : Program} {w : World} (op : BinOp) (t : TypeId) (x y : Operand) {u v : Value} (h1 : u ≠ .nilIface) (h2 : ∀ c, u ≠ .agg c) : (eqGuard op t x y u v).run P w = .ok () w := by
  have e : eqGuard op t x y u v = (do if !(op matches .eql | .neq) then return
                                      pure ()) := by
    unfold eqGuard
    cases u <;> first
      | rfl
      | exact absurd rfl h1
      | exact absurd rfl (h2 _)
  rw [e]
  cases op <;> rfl

theorem run_aint {P : Program} {O : Nat → Prop} {E : Env} {w : World} {op : BinOp} {t : TypeId} {k : IntKind} {a b : Int} {r : D} (h : aint op k a b = some r) (hs : ¬ (op = .shl ∨ op = .shr)) :
    ∃ z, (binOp op t (.int k a) (.int k b)).run P w = .ok z w ∧ RelE O E w r z := by
  cases op <;> simp only [aint] at h
  case add => cases h; exact ⟨_, by simp only [binOp, ne_eq, not_true_eq_false, if_false]; rfl, mkInt _ _⟩
  case sub => cases h; exact ⟨_, by simp only [binOp, ne_eq, not_true_eq_false, if_false]; rfl, mkInt _ _⟩
  case mul => cases h; exact ⟨_, by simp only [binOp, ne_eq, not_true_eq_false, if_false]; rfl, mkInt _ _⟩
  case quo =>
    by_cases hb : b = 0
    · rw [if_pos hb] at h; cases h
    · rw [if_neg hb] at h; cases h
      exact ⟨_, by simp only [binOp, ne_eq, not_true_eq_false, if_false, Op.intDiv]; rw [if_neg hb]; rfl, mkInt _ _⟩
  case rem =>
    by_cases hb : b = 0
    · rw [if_pos hb] at h; cases h
    · rw [if_neg hb] at h; cases h
      exact ⟨_, by simp only [binOp, ne_eq, not_true_eq_false, if_false, Op.intDiv]; rw [if_neg hb]; rfl, mkInt _ _⟩
  case shl => exact absurd (Or.inl rfl) hs
  case shr => exact absurd (Or.inr rfl) hs
  case and => cases h; exact ⟨_, by simp only [binOp, ne_eq, not_true_eq_false, if_false, Op.intBits]; rfl, mkInt _ _⟩
  case or => cases h; exact ⟨_, by simp only [binOp, ne_eq, not_true_eq_false, if_false, Op.intBits]; rfl, mkInt _ _⟩
  case xor => cases h; exact ⟨_, by simp only [binOp, ne_eq, not_true_eq_false, if_false, Op.intBits]; rfl, mkInt _ _⟩
  case andNot => cases h; exact ⟨_, by simp only [binOp, ne_eq, not_true_eq_false, if_false, Op.intBits]; rfl, mkInt _ _⟩
  case eql => cases h; exact ⟨_, by simp only [binOp, ne_eq, not_true_eq_false, if_false, Op.intCmp]; rfl, mkBool _⟩
  case neq => cases h; exact ⟨_, by simp only [binOp, ne_eq, not_true_eq_false, if_false, Op.intCmp]; rfl, mkBool _⟩
  case lss => cases h; exact ⟨_, by simp only [binOp, ne_eq, not_true_eq_false, if_false, Op.intCmp]; rfl, mkBool _⟩
  case leq => cases h; exact ⟨_, by simp only [binOp, ne_eq, not_true_eq_false, if_false, Op.intCmp]; rfl, mkBool _⟩
  case gtr => cases h; exact ⟨_, by simp only [binOp, ne_eq, not_true_eq_false, if_false, Op.intCmp]; rfl, mkBool _⟩
  case geq => cases h; exact ⟨_, by simp only [binOp, ne_eq, not_true_eq_false, if_false, Op.intCmp]; rfl, mkBool _⟩

theorem run_ashift {P : Program} {O : Nat → Prop} {E : Env} {w : World} {op : BinOp} {t : TypeId} {k k' : IntKind} {a b : Int} {r : D} (h : ashift op k a b = some r) :
    ∃ z, (binOp op t (.int k a) (.int k' b)).run P w = .ok z w ∧ RelE O E w r z := by
  unfold ashift at h
  by_cases hb : b < 0
  · rw [if_pos hb] at h; cases h
  · rw [if_neg hb] at h
    cases op <;> simp only at h <;> try (cases h; done)
    case shl => cases h; exact ⟨_, by simp only [binOp, Op.shift]; rw [if_neg hb]; rfl, mkInt _ _⟩
    case shr => cases h; exact ⟨_, by simp only [binOp, Op.shift]; rw [if_neg hb]; rfl, mkInt _ _⟩

theorem i64_max : IntKind.i64.max = 9223372036854775807 := by rfl

theorem run_astr {P : Program} {O : Nat → Prop} {E : Env} {w : World} {op : BinOp} {t : TypeId} {a b : ByteArray} {r : D} (h : astr op a b = some r) :
    ∃ z, (binOp op t (.string a) (.string b)).run P w = .ok z w ∧ RelE O E w r z := by
  cases op <;> simp only [astr] at h <;> try (cases h; done)
  case add =>
    by_cases hle : a.size + b.size ≤ 4611686018427387904
    · rw [if_pos hle] at h; cases h
      refine ⟨.string (a ++ b), ?_, mkStr _⟩
      simp only [binOp, Op.stringOp]
      rw [if_neg (by rw [i64_max]; omega)]
      rfl
    · rw [if_neg hle] at h; cases h
  case eql => cases h; exact ⟨_, by simp only [binOp, Op.stringOp]; rfl, mkBool _⟩
  case neq => cases h; exact ⟨_, by simp only [binOp, Op.stringOp]; rfl, mkBool _⟩
  case lss => cases h; exact ⟨_, by simp only [binOp, Op.stringOp]; rfl, mkBool _⟩
  case leq => cases h; exact ⟨_, by simp only [binOp, Op.stringOp]; rfl, mkBool _⟩
  case gtr => cases h; exact ⟨_, by simp only [binOp, Op.stringOp]; rfl, mkBool _⟩
  case geq => cases h; exact ⟨_, by simp only [binOp, Op.stringOp]; rfl, mkBool _⟩

theorem abin_run {P : Program} {O : Nat → Prop} {E : Env} {w : World} {op : BinOp} {t : TypeId} {x y r : D} {u v : Value} (ox oy : Operand) (h : abin P op t x y = some r) (hx : RelE O E w x u) (hy : RelE O E w y v) :
    ∃ z, (do eqGuard op t ox oy u v; binOp op t u v : Sem Value).run P w = .ok z w ∧ RelE O E w r z := by
  have nilcase : ∀ (q : Option Addr) (b : Bool), u = .pointer q → v = .pointer none → q.isNone = b → ptrT P t = true → apnil op b = some r →
      ∃ z, (do eqGuard op t ox oy u v; binOp op t u v : Sem Value).run P w = .ok z w ∧ RelE O E w r z := by
    intro q b hu hv hq hp ha
    subst hu hv hq
    have hu : P.underlying t = some (.pointer (P.pointee t)) := by
      unfold ptrT at hp
      split at hp
      · rename_i e hu; simp [Program.pointee, hu]
      · cases hp
    simp only [Sem.run_bind, eqGuard_flat op t ox oy (u := .pointer q) (v := .pointer none) (by simp) (by simp), Result.andThen_ok]
    cases op <;> simp only [apnil] at ha <;> try (cases ha; done)
    · cases ha; exact ⟨_, run_eql_pointer_nil w t q hu, mkBool _⟩
    · cases ha; exact ⟨_, run_neq_pointer_nil w t q hu, mkBool _⟩
  cases x <;> cases y <;> simp only [abin] at h <;> try (cases h; done)
  case int.int k a k' b =>
    have := rel_int hx; subst this
    have := rel_int hy; subst this
    simp only [Sem.run_bind, eqGuard_flat op t ox oy (u := .int k a) (v := .int k' b) (by simp) (by simp), Result.andThen_ok]
    by_cases hs : op = .shl ∨ op = .shr
    · rw [if_pos hs] at h; exact run_ashift h
    · rw [if_neg hs] at h
      by_cases hk : k = k'
      · rw [if_pos hk] at h; subst hk; exact run_aint h hs
      · rw [if_neg hk] at h; cases h
  case bool.bool a b =>
    have := rel_bool hx; subst this
    have := rel_bool hy; subst this
    simp only [Sem.run_bind, eqGuard_flat op t ox oy (u := .bool a) (v := .bool b) (by simp) (by simp), Result.andThen_ok]
    cases hb : boolT P t with
    | false => rw [hb] at h; simp at h
    | true =>
      rw [hb] at h
      simp only [if_true] at h
      have hu : P.underlying t = some .bool := by
        unfold boolT at hb
        split at hb
        · rename_i hu; exact hu
        · cases hb
      have he : (Op.equal t (.bool a) (.bool b)).run P w = .ok (a == b) w := run_equalIn_bool' w 9999 t a b hu
      cases op <;> simp only at h <;> try (cases h; done)
      · cases h
        exact ⟨.bool (a == b), by simp only [binOp]; simp only [Sem.run_bind, he, Result.andThen_ok, Sem.run_pure], mkBool _⟩
      · cases h
        exact ⟨.bool (!(a == b)), by simp only [binOp]; simp only [Sem.run_bind, he, Result.andThen_ok, Sem.run_pure], mkBool _⟩
  case str.str a b =>
    have := rel_str hx; subst this
    have := rel_str hy; subst this
    simp only [Sem.run_bind, eqGuard_flat op t ox oy (u := .string a) (v := .string b) (by simp) (by simp), Result.andThen_ok]
    exact run_astr h
  case agg.agg xs ys =>
    obtain ⟨us, rfl, rx⟩ := rel_agg hx
    obtain ⟨vs, rfl, ry⟩ := rel_agg hy
    cases hn : flatT P t with
    | none => simp [hn] at h
    | some n =>
      simp only [hn] at h
      by_cases hl : xs.length = n ∧ ys.length = n
      · rw [if_pos hl] at h
        cases hr : eqInts xs ys with
        | none => simp [hr] at h
        | some r' =>
          simp only [hr] at h
          unfold flatT at hn
          split at hn
          · rename_i fs hu
            split at hn
            · rename_i hc
              cases hn
              have hfo : P.fieldsOf t = fs := by simp [Program.fieldsOf, hu]
              have he : (Op.equalIn 10000 t (.agg us) (.agg vs)).run P w = .ok r' w := by
                rw [run_equalIn_agg w 9999 t us vs (by rw [hfo]; exact hu) hc.1, hfo]
                exact eqFields_run 9998 rx ry fs.toList 0 r' hc.2.2 (by simp; omega) (by simp; omega) (by simpa using hr)
              simp only [Sem.run_bind, run_eqGuard_agg w op t ox oy us vs hc.2.1, Result.andThen_ok]
              cases op <;> simp only at h <;> try (cases h; done)
              · cases h
                exact ⟨_, by rw [run_eql_struct, he]; rfl, mkBool _⟩
              · cases h
                exact ⟨_, by rw [run_neq_struct, he]; rfl, mkBool _⟩
            · cases hn
          · cases hn
      · rw [if_neg hl] at h; cases h
  case nilp.nilp =>
    cases hp : ptrT P t with
    | false => rw [hp] at h; simp at h
    | true => rw [hp] at h; exact nilcase none true (rel_nilp hx) (rel_nilp hy) rfl hp h
  case ip.nilp =>
    cases hp : ptrT P t with
    | false => rw [hp] at h; simp at h
    | true =>
      rw [hp] at h
      cases hx with
      | pur _ _ hx => cases hx
      | ip => exact nilcase _ false rfl (rel_nilp hy) rfl hp h
  case ptr.nilp =>
    cases hp : ptrT P t with
    | false => rw [hp] at h; simp at h
    | true =>
      rw [hp] at h
      cases hx with
      | pur _ _ hx => cases hx
      | ptr => exact nilcase _ false rfl (rel_nilp hy) rfl hp h

def aun (op : UnOp) (x : D) : Option D :=
  match op, x with
  | .neg, .int k n => some (.int k (k.wrap (0 - n)))
  | .xor, .int k n => some (.int k (k.wrap (BitVec.ofInt k.bits (if k.signed then -1 else k.max) ^^^ BitVec.ofInt k.bits n).toNat))
  | .not, .bool b => some (.bool !b)
  | _, _ => none

theorem aun_run {P : Program} {O : Nat → Prop} {E : Env} {w : World} {op : UnOp} {x r : D} {u : Value} (h : aun op x = some r) (hx : RelE O E w x u) :
    ∃ z, (Op.unary op u).run P w = .ok z w ∧ RelE O E w r z := by
  unfold aun at h
  split at h
  · have := rel_int hx; subst this
    cases h; exact ⟨_, by simp only [Op.unary, Op.intArith]; rfl, mkInt _ _⟩
  · have := rel_int hx; subst this
    cases h; exact ⟨_, by simp only [Op.unary, Op.intBits]; rfl, mkInt _ _⟩
  · have := rel_bool hx; subst this
    cases h; exact ⟨_, by simp only [Op.unary]; rfl, mkBool _⟩
  · cases h

def aconv (P : Program) (src dst : TypeId) (x : D) : Option D :=
  match x, intT P dst with
  | .int _ n, some k => if (P.underlying src).isSome then some (.int k (k.wrap n)) else none
  | _, _ => none

theorem aconv_run {P : Program} {O : Nat → Prop} {E : Env} {w : World} {src dst : TypeId} {x r : D} {u : Value} (h : aconv P src dst x = some r) (hx : RelE O E w x u) :
    ∃ z, (convert src dst u).run P w = .ok z w ∧ RelE O E w r z := by
  unfold aconv at h
  split at h
  · rename_i k0 n k hk
    have := rel_int hx; subst this
    split at h
    · rename_i hs
      cases h
      obtain ⟨ds, hds⟩ := Option.isSome_iff_exists.1 hs
      have hd : P.underlying dst = some (.int k) := by
        unfold intT at hk
        split at hk
        · rename_i hd; cases hk; exact hd
        · cases hk
      exact ⟨.int k (k.wrap n), by simp [convert, run_underlying hds, run_underlying hd, Conv.intToInt], mkInt _ _⟩
    · cases h
  · cases h

/-! ### Fields and indices -/
def afieldAddr (P : Program) (s : TypeId) (f : Nat) (x : D) : Option D :=
  match fieldT P s f with
  | some (off, _ + 1, _) => match x with
    | .ptr b n i j => some (.ptr b n i (j + off))
    | .ip cells => some (.ip (cells.drop off))
    | _ => none
  | _ => none

theorem fieldT_spec {P : Program} {s : TypeId} {f off n : Nat} {g : Bool} (h : fieldT P s f = some (off, n, g)) :
    ∃ fs fd, P.underlying s = some (.struct fs) ∧ fs[f]? = some fd ∧ fd.offset = off ∧ sizeT P fd.type = some n ∧ aggT P fd.type = some g := by
  unfold fieldT at h
  split at h
  · rename_i fs hu
    split at h
    · rename_i fd hf
      split at h
      · rename_i n' g' h1 h2
        cases h
        exact ⟨fs, fd, hu, hf, rfl, h1, h2⟩
      · cases h
    · cases h
  · cases h

theorem afieldAddr_run {P : Program} {O : Nat → Prop} {E : Env} {w : World} {s : TypeId} {f : Nat} {x r : D} {u : Value} (h : afieldAddr P s f x = some r) (hx : RelE O E w x u) :
    ∃ z, (Instr.fieldAt s u f).run P w = .ok z w ∧ RelE O E w r z := by
  unfold afieldAddr at h
  split at h
  · rename_i off _ g hf
    obtain ⟨fs, fd, hu, hfd, ho, hs, _⟩ := fieldT_spec hf
    have place : ∀ a : Addr, (fieldPlace a fd).run P w = .ok (a.add off) w := fun a => by
      simp [fieldPlace, sizeOf_run hs, ho]
    split at h
    · rename_i b n' i j
      cases h
      cases hx with
      | pur _ _ hp => cases hp
      | ptr _ _ _ _ bi a hE h1 h2 =>
        refine ⟨.pointer (some (a.add off)), by simp [Instr.fieldAt, run_underlying hu, hfd, Instr.sureAddr, place], .ptr b n' i (j + off) bi _ hE h1 fun e => ?_⟩
        rw [h2 e, addr_add, Nat.add_assoc]
    · rename_i cells
      cases h
      cases hx with
      | pur _ _ hp => cases hp
      | ip _ k o f' hV hk hc =>
        refine ⟨.pointer (some ((⟨k, o, none⟩ : Addr).add off)), by simp [Instr.fieldAt, run_underlying hu, hfd, Instr.sureAddr, place], ?_⟩
        rw [addr_add]
        refine .ip _ k (o + off) (fun q => f' (off + q)) hV hk fun q d hq => ?_
        rw [List.getElem?_drop] at hq
        rw [Nat.add_assoc]
        exact hc (off + q) d hq
    · cases h
  · cases h

def afield (P : Program) (t : TypeId) (f : Nat) (x : D) : Option D :=
  match fieldT P t f, x with
  | some (off, n, g), .agg cs => if g then (if off + n ≤ cs.length then some (.agg ((cs.drop off).take n)) else none) else cs[off]?
  | _, _ => none

theorem afield_run {P : Program} {O : Nat → Prop} {E : Env} {w : World} {t : TypeId} {f : Nat} {x r : D} {u : Value} (h : afield P t f x = some r) (hx : RelE O E w x u) :
    ∃ z, (Instr.field t u f).run P w = .ok z w ∧ RelE O E w r z := by
  unfold afield at h
  split at h
  · rename_i off n g cs hf
    obtain ⟨fs, fd, hu, hfd, ho, hs, hg⟩ := fieldT_spec hf
    obtain ⟨vs, rfl, rc⟩ := rel_agg hx
    have hl := rc.len
    split at h
    · rename_i hgt
      subst hgt
      split at h
      · rename_i hle
        cases h
        refine ⟨.agg (vs.extract off (off + n)), by simp [Instr.field, run_underlying hu, hfd, asAgg, part, isAgg_run hg, sizeOf_run hs, ho], RelCs.agg ⟨by simp; omega, fun i v hv => ?_, fun i d v hd hv => ?_⟩⟩
        · rw [Array.getElem?_extract] at hv
          split at hv
          · exact rc.scal _ _ hv
          · cases hv
        · rw [Array.getElem?_extract] at hv
          rw [List.getElem?_take, List.getElem?_drop] at hd
          split at hv
          · split at hd
            · exact rc.rel _ _ _ hd hv
            · cases hd
          · cases hv
      · cases h
    · rename_i hgf
      have hgf : g = false := by simpa using hgf
      subst hgf
      have hlt : off < vs.size := by
        rcases Nat.lt_or_ge off cs.length with h1 | h1
        · omega
        · rw [List.getElem?_eq_none h1] at h; cases h
      refine ⟨vs[off], ?_, rc.rel off r _ h (Array.getElem?_eq_getElem hlt)⟩
      simp [Instr.field, run_underlying hu, hfd, asAgg, part, isAgg_run hg, ho, Array.getElem?_eq_getElem hlt]
  · cases h

def aindexAddr (P : Program) (t : TypeId) (x i : D) : Option D :=
  match i with
  | .int _ n => if n < 0 then none else
    match P.underlying t with
    | some (.slice e) => match sizeT P e with
      | some (s + 1) => match x with
        | .vs rows => match rows[n.toNat]? with
          | some row => if row.length = s + 1 then some (.ip row) else none
          | none => none
        | .bs rows => match rows[n.toNat]? with
          | some row => if row.length = s + 1 then some (.ip row) else none
          | none => none
        | .rs sz b off len cap => if sz = s + 1 ∧ n.toNat < len then some (.ptr b (off + cap) (off + n.toNat) 0) else none
        | _ => none
      | _ => none
    | some (.array len e) => match sizeT P e with
      | some s => if n.toNat < len then (match x with
        | .ptr b m r j => some (.ptr b m r (j + n.toNat * s))
        | .ip cells => some (.ip (cells.drop (n.toNat * s)))
        | _ => none) else none
      | none => none
    | _ => none
  | _ => none

theorem run_index_slice {P : Program} {w : World} {t e : TypeId} {s len cap : Nat} {a : Addr} {k : IntKind} {n : Int} (hu : P.underlying t = some (.slice e)) (hs : sizeT P e = some s) (h0 : 0 ≤ n) (h1 : n.toNat < len) :
    (Instr.indexAt t (.slice (some a) len cap) (.int k n)).run P w = .ok (.pointer (some (a.add (n.toNat * s)))) w := by
  have h2 : n < (len : Int) := by omega
  simp [Instr.indexAt, asIntOf, run_underlying hu, sizeOf_run hs, h0, h2]

theorem run_index_array {P : Program} {w : World} {t e : TypeId} {s len : Nat} {a : Addr} {k : IntKind} {n : Int} (hu : P.underlying t = some (.array len e)) (hs : sizeT P e = some s) (h0 : 0 ≤ n) (h1 : n.toNat < len) :
    (Instr.indexAt t (.pointer (some a)) (.int k n)).run P w = .ok (.pointer (some (a.add (n.toNat * s)))) w := by
  have h2 : n < (len : Int) := by omega
  simp [Instr.indexAt, Instr.sureAddr, asIntOf, run_underlying hu, sizeOf_run hs, h0, h2]

theorem aindexAddr_run {P : Program} {O : Nat → Prop} {E : Env} {w : World} {t : TypeId} {x i r : D} {u v : Value} (h : aindexAddr P t x i = some r) (hx : RelE O E w x u) (hi : RelE O E w i v) :
    ∃ z, (Instr.indexAt t u v).run P w = .ok z w ∧ RelE O E w r z := by
  unfold aindexAddr at h
  split at h
  · rename_i k n
    have := rel_int hi; subst this
    split at h
    · cases h
    · rename_i hn
      have hn0 : 0 ≤ n := by omega
      split at h
      · rename_i e hu
        split at h
        · rename_i s hs
          split at h
          · rename_i rows
            split at h
            · rename_i row hr
              split at h
              · rename_i hl
                cases h
                have hlt : n.toNat < rows.length := by
                  rcases Nat.lt_or_ge n.toNat rows.length with h | h
                  · exact h
                  · rw [List.getElem?_eq_none h] at hr; cases hr
                cases hx with
                | pur _ _ hp =>
                  cases hp with
                  | vs _ a cap sz f hcap hsz ha hrr =>
                    obtain ⟨kk, o, rfl, hU, hk, hc⟩ := ha (by rintro rfl; simp at hlt)
                    have hsz1 : sz = s + 1 := by rw [← hl]; exact (hsz row (List.mem_of_getElem? hr)).symm
                    refine ⟨.pointer (some ((⟨kk, o, none⟩ : Addr).add (n.toNat * (s + 1)))), run_index_slice hu hs hn0 hlt, ?_⟩
                    · rw [addr_add]
                      refine .ip _ kk _ (fun q => f n.toNat q) hU.2 hk fun q d hq => ?_
                      have hq2 : q < sz := by
                        rcases Nat.lt_or_ge q row.length with h | h
                        · omega
                        · rw [List.getElem?_eq_none h] at hq; cases hq
                      obtain ⟨c1, c2⟩ := hc n.toNat q hlt hq2
                      exact ⟨by rw [← hsz1, Nat.add_assoc]; exact c1, c2, hrr n.toNat q row d hr hq⟩
              · cases h
            · cases h
          · rename_i rows
            split at h
            · rename_i row hr
              split at h
              · rename_i hl
                cases h
                have hlt : n.toNat < rows.length := by
                  rcases Nat.lt_or_ge n.toNat rows.length with h | h
                  · exact h
                  · rw [List.getElem?_eq_none h] at hr; cases hr
                cases hx with
                | pur _ _ hp => cases hp
                | bs _ a cap sz f hcap hsz ha hrr =>
                  obtain ⟨kk, o, rfl, hU, hk, hc⟩ := ha (by rintro rfl; simp at hlt)
                  have hsz1 : sz = s + 1 := by rw [← hl]; exact (hsz row (List.mem_of_getElem? hr)).symm
                  refine ⟨.pointer (some ((⟨kk, o, none⟩ : Addr).add (n.toNat * (s + 1)))), run_index_slice hu hs hn0 hlt, ?_⟩
                  · rw [addr_add]
                    refine .ip _ kk _ (fun q => f n.toNat q) hU hk fun q d hq => ?_
                    have hq2 : q < sz := by
                      rcases Nat.lt_or_ge q row.length with h | h
                      · omega
                      · rw [List.getElem?_eq_none h] at hq; cases hq
                    obtain ⟨c1, c2⟩ := hc n.toNat q hlt hq2
                    exact ⟨by rw [← hsz1, Nat.add_assoc]; exact c1, c2, hrr n.toNat q row d hr hq⟩
              · cases h
            · cases h
          · rename_i sz b off len cap
            split at h
            · rename_i hc
              cases h
              obtain ⟨hsz0, hlt⟩ := hc
              cases hx with
              | pur _ _ hp => cases hp
              | rs _ _ _ _ bi a cap' hE h0 h1 h2 h3 h4 =>
                refine ⟨.pointer (some (a.add (n.toNat * (s + 1)))), run_index_slice hu hs hn0 hlt, .ptr b (off + cap) (off + n.toNat) 0 bi _ hE h1 fun en => ?_⟩
                · rw [← hsz0]
                  obtain ⟨o, rfl, ho, _⟩ := h4 en
                  rw [addr_add, ho (by omega), Nat.add_mul, Nat.add_zero]
            · cases h
          · cases h
        · cases h
      · rename_i len e hu
        split at h
        · rename_i s hs
          split at h
          · rename_i hlt
            split at h
            · rename_i b m r' j
              cases h
              cases hx with
              | pur _ _ hp => cases hp
              | ptr _ _ _ _ bi a hE h1 h2 =>
                refine ⟨.pointer (some (a.add (n.toNat * s))), run_index_array hu hs hn0 hlt, .ptr b m r' (j + n.toNat * s) bi _ hE h1 fun en => ?_⟩
                · rw [h2 en, addr_add, Nat.add_assoc]
            · rename_i cells
              cases h
              cases hx with
              | pur _ _ hp => cases hp
              | ip _ kk o f' hV hk hc =>
                refine ⟨.pointer (some ((⟨kk, o, none⟩ : Addr).add (n.toNat * s))), run_index_array hu hs hn0 hlt, ?_⟩
                · rw [addr_add]
                  refine .ip _ kk _ (fun q => f' (n.toNat * s + q)) hV hk fun q d hq => ?_
                  rw [List.getElem?_drop] at hq
                  rw [Nat.add_assoc]
                  exact hc _ d hq
            · cases h
          · cases h
        · cases h
      · cases h
  · cases h

def aindex (P : Program) (t : TypeId) (x i : D) : Option D :=
  match x, i with
  | .str s, .int _ n => match P.underlying t with
    | some .string => if n < 0 then none else match s[n.toNat]? with
      | some b => some (.int .u8 b.toNat)
      | none => none
    | _ => none
  | _, _ => none

theorem aindex_run {P : Program} {O : Nat → Prop} {E : Env} {w : World} {t : TypeId} {x i r : D} {u v : Value} (h : aindex P t x i = some r) (hx : RelE O E w x u) (hi : RelE O E w i v) :
    ∃ z, (Instr.index t u v).run P w = .ok z w ∧ RelE O E w r z := by
  unfold aindex at h
  split at h
  · rename_i s k n
    have := rel_str hx; subst this
    have := rel_int hi; subst this
    split at h
    · rename_i hu
      split at h
      · cases h
      · rename_i hn
        split at h
        · rename_i b hb
          cases h
          refine ⟨.int .u8 b.toNat, ?_, mkInt _ _⟩
          simp [Instr.index, asIntOf, run_underlying hu]
          rw [if_pos (by omega), hb]
          rfl
        · cases h
    · cases h
  · cases h

def aextract (x : D) (i : Nat) : Option D :=
  match x with
  | .tup cs => cs[i]?
  | _ => none

theorem aextract_run {P : Program} {O : Nat → Prop} {E : Env} {w : World} {x r : D} {i : Nat} {u : Value} (h : aextract x i = some r) (hx : RelE O E w x u) :
    ∃ z, (Instr.extract u i).run P w = .ok z w ∧ RelE O E w r z := by
  unfold aextract at h
  split at h
  · rename_i cs
    obtain ⟨vs, rfl, hl, hr⟩ := rel_tup hx
    have hlt : i < vs.size := by
      rcases Nat.lt_or_ge i cs.length with h1 | h1
      · omega
      · rw [List.getElem?_eq_none h1] at h; cases h
    exact ⟨vs[i], by simp [Instr.extract, Array.getElem?_eq_getElem hlt], hr i r _ h (Array.getElem?_eq_getElem hlt)⟩
  · cases h

end Go.AH

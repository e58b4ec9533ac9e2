/- All operations but calls in one: `aop`; it is sound. -/
import Derived.Test.YtmhkanhgmfolhaaGreatAhI
import Derived.Laws.Cover3
import Derived.Below
import Derived.ChangeKeysEq
set_option linter.unusedVariables false
set_option linter.unusedSimpArgs false
namespace Go.AH

def alen (P : Program) (t : TypeId) (x : D) : Option D :=
  match P.underlying t with
  | some .string => match x with
    | .str s => some (.int .i64 s.size)
    | _ => none
  | some (.slice _) => match x with
    | .vs rows => some (.int .i64 rows.length)
    | .bs rows => some (.int .i64 rows.length)
    | .nils => some (.int .i64 0)
    | .rs _ _ _ len _ => some (.int .i64 len)
    | .rx _ _ len _ _ => some (.int .i64 len)
    | _ => none
  | some (.array n _) => some (.int .i64 n)
  | _ => none

theorem alen_run {P : Program} {O : Nat → Prop} {E : Env} {w : World} {t ty : TypeId} {x r : D} {u : Value} (h : alen P t x = some r) (hx : RelE O E w x u) :
    ∃ z, (Builtin.len_ #[t] ty #[u]).run P w = .ok z w ∧ RelE O E w r z := by
  unfold alen at h
  split at h
  · rename_i hu
    split at h
    · rename_i s
      cases h
      have := rel_str hx; subst this
      exact ⟨_, by simp [Builtin.len_, run_underlying hu]; rfl, mkInt _ _⟩
    · cases h
  · rename_i e hu
    cases x <;> simp only at h <;> try (cases h; done)
    case vs rows =>
      cases h
      cases hx with
      | pur _ _ hp => cases hp; exact ⟨_, by simp [Builtin.len_, run_underlying hu]; rfl, mkInt _ _⟩
    case bs rows =>
      cases h
      cases hx with
      | pur _ _ hp => cases hp
      | bs => exact ⟨_, by simp [Builtin.len_, run_underlying hu]; rfl, mkInt _ _⟩
    case nils =>
      cases h
      obtain ⟨a, rfl⟩ := rel_nils hx
      exact ⟨_, by simp [Builtin.len_, run_underlying hu]; rfl, mkInt _ _⟩
    case rs =>
      cases h
      cases hx with
      | pur _ _ hp => cases hp
      | rs => exact ⟨_, by simp [Builtin.len_, run_underlying hu]; rfl, mkInt _ _⟩
    case rx =>
      cases h
      cases hx with
      | pur _ _ hp => cases hp
      | rx => exact ⟨_, by simp [Builtin.len_, run_underlying hu]; rfl, mkInt _ _⟩
  · rename_i n e hu
    cases h
    exact ⟨_, by simp [Builtin.len_, run_underlying hu]; rfl, mkInt _ _⟩
  · cases h

/-- A slice that is compared with nil. -/
def anil (P : Program) (op : BinOp) (t : TypeId) (y : Operand) (x : D) : Option D :=
  match y with
  | .const (.slice none 0 0) => if sliceT P t = true then (match x with
    | .vs (_ :: _) => apnil op false
    | .bs (_ :: _) => apnil op false
    | .rs _ _ _ _ _ => apnil op false
    | .vs [] => if op = .eql ∨ op = .neq then some .ub else none
    | .bs [] => if op = .eql ∨ op = .neq then some .ub else none
    | .nils => if op = .eql ∨ op = .neq then some .ub else none
    | .zs => apnil op true
    | _ => none) else none
  | _ => none

theorem anil_run {P : Program} {O : Nat → Prop} {E : Env} {w : World} {op : BinOp} {t : TypeId} {x r : D} {u : Value} (ox oy : Operand) {ρ : Operand → Value} (hρ : ∀ c, ρ (.const c) = c) (h : anil P op t oy x = some r) (hx : RelE O E w x u) :
    ∃ z, (do eqGuard op t ox oy u (ρ oy); binOp op t u (ρ oy) : Sem Value).run P w = .ok z w ∧ RelE O E w r z := by
  unfold anil at h
  split at h
  · split at h
    · rename_i ht
      have hu : ∃ e, P.underlying t = some (.slice e) := by
        unfold sliceT at ht
        split at ht
        · rename_i e he; exact ⟨e, he⟩
        · cases ht
      obtain ⟨e, hu⟩ := hu
      have key : ∀ (a : Addr) (l c : Nat), u = .slice (some a) l c → apnil op false = some r → ∃ z, (do eqGuard op t ox (.const (.slice none 0 0)) u (ρ (.const (.slice none 0 0))); binOp op t u (ρ (.const (.slice none 0 0))) : Sem Value).run P w = .ok z w ∧ RelE O E w r z := by
        intro a l c hv ha
        subst hv
        rw [hρ]
        simp only [Sem.run_bind, eqGuard_flat op t ox (.const (.slice none 0 0)) (u := .slice (some a) l c) (v := .slice none 0 0) (by simp) (by simp), Result.andThen_ok]
        have heq : (Op.equal t (.slice (some a) l c) (.slice none 0 0)).run P w = .ok false w := by
          simpa using run_equal_slice_nil w t e (some a) l c hu
        cases op <;> simp only [apnil] at ha <;> try (cases ha; done)
        · cases ha; exact ⟨.bool false, by simp only [binOp]; simp [heq], mkBool _⟩
        · cases ha; exact ⟨.bool true, by simp only [binOp]; simp [heq], mkBool _⟩
      have keyU : ∀ (a : Option Addr) (l c : Nat), u = .slice a l c → (if op = .eql ∨ op = .neq then some D.ub else none) = some r → ∃ z, (do eqGuard op t ox (.const (.slice none 0 0)) u (ρ (.const (.slice none 0 0))); binOp op t u (ρ (.const (.slice none 0 0))) : Sem Value).run P w = .ok z w ∧ RelE O E w r z := by
        intro a l c hv ha
        subst hv
        rw [hρ]
        simp only [Sem.run_bind, eqGuard_flat op t ox (.const (.slice none 0 0)) (u := .slice a l c) (v := .slice none 0 0) (by simp) (by simp), Result.andThen_ok]
        have heq := run_equal_slice_nil (P := P) w t e a l c hu
        split at ha
        · rename_i ho
          cases ha
          rcases ho with rfl | rfl
          · exact ⟨.bool a.isNone, by simp only [binOp]; simp [heq], .pur _ _ (.ub _)⟩
          · exact ⟨.bool (!a.isNone), by simp only [binOp]; simp [heq], .pur _ _ (.ub _)⟩
        · cases ha
      have keyN : u = .slice none 0 0 → apnil op true = some r → ∃ z, (do eqGuard op t ox (.const (.slice none 0 0)) u (ρ (.const (.slice none 0 0))); binOp op t u (ρ (.const (.slice none 0 0))) : Sem Value).run P w = .ok z w ∧ RelE O E w r z := by
        intro hv ha
        subst hv
        rw [hρ]
        simp only [Sem.run_bind, eqGuard_flat op t ox (.const (.slice none 0 0)) (u := .slice none 0 0) (v := .slice none 0 0) (by simp) (by simp), Result.andThen_ok]
        have heq : (Op.equal t (.slice none 0 0) (.slice none 0 0)).run P w = .ok true w := by
          simpa using run_equal_slice_nil w t e none 0 0 hu
        cases op <;> simp only [apnil] at ha <;> try (cases ha; done)
        · cases ha; exact ⟨.bool true, by simp only [binOp]; simp [heq], mkBool _⟩
        · cases ha; exact ⟨.bool false, by simp only [binOp]; simp [heq], mkBool _⟩
      split at h
      · cases hx with
        | pur _ _ hp =>
          cases hp with
          | vs _ a cap sz f hcap hsz ha hrr =>
            obtain ⟨k, o, rfl, _⟩ := ha (by simp)
            exact key _ _ _ rfl h
      · cases hx with
        | pur _ _ hp => cases hp
        | bs _ a cap sz f hcap hsz ha hrr =>
          obtain ⟨k, o, rfl, _⟩ := ha (by simp)
          exact key _ _ _ rfl h
      · cases hx with
        | pur _ _ hp => cases hp
        | rs _ _ _ _ bi a cap' => exact key _ _ _ rfl h
      · cases hx with
        | pur _ _ hp => cases hp with | vs _ a cap => exact keyU _ _ _ rfl h
      · cases hx with
        | pur _ _ hp => cases hp
        | bs _ a cap => exact keyU _ _ _ rfl h
      · obtain ⟨a, rfl⟩ := rel_nils hx
        exact keyU _ _ _ rfl h
      · cases hx with
        | pur _ _ hp => cases hp; exact keyN rfl h
      · cases h
    · cases h
  · cases h

/-! ### Maps of whole numbers that nobody writes any more -/
def mapT (P : Program) (t : TypeId) (k : IntKind) : Bool :=
  match P.underlying t with
  | some (.map kt _) => (match P.underlying kt with
    | some (.int k') => decide (k = k')
    | _ => false)
  | _ => false

def lookA : List Int → List D → Int → Option D
  | a :: keys, d :: vals, n => if n == a then some d else lookA keys vals n
  | _, _, _ => none

def alookup (P : Program) (t : TypeId) (x key : D) (ok : Bool) : Option D :=
  match x, key with
  | .mpv k keys vals, .int k' n => if ok = false ∧ k' = k ∧ mapT P t k = true then lookA keys vals n else none
  | _, _ => none

theorem findNow_lookA {kk : IntKind} {k : IntKind} {n : Int} {d : D} : ∀ (es : List MapEntry) (keys : List Int) (vals : List D) (vs : List Value) (j : Nat), es.map (·.key) = keys.map (Value.int k) → es.map (·.val) = vs → vals.length = vs.length → lookA keys vals n = some d →
    ∃ (i : Nat) (v : Value) (q : Nat), Instr.findNow (.int kk) (.int k n) es j = some (some (q, v)) ∧ vals[i]? = some d ∧ vs[i]? = some v
  | [], [], vals, vs, j, _, _, _, h => by simp [lookA] at h
  | [], a :: keys, vals, vs, j, h1, _, _, _ => by simp at h1
  | e :: es, [], vals, vs, j, h1, _, _, _ => by simp at h1
  | e :: es, a :: keys, vals, [], j, _, h2, _, _ => by simp at h2
  | e :: es, a :: keys, [], v :: vs, j, _, _, h3, _ => by simp at h3
  | e :: es, a :: keys, d0 :: vals, v :: vs, j, h1, h2, h3, h => by
    simp only [List.map_cons, List.cons.injEq] at h1 h2
    simp only [lookA] at h
    simp only [Instr.findNow, h1.1, Instr.sameNow, if_true]
    cases hna : (n == a) with
    | true =>
      rw [hna] at h
      simp only [if_true] at h
      cases h
      exact ⟨0, v, j, by simp [h2.1], rfl, rfl⟩
    | false =>
      rw [hna] at h
      simp only [Bool.false_eq_true, if_false] at h
      obtain ⟨i, v', q, g1, g2, g3⟩ := findNow_lookA es keys vals vs (j + 1) h1.2 h2.2 (by simpa using h3) h
      exact ⟨i + 1, v', q, g1, by simpa using g2, by simpa using g3⟩

theorem alookup_run {P : Program} {O : Nat → Prop} {E : Env} {w : World} {t : TypeId} {x key d : D} {ok : Bool} {u kv : Value} (h : alookup P t x key ok = some d) (hx : RelE O E w x u) (hk : RelE O E w key kv) :
    ∃ v, (Instr.lookup t u kv ok).run P w = .ok v w ∧ RelE O E w d v := by
  unfold alookup at h
  split at h
  · rename_i k keys vals k' n
    split at h
    · rename_i hc
      obtain ⟨rfl, rfl, hm⟩ := hc
      have := rel_int hk; subst this
      unfold mapT at hm
      split at hm
      · rename_i kt et hu
        split at hm
        · rename_i k2 hkt
          cases hx with
          | pur _ _ hp => cases hp
          | mpv _ _ _ r vs hl hU hlt hmap hr =>
            obtain ⟨es, clock, g1, g2, g3⟩ := hmap
            obtain ⟨i, v, q, q1, q2, q3⟩ := findNow_lookA (kk := k2) es.toList keys vals vs.toList 0 g2 g3 (by simpa using hl) h
            refine ⟨v, ?_, hr i d v q2 (by simpa using q3)⟩
            have hget : (getObj r).run P w = .ok (.map es clock) w := by simp [getObj, Sem.run, g1]
            have hck : (Instr.checkKey es.isEmpty 10000 kt (.int k' n)).run P w = .ok () w := by
              unfold Instr.checkKey
              simp [run_underlying hkt]
            have hfk : (Instr.findKey kt (.int k' n) es.toList).run P w = .ok (some (q, v)) w := by
              unfold Instr.findKey
              simp [run_underlying hkt, q1]
            unfold Instr.lookup
            simp only [Sem.run_bind, run_underlying hu, Result.andThen_ok, hget]
            simp [hck, hfk]
        · cases hm
      · cases hm
    · cases h
  · cases h

/-! ### Interface values of structs without fields -/
def structT (P : Program) (t : TypeId) : Bool :=
  match P.underlying t with
  | some (.struct _) => true
  | _ => false

/-- The method of a struct type, by value. -/
def methT (P : Program) (t : TypeId) (name : String) : Option FuncId :=
  match P.info? t with
  | some i => match i.methods.find? (·.name == name) with
    | some m => if m.path.isEmpty && structT P t then (match m.func with
      | some (f, false) => some f
      | _ => none) else none
    | none => none
  | none => none

theorem methT_spec {P : Program} {t : TypeId} {name : String} {f : FuncId} (h : methT P t name = some f) :
    ∃ i m fs, P.info? t = some i ∧ i.methods.find? (·.name == name) = some m ∧ m.path = #[] ∧ P.underlying t = some (.struct fs) ∧ m.func = some (f, false) := by
  unfold methT at h
  split at h
  · rename_i i hi
    split at h
    · rename_i m hm
      split at h
      · rename_i hs
        rw [Bool.and_eq_true] at hs
        split at h
        · rename_i f' hf
          cases h
          have hst := hs.2
          unfold structT at hst
          split at hst
          · rename_i fs hu
            exact ⟨i, m, fs, hi, hm, by simpa using hs.1, hu, hf⟩
          · cases hst
        · cases h
      · cases h
    · cases h
  · cases h

theorem run_methT {P : Program} {t : TypeId} {name : String} {f : FuncId} (h : methT P t name = some f) (n : Nat) (v : Value) (w : World) : (method (n + 1) t v name).run P w = .ok (f, v) w := by
  obtain ⟨i, m, fs, h1, h2, h3, h4, h5⟩ := methT_spec h
  have hti : (typeInfo t).run P w = .ok i w := run_typeInfo w h1
  unfold method
  simp only [Sem.run_bind, hti, Result.andThen_ok, h2, h3, h5]
  simp [follow, receiverAt, run_underlying h4, Place.get]

theorem run_nilT {P : Program} {t : TypeId} {name : String} {f : FuncId} (h : methT P t name = some f) (n : Nat) (v : Value) (w : World) : (nilAhead (n + 1) t v name).run P w = .ok (some false) w := by
  obtain ⟨i, m, fs, h1, h2, h3, h4, h5⟩ := methT_spec h
  have hti : (typeInfo t).run P w = .ok i w := run_typeInfo w h1
  unfold nilAhead
  simp only [Sem.run_bind, hti, Result.andThen_ok, h2, h3]
  simp [followBlind, h5, run_underlying h4]

def afold (f : Int → Int → Int) : D → List D → Option D
  | .int k x, [] => some (.int k x)
  | .int k x, .int _ y :: rest => afold f (.int k (f x y)) rest
  | _, _ => none

def RelL (O : Nat → Prop) (E : Env) (w : World) (ds : List D) (vs : List Value) : Prop :=
  ds.length = vs.length ∧ ∀ (i : Nat) (d : D) (v : Value), ds[i]? = some d → vs[i]? = some v → RelE O E w d v

theorem RelL.head {O : Nat → Prop} {E : Env} {w : World} {d : D} {ds : List D} {vs : List Value} (h : RelL O E w (d :: ds) vs) : ∃ v us, vs = v :: us ∧ RelE O E w d v ∧ RelL O E w ds us := by
  obtain ⟨hl, hr⟩ := h
  cases vs with
  | nil => simp at hl
  | cons v us => exact ⟨v, us, rfl, hr 0 d v rfl rfl, by simpa using hl, fun i d v h1 h2 => hr (i + 1) d v (by simpa using h1) (by simpa using h2)⟩

theorem RelL.nil {O : Nat → Prop} {E : Env} {w : World} {vs : List Value} (h : RelL O E w [] vs) : vs = [] := List.eq_nil_of_length_eq_zero (by simpa using h.1.symm)

theorem afold_run {P : Program} {O : Nat → Prop} {E : Env} {w : World} {f : Int → Int → Int} {g : Value → Value → Sem Value} (hg : ∀ k k' x y, (g (.int k x) (.int k' y)) = Pure.pure (.int k (f x y))) (ds : List D) :
    ∀ (d : D) (v : Value) (vs : List Value) (r : D), afold f d ds = some r → RelE O E w d v → RelL O E w ds vs → ∃ z, (vs.foldlM g v).run P w = .ok z w ∧ RelE O E w r z := by
  induction ds with
  | nil =>
    intro d v vs r h hd hl
    have := hl.nil; subst this
    cases d <;> simp only [afold] at h <;> try (cases h; done)
    cases h
    exact ⟨v, by simp, hd⟩
  | cons d' ds ih =>
    intro d v vs r h hd hl
    obtain ⟨v', us, rfl, hd', hl'⟩ := hl.head
    cases d <;> cases d' <;> simp only [afold] at h <;> try (cases h; done)
    rename_i k x k' y
    have := rel_int hd; subst this
    have := rel_int hd'; subst this
    rw [List.foldlM_cons, hg]
    simp only [pure_bind]
    exact ih _ _ us r h (mkInt _ _) hl'

def abuiltin (P : Program) (b : Builtin) (ts : List TypeId) (args : List D) (get : Nat → Option Blk) (slot : Nat) : Option (D × List (Nat × Blk) × List (Nat × Blk)) :=
  match b with
  | .len => match ts, args with
    | [t], [x] => (alen P t x).map fun d => (d, [], [])
    | _, _ => none
  | .append => match ts, args with
    | [t, tx], [s, x] => (match aappend P t tx s x get slot with | some q => some q | none => (match aappendZ P t tx s x slot with | some q => some q | none => aappendX P t tx s x get slot))
    | _, _ => none
  | .copy => match ts, args with
    | [t, _], [s, x] => acopy P t s x get
    | _, _ => none
  | .clear => match ts, args with
    | [t], [x] => aclear P t x get
    | _, _ => none
  | .cap => match ts, args with
    | [t], [.nils] => if sliceT P t = true then some (.int .i64 0, [], []) else none
    | [t], [.rx _ _ _ _ rc] => if sliceT P t = true then some (.int .i64 rc, [], []) else none
    | _, _ => none
  | .max => match args with
    | x :: rest => (afold (fun x y => if y > x then y else x) x rest).map fun d => (d, [], [])
    | [] => none
  | .min => match args with
    | x :: rest => (afold (fun x y => if y < x then y else x) x rest).map fun d => (d, [], [])
    | [] => none
  | _ => none

def allocs : Op → Bool
  | .alloc _ => true
  | .box _ _ => true
  | .buildSlice _ _ _ => true
  | .makeSlice _ _ _ => true
  | .call c => match c.callee with
    | .builtin .append => true
    | _ => false
  | _ => false

def slotL (o : Oper) (slot : Nat) : List Nat := if allocs o.op then [slot] else []

/-- An empty slice, where nil or not is of no weight. -/
def soft : D → D
  | .zs => .nils
  | d => d

def softF (ρ : Operand → D) (x : Operand) : D := soft (ρ x)

/-- An operation that is no call of a function: what it comes to, what it writes, what it has read. -/
def aop (P : Program) (o : Oper) (ρ : Operand → D) (get : Nat → Option Blk) (slot : Nat) : Option (D × List (Nat × Blk) × List (Nat × Blk)) :=
  match o.op with
  | .move x => some (ρ x, [], [])
  | .assign x => some (ρ x, [], [])
  | .pick c x y => match ρ c with
    | .bool b => some (if b then ρ x else ρ y, [], [])
    | _ => none
  | .alloc t => (aalloc P t slot).map fun q => (q.1, q.2, [])
  | .box _ x => (abox (ρ x) slot).map fun q => (q.1, q.2, [])
  | .build t parts => (abuild P t (parts.toList.map fun p => (p.1, ρ p.2))).map fun d => (d, [], [])
  | .buildSlice t len parts => (abuildSlice P t len (parts.toList.map fun p => (p.1, ρ p.2)) slot).map fun q => (q.1, q.2, [])
  | .load t x => (aload P t (ρ x) get).map fun q => (q.1, [], q.2)
  | .store t x y => (astore P t (ρ x) (ρ y) get).map fun q => (.tup [], q.1, q.2)
  | .nilCheck x => match ρ x with
    | .ptr b n i j => some (.ptr b n i j, [], [])
    | .ip cells => some (.ip cells, [], [])
    | .fn f caps => some (.fn f caps, [], [])
    | .mv f caps => some (.mv f caps, [], [])
    | .mth t name => if (methT P t name).isSome = true then some (.mth t name, [], []) else none
    | _ => none
  | .makeInterface t x => match ρ x with
    | .agg [] => if structT P t = true then some (.ifc t, [], []) else none
    | _ => none
  | .binOp op t x y _ => (match anil P op t y (ρ x) with | some d => some d | none => abin P op t (ρ x) (ρ y)).map fun d => (d, [], [])
  | .unOp op _ x => (aun op (ρ x)).map fun d => (d, [], [])
  | .convert s d x => (aconv P s d (ρ x)).map fun d => (d, [], [])
  | .makeFunc fn first caps => match fn with
    | .func f => if first.isEmpty then some (.fn f (caps.toList.map ρ), [], []) else if caps.isEmpty then some (.mv f (first.toList.map ρ), [], []) else none
    | .method name => match first.toList.map ρ with
      | [.ifc t] => if caps.isEmpty then some (.mth t name, [], []) else none
      | _ => none
    | _ => none
  | .makeSlice t l c => (amake P t (ρ l) (ρ c) slot).map fun q => (q.1, q.2, [])
  | .slice t x lo hi mx => (aslice P t (softF ρ x) (lo.map (softF ρ)) (hi.map (softF ρ)) (mx.map (softF ρ))).map fun d => (d, [], [])
  | .fieldAddr s x f => (afieldAddr P s f (ρ x)).map fun d => (d, [], [])
  | .field t x f => (afield P t f (ρ x)).map fun d => (d, [], [])
  | .indexAddr t x i => (aindexAddr P t (ρ x) (ρ i)).map fun d => (d, [], [])
  | .index t x i => (aindex P t (ρ x) (ρ i)).map fun d => (d, [], [])
  | .extract x i => (aextract (ρ x) i).map fun d => (d, [], [])
  | .lookup t x i ok => (alookup P t (ρ x) (ρ i) ok).map fun d => (d, [], [])
  | .makeMap _ hint => if hint = none then some (.un, [], []) else none
  | .call c => match c.callee with
    | .builtin b => abuiltin P b c.argTypes.toList (c.args.toList.map (softF ρ)) get slot
    | _ => none
  | _ => none

theorem rel_soft {O : Nat → Prop} {E : Env} {w : World} {d : D} {v : Value} (h : RelE O E w d v) : RelE O E w (soft d) v := by
  unfold soft
  split
  · cases h with
    | pur _ _ hp => cases hp; exact .pur _ _ (.nils _)
  · exact h

theorem OpS.soft {P : Program} {o : Oper} {ρ : Operand → D} {rd : List (Nat × Blk)} {sl : List Nat} {d : D} {wr : List (Nat × Blk)} (h : OpS P o (softF ρ) rd sl d wr) : OpS P o ρ rd sl d wr :=
  fun O E H a w h1 => h O E H a w (fun x hx => rel_soft (h1 x hx))

theorem OpS.of_ran {P : Program} {o : Oper} {ρ : Operand → D} {rd : List (Nat × Blk)} {slot : Nat} {d : D} {wr : List (Nat × Blk)}
    (s : (Operand → Value) → Sem Value) (hs : ∀ ρ', execOp ρ' o = (do pure (.value (← s ρ')))) (hal : allocs o.op = true)
    (h : ∀ (O : Nat → Prop) (E : Env) (H : Heap) (a : Act) (w : World), (∀ x, x ∈ o.op.operands → RelE O E w (ρ x) (a.eval x)) → Wrel O E H w →
      (∀ n, w.heap.size ≤ n → O n) → (∀ p, p ∈ rd → hget H p.1 = some p.2) → E slot = none → Ran P O E H w (s a.eval) d wr slot) : OpS P o ρ rd (slotL o slot) d wr :=
  OpS.of_run fun O E H a w h1 h2 h3 h4 h5 => by
    have hsl : slotL o slot = [slot] := by simp [slotL, hal]
    rw [hsl] at h5 ⊢
    obtain ⟨v, w1, E1, hr, r1, r2, r3, r4, r5⟩ := h O E H a w h1 h2 h3 h4 (h5 slot (by simp))
    exact ⟨v, w1, E1, .inl (by rw [hs]; simp [hr]), r1, r2, r3, r4, fun b hb he => r5 b (by simpa using hb) he⟩

theorem OpS.of_val {P : Program} {o : Oper} {ρ : Operand → D} {rd : List (Nat × Blk)} {sl : List Nat} {d : D}
    (s : (Operand → Value) → Sem Value) (hs : ∀ ρ', execOp ρ' o = (do pure (.value (← s ρ'))))
    (h : ∀ (O : Nat → Prop) (E : Env) (H : Heap) (a : Act) (w : World), (∀ x, x ∈ o.op.operands → RelE O E w (ρ x) (a.eval x)) → Wrel O E H w →
      (∀ p, p ∈ rd → hget H p.1 = some p.2) → ∃ v, (s a.eval).run P w = .ok v w ∧ RelE O E w d v) : OpS P o ρ rd sl d [] :=
  OpS.still fun O E H a w h1 h2 h4 => by
    obtain ⟨v, hr, r1⟩ := h O E H a w h1 h2 h4
    exact ⟨v, by rw [hs]; simp [hr], r1⟩

theorem relL_args {O : Nat → Prop} {E : Env} {w : World} (ρ : Operand → D) (a : Act) (xs : Array Operand) (h : ∀ x, x ∈ xs → RelE O E w (ρ x) (a.eval x)) : RelL O E w (xs.toList.map ρ) (xs.map a.eval).toList := by
  refine ⟨by simp, fun i d v h1 h2 => ?_⟩
  rw [List.getElem?_map] at h1
  rw [Array.getElem?_toList, Array.getElem?_map] at h2
  rw [Array.getElem?_toList] at h1
  cases hx : xs[i]? with
  | none => simp [hx] at h1
  | some x =>
    simp [hx] at h1 h2
    subst h1 h2
    exact h x (Array.mem_of_getElem? hx)

theorem parts_rel {O : Nat → Prop} {E : Env} {w : World} (ρ : Operand → D) (a : Act) (parts : Array (Nat × Operand)) (h : ∀ x, x ∈ ((parts.toList.map (·.2)).toArray : Array Operand) → RelE O E w (ρ x) (a.eval x)) :
    (parts.toList.map fun p => (p.1, ρ p.2)).length = (parts.map fun (i, x) => (i, a.eval x)).size ∧
    ∀ (k : Nat) (p : Nat × D) (u : Nat × Value), (parts.toList.map fun p => (p.1, ρ p.2))[k]? = some p → (parts.map fun (i, x) => (i, a.eval x))[k]? = some u → p.1 = u.1 ∧ RelE O E w p.2 u.2 := by
  refine ⟨by simp, fun k p u h1 h2 => ?_⟩
  rw [List.getElem?_map, Array.getElem?_toList] at h1
  rw [Array.getElem?_map] at h2
  cases hx : parts[k]? with
  | none => simp [hx] at h1
  | some q =>
    simp [hx] at h1 h2
    subst h1 h2
    refine ⟨rfl, h q.2 ?_⟩
    have : q ∈ parts := Array.mem_of_getElem? hx
    simp
    exact ⟨q.1, this⟩

theorem relO_map {O : Nat → Prop} {E : Env} {w : World} (ρ : Operand → D) (a : Act) (x : Option Operand) (h : ∀ y, x = some y → RelE O E w (ρ y) (a.eval y)) : RelO O E w (x.map ρ) (x.map a.eval) := by
  cases x with
  | none => trivial
  | some y => exact h y rfl

theorem omap {α β : Type} {f : α → β} {x : Option α} {y : β} (h : x.map f = some y) : ∃ z, x = some z ∧ f z = y := by
  cases x with
  | none => cases h
  | some z => exact ⟨z, rfl, by simpa using h⟩

theorem abuiltin_sound {P : Program} {o : Oper} {ρ : Operand → D} {get : Nat → Option Blk} {slot : Nat} {d : D} {wr rd : List (Nat × Blk)} {c : Call} {b : Builtin} (ho : o.op = .call c) (hb : c.callee = .builtin b)
    (h : abuiltin P b c.argTypes.toList (c.args.toList.map ρ) get slot = some (d, wr, rd)) : OpS P o ρ rd (slotL o slot) d wr := by
  have hex : ∀ (ρ' : Operand → Value), execOp ρ' o = builtin b c.argTypes o.type (c.args.map fun | .const _ => true | _ => false) (c.args.map ρ') := by
    intro ρ'
    simp only [execOp, ho, resolve, hb]
    rfl
  have hops : ∀ x, x ∈ c.args → x ∈ o.op.operands := fun x hx => by
    rw [ho]; simp [Op.operands, Call.operands, hx]
  cases b <;> simp only [abuiltin] at h <;> try (cases h; done)
  case append =>
    split at h
    · rename_i t tx s x ht ha
      have ets : c.argTypes = #[t, tx] := by apply Array.ext'; rw [ht]
      refine OpS.of_ran (fun ρ' => Builtin.append_ c.argTypes o.type (c.args.map ρ')) (fun ρ' => by rw [hex]; rfl) (by simp [allocs, ho, hb]) fun O E H a w h1 h2 h3 h4 h5 => ?_
      have hL := relL_args ρ a c.args (fun x hx => h1 x (hops x hx))
      rw [ha] at hL
      obtain ⟨u, us, e1, ru, hL⟩ := hL.head
      obtain ⟨v, vs, rfl, rv, hL⟩ := hL.head
      have := hL.nil; subst this
      have eargs : c.args.map a.eval = #[u, v] := by apply Array.ext'; rw [e1]
      show Ran P O E H w (Builtin.append_ c.argTypes o.type (c.args.map a.eval)) d wr slot
      rw [ets, eargs]
      split at h
      · rename_i q hq
        cases h
        exact aappend_run hq ru rv h2 h3 h4 h5
      · split at h
        · rename_i q hq
          cases h
          exact aappendZ_run hq ru rv h2 h3 h5
        · exact aappendX_run h ru rv h2 h3 h4 h5
    · cases h
  case copy =>
    split at h
    · rename_i t tx s x ht ha
      have ets : c.argTypes = #[t, tx] := by apply Array.ext'; rw [ht]
      have hsl : slotL o slot = [] := by simp [slotL, allocs, ho, hb]
      rw [hsl]
      refine OpS.of_run fun O E H a w h1 h2 h3 h4 h5 => ?_
      have hL := relL_args ρ a c.args (fun x hx => h1 x (hops x hx))
      rw [ha] at hL
      obtain ⟨u, us, e1, ru, hL⟩ := hL.head
      obtain ⟨v, vs, rfl, rv, hL⟩ := hL.head
      have := hL.nil; subst this
      have eargs : c.args.map a.eval = #[u, v] := by apply Array.ext'; rw [e1]
      obtain ⟨v', w1, E1, hr, r1, r2, r3, r4, r5⟩ := acopy_run (ty := o.type) (tx := tx) h ru rv h2 h4
      refine ⟨v', w1, E1, .inl ?_, r1, r2, r3, r4, fun b _ he => r5 b he⟩
      rw [hex, ets, eargs]
      show ((do pure (.value (← Builtin.copy_ #[t, tx] o.type #[u, v])) : Sem Next)).run P w = _
      simp [hr]
    · cases h
  case clear =>
    split at h
    · rename_i t x ht ha
      have ets : c.argTypes = #[t] := by apply Array.ext'; rw [ht]
      have hsl : slotL o slot = [] := by simp [slotL, allocs, ho, hb]
      rw [hsl]
      refine OpS.of_run fun O E H a w h1 h2 h3 h4 h5 => ?_
      have hL := relL_args ρ a c.args (fun x hx => h1 x (hops x hx))
      rw [ha] at hL
      obtain ⟨u, us, e1, ru, hL⟩ := hL.head
      have := hL.nil; subst this
      have eargs : c.args.map a.eval = #[u] := by apply Array.ext'; rw [e1]
      obtain ⟨v', w1, E1, hr, r1, r2, r3, r4, r5⟩ := aclear_run (ty := o.type) h ru h2 h4
      refine ⟨v', w1, E1, .inl ?_, r1, r2, r3, r4, fun b _ he => r5 b he⟩
      rw [hex, ets, eargs]
      show ((do pure (.value (← Builtin.clear_ #[t] o.type #[u])) : Sem Next)).run P w = _
      simp [hr]
    · cases h
  case cap =>
    split at h
    · rename_i t ht ha
      split at h
      · rename_i hst
        cases h
        have ets : c.argTypes = #[t] := by apply Array.ext'; rw [ht]
        refine OpS.of_val (fun ρ' => Builtin.cap_ c.argTypes o.type (c.args.map ρ')) (fun ρ' => by rw [hex]; rfl) fun O E H a w h1 h2 h4 => ?_
        have hL := relL_args ρ a c.args (fun x hx => h1 x (hops x hx))
        rw [ha] at hL
        obtain ⟨u, us, e1, ru, hL⟩ := hL.head
        have := hL.nil; subst this
        have eargs : c.args.map a.eval = #[u] := by apply Array.ext'; rw [e1]
        show ∃ v, (Builtin.cap_ c.argTypes o.type (c.args.map a.eval)).run P w = .ok v w ∧ RelE O E w _ v
        rw [ets, eargs]
        obtain ⟨ad, rfl⟩ := rel_nils ru
        unfold sliceT at hst
        split at hst
        · rename_i e hu
          exact ⟨.int .i64 0, by simp [Builtin.cap_, run_underlying hu, goInt], mkInt _ _⟩
        · cases hst
      · cases h
    · rename_i t sz0 b0 len0 cap0 rc ht ha
      split at h
      · rename_i hst
        cases h
        have ets : c.argTypes = #[t] := by apply Array.ext'; rw [ht]
        refine OpS.of_val (fun ρ' => Builtin.cap_ c.argTypes o.type (c.args.map ρ')) (fun ρ' => by rw [hex]; rfl) fun O E H a w h1 h2 h4 => ?_
        have hL := relL_args ρ a c.args (fun x hx => h1 x (hops x hx))
        rw [ha] at hL
        obtain ⟨u, us, e1, ru, hL⟩ := hL.head
        have := hL.nil; subst this
        have eargs : c.args.map a.eval = #[u] := by apply Array.ext'; rw [e1]
        show ∃ v, (Builtin.cap_ c.argTypes o.type (c.args.map a.eval)).run P w = .ok v w ∧ RelE O E w _ v
        rw [ets, eargs]
        obtain ⟨ad, rfl⟩ : ∃ ad, u = .slice (some ad) len0 rc := by
          cases ru with
          | pur _ _ hp => cases hp
          | rx _ _ _ _ bi a => exact ⟨a, rfl⟩
        unfold sliceT at hst
        split at hst
        · rename_i e hu
          exact ⟨.int .i64 rc, by simp [Builtin.cap_, run_underlying hu, goInt], mkInt _ _⟩
        · cases hst
      · cases h
    · cases h
  case len =>
    split at h
    · rename_i t x ht ha
      obtain ⟨z, hz, e⟩ := omap h
      cases e
      have ets : c.argTypes = #[t] := by apply Array.ext'; rw [ht]
      refine OpS.of_val (fun ρ' => Builtin.len_ c.argTypes o.type (c.args.map ρ')) (fun ρ' => by rw [hex]; rfl) fun O E H a w h1 h2 h4 => ?_
      have hL := relL_args ρ a c.args (fun x hx => h1 x (hops x hx))
      rw [ha] at hL
      obtain ⟨u, us, e1, ru, hL⟩ := hL.head
      have := hL.nil; subst this
      have eargs : c.args.map a.eval = #[u] := by apply Array.ext'; rw [e1]
      show ∃ v, (Builtin.len_ c.argTypes o.type (c.args.map a.eval)).run P w = .ok v w ∧ _
      rw [ets, eargs]
      exact alen_run hz ru
    · cases h
  case max =>
    split at h
    · rename_i x rest ha
      obtain ⟨z, hz, e⟩ := omap h
      cases e
      refine OpS.of_val (fun ρ' => Builtin.max_ c.argTypes o.type (c.args.map ρ')) (fun ρ' => by rw [hex]; rfl) fun O E H a w h1 h2 h4 => ?_
      have hL := relL_args ρ a c.args (fun x hx => h1 x (hops x hx))
      rw [ha] at hL
      obtain ⟨u, us, e1, ru, hL⟩ := hL.head
      show ∃ v, (Builtin.max_ c.argTypes o.type (c.args.map a.eval)).run P w = .ok v w ∧ _
      unfold Builtin.max_
      rw [e1]
      exact afold_run (fun k k' x y => rfl) rest x u us _ hz ru hL
    · cases h
  case min =>
    split at h
    · rename_i x rest ha
      obtain ⟨z, hz, e⟩ := omap h
      cases e
      refine OpS.of_val (fun ρ' => Builtin.min_ c.argTypes o.type (c.args.map ρ')) (fun ρ' => by rw [hex]; rfl) fun O E H a w h1 h2 h4 => ?_
      have hL := relL_args ρ a c.args (fun x hx => h1 x (hops x hx))
      rw [ha] at hL
      obtain ⟨u, us, e1, ru, hL⟩ := hL.head
      show ∃ v, (Builtin.min_ c.argTypes o.type (c.args.map a.eval)).run P w = .ok v w ∧ _
      unfold Builtin.min_
      rw [e1]
      exact afold_run (fun k k' x y => rfl) rest x u us _ hz ru hL
    · cases h


theorem mem1 {x y : Operand} (h : x = y) : x ∈ (#[y] : Array Operand) := by subst h; simp

theorem aop_sound {P : Program} {o : Oper} {ρ : Operand → D} {get : Nat → Option Blk} {slot : Nat} {d : D} {wr rd : List (Nat × Blk)} (h : aop P o ρ get slot = some (d, wr, rd)) : OpS P o ρ rd (slotL o slot) d wr := by
  unfold aop at h
  cases ho : o.op <;> simp only [ho] at h <;> try (cases h; done)
  case move x =>
    cases h
    exact OpS.still fun O E H a w h1 h2 _ => ⟨a.eval x, by simp only [execOp, ho]; rfl, h1 x (by rw [ho]; simp [Op.operands])⟩
  case assign x =>
    cases h
    exact OpS.still fun O E H a w h1 h2 _ => ⟨a.eval x, by simp only [execOp, ho]; rfl, h1 x (by rw [ho]; simp [Op.operands])⟩
  case pick c x y =>
    cases hc : ρ c <;> simp only [hc] at h <;> try (cases h; done)
    rename_i b
    cases h
    refine OpS.still fun O E H a w h1 h2 _ => ⟨if b then a.eval x else a.eval y, ?_, ?_⟩
    · have hb := h1 c (by rw [ho]; simp [Op.operands])
      rw [hc] at hb
      have := rel_bool hb
      simp only [execOp, ho, this]
      cases b <;> rfl
    · cases b
      · exact h1 y (by rw [ho]; simp [Op.operands])
      · exact h1 x (by rw [ho]; simp [Op.operands])
  case makeMap ty hint =>
    split at h
    · rename_i hh
      cases h
      refine OpS.of_run fun O E H a w h1 h2 h3 h4 h5 => ⟨.map (some w.heap.size), w.alloc (.map #[] 0), E, .inl ?_, .pur _ _ (.un _), ?_, ?_, fun b bi' hE => .inr ⟨bi', hE, rfl⟩, fun b _ hb => hb⟩
      · simp only [execOp, ho, hh, Instr.makeMap, Option.map_none]
        simp only [Sem.run_bind, run_newObj_alloc, Sem.run_pure, Result.andThen_ok]
      · have hold : ∀ q, q < w.heap.size → (w.alloc (.map #[] 0)).heap[q]? = w.heap[q]? := fun q hq => RowKit.Below.heap_alloc w _ q hq
        have hsz : (w.alloc (.map #[] 0)).heap.size = w.heap.size + 1 := by simp
        have hrel : ∀ {d : D} {v : Value}, RelE O E w d v → RelE O E (w.alloc (.map #[] 0)) d v := fun hd =>
          Rel.mono (by omega) (fun q hq hu => ⟨hold q hq, hu⟩) (fun q hq hu => ⟨hold q hq, hu⟩) (fun b bi hb => ⟨bi, hb, rfl, Nat.le_refl _, fun _ => rfl⟩) (fun q cc el fz hq => ⟨cc, by rw [hold q (Array.getElem?_eq_some_iff.1 hq).1]; exact hq, rfl⟩) hd
        refine ⟨fun b bi hb => ?_, h2.live, h2.inj, fun b bi hb c el hc => h2.sc b bi hb c el (by rw [← hold _ (h2.lt hb)]; exact hc)⟩
        obtain ⟨rows, c, el, g1, g2, g3, g4, g5, g6⟩ := h2.blk b bi hb
        refine ⟨rows, c, el, g1, g2, g3, by rw [hold _ (Array.getElem?_eq_some_iff.1 g4).1]; exact g4, g5, fun i j r d hi hj => ?_⟩
        obtain ⟨v, e, s', r'⟩ := g6 i j r d hi hj
        exact ⟨v, e, s', hrel r'⟩
      · have hold : ∀ q, q < w.heap.size → (w.alloc (.map #[] 0)).heap[q]? = w.heap[q]? := fun q hq => RowKit.Below.heap_alloc w _ q hq
        exact ⟨rfl, rfl, rfl, by simp, fun q hq ho => ⟨hold q hq, ho⟩, fun _ bi _ hE => ⟨bi, hE, rfl, Nat.le_refl _, fun _ => rfl⟩, fun q cc el fz hq => ⟨cc, by rw [hold q (Array.getElem?_eq_some_iff.1 hq).1]; exact hq, rfl⟩, Nat.le_refl _⟩
    · cases h
  case alloc t =>
    obtain ⟨z, hz, e⟩ := omap h
    cases e
    refine OpS.of_ran (fun ρ' => Instr.alloc t true (.tuple #[])) (fun ρ' => by simp only [execOp, ho]) (by simp [allocs, ho]) fun O E H a w h1 h2 h3 h4 h5 => ?_
    unfold aalloc at hz
    cases hzt : zeroT P t with
    | none => simp [hzt] at hz
    | some zs =>
      simp only [hzt] at hz
      cases hz
      obtain ⟨i, zv, hi, hzz, hzr⟩ := zeroT_rel (O := O) (E := E) (w := w) hzt
      obtain ⟨E1, r1, r2, r3, r4, r5⟩ := new_box h2 h3 h5 hzr t
      exact ⟨_, _, E1, by simp [Instr.alloc, zeroValue, typeInfo, hi, hzz, newVar, newRow, push], r1, r2, r3, r4, r5⟩
  case box t x =>
    obtain ⟨z, hz, e⟩ := omap h
    cases e
    refine OpS.of_ran (fun ρ' => Instr.box t (ρ' x)) (fun ρ' => by simp only [execOp, ho]) (by simp [allocs, ho]) fun O E H a w h1 h2 h3 h4 h5 => ?_
    unfold abox at hz
    cases hc : cellsOf (ρ x) with
    | none => simp [hc] at hz
    | some cs =>
      simp only [hc] at hz
      cases hz
      have hr := rel_cells (h1 x (by rw [ho]; simp [Op.operands])) hc
      obtain ⟨E1, r1, r2, r3, r4, r5⟩ := new_box h2 h3 h5 hr t
      exact ⟨_, _, E1, by simp [Instr.box, newVar, newRow, push], r1, r2, r3, r4, r5⟩
  case build t parts =>
    obtain ⟨z, hz, e⟩ := omap h
    cases e
    refine OpS.of_val (fun ρ' => Instr.build t (parts.map fun (i, x) => (i, ρ' x))) (fun ρ' => by simp only [execOp, ho]) fun O E H a w h1 h2 h4 => ?_
    obtain ⟨q1, q2⟩ := parts_rel ρ a parts (fun x hx => h1 x (by rw [ho]; simpa [Op.operands] using hx))
    exact abuild_rel hz _ q1 q2
  case buildSlice t n parts =>
    obtain ⟨z, hz, e⟩ := omap h
    cases e
    refine OpS.of_ran (fun ρ' => Instr.buildSlice t n (parts.map fun (i, x) => (i, ρ' x))) (fun ρ' => by simp only [execOp, ho]) (by simp [allocs, ho]) fun O E H a w h1 h2 h3 h4 h5 => ?_
    obtain ⟨q1, q2⟩ := parts_rel ρ a parts (fun x hx => h1 x (by rw [ho]; simpa [Op.operands] using hx))
    exact abuildSlice_run hz _ q1 q2 h2 h3 h5
  case load t x =>
    obtain ⟨z, hz, e⟩ := omap h
    cases e
    exact OpS.of_val (fun ρ' => Instr.loadAt t (ρ' x)) (fun ρ' => by simp only [execOp, ho]) fun O E H a w h1 h2 h4 =>
      aload_run hz (h1 x (by rw [ho]; simp [Op.operands])) h2 h4
  case store t x y =>
    obtain ⟨z, hz, e⟩ := omap h
    cases e
    refine OpS.of_run fun O E H a w h1 h2 h3 h4 h5 => ?_
    obtain ⟨w1, E1, hr, r1, r2, r3, r4⟩ := astore_run hz (h1 x (by rw [ho]; simp [Op.operands])) (h1 y (by rw [ho]; simp [Op.operands])) h2 h4
    exact ⟨undef, w1, E1, .inr ⟨by simp only [execOp, ho]; simp [hr], rfl⟩, mkUndef, r1, r2, r3, fun b _ he => r4 b he⟩
  case nilCheck x =>
    have hx : ∀ (O : Nat → Prop) (E : Env) (a : Act) (w : World), (∀ x, x ∈ o.op.operands → RelE O E w (ρ x) (a.eval x)) → RelE O E w (ρ x) (a.eval x) := fun O E a w h1 => h1 x (by rw [ho]; simp [Op.operands])
    cases hc : ρ x <;> simp only [hc] at h <;> try (cases h; done)
    case mth t name =>
      split at h
      · rename_i hm
        cases h
        obtain ⟨f, hm⟩ := Option.isSome_iff_exists.1 hm
        refine OpS.still fun O E H a w h1 h2 _ => ?_
        have := hx O E a w h1
        rw [hc] at this
        have hv : a.eval x = .func (.method name) #[.iface t (.agg #[])] #[] := by
          generalize a.eval x = v at this
          cases this with | pur _ _ hp => cases hp; rfl
        refine ⟨_, ?_, hv ▸ this⟩
        have hd : P.types.size + Made.depth = (P.types.size + 99) + 1 := rfl
        simp only [execOp, ho, hv, List.getElem?_toArray, List.getElem?_cons_zero, Sem.run_bind, run_program, Result.andThen_ok, hd, run_nilT hm]
        rfl
      · cases h
    all_goals
      cases h
      refine OpS.still fun O E H a w h1 h2 _ => ?_
      have := hx O E a w h1
      rw [hc] at this
      have hr := this
      generalize hv : a.eval x = v at *
      cases hr with
      | pur _ _ hp => cases hp
      | _ => exact ⟨_, by simp only [execOp, ho, hv]; rfl, this⟩
  case binOp op t x y yt =>
    obtain ⟨z, hz, e⟩ := omap h
    cases e
    refine OpS.of_val (fun ρ' => do eqGuard op t x y (ρ' x) (ρ' y); binOp op t (ρ' x) (ρ' y)) (fun ρ' => by simp only [execOp, ho]) fun O E H a w h1 h2 h4 => ?_
    split at hz
    · rename_i hn
      cases hz
      exact anil_run x y (ρ := a.eval) (fun c => rfl) hn (h1 x (by rw [ho]; simp [Op.operands]))
    · exact abin_run x y hz (h1 x (by rw [ho]; simp [Op.operands])) (h1 y (by rw [ho]; simp [Op.operands]))
  case unOp op t x =>
    obtain ⟨z, hz, e⟩ := omap h
    cases e
    exact OpS.of_val (fun ρ' => Op.unary op (ρ' x)) (fun ρ' => by simp only [execOp, ho]) fun O E H a w h1 h2 h4 => aun_run hz (h1 x (by rw [ho]; simp [Op.operands]))
  case convert s t x =>
    obtain ⟨z, hz, e⟩ := omap h
    cases e
    exact OpS.of_val (fun ρ' => convert s t (ρ' x)) (fun ρ' => by simp only [execOp, ho]) fun O E H a w h1 h2 h4 => aconv_run hz (h1 x (by rw [ho]; simp [Op.operands]))
  case makeInterface t x =>
    split at h
    · rename_i hx
      split at h
      · rename_i hs
        cases h
        refine OpS.still fun O E H a w h1 h2 _ => ?_
        have := h1 x (by rw [ho]; simp [Op.operands])
        rw [hx] at this
        obtain ⟨vs, hv, hl⟩ := rel_agg this
        have hv0 : vs = #[] := Array.eq_empty_of_size_eq_zero hl.len.symm
        subst hv0
        unfold structT at hs
        split at hs
        · rename_i fs hu
          exact ⟨.iface t (.agg #[]), by simp only [execOp, ho, hv]; simp [Instr.makeInterface, run_underlying hu], .pur _ _ (.ifc t)⟩
        · cases hs
      · cases h
    · cases h
  case makeFunc fn first caps =>
    cases fn <;> simp only at h <;> try (cases h; done)
    case method name =>
      split at h
      · rename_i t hf
        split at h
        · rename_i hcap
          cases h
          have hcap' : caps = #[] := by simpa using hcap
          subst hcap'
          refine OpS.still fun O E H a w h1 h2 _ => ⟨.func (.method name) (first.map a.eval) #[], by simp only [execOp, ho]; simp [Instr.makeFunc], ?_⟩
          have hL := relL_args ρ a first (fun x hx => h1 x (by rw [ho]; simp [Op.operands, hx]))
          rw [hf] at hL
          obtain ⟨u, us, e1, ru, hL⟩ := hL.head
          have := hL.nil; subst this
          have hu : u = .iface t (.agg #[]) := by cases ru with | pur _ _ hp => cases hp; rfl
          subst hu
          have : first.map a.eval = #[.iface t (.agg #[])] := by apply Array.ext'; rw [e1]
          rw [this]
          exact .pur _ _ (.mth t name)
        · cases h
      · cases h
    rename_i f
    split at h
    · rename_i hf
      cases h
      have hf' : first = #[] := by simpa using hf
      subst hf'
      refine OpS.still fun O E H a w h1 h2 _ => ⟨.func (.func f) #[] (caps.map a.eval), by simp only [execOp, ho]; simp [Instr.makeFunc], ?_⟩
      have hL := relL_args ρ a caps (fun x hx => h1 x (by rw [ho]; simp [Op.operands, hx]))
      exact .fn _ _ _ (by simp) (fun i d v h1 h2 => hL.2 i d v h1 (by simpa using h2))
    · split at h
      · rename_i hf
        cases h
        have hf' : caps = #[] := by simpa using hf
        subst hf'
        refine OpS.still fun O E H a w h1 h2 _ => ⟨.func (.func f) (first.map a.eval) #[], by simp only [execOp, ho]; simp [Instr.makeFunc], ?_⟩
        have hL := relL_args ρ a first (fun x hx => h1 x (by rw [ho]; simp [Op.operands, hx]))
        exact .mv _ _ _ (by simp) (fun i d v h1 h2 => hL.2 i d v h1 (by simpa using h2))
      · cases h
  case makeSlice t l c =>
    obtain ⟨z, hz, e⟩ := omap h
    cases e
    exact OpS.of_ran (fun ρ' => Instr.makeSlice t (ρ' l) (ρ' c)) (fun ρ' => by simp only [execOp, ho]) (by simp [allocs, ho]) fun O E H a w h1 h2 h3 h4 h5 =>
      amake_run hz (h1 l (by rw [ho]; simp [Op.operands])) (h1 c (by rw [ho]; simp [Op.operands])) h2 h3 h5
  case slice t x lo hi mx =>
    refine OpS.soft ?_
    generalize softF ρ = ρ at h ⊢
    obtain ⟨z, hz, e⟩ := omap h
    cases e
    exact OpS.of_val (fun ρ' => Instr.sliceAt t (ρ' x) (lo.map ρ') (hi.map ρ') (mx.map ρ')) (fun ρ' => by simp only [execOp, ho]) fun O E H a w h1 h2 h4 =>
      aslice_run hz (h1 x (by rw [ho]; simp [Op.operands])) (relO_map ρ a lo fun y hy => h1 y (by rw [ho, hy]; simp [Op.operands]))
        (relO_map ρ a hi fun y hy => h1 y (by rw [ho, hy]; simp [Op.operands])) (relO_map ρ a mx fun y hy => h1 y (by rw [ho, hy]; simp [Op.operands]))
  case fieldAddr s x f =>
    obtain ⟨z, hz, e⟩ := omap h
    cases e
    exact OpS.of_val (fun ρ' => Instr.fieldAt s (ρ' x) f) (fun ρ' => by simp only [execOp, ho]) fun O E H a w h1 h2 h4 => afieldAddr_run hz (h1 x (by rw [ho]; simp [Op.operands]))
  case lookup t x i ok =>
    obtain ⟨z, hz, e⟩ := omap h
    cases e
    exact OpS.of_val (fun ρ' => Instr.lookup t (ρ' x) (ρ' i) ok) (fun ρ' => by simp only [execOp, ho]) fun O E H a w h1 h2 h4 => alookup_run hz (h1 x (by rw [ho]; simp [Op.operands])) (h1 i (by rw [ho]; simp [Op.operands]))
  case field t x f =>
    obtain ⟨z, hz, e⟩ := omap h
    cases e
    exact OpS.of_val (fun ρ' => Instr.field t (ρ' x) f) (fun ρ' => by simp only [execOp, ho]) fun O E H a w h1 h2 h4 => afield_run hz (h1 x (by rw [ho]; simp [Op.operands]))
  case indexAddr t x i =>
    obtain ⟨z, hz, e⟩ := omap h
    cases e
    exact OpS.of_val (fun ρ' => Instr.indexAt t (ρ' x) (ρ' i)) (fun ρ' => by simp only [execOp, ho]) fun O E H a w h1 h2 h4 =>
      aindexAddr_run hz (h1 x (by rw [ho]; simp [Op.operands])) (h1 i (by rw [ho]; simp [Op.operands]))
  case index t x i =>
    obtain ⟨z, hz, e⟩ := omap h
    cases e
    exact OpS.of_val (fun ρ' => Instr.index t (ρ' x) (ρ' i)) (fun ρ' => by simp only [execOp, ho]) fun O E H a w h1 h2 h4 =>
      aindex_run hz (h1 x (by rw [ho]; simp [Op.operands])) (h1 i (by rw [ho]; simp [Op.operands]))
  case extract x i =>
    obtain ⟨z, hz, e⟩ := omap h
    cases e
    exact OpS.of_val (fun ρ' => Instr.extract (ρ' x) i) (fun ρ' => by simp only [execOp, ho]) fun O E H a w h1 h2 h4 => aextract_run hz (h1 x (by rw [ho]; simp [Op.operands]))
  case call c =>
    refine OpS.soft ?_
    generalize softF ρ = ρ at h ⊢
    cases hcal : c.callee <;> simp only [hcal] at h <;> try (cases h; done)
    exact abuiltin_sound ho hcal h

end Go.AH

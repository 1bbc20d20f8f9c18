/- A text of the proof: a verified executor of the program form, or the contracts of the functions that the law reaches. -/
import Derived.Orders
import Derived.Tactics
import Derived.Below
import Derived.Laws.Sem
import Derived.Laws.World
import Derived.Laws.AppendOwn
import Derived.Deep.LoopGhost
set_option linter.all false
namespace Go.Vx
open Go Go.RowKit

/-! ## Abstract values -/

inductive AV : Type
  | int (k : IntKind) (n : Int)
  | bool (b : Bool)
  | str (s : List UInt8)
  | lit (v : Value)
  | nils
  | sl (e : TypeId) (l : List (List AV))
  | rp (cells : List AV) (off : Nat)
  | own (r n : Nat)
  | ptr (r n i j : Nat)
  | osl (r n j len : Nat)
  | agg (l : List AV)
  | tuple (l : List AV)
  | fn (f : FuncId) (caps : List AV)
  | when (b : Bool) (v : AV)
  | any

/-- Where an object of the call's own lies now. -/
structure Loc where
  blk : Option Nat
  cap : Nat
  n : Nat
  sz : Nat

abbrev Phi := Nat → Loc

def cellAt (l : List (List AV)) (i j : Nat) : AV := (l.getD i []).getD j .any

/-- A value that reads as data, from blocks that are not in M. -/
inductive RelD (P : Program) (w : World) (M : Nat → Prop) : AV → Value → Prop
  | int (k : IntKind) (n : Int) : RelD P w M (.int k n) (.int k n)
  | bool (b : Bool) : RelD P w M (.bool b) (.bool b)
  | str (s : List UInt8) : RelD P w M (.str s) (.string ⟨s.toArray⟩)
  | lit (v : Value) : RelD P w M (.lit v) v
  | nils : RelD P w M .nils (.slice none 0 0)
  | sl0 (e : TypeId) (a : Option Addr) (c : Nat) : RelD P w M (.sl e []) (.slice a 0 c)
  | sl (e : TypeId) (l : List (List AV)) (b off c : Nat) (us : Nat → Nat → Value) : b < w.heap.size → ¬ M b → l.length < 2 ^ 63 → l.length ≤ c → (∀ row ∈ l, row.length = P.cellsOf e) →
      (∀ i j, i < l.length → j < P.cellsOf e → w.cell? ⟨b, off + (i * P.cellsOf e + j), none⟩ = some (us i j)) →
      (∀ i j, i < l.length → j < P.cellsOf e → RelD P w M (cellAt l i j) (us i j)) → RelD P w M (.sl e l) (.slice (some ⟨b, off, none⟩) l.length c)
  | rp (cells : List AV) (b base off : Nat) (us : Nat → Value) : b < w.heap.size → ¬ M b →
      (∀ j, j < cells.length → w.cell? ⟨b, base + j, none⟩ = some (us j)) →
      (∀ j, j < cells.length → RelD P w M (cells.getD j .any) (us j)) → RelD P w M (.rp cells off) (.pointer (some ⟨b, base + off, none⟩))
  | agg (l : List AV) (vs : Array Value) : l.length = vs.size → (∀ i, i < l.length → RelD P w M (l.getD i .any) (vs.getD i undef)) → RelD P w M (.agg l) (.agg vs)
  | tuple (l : List AV) (vs : Array Value) : l.length = vs.size → (∀ i, i < l.length → RelD P w M (l.getD i .any) (vs.getD i undef)) → RelD P w M (.tuple l) (.tuple vs)
  | fn (f : FuncId) (l : List AV) (vs : Array Value) : l.length = vs.size → (∀ i, i < l.length → RelD P w M (l.getD i .any) (vs.getD i undef)) → RelD P w M (.fn f l) (.func (.func f) #[] vs)
  | any (v : Value) : RelD P w M .any v

/-- What a slot or a cell of an own object holds. -/
inductive Rel (P : Program) (w : World) (M : Nat → Prop) (φ : Phi) : AV → Value → Prop
  | data {av : AV} {v : Value} : RelD P w M av v → Rel P w M φ av v
  | own (r n : Nat) (v : Value) : v.oneCell' = true → n ≤ (φ r).n → ((φ r).n = n → v = .slice ((φ r).blk.map fun b => ⟨b, 0, none⟩) n (φ r).cap) → Rel P w M φ (.own r n) v
  | ptr (r n i j : Nat) (v : Value) : v.oneCell' = true → n ≤ (φ r).n → ((φ r).n = n → ∃ b, (φ r).blk = some b ∧ v = .pointer (some ⟨b, i * (φ r).sz + j, none⟩)) → Rel P w M φ (.ptr r n i j) v
  | osl (r n j len : Nat) (v : Value) : v.oneCell' = true → n ≤ (φ r).n → ((φ r).n = n → ∃ b j' cap, (φ r).blk = some b ∧ len ≤ cap ∧ (0 < len → j' = j) ∧ v = .slice (some ⟨b, j', none⟩) len cap) → Rel P w M φ (.osl r n j len) v
  | agg (l : List AV) (vs : Array Value) : l.length = vs.size → (∀ i, i < l.length → Rel P w M φ (l.getD i .any) (vs.getD i undef)) → Rel P w M φ (.agg l) (.agg vs)
  | tuple (l : List AV) (vs : Array Value) : l.length = vs.size → (∀ i, i < l.length → Rel P w M φ (l.getD i .any) (vs.getD i undef)) → Rel P w M φ (.tuple l) (.tuple vs)
  | fn (f : FuncId) (l : List AV) (vs : Array Value) : l.length = vs.size → (∀ i, i < l.length → Rel P w M φ (l.getD i .any) (vs.getD i undef)) → Rel P w M φ (.fn f l) (.func (.func f) #[] vs)
  | when (b : Bool) (av : AV) (v : Value) : (b = true → Rel P w M φ av v) → (b = false → v = undef) → Rel P w M φ (.when b av) v

theorem cell_block_lt {w : World} {a : Addr} {v : Value} (h : w.cell? a = some v) : a.block < w.heap.size := World.block_lt_of_cell? w a h

theorem RelD.mono {P : Program} {w w' : World} {M M' : Nat → Prop} {av : AV} {v : Value} (h : RelD P w M av v) (hsz : w.heap.size ≤ w'.heap.size)
    (hb : ∀ b, b < w.heap.size → ¬ M b → w'.heap[b]? = w.heap[b]?) (hm : ∀ b, b < w.heap.size → ¬ M b → ¬ M' b) : RelD P w' M' av v := by
  induction h with
  | int k n => exact .int k n
  | bool b => exact .bool b
  | str s => exact .str s
  | lit v => exact .lit v
  | nils => exact .nils
  | sl0 e a c => exact .sl0 e a c
  | sl e l b off c us hlt h1 h2 h2' h3 h4 h5 ih =>
    refine .sl e l b off c us (by omega) (hm b hlt h1) h2 h2' h3 (fun i j hi hj => ?_) ih
    rw [← h4 i j hi hj]
    exact World.cell?_of_block (w := w) (hb b hlt h1)
  | rp cells b base off us hlt h1 h2 h3 ih =>
    refine .rp cells b base off us (by omega) (hm b hlt h1) (fun j hj => ?_) ih
    rw [← h2 j hj]
    exact World.cell?_of_block (w := w) (hb b hlt h1)
  | agg l vs h1 h2 ih => exact .agg l vs h1 ih
  | tuple l vs h1 h2 ih => exact .tuple l vs h1 ih
  | fn f l vs h1 h2 ih => exact .fn f l vs h1 ih
  | any v => exact .any v

theorem Rel.mono {P : Program} {w w' : World} {M M' : Nat → Prop} {φ : Phi} {av : AV} {v : Value} (h : Rel P w M φ av v) (hsz : w.heap.size ≤ w'.heap.size)
    (hb : ∀ b, b < w.heap.size → ¬ M b → w'.heap[b]? = w.heap[b]?) (hm : ∀ b, b < w.heap.size → ¬ M b → ¬ M' b) : Rel P w' M' φ av v := by
  induction h with
  | data h => exact .data (h.mono hsz hb hm)
  | own r n v hv h0 h => exact .own r n v hv h0 h
  | ptr r n i j v hv h0 h => exact .ptr r n i j v hv h0 h
  | osl r n j len v hv h0 h => exact .osl r n j len v hv h0 h
  | agg l vs h1 h2 ih => exact .agg l vs h1 ih
  | tuple l vs h1 h2 ih => exact .tuple l vs h1 ih
  | fn f l vs h1 h2 ih => exact .fn f l vs h1 ih
  | when b av v h1 h2 ih => exact .when b av v ih h2

/-! ## States -/

structure Own where
  elem : TypeId
  es : List (List AV)

/-- The package's variables lie ahead of block n; these of them hold this. -/
structure Gl where
  n : Nat
  tabs : List (Nat × Array Value)

structure Ctx where
  P : Program
  nt : Nat
  w0 : World
  A : Nat → Prop
  W : List Nat
  gl : Gl
  n0 : Nat
  φ0 : Phi

structure St where
  tm : List (Nat × AV)
  hp : List (Option Own)

def look : List (Nat × AV) → Nat → Option AV
  | [], _ => none
  | (s, v) :: tl, t => match Nat.beq s t with
    | true => some v
    | false => look tl t

def nth : List (Option Own) → Nat → Option Own
  | [], _ => none
  | o :: _, 0 => o
  | _ :: tl, r + 1 => nth tl r

def St.live (st : St) (r : Nat) : Option Own := nth st.hp r

/-- The blocks that data may not be read from: those lent to us by nobody, and those of our own objects. -/
def Mut (A : Nat → Prop) (φ : Phi) (hp : List (Option Own)) : Nat → Prop := fun b => A b ∨ ∃ r o, nth hp r = some o ∧ (φ r).blk = some b

def Agree (n : Nat) (φ φ' : Phi) : Prop := ∀ r, r < n → φ' r = φ r

/-- Whatever becomes of objects that are not there yet. -/
def RelF (P : Program) (w : World) (M : Nat → Prop) (n : Nat) (φ : Phi) (av : AV) (v : Value) : Prop := ∀ φ', Agree n φ φ' → Rel P w M φ' av v

structure HRel (P : Program) (w : World) (M : Nat → Prop) (n : Nat) (φ : Phi) (r : Nat) (o : Own) : Prop where
  len : (φ r).n = o.es.length
  sz : (φ r).sz = P.cellsOf o.elem
  rows : ∀ row ∈ o.es, row.length = P.cellsOf o.elem
  room : o.es.length ≤ (φ r).cap
  cap : (φ r).cap < 2 ^ 63
  none : (φ r).blk = none → o.es = [] ∧ (φ r).cap = 0
  some : ∀ b, (φ r).blk = some b → ∃ cs, w.heap[b]? = .some (.cells cs o.elem (0, 0)) ∧ cs.size = (φ r).cap * P.cellsOf o.elem ∧
    ∀ i j, i < o.es.length → j < P.cellsOf o.elem → RelF P w M n φ (cellAt o.es i j) (cs.getD (i * P.cellsOf o.elem + j) undef)

/-- The package's variables are as they were laid, and nobody may write them. -/
structure GlOK (gl : Gl) (w : World) (A : Nat → Prop) (W : List Nat) : Prop where
  len : gl.n ≤ w.heap.size
  W : ∀ b ∈ W, gl.n ≤ b
  tab : ∀ p ∈ gl.tabs, p.1 < gl.n ∧ (∃ e fr, w.heap[p.1]? = some (.cells p.2 e fr)) ∧ ¬ A p.1

/-- The heap's part. -/
structure HeapOK (c : Ctx) (φ : Phi) (hp : List (Option Own)) (w : World) : Prop where
  os : w.os = c.w0.os
  tape : w.tape = c.w0.tape
  output : w.output = c.w0.output
  heap : c.w0.heap.size ≤ w.heap.size
  frame : ∀ b, b < c.w0.heap.size → b ∉ c.W → w.heap[b]? = c.w0.heap[b]?
  owned : ∀ r o b, nth hp r = some o → (φ r).blk = some b → (b ∈ c.W ∨ c.w0.heap.size ≤ b) ∧ ¬ c.A b
  apart : ∀ r r' o o' b, nth hp r = some o → nth hp r' = some o' → (φ r).blk = some b → (φ r').blk = some b → r = r'
  obj : ∀ r o, nth hp r = some o → HRel c.P w (Mut c.A φ hp) hp.length φ r o
  amb : ∀ b, c.A b → b < c.w0.heap.size ∧ b ∉ c.W
  glob : GlOK c.gl c.w0 c.A c.W
  len : c.n0 ≤ hp.length
  mono : ∀ r, r < c.n0 → φ r = c.φ0 r ∨ (c.φ0 r).n < (φ r).n

structure Conc (c : Ctx) (φ : Phi) (st : St) (a : Act) (w : World) : Prop where
  size : a.tmps.size = c.nt
  defers : a.defers = []
  hok : HeapOK c φ st.hp w
  tm : ∀ t av, look st.tm t = some av → RelF c.P w (Mut c.A φ st.hp) st.hp.length φ av (a.tmps.getD t undef)

theorem nth_lt {hp : List (Option Own)} {r : Nat} {o : Own} (h : nth hp r = some o) : r < hp.length := by
  induction hp generalizing r with
  | nil => simp [nth] at h
  | cons x tl ih =>
    cases r with
    | zero => simp
    | succ r => simp only [nth] at h; have := ih h; simp; omega

/-- More blocks, all old ones as they were. -/
theorem HRel.below {P : Program} {w w' : World} {M : Nat → Prop} {n : Nat} {φ : Phi} {r : Nat} {o : Own} (h : HRel P w M n φ r o)
    (hsz : w.heap.size ≤ w'.heap.size) (hb : ∀ b, b < w.heap.size → w'.heap[b]? = w.heap[b]?) : HRel P w' M n φ r o := by
  refine ⟨h.len, h.sz, h.rows, h.room, h.cap, h.none, fun b hbk => ?_⟩
  obtain ⟨cs, h1, h2, h3⟩ := h.some b hbk
  have hlt : b < w.heap.size := (Array.getElem?_eq_some_iff.1 h1).1
  refine ⟨cs, by rw [hb b hlt]; exact h1, h2, fun i j hi hj φ' hφ => (h3 i j hi hj φ' hφ).mono hsz (fun b hb' _ => hb b hb') (fun _ _ h => h)⟩

theorem RelF.below {P : Program} {w w' : World} {M : Nat → Prop} {n : Nat} {φ : Phi} {av : AV} {v : Value} (h : RelF P w M n φ av v) (hw : Below w.heap.size w w') : RelF P w' M n φ av v :=
  fun φ' hφ => (h φ' hφ).mono hw.size (fun b hb _ => hw.block b hb) (fun _ _ h => h)

theorem HeapOK.below {c : Ctx} {φ : Phi} {hp : List (Option Own)} {w w' : World} (h : HeapOK c φ hp w) (hw : Below w.heap.size w w') : HeapOK c φ hp w' where
  os := hw.os.trans h.os
  tape := hw.tape.trans h.tape
  output := hw.output.trans h.output
  heap := Nat.le_trans h.heap hw.size
  frame := fun b hb hn => (hw.block b (Nat.lt_of_lt_of_le hb h.heap)).trans (h.frame b hb hn)
  owned := h.owned
  apart := h.apart
  obj := fun r o hr => (h.obj r o hr).below hw.size hw.block
  amb := h.amb
  glob := h.glob
  len := h.len
  mono := h.mono

theorem Conc.below {c : Ctx} {φ : Phi} {st : St} {a : Act} {w w' : World} (h : Conc c φ st a w) (hw : Below w.heap.size w w') : Conc c φ st a w' where
  size := h.size
  defers := h.defers
  hok := h.hok.below hw
  tm := fun t av ht => (h.tm t av ht).below hw

def St.put (st : St) (d : Nat) (v : AV) : St := { st with tm := (d, v) :: st.tm }
def St.puto (st : St) (d : Option Nat) (v : AV) : St := match d with | some d => st.put d v | none => st

theorem getD_set (xs : Array Value) (d t : Nat) (v : Value) (hd : d < xs.size) : (xs.setIfInBounds d v).getD t undef = if d = t then v else xs.getD t undef := by
  by_cases h : d = t
  · subst h; simp [hd]
  · simp [Array.getD_eq_getD_getElem?, Array.getElem?_setIfInBounds_ne h, h]

theorem putd_size (a : Act) (d : Option Tmp) (v : Value) : (a.put d v).tmps.size = a.tmps.size := by cases d <;> simp [Act.put]
theorem putd_defers (a : Act) (d : Option Tmp) (v : Value) : (a.put d v).defers = a.defers := by cases d <;> rfl

def dstLt (d : Option Tmp) (n : Nat) : Bool := match d with | some d => Nat.blt d n | none => true

/-- One slot more is known. -/
theorem tm_put {tm : List (Nat × AV)} {a : Act} {n : Nat} {R : AV → Value → Prop} (hsz : a.tmps.size = n) (h : ∀ t av, look tm t = some av → R av (a.tmps.getD t undef))
    {d : Nat} {av : AV} {v : Value} (hd : d < n) (hv : R av v) : ∀ t av', look ((d, av) :: tm) t = some av' → R av' ((a.put (some d) v).tmps.getD t undef) := by
  intro t av' ht
  simp only [Act.put, getD_set a.tmps d t v (by rw [hsz]; exact hd)]
  simp only [look] at ht
  split at ht
  · rename_i he
    have he := Nat.eq_of_beq_eq_true he
    subst he
    cases ht
    rw [if_pos rfl]
    exact hv
  · rename_i he
    have he := Nat.ne_of_beq_eq_false he
    rw [if_neg he]
    exact h t av' ht

theorem Conc.puto {c : Ctx} {φ : Phi} {st : St} {a : Act} {w : World} (h : Conc c φ st a w) {d : Option Nat} {av : AV} {v : Value} (hd : dstLt d c.nt = true)
    (hv : RelF c.P w (Mut c.A φ st.hp) st.hp.length φ av v) : Conc c φ (st.puto d av) (a.put d v) w := by
  cases d with
  | none => exact h
  | some d =>
    exact ⟨by rw [putd_size]; exact h.size, by rw [putd_defers]; exact h.defers, h.hok,
      tm_put (R := fun av v => RelF c.P w (Mut c.A φ st.hp) st.hp.length φ av v) h.size h.tm (by simpa [dstLt, Nat.blt_eq] using hd) hv⟩

/-! ## The triple -/

def Post (c : Ctx) (K : Exit → St → Prop) : Exit → Act → World → Prop := fun e a w => ∃ st φ, K e st ∧ Conc c φ st a w

def T (c : Ctx) (code : Code) (st : St) (K : Exit → St → Prop) : Prop := ∀ φ a w, Conc c φ st a w → code.wp c.P (Post c K) a w

def seqK (K' : St → Prop) (K : Exit → St → Prop) : Exit → St → Prop
  | .normal, st => K' st
  | e, st => K e st

theorem T_seq {c : Ctx} {x y : Code} {st : St} {K : Exit → St → Prop} (h : T c x st (seqK (fun st' => T c y st' K) K)) : T c (.seq x y) st K := by
  intro φ a w hc
  refine wp_seq (wp_mono (h φ a w hc) ?_)
  rintro e a' w' ⟨st', φ', hk, hc'⟩
  cases e with
  | normal => exact hk φ' a' w' hc'
  | exit id => exact ⟨st', φ', hk, hc'⟩
  | goto l => exact ⟨st', φ', hk, hc'⟩
  | ret => exact ⟨st', φ', hk, hc'⟩
  | panic ch => exact ⟨st', φ', hk, hc'⟩
  | outgrown => exact ⟨st', φ', hk, hc'⟩

theorem T_skip {c : Ctx} {st : St} {K : Exit → St → Prop} (h : K .normal st) : T c .skip st K := fun φ _ _ hc => wp_skip ⟨st, φ, h, hc⟩
theorem T_ret {c : Ctx} {st : St} {K : Exit → St → Prop} (h : K .ret st) : T c .ret st K := fun φ _ _ hc => wp_ret ⟨st, φ, h, hc⟩
theorem T_exit {c : Ctx} {id : Nat} {st : St} {K : Exit → St → Prop} (h : K (.exit id) st) : T c (.exit id) st K := fun φ _ _ hc => wp_exit ⟨st, φ, h, hc⟩

theorem T_mono {c : Ctx} {code : Code} {st : St} {K K' : Exit → St → Prop} (h : T c code st K) (hk : ∀ e st, K e st → K' e st) : T c code st K' :=
  fun φ a w hc => wp_mono (h φ a w hc) fun _ _ _ ⟨st', φ', k, hc'⟩ => ⟨st', φ', hk _ _ k, hc'⟩

/-- What a state says, another one says too. -/
def Ent (c : Ctx) (st st' : St) : Prop := ∀ φ a w, Conc c φ st a w → ∃ φ', Conc c φ' st' a w

theorem Ent.refl {c : Ctx} {st : St} : Ent c st st := fun φ _ _ h => ⟨φ, h⟩
theorem Ent.trans {c : Ctx} {s1 s2 s3 : St} (h : Ent c s1 s2) (k : Ent c s2 s3) : Ent c s1 s3 := fun φ a w hc =>
  let ⟨φ', hc'⟩ := h φ a w hc
  k φ' a w hc'

theorem T_ent {c : Ctx} {code : Code} {st st' : St} {K : Exit → St → Prop} (he : Ent c st st') (h : T c code st' K) : T c code st K :=
  fun φ a w hc => let ⟨φ', hc'⟩ := he φ a w hc; h φ' a w hc'

def blockK (id : Nat) (K : Exit → St → Prop) : Exit → St → Prop
  | .exit id', st => if Nat.beq id' id then K .normal st else K (.exit id') st
  | e, st => K e st

theorem T_block {c : Ctx} {id : Nat} {code : Code} {st : St} {K : Exit → St → Prop} (h : T c code st (blockK id K)) : T c (.block id code) st K := by
  intro φ a w hc
  refine wp_block (wp_mono (h φ a w hc) ?_)
  rintro e a' w' ⟨st', φ', hk, hc'⟩
  cases e with
  | exit id' =>
    simp only [blockK] at hk
    simp only [Exit.inBlock]
    by_cases he : id' = id
    · subst he; simp at hk; rw [if_pos rfl]; exact ⟨st', φ', hk, hc'⟩
    · have : Nat.beq id' id = false := by
        cases hb : Nat.beq id' id
        · rfl
        · exact absurd (Nat.eq_of_beq_eq_true hb) he
      rw [this] at hk
      rw [if_neg he]; exact ⟨st', φ', by simpa using hk, hc'⟩
  | normal => exact ⟨st', φ', hk, hc'⟩
  | goto l => exact ⟨st', φ', hk, hc'⟩
  | ret => exact ⟨st', φ', hk, hc'⟩
  | panic ch => exact ⟨st', φ', hk, hc'⟩
  | outgrown => exact ⟨st', φ', hk, hc'⟩

theorem relF_bool {P : Program} {w : World} {M : Nat → Prop} {n : Nat} {φ : Phi} {b : Bool} {v : Value} (h : RelF P w M n φ (.bool b) v) : v = .bool b := by
  have := h φ (fun _ _ => rfl)
  cases this with | data h => cases h; rfl

theorem relF_int {P : Program} {w : World} {M : Nat → Prop} {n : Nat} {φ : Phi} {k : IntKind} {z : Int} {v : Value} (h : RelF P w M n φ (.int k z) v) : v = .int k z := by
  have := h φ (fun _ _ => rfl)
  cases this with | data h => cases h; rfl

theorem T_cond {c : Ctx} {t : Nat} {x y : Code} {st : St} {K : Exit → St → Prop} {b : Bool} (hl : look st.tm t = some (.bool b))
    (h1 : b = true → T c x st K) (h2 : b = false → T c y st K) : T c (.cond (.tmp t) x y) st K := by
  intro φ a w hc
  have hv := relF_bool (hc.tm t _ hl)
  exact wp_cond_split (t := b) (by simpa [Act.eval] using hv) (fun h => h1 h φ a w hc) (fun h => h2 h φ a w hc)

/-- A loop: 'I i' are the states at its head, 'μ' goes down. -/
theorem T_loop {c : Ctx} {code : Code} {st : St} {K : Exit → St → Prop} {ι : Type} (C : ι → Prop) (I : ι → St) (μ : ι → Nat) (i0 : ι) (hC : C i0) (h0 : Ent c st (I i0))
    (hr : ∀ i, C i → T c code (I i) (seqK (fun st' => ∃ i', C i' ∧ μ i' < μ i ∧ Ent c st' (I i')) K)) : T c (.loop code) st K := by
  intro φ a w hc
  obtain ⟨φ0, hc0⟩ := h0 φ a w hc
  refine wp_loop_ghost (fun n a w => ∃ i φ, C i ∧ μ i = n ∧ Conc c φ (I i) a w) (μ i0) ⟨i0, φ0, hC, rfl, hc0⟩ ?_
  rintro n a w ⟨i, φ, hCi, hn, hci⟩
  refine wp_mono (hr i hCi φ a w hci) ?_
  rintro e a' w' ⟨st', φ', hk, hc'⟩
  cases e with
  | normal =>
    obtain ⟨i', hC', hlt, he⟩ := hk
    obtain ⟨φ'', hc''⟩ := he φ' a' w' hc'
    exact ⟨μ i', by omega, i', φ'', hC', rfl, hc''⟩
  | exit id => exact ⟨st', φ', hk, hc'⟩
  | goto l => exact ⟨st', φ', hk, hc'⟩
  | ret => exact ⟨st', φ', hk, hc'⟩
  | panic ch => exact ⟨st', φ', hk, hc'⟩
  | outgrown => exact ⟨st', φ', hk, hc'⟩
end Go.Vx

/- A text of the proof: a verified executor of the program form, or the contracts of the functions that the law reaches. -/
import Derived.Orders
import Derived.Tactics
import Derived.Below
import Derived.Laws.Sem
import Derived.Laws.World
import Derived.Laws.AppendOwn
import Derived.Deep.LoopGhost
import Derived.Scope
import Derived.KernelRfl
import Derived.Laws.Small
import Derived.Laws.Slices
import Derived.Laws.Build
import Derived.Laws.Cells
import Derived.Laws.Entries
import Derived.Deep.MidRow
import Derived.Laws.NewBlocks
import Derived.Laws.CopyRow
import Derived.Laws.Append
set_option linter.all false
namespace Go.Vx
open Go Go.RowKit


inductive AV : Type
  | int (k : IntKind) (n : Int)
  | bool (b : Bool)
  | str (s : List UInt8)
  | lit (v : Value)
  | nils
  | sl (e : TypeId) (l : List (List AV))
  | rp (cells : List AV) (off : Nat)
  | own (r n : Nat)
  | ptr (r n i j : Nat)
  | osl (r n j len : Nat)
  | agg (l : List AV)
  | tuple (l : List AV)
  | fn (f : FuncId) (caps : List AV)
  | when (b : Bool) (v : AV)
  | any
  | mref (r n : Nat)
  | osub (e : TypeId) (l : List (List AV))
  | mcon (l : List (List AV))

structure Loc where
  blk : Option Nat
  cap : Nat
  n : Nat
  sz : Nat
  mp : Bool
  sub : Nat → Prop

abbrev Phi := Nat → Loc

def Loc.same (L L' : Loc) : Prop := L.blk = L'.blk ∧ L.cap = L'.cap ∧ L.n = L'.n ∧ L.sz = L'.sz ∧ L.mp = L'.mp
theorem Loc.same.refl (L : Loc) : L.same L := ⟨rfl, rfl, rfl, rfl, rfl⟩
theorem Loc.same.trans {L M N : Loc} (h : L.same M) (k : M.same N) : L.same N := ⟨h.1.trans k.1, h.2.1.trans k.2.1, h.2.2.1.trans k.2.2.1, h.2.2.2.1.trans k.2.2.2.1, h.2.2.2.2.trans k.2.2.2.2⟩

def cellAt (l : List (List AV)) (i j : Nat) : AV := (l.getD i []).getD j .any

inductive RelD (P : Program) (w : World) (M : Nat → Prop) : AV → Value → Prop
  | int (k : IntKind) (n : Int) : RelD P w M (.int k n) (.int k n)
  | bool (b : Bool) : RelD P w M (.bool b) (.bool b)
  | str (s : List UInt8) : RelD P w M (.str s) (.string ⟨s.toArray⟩)
  | lit (v : Value) : RelD P w M (.lit v) v
  | nils : RelD P w M .nils (.slice none 0 0)
  | sl0 (e : TypeId) (a : Option Addr) (c : Nat) : RelD P w M (.sl e []) (.slice a 0 c)
  | sl (e : TypeId) (l : List (List AV)) (b off c : Nat) (us : Nat → Nat → Value) : b < w.heap.size → ¬ M b → l.length < 2 ^ 63 → l.length ≤ c → (∀ row ∈ l, row.length = P.cellsOf e) →
      (∀ i j, i < l.length → j < P.cellsOf e → w.cell? ⟨b, off + (i * P.cellsOf e + j), none⟩ = some (us i j)) →
      (∀ i j, i < l.length → j < P.cellsOf e → RelD P w M (cellAt l i j) (us i j)) → RelD P w M (.sl e l) (.slice (some ⟨b, off, none⟩) l.length c)
  | rp (cells : List AV) (b base off : Nat) (us : Nat → Value) : b < w.heap.size → ¬ M b →
      (∀ j, j < cells.length → w.cell? ⟨b, base + j, none⟩ = some (us j)) →
      (∀ j, j < cells.length → RelD P w M (cells.getD j .any) (us j)) → RelD P w M (.rp cells off) (.pointer (some ⟨b, base + off, none⟩))
  | agg (l : List AV) (vs : Array Value) : l.length = vs.size → (∀ i, i < l.length → RelD P w M (l.getD i .any) (vs.getD i undef)) → RelD P w M (.agg l) (.agg vs)
  | tuple (l : List AV) (vs : Array Value) : l.length = vs.size → (∀ i, i < l.length → RelD P w M (l.getD i .any) (vs.getD i undef)) → RelD P w M (.tuple l) (.tuple vs)
  | fn (f : FuncId) (l : List AV) (vs : Array Value) : l.length = vs.size → (∀ i, i < l.length → RelD P w M (l.getD i .any) (vs.getD i undef)) → RelD P w M (.fn f l) (.func (.func f) #[] vs)
  | any (v : Value) : RelD P w M .any v

inductive Rel (P : Program) (w : World) (M : Nat → Prop) (φ : Phi) : AV → Value → Prop
  | data {av : AV} {v : Value} : RelD P w M av v → Rel P w M φ av v
  | own (r n : Nat) (v : Value) : v.oneCell' = true → n ≤ (φ r).n → ((φ r).n = n → (φ r).mp = false ∧ v = .slice ((φ r).blk.map fun b => ⟨b, 0, none⟩) n (φ r).cap) → Rel P w M φ (.own r n) v
  | ptr (r n i j : Nat) (v : Value) : v.oneCell' = true → n ≤ (φ r).n → ((φ r).n = n → (φ r).mp = false ∧ ∃ b, (φ r).blk = some b ∧ v = .pointer (some ⟨b, i * (φ r).sz + j, none⟩)) → Rel P w M φ (.ptr r n i j) v
  | osl (r n j len : Nat) (v : Value) : v.oneCell' = true → n ≤ (φ r).n → ((φ r).n = n → (φ r).mp = false ∧ ∃ b j' cap, (φ r).blk = some b ∧ len ≤ cap ∧ (0 < len → j' = j) ∧ v = .slice (some ⟨b, j', none⟩) len cap) → Rel P w M φ (.osl r n j len) v
  | agg (l : List AV) (vs : Array Value) : l.length = vs.size → (∀ i, i < l.length → Rel P w M φ (l.getD i .any) (vs.getD i undef)) → Rel P w M φ (.agg l) (.agg vs)
  | tuple (l : List AV) (vs : Array Value) : l.length = vs.size → (∀ i, i < l.length → Rel P w M φ (l.getD i .any) (vs.getD i undef)) → Rel P w M φ (.tuple l) (.tuple vs)
  | fn (f : FuncId) (l : List AV) (vs : Array Value) : l.length = vs.size → (∀ i, i < l.length → Rel P w M φ (l.getD i .any) (vs.getD i undef)) → Rel P w M φ (.fn f l) (.func (.func f) #[] vs)
  | when (b : Bool) (av : AV) (v : Value) : (b = true → Rel P w M φ av v) → (b = false → v = undef) → Rel P w M φ (.when b av) v
  | mref (r n : Nat) (v : Value) : v.oneCell' = true → n ≤ (φ r).n → ((φ r).n = n → (φ r).mp = true ∧ ∃ b, (φ r).blk = some b ∧ v = .map (some b)) → Rel P w M φ (.mref r n) v

theorem RelD.mono {P : Program} {w w' : World} {M M' : Nat → Prop} {av : AV} {v : Value} (h : RelD P w M av v) (hsz : w.heap.size ≤ w'.heap.size)
    (hb : ∀ b, b < w.heap.size → ¬ M b → w'.heap[b]? = w.heap[b]?) (hm : ∀ b, b < w.heap.size → ¬ M b → ¬ M' b) : RelD P w' M' av v := by
  induction h with
  | int k n => exact .int k n
  | bool b => exact .bool b
  | str s => exact .str s
  | lit v => exact .lit v
  | nils => exact .nils
  | sl0 e a c => exact .sl0 e a c
  | sl e l b off c us hlt h1 h2 h2' h3 h4 h5 ih =>
    refine .sl e l b off c us (by omega) (hm b hlt h1) h2 h2' h3 (fun i j hi hj => ?_) ih
    rw [← h4 i j hi hj]
    exact World.cell?_of_block (w := w) (hb b hlt h1)
  | rp cells b base off us hlt h1 h2 h3 ih =>
    refine .rp cells b base off us (by omega) (hm b hlt h1) (fun j hj => ?_) ih
    rw [← h2 j hj]
    exact World.cell?_of_block (w := w) (hb b hlt h1)
  | agg l vs h1 h2 ih => exact .agg l vs h1 ih
  | tuple l vs h1 h2 ih => exact .tuple l vs h1 ih
  | fn f l vs h1 h2 ih => exact .fn f l vs h1 ih
  | any v => exact .any v

theorem Rel.mono {P : Program} {w w' : World} {M M' : Nat → Prop} {φ : Phi} {av : AV} {v : Value} (h : Rel P w M φ av v) (hsz : w.heap.size ≤ w'.heap.size)
    (hb : ∀ b, b < w.heap.size → ¬ M b → w'.heap[b]? = w.heap[b]?) (hm : ∀ b, b < w.heap.size → ¬ M b → ¬ M' b) : Rel P w' M' φ av v := by
  induction h with
  | data h => exact .data (h.mono hsz hb hm)
  | own r n v hv h0 h => exact .own r n v hv h0 h
  | ptr r n i j v hv h0 h => exact .ptr r n i j v hv h0 h
  | osl r n j len v hv h0 h => exact .osl r n j len v hv h0 h
  | agg l vs h1 h2 ih => exact .agg l vs h1 ih
  | tuple l vs h1 h2 ih => exact .tuple l vs h1 ih
  | fn f l vs h1 h2 ih => exact .fn f l vs h1 ih
  | when b av v h1 h2 ih => exact .when b av v ih h2
  | mref r n v hv h0 h => exact .mref r n v hv h0 h

theorem Rel.loc {P : Program} {w : World} {M : Nat → Prop} {φ ψ : Phi} {av : AV} {v : Value} (h : Rel P w M φ av v) (hs : ∀ s, (ψ s).same (φ s) ∨ (φ s).n < (ψ s).n) : Rel P w M ψ av v := by
  induction h with
  | data h => exact .data h
  | own r n v hv h0 h =>
    rcases hs r with ⟨e1, e2, e3, e4, e5⟩ | hn
    · exact .own r n v hv (by rw [e3]; exact h0) (by rw [e3, e1, e2, e5]; exact h)
    · exact .own r n v hv (by omega) (fun e => by omega)
  | ptr r n i j v hv h0 h =>
    rcases hs r with ⟨e1, e2, e3, e4, e5⟩ | hn
    · exact .ptr r n i j v hv (by rw [e3]; exact h0) (by rw [e3, e1, e4, e5]; exact h)
    · exact .ptr r n i j v hv (by omega) (fun e => by omega)
  | osl r n j len v hv h0 h =>
    rcases hs r with ⟨e1, e2, e3, e4, e5⟩ | hn
    · exact .osl r n j len v hv (by rw [e3]; exact h0) (by rw [e3, e1, e5]; exact h)
    · exact .osl r n j len v hv (by omega) (fun e => by omega)
  | mref r n v hv h0 h =>
    rcases hs r with ⟨e1, e2, e3, e4, e5⟩ | hn
    · exact .mref r n v hv (by rw [e3]; exact h0) (by rw [e3, e1, e5]; exact h)
    · exact .mref r n v hv (by omega) (fun e => by omega)
  | agg l vs h1 h2 ih => exact .agg l vs h1 ih
  | tuple l vs h1 h2 ih => exact .tuple l vs h1 ih
  | fn f l vs h1 h2 ih => exact .fn f l vs h1 ih
  | when b av v h1 h2 ih => exact .when b av v ih h2


structure Own where
  elem : TypeId
  es : List (List AV)

structure Gl where
  n : Nat
  tabs : List (Nat × Array Value)

structure Ctx where
  P : Program
  nt : Nat
  w0 : World
  A : Nat → Prop
  W : List Nat
  gl : Gl
  n0 : Nat
  φ0 : Phi

structure St where
  tm : List (Nat × AV)
  hp : List (Option Own)

def look : List (Nat × AV) → Nat → Option AV
  | [], _ => none
  | (s, v) :: tl, t => match Nat.beq s t with
    | true => some v
    | false => look tl t

def nth : List (Option Own) → Nat → Option Own
  | [], _ => none
  | o :: _, 0 => o
  | _ :: tl, r + 1 => nth tl r

def Loc.has (L : Loc) (b : Nat) : Prop := L.blk = some b ∨ L.sub b

def Mut (A : Nat → Prop) (φ : Phi) (hp : List (Option Own)) : Nat → Prop := fun b => A b ∨ ∃ r o, nth hp r = some o ∧ (φ r).has b

def Agree (n : Nat) (φ φ' : Phi) : Prop := ∀ r, r < n → φ' r = φ r

def RelF (P : Program) (w : World) (M : Nat → Prop) (n : Nat) (φ : Phi) (av : AV) (v : Value) : Prop := ∀ φ', Agree n φ φ' → Rel P w M φ' av v

def noSub : AV → Bool
  | .osub _ _ | .mcon _ => false
  | _ => true

inductive TRel (P : Program) (w : World) (M : Nat → Prop) (n : Nat) (φ : Phi) : (Nat → Prop) → AV → Value → Prop
  | leaf {S : Nat → Prop} {av : AV} {v : Value} : RelF P w M n φ av v → TRel P w M n φ S av v
  | nil {S : Nat → Prop} (e : TypeId) : TRel P w M n φ S (.osub e []) (.slice none 0 0)
  | osub {S : Nat → Prop} (e : TypeId) (l : List (List AV)) (b cap : Nat) (cs : Array Value) (T : Nat → Nat → Nat → Prop) : S b → l.length ≤ cap → cap < 2 ^ 63 → w.heap[b]? = some (.cells cs e (0, 0)) →
      cs.size = cap * P.cellsOf e → (∀ row ∈ l, row.length = P.cellsOf e) → (∀ i j x, T i j x → S x ∧ x ≠ b) → (∀ i j i' j' x, T i j x → T i' j' x → i = i' ∧ j = j') →
      (∀ i j, i < l.length → j < P.cellsOf e → TRel P w M n φ (T i j) (cellAt l i j) (cs.getD (i * P.cellsOf e + j) undef)) → TRel P w M n φ S (.osub e l) (.slice (some ⟨b, 0, none⟩) l.length cap)
  | mcon {S : Nat → Prop} (l : List (List AV)) (ks vs : Nat → Value) (es : Array Value) (T : Nat → Nat → Prop) : es.size = l.length → (∀ i, i < l.length → es[i]? = some (.tuple #[ks i, vs i])) →
      (∀ i x, T i x → S x) → (∀ i i' x, T i x → T i' x → i = i') → (∀ i, i < l.length → RelF P w M n φ (cellAt l i 0) (ks i)) →
      (∀ i, i < l.length → TRel P w M n φ (T i) (cellAt l i 1) (vs i)) → TRel P w M n φ S (.mcon l) (.tuple es)

theorem no_sub {P : Program} {w : World} {M : Nat → Prop} {φ : Phi} {av : AV} {v : Value} (h : Rel P w M φ av v) : noSub av = true := by
  cases h with
  | data h => cases h <;> rfl
  | _ => rfl

theorem TRel.plain {P : Program} {w : World} {M : Nat → Prop} {n : Nat} {φ : Phi} {S : Nat → Prop} {av : AV} {v : Value} (h : TRel P w M n φ S av v) (hn : noSub av = true) : RelF P w M n φ av v := by
  cases h with
  | leaf h => exact h
  | nil => cases hn
  | osub => cases hn
  | mcon => cases hn

theorem TRel.tr {P : Program} {w w' : World} {M M' : Nat → Prop} {n n' : Nat} {φ φ' : Phi} {S : Nat → Prop} {av : AV} {v : Value} (h : TRel P w M n φ S av v) (hw : ∀ b, S b → w'.heap[b]? = w.heap[b]?)
    (hr : ∀ av x, RelF P w M n φ av x → RelF P w' M' n' φ' av x) : TRel P w' M' n' φ' S av v := by
  induction h with
  | leaf h => exact .leaf (hr _ _ h)
  | nil e => exact .nil e
  | osub e l b cap cs T h1 h2 h3 h4 h5 h6 h7 h8 _ ih => exact .osub e l b cap cs T h1 h2 h3 ((hw b h1).trans h4) h5 h6 h7 h8 fun i j hi hj => ih i j hi hj fun x hx => hw x (h7 i j x hx).1
  | mcon l ks vs es T h1 h2 h3 h4 h5 _ ih => exact .mcon l ks vs es T h1 h2 h3 h4 (fun i hi => hr _ _ (h5 i hi)) fun i hi => ih i hi fun x hx => hw x (h3 i x hx)

theorem TRel.sub {P : Program} {w : World} {M : Nat → Prop} {n : Nat} {φ : Phi} {S S' : Nat → Prop} {av : AV} {v : Value} (h : TRel P w M n φ S av v) (hs : ∀ b, S b → S' b) : TRel P w M n φ S' av v := by
  cases h with
  | leaf h => exact .leaf h
  | nil e => exact .nil e
  | osub e l b cap cs T h1 h2 h3 h4 h5 h6 h7 h8 h9 => exact .osub e l b cap cs T (hs b h1) h2 h3 h4 h5 h6 (fun i j x hx => ⟨hs x (h7 i j x hx).1, (h7 i j x hx).2⟩) h8 h9
  | mcon l ks vs es T h1 h2 h3 h4 h5 h6 => exact .mcon l ks vs es T h1 h2 (fun i x hx => hs x (h3 i x hx)) h4 h5 h6

def Cells (P : Program) (w : World) (M : Nat → Prop) (n : Nat) (φ : Phi) (S : Nat → Prop) (es : List (List AV)) (cs : Array Value) (sz : Nat) : Prop :=
  ∃ T : Nat → Nat → Nat → Prop, (∀ i j b, T i j b → S b) ∧ (∀ i j i' j' b, T i j b → T i' j' b → i = i' ∧ j = j') ∧
    ∀ i j, i < es.length → j < sz → TRel P w M n φ (T i j) (cellAt es i j) (cs.getD (i * sz + j) undef)

theorem Cells.of {P : Program} {w : World} {M : Nat → Prop} {n : Nat} {φ : Phi} {S : Nat → Prop} {es : List (List AV)} {cs : Array Value} {sz : Nat}
    (h : ∀ i j, i < es.length → j < sz → RelF P w M n φ (cellAt es i j) (cs.getD (i * sz + j) undef)) : Cells P w M n φ S es cs sz :=
  ⟨fun _ _ _ => False, fun _ _ _ h => h.elim, fun _ _ _ _ _ h => h.elim, fun i j hi hj => .leaf (h i j hi hj)⟩
theorem Cells.plain {P : Program} {w : World} {M : Nat → Prop} {n : Nat} {φ : Phi} {S : Nat → Prop} {es : List (List AV)} {cs : Array Value} {sz : Nat} (h : Cells P w M n φ S es cs sz)
    {i j : Nat} (hi : i < es.length) (hj : j < sz) (hn : noSub (cellAt es i j) = true) : RelF P w M n φ (cellAt es i j) (cs.getD (i * sz + j) undef) :=
  let ⟨_, _, _, h⟩ := h; (h i j hi hj).plain hn
theorem Cells.tr {P : Program} {w w' : World} {M M' : Nat → Prop} {n n' : Nat} {φ φ' : Phi} {S : Nat → Prop} {es : List (List AV)} {cs : Array Value} {sz : Nat} (h : Cells P w M n φ S es cs sz)
    (hw : ∀ b, S b → w'.heap[b]? = w.heap[b]?) (hr : ∀ av x, RelF P w M n φ av x → RelF P w' M' n' φ' av x) : Cells P w' M' n' φ' S es cs sz :=
  let ⟨T, h1, h2, h3⟩ := h; ⟨T, h1, h2, fun i j hi hj => (h3 i j hi hj).tr (fun b hb => hw b (h1 i j b hb)) hr⟩

def mapVal (es : Array MapEntry) : Value := .tuple (es.map fun e => .tuple #[e.key, e.val])

def Blk (w : World) (b : Nat) (mp : Bool) (e : TypeId) (cs : Array Value) : Prop := match mp with
  | false => w.heap[b]? = some (.cells cs e (0, 0))
  | true => ∃ es clock, w.heap[b]? = some (.map es clock) ∧ cs = #[mapVal es] ∧ (∀ (i : Nat) (x : MapEntry), es[i]? = some x → x.born < clock) ∧
      ∀ (i j : Nat) (x y : MapEntry), es[i]? = some x → es[j]? = some y → x.born = y.born → i = j

theorem Blk.lt {w : World} {b : Nat} {mp : Bool} {e : TypeId} {cs : Array Value} (h : Blk w b mp e cs) : b < w.heap.size := by
  cases mp with
  | false => exact (Array.getElem?_eq_some_iff.1 h).1
  | true => obtain ⟨_, _, h, _⟩ := h; exact (Array.getElem?_eq_some_iff.1 h).1
theorem Blk.congr {w w' : World} {b : Nat} {mp : Bool} {e : TypeId} {cs : Array Value} (h : Blk w b mp e cs) (hw : w'.heap[b]? = w.heap[b]?) : Blk w' b mp e cs := by
  cases mp with
  | false => exact hw.trans h
  | true => obtain ⟨es, clock, h, h2⟩ := h; exact ⟨es, clock, hw.trans h, h2⟩
theorem Blk.cells {w : World} {b : Nat} {mp : Bool} {e : TypeId} {cs : Array Value} (h : Blk w b mp e cs) (hm : mp = false) : w.heap[b]? = some (.cells cs e (0, 0)) := by subst hm; exact h

structure HRel (P : Program) (w : World) (M : Nat → Prop) (n : Nat) (φ : Phi) (r : Nat) (o : Own) : Prop where
  len : (φ r).n = o.es.length
  sz : (φ r).sz = P.cellsOf o.elem
  rows : ∀ row ∈ o.es, row.length = P.cellsOf o.elem
  room : o.es.length ≤ (φ r).cap
  cap : (φ r).cap < 2 ^ 63
  none : (φ r).blk = none → o.es = [] ∧ (φ r).cap = 0
  subl : ∀ b, (φ r).sub b → b < w.heap.size
  subn : ∀ b, (φ r).blk = some b → ¬ (φ r).sub b
  some : ∀ b, (φ r).blk = some b → ∃ cs, Blk w b (φ r).mp o.elem cs ∧ cs.size = (φ r).cap * P.cellsOf o.elem ∧ Cells P w M n φ (φ r).sub o.es cs (P.cellsOf o.elem)

theorem HRel.has_lt {P : Program} {w : World} {M : Nat → Prop} {n : Nat} {φ : Phi} {r : Nat} {o : Own} (h : HRel P w M n φ r o) {b : Nat} (hb : (φ r).has b) : b < w.heap.size := by
  rcases hb with hb | hb
  · obtain ⟨cs, h1, _⟩ := h.some b hb; exact h1.lt
  · exact h.subl b hb

structure GlOK (gl : Gl) (w : World) (A : Nat → Prop) (W : List Nat) : Prop where
  len : gl.n ≤ w.heap.size
  W : ∀ b ∈ W, gl.n ≤ b
  tab : ∀ p ∈ gl.tabs, p.1 < gl.n ∧ (∃ e fr, w.heap[p.1]? = some (.cells p.2 e fr)) ∧ ¬ A p.1

structure HeapOK (c : Ctx) (φ : Phi) (hp : List (Option Own)) (w : World) : Prop where
  os : w.os = c.w0.os
  tape : w.tape = c.w0.tape
  output : w.output = c.w0.output
  heap : c.w0.heap.size ≤ w.heap.size
  frame : ∀ b, b < c.w0.heap.size → b ∉ c.W → w.heap[b]? = c.w0.heap[b]?
  owned : ∀ r o b, nth hp r = some o → (φ r).has b → (b ∈ c.W ∨ c.w0.heap.size ≤ b) ∧ ¬ c.A b
  apart : ∀ r r' o o' b, nth hp r = some o → nth hp r' = some o' → (φ r).has b → (φ r').has b → r = r'
  obj : ∀ r o, nth hp r = some o → HRel c.P w (Mut c.A φ hp) hp.length φ r o
  amb : ∀ b, c.A b → b < c.w0.heap.size ∧ b ∉ c.W
  glob : GlOK c.gl c.w0 c.A c.W
  len : c.n0 ≤ hp.length
  mono : ∀ r, r < c.n0 → (φ r).same (c.φ0 r) ∨ (c.φ0 r).n < (φ r).n

structure Conc (c : Ctx) (φ : Phi) (st : St) (a : Act) (w : World) : Prop where
  size : a.tmps.size = c.nt
  defers : a.defers = []
  hok : HeapOK c φ st.hp w
  tm : ∀ t av, look st.tm t = some av → RelF c.P w (Mut c.A φ st.hp) st.hp.length φ av (a.tmps.getD t undef)

theorem nth_lt {hp : List (Option Own)} {r : Nat} {o : Own} (h : nth hp r = some o) : r < hp.length := by
  induction hp generalizing r with
  | nil => simp [nth] at h
  | cons x tl ih =>
    cases r with
    | zero => simp
    | succ r => simp only [nth] at h; have := ih h; simp; omega

theorem HRel.below {P : Program} {w w' : World} {M : Nat → Prop} {n : Nat} {φ : Phi} {r : Nat} {o : Own} (h : HRel P w M n φ r o)
    (hsz : w.heap.size ≤ w'.heap.size) (hb : ∀ b, b < w.heap.size → w'.heap[b]? = w.heap[b]?) : HRel P w' M n φ r o := by
  refine ⟨h.len, h.sz, h.rows, h.room, h.cap, h.none, fun b hs => Nat.lt_of_lt_of_le (h.subl b hs) hsz, h.subn, fun b hbk => ?_⟩
  obtain ⟨cs, h1, h2, h3⟩ := h.some b hbk
  exact ⟨cs, h1.congr (hb b h1.lt), h2, h3.tr (fun b hs => hb b (h.subl b hs)) fun av x hx φ' hφ => (hx φ' hφ).mono hsz (fun b hb' _ => hb b hb') (fun _ _ h => h)⟩

theorem RelF.below {P : Program} {w w' : World} {M : Nat → Prop} {n : Nat} {φ : Phi} {av : AV} {v : Value} (h : RelF P w M n φ av v) (hw : Below w.heap.size w w') : RelF P w' M n φ av v :=
  fun φ' hφ => (h φ' hφ).mono hw.size (fun b hb _ => hw.block b hb) (fun _ _ h => h)

theorem HeapOK.below {c : Ctx} {φ : Phi} {hp : List (Option Own)} {w w' : World} (h : HeapOK c φ hp w) (hw : Below w.heap.size w w') : HeapOK c φ hp w' where
  os := hw.os.trans h.os
  tape := hw.tape.trans h.tape
  output := hw.output.trans h.output
  heap := Nat.le_trans h.heap hw.size
  frame := fun b hb hn => (hw.block b (Nat.lt_of_lt_of_le hb h.heap)).trans (h.frame b hb hn)
  owned := h.owned
  apart := h.apart
  obj := fun r o hr => (h.obj r o hr).below hw.size hw.block
  amb := h.amb
  glob := h.glob
  len := h.len
  mono := h.mono

theorem Conc.below {c : Ctx} {φ : Phi} {st : St} {a : Act} {w w' : World} (h : Conc c φ st a w) (hw : Below w.heap.size w w') : Conc c φ st a w' where
  size := h.size
  defers := h.defers
  hok := h.hok.below hw
  tm := fun t av ht => (h.tm t av ht).below hw

def St.put (st : St) (d : Nat) (v : AV) : St := { st with tm := (d, v) :: st.tm }
def St.puto (st : St) (d : Option Nat) (v : AV) : St := match d with | some d => st.put d v | none => st

theorem getD_set (xs : Array Value) (d t : Nat) (v : Value) (hd : d < xs.size) : (xs.setIfInBounds d v).getD t undef = if d = t then v else xs.getD t undef := by
  by_cases h : d = t
  · subst h; simp [hd]
  · simp [Array.getD_eq_getD_getElem?, Array.getElem?_setIfInBounds_ne h, h]

theorem putd_size (a : Act) (d : Option Tmp) (v : Value) : (a.put d v).tmps.size = a.tmps.size := by cases d <;> simp [Act.put]
theorem putd_defers (a : Act) (d : Option Tmp) (v : Value) : (a.put d v).defers = a.defers := by cases d <;> rfl

def dstLt (d : Option Tmp) (n : Nat) : Bool := match d with | some d => Nat.blt d n | none => true

theorem tm_put {tm : List (Nat × AV)} {a : Act} {n : Nat} {R : AV → Value → Prop} (hsz : a.tmps.size = n) (h : ∀ t av, look tm t = some av → R av (a.tmps.getD t undef))
    {d : Nat} {av : AV} {v : Value} (hd : d < n) (hv : R av v) : ∀ t av', look ((d, av) :: tm) t = some av' → R av' ((a.put (some d) v).tmps.getD t undef) := by
  intro t av' ht
  simp only [Act.put, getD_set a.tmps d t v (by rw [hsz]; exact hd)]
  simp only [look] at ht
  split at ht
  · rename_i he
    have he := Nat.eq_of_beq_eq_true he
    subst he
    cases ht
    rw [if_pos rfl]
    exact hv
  · rename_i he
    have he := Nat.ne_of_beq_eq_false he
    rw [if_neg he]
    exact h t av' ht

theorem Conc.puto {c : Ctx} {φ : Phi} {st : St} {a : Act} {w : World} (h : Conc c φ st a w) {d : Option Nat} {av : AV} {v : Value} (hd : dstLt d c.nt = true)
    (hv : RelF c.P w (Mut c.A φ st.hp) st.hp.length φ av v) : Conc c φ (st.puto d av) (a.put d v) w := by
  cases d with
  | none => exact h
  | some d =>
    exact ⟨by rw [putd_size]; exact h.size, by rw [putd_defers]; exact h.defers, h.hok,
      tm_put (R := fun av v => RelF c.P w (Mut c.A φ st.hp) st.hp.length φ av v) h.size h.tm (by simpa [dstLt, Nat.blt_eq] using hd) hv⟩


def Post (c : Ctx) (K : Exit → St → Prop) : Exit → Act → World → Prop := fun e a w => ∃ st φ, K e st ∧ Conc c φ st a w

def T (c : Ctx) (code : Code) (st : St) (K : Exit → St → Prop) : Prop := ∀ φ a w, Conc c φ st a w → code.wp c.P (Post c K) a w

def seqK (K' : St → Prop) (K : Exit → St → Prop) : Exit → St → Prop
  | .normal, st => K' st
  | e, st => K e st

theorem T_seq {c : Ctx} {x y : Code} {st : St} {K : Exit → St → Prop} (h : T c x st (seqK (fun st' => T c y st' K) K)) : T c (.seq x y) st K := by
  intro φ a w hc
  refine wp_seq (wp_mono (h φ a w hc) ?_)
  rintro e a' w' ⟨st', φ', hk, hc'⟩
  cases e with
  | normal => exact hk φ' a' w' hc'
  | exit id => exact ⟨st', φ', hk, hc'⟩
  | goto l => exact ⟨st', φ', hk, hc'⟩
  | ret => exact ⟨st', φ', hk, hc'⟩
  | panic ch => exact ⟨st', φ', hk, hc'⟩
  | outgrown => exact ⟨st', φ', hk, hc'⟩

theorem T_skip {c : Ctx} {st : St} {K : Exit → St → Prop} (h : K .normal st) : T c .skip st K := fun φ _ _ hc => wp_skip ⟨st, φ, h, hc⟩
theorem T_ret {c : Ctx} {st : St} {K : Exit → St → Prop} (h : K .ret st) : T c .ret st K := fun φ _ _ hc => wp_ret ⟨st, φ, h, hc⟩
theorem T_exit {c : Ctx} {id : Nat} {st : St} {K : Exit → St → Prop} (h : K (.exit id) st) : T c (.exit id) st K := fun φ _ _ hc => wp_exit ⟨st, φ, h, hc⟩

theorem T_mono {c : Ctx} {code : Code} {st : St} {K K' : Exit → St → Prop} (h : T c code st K) (hk : ∀ e st, K e st → K' e st) : T c code st K' :=
  fun φ a w hc => wp_mono (h φ a w hc) fun _ _ _ ⟨st', φ', k, hc'⟩ => ⟨st', φ', hk _ _ k, hc'⟩

def Ent (c : Ctx) (st st' : St) : Prop := ∀ φ a w, Conc c φ st a w → ∃ φ', Conc c φ' st' a w

theorem Ent.refl {c : Ctx} {st : St} : Ent c st st := fun φ _ _ h => ⟨φ, h⟩
theorem Ent.trans {c : Ctx} {s1 s2 s3 : St} (h : Ent c s1 s2) (k : Ent c s2 s3) : Ent c s1 s3 := fun φ a w hc =>
  let ⟨φ', hc'⟩ := h φ a w hc
  k φ' a w hc'

theorem T_ent {c : Ctx} {code : Code} {st st' : St} {K : Exit → St → Prop} (he : Ent c st st') (h : T c code st' K) : T c code st K :=
  fun φ a w hc => let ⟨φ', hc'⟩ := he φ a w hc; h φ' a w hc'

def blockK (id : Nat) (K : Exit → St → Prop) : Exit → St → Prop
  | .exit id', st => if Nat.beq id' id then K .normal st else K (.exit id') st
  | e, st => K e st

theorem T_block {c : Ctx} {id : Nat} {code : Code} {st : St} {K : Exit → St → Prop} (h : T c code st (blockK id K)) : T c (.block id code) st K := by
  intro φ a w hc
  refine wp_block (wp_mono (h φ a w hc) ?_)
  rintro e a' w' ⟨st', φ', hk, hc'⟩
  cases e with
  | exit id' =>
    simp only [blockK] at hk
    simp only [Exit.inBlock]
    by_cases he : id' = id
    · subst he; simp at hk; rw [if_pos rfl]; exact ⟨st', φ', hk, hc'⟩
    · have : Nat.beq id' id = false := by
        cases hb : Nat.beq id' id
        · rfl
        · exact absurd (Nat.eq_of_beq_eq_true hb) he
      rw [this] at hk
      rw [if_neg he]; exact ⟨st', φ', by simpa using hk, hc'⟩
  | normal => exact ⟨st', φ', hk, hc'⟩
  | goto l => exact ⟨st', φ', hk, hc'⟩
  | ret => exact ⟨st', φ', hk, hc'⟩
  | panic ch => exact ⟨st', φ', hk, hc'⟩
  | outgrown => exact ⟨st', φ', hk, hc'⟩

theorem relF_bool {P : Program} {w : World} {M : Nat → Prop} {n : Nat} {φ : Phi} {b : Bool} {v : Value} (h : RelF P w M n φ (.bool b) v) : v = .bool b := by
  have := h φ (fun _ _ => rfl)
  cases this with | data h => cases h; rfl

theorem relF_int {P : Program} {w : World} {M : Nat → Prop} {n : Nat} {φ : Phi} {k : IntKind} {z : Int} {v : Value} (h : RelF P w M n φ (.int k z) v) : v = .int k z := by
  have := h φ (fun _ _ => rfl)
  cases this with | data h => cases h; rfl

theorem T_cond {c : Ctx} {t : Nat} {x y : Code} {st : St} {K : Exit → St → Prop} {b : Bool} (hl : look st.tm t = some (.bool b))
    (h1 : b = true → T c x st K) (h2 : b = false → T c y st K) : T c (.cond (.tmp t) x y) st K := by
  intro φ a w hc
  have hv := relF_bool (hc.tm t _ hl)
  exact wp_cond_split (t := b) (by simpa [Act.eval] using hv) (fun h => h1 h φ a w hc) (fun h => h2 h φ a w hc)

theorem T_loop {c : Ctx} {code : Code} {st : St} {K : Exit → St → Prop} {ι : Type} (C : ι → Prop) (I : ι → St) (μ : ι → Nat) (i0 : ι) (hC : C i0) (h0 : Ent c st (I i0))
    (hr : ∀ i, C i → T c code (I i) (seqK (fun st' => ∃ i', C i' ∧ μ i' < μ i ∧ Ent c st' (I i')) K)) : T c (.loop code) st K := by
  intro φ a w hc
  obtain ⟨φ0, hc0⟩ := h0 φ a w hc
  refine wp_loop_ghost (fun n a w => ∃ i φ, C i ∧ μ i = n ∧ Conc c φ (I i) a w) (μ i0) ⟨i0, φ0, hC, rfl, hc0⟩ ?_
  rintro n a w ⟨i, φ, hCi, hn, hci⟩
  refine wp_mono (hr i hCi φ a w hci) ?_
  rintro e a' w' ⟨st', φ', hk, hc'⟩
  cases e with
  | normal =>
    obtain ⟨i', hC', hlt, he⟩ := hk
    obtain ⟨φ'', hc''⟩ := he φ' a' w' hc'
    exact ⟨μ i', by omega, i', φ'', hC', rfl, hc''⟩
  | exit id => exact ⟨st', φ', hk, hc'⟩
  | goto l => exact ⟨st', φ', hk, hc'⟩
  | ret => exact ⟨st', φ', hk, hc'⟩
  | panic ch => exact ⟨st', φ', hk, hc'⟩
  | outgrown => exact ⟨st', φ', hk, hc'⟩
end Go.Vx

namespace Go.Vx
open Go Go.RowKit


theorem LetsOut.imp {Q Q' : Exit → Act → World → Prop} (h : ∀ e a w, Q e a w → Q' e a w) : LetsOut Q → LetsOut Q' := fun ⟨a, w, q⟩ => ⟨a, w, h _ _ _ q⟩

theorem wp_imp {P : Program} {o : Oper} {a : Act} {w : World} {K K' : Act → World → Prop} {Q Q' : Exit → Act → World → Prop} (hK : ∀ a w, K a w → K' a w)
    (hQ : ∀ e a w, Q e a w → Q' e a w) (hh : o.wp P a w K Q) : o.wp P a w K' Q' := by
  unfold Oper.wp at *
  generalize (execOp a.eval o).run P w = r at *
  cases r with
  | ok n w' =>
    cases n <;> simp only [Oper.upon] at hh ⊢ <;>
      first
        | exact hK _ _ hh
        | exact Calls.mono hh (fun e w'' he => by cases e <;> first | exact hK _ _ he | exact hQ _ _ _ he | exact LetsOut.imp hQ he)
        | exact Rows.mono hh (fun _ _ he => hK _ _ he)
  | halt x w' => cases x <;> simp only [Oper.upon] at hh ⊢ <;> first | exact hQ _ _ _ hh | exact hh

def noQ : Exit → Act → World → Prop := fun _ _ _ => False

def SVal (c : Ctx) (ops : Array Oper) (st : St) (o : Oper) (v : AV) : Prop := ∀ φ a w, Conc c φ st a w →
  (Region.wanted o (yielded ops a.tmps) = true → o.wp c.P a w (fun a' w' => ∃ u, a' = a.put o.dst u ∧ Below w.heap.size w w' ∧ RelF c.P w' (Mut c.A φ st.hp) st.hp.length φ v u) noQ) ∧
  (Region.wanted o (yielded ops a.tmps) = false → RelF c.P w (Mut c.A φ st.hp) st.hp.length φ v undef)

def WVal (c : Ctx) (ops : Array Oper) (st : St) (o : Oper) (v : AV) (hp' : List (Option Own)) : Prop := ∀ φ a w, Conc c φ st a w →
  Region.wanted o (yielded ops a.tmps) = true ∧ o.wp c.P a w (fun a' w' => ∃ u φ', a' = a.put o.dst u ∧ HeapOK c φ' hp' w' ∧
    (∀ av x, RelF c.P w (Mut c.A φ st.hp) st.hp.length φ av x → RelF c.P w' (Mut c.A φ' hp') hp'.length φ' av x) ∧ RelF c.P w' (Mut c.A φ' hp') hp'.length φ' v u) noQ

def R (c : Ctx) (ops : Array Oper) (rest : List Oper) (st : St) (K : Exit → St → Prop) : Prop := ∀ φ a w, Conc c φ st a w → wpList c.P ops (Post c K) rest a w

theorem R_nil {c : Ctx} {ops : Array Oper} {st : St} {K : Exit → St → Prop} (h : K .normal st) : R c ops [] st K := fun φ _ _ hc => ⟨st, φ, h, hc⟩

theorem R_q {c : Ctx} {ops : Array Oper} {o : Oper} {rest : List Oper} {st : St} {K : Exit → St → Prop} (v : AV) (hd : dstLt o.dst c.nt = true) (hv : SVal c ops st o v)
    (h : R c ops rest (st.puto o.dst v) K) : R c ops (o :: rest) st K := by
  intro φ a w hc
  obtain ⟨h1, h2⟩ := hv φ a w hc
  unfold wpList
  by_cases hw : Region.wanted o (yielded ops a.tmps) = true
  · rw [if_pos hw]
    refine .inl (wp_imp ?_ (fun _ _ _ h => h.elim) (h1 hw))
    rintro a' w' ⟨u, rfl, hb, hr⟩
    exact h φ _ _ ((hc.below hb).puto hd hr)
  · rw [if_neg hw]
    exact h φ _ _ (hc.puto hd (h2 (by simpa using hw)))

theorem R_w {c : Ctx} {ops : Array Oper} {o : Oper} {rest : List Oper} {st : St} {K : Exit → St → Prop} (v : AV) (hp' : List (Option Own)) (hd : dstLt o.dst c.nt = true) (hv : WVal c ops st o v hp')
    (h : R c ops rest (St.puto ⟨st.tm, hp'⟩ o.dst v) K) : R c ops (o :: rest) st K := by
  intro φ a w hc
  obtain ⟨h1, h2⟩ := hv φ a w hc
  unfold wpList
  rw [if_pos h1]
  refine .inl (wp_imp ?_ (fun _ _ _ h => h.elim) h2)
  rintro a' w' ⟨u, φ', rfl, hh, hf, hr⟩
  have hc' : Conc c φ' ⟨st.tm, hp'⟩ a w' := ⟨hc.size, hc.defers, hh, fun t av ht => hf _ _ (hc.tm t av ht)⟩
  exact h φ' _ _ (hc'.puto hd hr)

theorem T_reg {c : Ctx} {id : Nat} {l : List Oper} {st : St} {K : Exit → St → Prop} (h : R c l.toArray l st K) : T c (.region id l.toArray false) st K :=
  fun φ a w hc => wp_region_lit (h φ a w hc)


theorem beq_ne {d t : Nat} (h : d ≠ t) : Nat.beq d t = false := by
  cases hb : Nat.beq d t
  · rfl
  · exact absurd (Nat.eq_of_beq_eq_true hb) h

def restr (tm : List (Nat × AV)) : List Nat → List (Nat × AV)
  | [] => []
  | t :: ts => match look tm t with
    | some v => (t, v) :: restr tm ts
    | none => restr tm ts

theorem look_restr {tm : List (Nat × AV)} {ts : List Nat} {t : Nat} {v : AV} (h : look (restr tm ts) t = some v) : look tm t = some v := by
  induction ts with
  | nil => simp [restr, look] at h
  | cons s ts ih =>
    simp only [restr] at h
    split at h
    · rename_i u hu
      simp only [look] at h
      split at h
      · rename_i he
        have he := Nat.eq_of_beq_eq_true he
        subst he
        rw [hu]; exact h
      · exact ih h
    · exact ih h

theorem restr_congr {tm tm' : List (Nat × AV)} {ts : List Nat} (h : ∀ t ∈ ts, look tm t = look tm' t) : restr tm ts = restr tm' ts := by
  induction ts with
  | nil => rfl
  | cons s ts ih =>
    simp only [restr]
    rw [h s (by simp), ih (fun t ht => h t (by simp [ht]))]

theorem Conc.restr {c : Ctx} {φ : Phi} {st : St} {a : Act} {w : World} (h : Conc c φ st a w) (ts : List Nat) : Conc c φ ⟨restr st.tm ts, st.hp⟩ a w :=
  ⟨h.size, h.defers, h.hok, fun t av ht => h.tm t av (look_restr ht)⟩

def freeOp : Op → Bool
  | .move _ | .assign _ | .pick .. | .build .. | .buildSlice .. | .field .. | .unOp .. | .extract .. | .binOp .. | .index .. | .makeFunc .. => true
  | .call { callee := .builtin .min, .. } | .call { callee := .builtin .max, .. } => true
  | _ => false
def readOp : Op → Bool
  | .load .. | .fieldAddr .. | .nilCheck _ | .indexAddr .. | .slice .. | .convert .. | .makeInterface .. | .lookup .. | .call { callee := .value _, .. } | .call { callee := .builtin .len, .. } => true
  | _ => false

def isCall : Op → Bool
  | .call { callee := .value _, .. } => true
  | _ => false
def noWrite (cw : Bool) (o : Op) : Bool := freeOp o || (readOp o && !(cw && isCall o))

def Ext (hp hp' : List (Option Own)) : Prop := hp.length ≤ hp'.length ∧ ∀ r o, nth hp r = some o → nth hp' r = some o
theorem Ext.refl {hp : List (Option Own)} : Ext hp hp := ⟨Nat.le_refl _, fun _ _ h => h⟩
def ExtW (wl : List Nat) (hp hp' : List (Option Own)) : Prop := hp.length ≤ hp'.length ∧ ∀ r o, nth hp r = some o → (wl.contains r = false → nth hp' r = some o) ∧ ∃ o', nth hp' r = some o' ∧ o'.elem = o.elem ∧ o'.es.length = o.es.length
theorem ExtW.refl {wl : List Nat} {hp : List (Option Own)} : ExtW wl hp hp := ⟨Nat.le_refl _, fun _ o h => ⟨fun _ => h, o, h, rfl, rfl⟩⟩
theorem ExtW.transL {wl : List Nat} {a b c : List (Option Own)} (h : Ext a b) (k : ExtW wl b c) : ExtW wl a c := ⟨Nat.le_trans h.1 k.1, fun r o hr => k.2 r o (h.2 r o hr)⟩
theorem ExtW.get {wl : List Nat} {hp hp' : List (Option Own)} (h : ExtW wl hp hp') {r : Nat} {o : Own} (hr : nth hp r = some o) (hw : wl.contains r = false) : nth hp' r = some o := (h.2 r o hr).1 hw
inductive EL (wl : List Nat) : Nat → List (Option Own) → List (Option Own) → Prop
  | nil {k : Nat} {t : List (Option Own)} : EL wl k [] t
  | keep {k : Nat} {o : Option Own} {b t : List (Option Own)} : EL wl (k + 1) b t → EL wl k (o :: b) (o :: t)
  | wr {k : Nat} {o o' : Own} {b t : List (Option Own)} : wl.contains k = true → o'.elem = o.elem → o'.es.length = o.es.length → EL wl (k + 1) b t → EL wl k (some o :: b) (some o' :: t)
theorem EL.extK {wl : List Nat} {k : Nat} {b t : List (Option Own)} (h : EL wl k b t) : b.length ≤ t.length ∧ ∀ r o, nth b r = some o → (wl.contains (k + r) = false → nth t r = some o) ∧ ∃ o', nth t r = some o' ∧ o'.elem = o.elem ∧ o'.es.length = o.es.length := by
  induction h with
  | nil => exact ⟨Nat.zero_le _, fun r o h => by cases h⟩
  | @keep k o b t _ ih =>
    refine ⟨by simp only [List.length_cons]; omega, fun r q hq => ?_⟩
    cases r with
    | zero => exact ⟨fun _ => hq, q, hq, rfl, rfl⟩
    | succ r =>
      have := ih.2 r q hq
      rw [show k + 1 + r = k + (r + 1) by omega] at this
      exact this
  | @wr k o o' b t hw he hl _ ih =>
    refine ⟨by simp only [List.length_cons]; omega, fun r q hq => ?_⟩
    cases r with
    | zero =>
      simp only [nth, Option.some.injEq] at hq
      subst hq
      exact ⟨fun h => absurd (Nat.add_zero k ▸ h) (by rw [hw]; simp), o', rfl, he, hl⟩
    | succ r =>
      have := ih.2 r q hq
      rw [show k + 1 + r = k + (r + 1) by omega] at this
      exact this
theorem EL.ext {wl : List Nat} {b t : List (Option Own)} (h : EL wl 0 b t) : ExtW wl b t := by
  have := h.extK
  simp only [Nat.zero_add] at this
  exact this

structure Md where
  cw : Bool
  fr : Bool
  base : List (Option Own)
  fd : List Nat
  wl : List Nat
def md0 : Md := ⟨false, false, [], [], []⟩
def isFree (cw : Md) (o : Oper) : Bool := freeOp o.op || (match o.dst with | some d => cw.fd.contains d | none => false)
def Md.bs (cw : Md) (hp : List (Option Own)) : List (Option Own) := if cw.fr then cw.base else hp

def QStep (cw : Md) (c : Ctx) (ops : Array Oper) (st : St) (o : Oper) (v : AV) : Prop :=
  dstLt o.dst c.nt = true ∧
  ((isFree cw o = true ∧ ∀ hp', SVal c ops ⟨restr st.tm (o.looksAt ops), hp'⟩ o v) ∨
   ((readOp o.op = true ∧ isFree cw o = false) ∧ ExtW cw.wl (cw.bs st.hp) st.hp ∧ ∀ hp', ExtW cw.wl (cw.bs st.hp) hp' → SVal c ops ⟨restr st.tm (o.looksAt ops), hp'⟩ o v))

theorem Ext.trans {a b c : List (Option Own)} (h : Ext a b) (k : Ext b c) : Ext a c := ⟨Nat.le_trans h.1 k.1, fun r o hr => k.2 r o (h.2 r o hr)⟩

def extOp : Op → Bool
  | .alloc _ | .box .. | .makeSlice .. | .makeMap .. => true
  | .call { callee := .builtin .append, args := #[.const (.slice none 0 0), _], .. } => true
  | _ => false

def WStep (cw : Md) (c : Ctx) (ops : Array Oper) (st : St) (o : Oper) (v : AV) (hp' : List (Option Own)) : Prop :=
  dstLt o.dst c.nt = true ∧ noWrite cw.cw o.op = false ∧ (extOp o.op = true → Ext st.hp hp') ∧ (cw.fr = true → ExtW cw.wl cw.base hp') ∧ WVal c ops ⟨restr st.tm (o.looksAt ops), st.hp⟩ o v hp'

def QStep0 (cw : Md) (c : Ctx) (ops : Array Oper) (st : St) (o : Oper) (v : AV) : Prop := dstLt o.dst c.nt = true ∧ noWrite cw.cw o.op = true ∧ SVal c ops ⟨restr st.tm (o.looksAt ops), st.hp⟩ o v

inductive SStep (cw : Md) (c : Ctx) (ops : Array Oper) (i : Nat) (st : St) : St → Prop
  | q {o : Oper} {v : AV} : ops[i]? = some o → QStep cw c ops st o v → SStep cw c ops i st (st.puto o.dst v)
  | w {o : Oper} {v : AV} {hp' : List (Option Own)} : ops[i]? = some o → WStep cw c ops st o v hp' → SStep cw c ops i st (St.puto ⟨st.tm, hp'⟩ o.dst v)
  | q0 {o : Oper} {v : AV} : ops[i]? = some o → QStep0 cw c ops st o v → SStep cw c ops i st (st.puto o.dst v)

theorem SStep.sound {cw : Md} {c : Ctx} {ops : Array Oper} {i : Nat} {st st' : St} (h : SStep cw c ops i st st') {Q : Exit → Act → World → Prop} {N : Act → World → Prop}
    (hN : ∀ φ a w, Conc c φ st' a w → N a w) : ∀ φ a w, Conc c φ st a w → wpOp c.P ops Q i N a w := by
  intro φ a w hc
  cases h with
  | q ho hq =>
    rename_i o v
    obtain ⟨hd, hq⟩ := hq
    have hv : SVal c ops ⟨restr st.tm (o.looksAt ops), st.hp⟩ o v := by
      rcases hq with ⟨_, h⟩ | ⟨_, h⟩
      · exact h _
      · exact h.2 _ h.1
    obtain ⟨h1, h2⟩ := hv φ a w (hc.restr _)
    unfold wpOp
    simp only [ho]
    by_cases hw : Region.wanted o (yielded ops a.tmps) = true
    · rw [if_pos hw]
      refine .inl (wp_imp ?_ (fun _ _ _ h => h.elim) (h1 hw))
      rintro a' w' ⟨u, rfl, hb, hr⟩
      exact hN φ _ _ ((hc.below hb).puto hd hr)
    · rw [if_neg hw]
      exact hN φ _ _ (hc.puto hd (h2 (by simpa using hw)))
  | w ho hq =>
    rename_i o v hp'
    obtain ⟨hd, _, _, _, hv⟩ := hq
    obtain ⟨h1, h2⟩ := hv φ a w (hc.restr _)
    unfold wpOp
    simp only [ho]
    rw [if_pos h1]
    refine .inl (wp_imp ?_ (fun _ _ _ h => h.elim) h2)
    rintro a' w' ⟨u, φ', rfl, hh, hf, hr⟩
    have hc' : Conc c φ' ⟨st.tm, hp'⟩ a w' := ⟨hc.size, hc.defers, hh, fun t av ht => hf _ _ (hc.tm t av ht)⟩
    exact hN φ' _ _ (hc'.puto hd hr)
  | q0 ho hq =>
    rename_i o v
    obtain ⟨hd, _, hv⟩ := hq
    obtain ⟨h1, h2⟩ := hv φ a w (hc.restr _)
    unfold wpOp
    simp only [ho]
    by_cases hw : Region.wanted o (yielded ops a.tmps) = true
    · rw [if_pos hw]
      refine .inl (wp_imp ?_ (fun _ _ _ h => h.elim) (h1 hw))
      rintro a' w' ⟨u, rfl, hb, hr⟩
      exact hN φ _ _ ((hc.below hb).puto hd hr)
    · rw [if_neg hw]
      exact hN φ _ _ (hc.puto hd (h2 (by simpa using hw)))


def bit (m i : Nat) : Bool := Nat.testBit m i
def setBit (m i : Nat) : Nat := m ||| 1 <<< i

theorem bit_setBit (m i j : Nat) : bit (setBit m i) j = (bit m j || decide (i = j)) := by
  unfold bit setBit
  rw [Nat.testBit_or, Nat.one_shiftLeft, Nat.testBit_two_pow]

def readyAt (ops : Array Oper) (m i : Nat) : Bool :=
  !bit m i && (match ops[i]? with | some o => o.after.all fun e => !Region.binds .any e || bit m e.on | none => false)

def directMask (o : Oper) : Nat := o.after.toList.foldl (fun m e => if Region.binds .any e then setBit m e.on else m) 0

def closeMask (ops : Array Oper) : Nat → Nat → Nat
  | 0, m => m
  | i + 1, m => closeMask ops i (if bit m i then m ||| (match ops[i]? with | some o => directMask o | none => 0) else m)

def ancMask (ops : Array Oper) (j : Nat) : Nat := closeMask ops j (match ops[j]? with | some o => directMask o | none => 0)

def Closed (ops : Array Oper) (m : Nat) : Prop := ∀ j o, ops[j]? = some o → bit m j = true → ∀ e ∈ o.after, Region.binds .any e = true → bit m e.on = true

theorem directMask_spec {o : Oper} {i : Nat} (h : bit (directMask o) i = true) : ∃ e ∈ o.after, Region.binds .any e = true ∧ e.on = i := by
  unfold directMask at h
  have key : ∀ (l : List Edge) (m : Nat), bit (l.foldl (fun m e => if Region.binds .any e then setBit m e.on else m) m) i = true → bit m i = true ∨ ∃ e ∈ l, Region.binds .any e = true ∧ e.on = i := by
    intro l
    induction l with
    | nil => intro m h; exact .inl h
    | cons e l ih =>
      intro m h
      rcases ih _ h with h | ⟨e', h1, h2⟩
      · simp only at h
        split at h
        · rename_i hb
          rw [bit_setBit] at h
          simp only [Bool.or_eq_true, decide_eq_true_eq] at h
          rcases h with h | h
          · exact .inl h
          · exact .inr ⟨e, by simp, hb, h⟩
        · exact .inl h
      · exact .inr ⟨e', by simp [h1], h2⟩
  rcases key _ _ h with h | ⟨e, h1, h2⟩
  · simp [bit] at h
  · exact ⟨e, by simpa using h1, h2⟩

theorem closeMask_spec {ops : Array Oper} {m : Nat} (hc : Closed ops m) : ∀ (n x : Nat), (∀ i, bit x i = true → bit m i = true) → ∀ i, bit (closeMask ops n x) i = true → bit m i = true := by
  intro n
  induction n with
  | zero => intro x h i hi; exact h i hi
  | succ n ih =>
    intro x h i hi
    refine ih _ ?_ i hi
    intro j hj
    split at hj
    · rename_i hb
      unfold bit at hj
      rw [Nat.testBit_or, Bool.or_eq_true] at hj
      rcases hj with hj | hj
      · exact h j hj
      · split at hj
        · rename_i o ho
          obtain ⟨e, he, hbi, rfl⟩ := directMask_spec (o := o) (by unfold bit; exact hj)
          exact hc n o ho (h n hb) e he hbi
        · simp at hj
    · exact h j hj

theorem anc_listed {ops : Array Oper} {m j i : Nat} (hc : Closed ops m) (hr : readyAt ops m j = true) (h : bit (ancMask ops j) i = true) : bit m i = true := by
  unfold ancMask at h
  refine closeMask_spec hc j _ ?_ i h
  intro x hx
  unfold readyAt at hr
  split at hx
  · rename_i o ho
    rw [ho] at hr
    simp only [Bool.and_eq_true, Array.all_eq_true_iff_forall_mem] at hr
    obtain ⟨e, he, hbi, rfl⟩ := directMask_spec hx
    have := hr.2 e he
    simpa [hbi] using this
  · simp [bit] at hx

theorem Closed.set {ops : Array Oper} {m i : Nat} (hc : Closed ops m) (hr : readyAt ops m i = true) : Closed ops (setBit m i) := by
  intro j o ho hj e he hb
  rw [bit_setBit] at hj ⊢
  simp only [Bool.or_eq_true, decide_eq_true_eq] at hj ⊢
  rcases hj with hj | rfl
  · exact .inl (hc j o ho hj e he hb)
  · unfold readyAt at hr
    rw [ho] at hr
    simp only [Bool.and_eq_true, Array.all_eq_true_iff_forall_mem] at hr
    have := hr.2 e he
    exact .inl (by simpa [hb] using this)

theorem readyAt.mono {ops : Array Oper} {m i j : Nat} (h : readyAt ops m j = true) (hne : j ≠ i) : readyAt ops (setBit m i) j = true := by
  unfold readyAt at *
  simp only [Bool.and_eq_true, Bool.not_eq_true'] at h ⊢
  refine ⟨by rw [bit_setBit]; simp [h.1, Ne.symm hne], ?_⟩
  have h2 := h.2
  split at h2
  · rename_i o ho
    rw [Array.all_eq_true_iff_forall_mem] at h2 ⊢
    intro e he
    have := h2 e he
    rw [bit_setBit]
    simp only [Bool.or_eq_true, Bool.not_eq_true', decide_eq_true_eq] at this ⊢
    rcases this with h | h
    · exact .inl h
    · exact .inr (.inl h)
  · cases h2

def takeAt (cw : Md) (ops : Array Oper) (m i : Nat) : Bool :=
  readyAt ops m i && (match ops[i]? with
    | some oi => noWrite cw.cw oi.op && (List.range ops.size).all fun j => Nat.beq j i || bit m j || bit (ancMask ops j) i ||
      (match ops[j]? with
        | some oj => oi.apart ops oj && (isFree cw oi || noWrite cw.cw oj.op || extOp oj.op || cw.fr)
        | none => true)
    | none => false)

theorem takeAt.spec {cw : Md} {ops : Array Oper} {m i : Nat} (h : takeAt cw ops m i = true) : readyAt ops m i = true ∧ ∃ oi, ops[i]? = some oi ∧ noWrite cw.cw oi.op = true ∧
    ∀ j oj, ops[j]? = some oj → j ≠ i → bit m j = false → bit (ancMask ops j) i = false → oi.apart ops oj = true ∧ (isFree cw oi = true ∨ noWrite cw.cw oj.op = true ∨ extOp oj.op = true ∨ cw.fr = true) := by
  unfold takeAt at h
  simp only [Bool.and_eq_true] at h
  obtain ⟨h1, h2⟩ := h
  split at h2
  · rename_i oi hoi
    simp only [Bool.and_eq_true, List.all_eq_true, List.mem_range] at h2
    refine ⟨h1, oi, hoi, h2.1, fun j oj hj hne hb ha => ?_⟩
    have h3 := h2.2 j (Array.getElem?_eq_some_iff.1 hj).1
    rw [hj, hb, ha, beq_ne hne] at h3
    simp only [Bool.and_eq_true, Bool.or_eq_true] at h3
    rcases h3 with ((h3 | h3) | h3) | h3
    · cases h3
    · cases h3
    · cases h3
    · exact ⟨h3.1, by simpa [or_assoc] using h3.2⟩
  · cases h2

theorem takeAt.intro {cw : Md} {ops : Array Oper} {m i : Nat} (h1 : readyAt ops m i = true) {oi : Oper} (hi : ops[i]? = some oi) (hn : noWrite cw.cw oi.op = true)
    (h : ∀ j oj, ops[j]? = some oj → j ≠ i → bit m j = false → bit (ancMask ops j) i = false → oi.apart ops oj = true ∧ (isFree cw oi = true ∨ noWrite cw.cw oj.op = true ∨ extOp oj.op = true ∨ cw.fr = true)) : takeAt cw ops m i = true := by
  unfold takeAt
  rw [h1, hi]
  simp only [Bool.true_and, hn, List.all_eq_true, List.mem_range]
  intro j hj
  by_cases hne : j = i
  · subst hne; simp
  · cases hb : bit m j
    · cases ha : bit (ancMask ops j) i
      · have : ops[j]? = some ops[j] := by simp [hj]
        rw [this]
        obtain ⟨h2, h3⟩ := h j ops[j] this hne hb ha
        rcases h3 with h3 | h3 | h3 | h3 <;> simp [h2, h3]
      · simp
    · simp

def takeQ (cw : Md) (ops : Array Oper) (m i : Nat) : Bool :=
  readyAt ops m i && (match ops[i]? with
    | some oi => noWrite cw.cw oi.op && (List.range ops.size).all fun j => Nat.beq j i || bit m j || bit (ancMask ops j) i ||
      (match ops[j]? with
        | some oj => oi.apart ops oj && noWrite cw.cw oj.op
        | none => true)
    | none => false)
theorem takeQ.spec {cw : Md} {ops : Array Oper} {m i : Nat} (h : takeQ cw ops m i = true) : readyAt ops m i = true ∧ ∃ oi, ops[i]? = some oi ∧ noWrite cw.cw oi.op = true ∧
    ∀ j oj, ops[j]? = some oj → j ≠ i → bit m j = false → bit (ancMask ops j) i = false → oi.apart ops oj = true ∧ noWrite cw.cw oj.op = true := by
  unfold takeQ at h
  simp only [Bool.and_eq_true] at h
  obtain ⟨h1, h2⟩ := h
  split at h2
  · rename_i oi hoi
    simp only [Bool.and_eq_true, List.all_eq_true, List.mem_range] at h2
    refine ⟨h1, oi, hoi, h2.1, fun j oj hj hne hb ha => ?_⟩
    have h3 := h2.2 j (Array.getElem?_eq_some_iff.1 hj).1
    rw [hj, hb, ha, beq_ne hne] at h3
    simp only [Bool.and_eq_true, Bool.or_eq_true] at h3
    rcases h3 with ((h3 | h3) | h3) | h3
    · cases h3
    · cases h3
    · cases h3
    · exact h3
  · cases h2
theorem takeQ.intro {cw : Md} {ops : Array Oper} {m i : Nat} (h1 : readyAt ops m i = true) {oi : Oper} (hi : ops[i]? = some oi) (hn : noWrite cw.cw oi.op = true)
    (h : ∀ j oj, ops[j]? = some oj → j ≠ i → bit m j = false → bit (ancMask ops j) i = false → oi.apart ops oj = true ∧ noWrite cw.cw oj.op = true) : takeQ cw ops m i = true := by
  unfold takeQ
  rw [h1, hi]
  simp only [Bool.true_and, hn, List.all_eq_true, List.mem_range]
  intro j hj
  by_cases hne : j = i
  · subst hne; simp
  · cases hb : bit m j
    · cases ha : bit (ancMask ops j) i
      · have : ops[j]? = some ops[j] := by simp [hj]
        rw [this]
        obtain ⟨h2, h3⟩ := h j ops[j] this hne hb ha
        simp [h2, h3]
      · simp
    · simp

def Eqv (st st' : St) : Prop := st.hp = st'.hp ∧ ∀ t, look st.tm t = look st'.tm t

theorem Eqv.symm {st st' : St} (h : Eqv st st') : Eqv st' st := ⟨h.1.symm, fun t => (h.2 t).symm⟩
theorem Eqv.trans {a b c : St} (h : Eqv a b) (k : Eqv b c) : Eqv a c := ⟨h.1.trans k.1, fun t => (h.2 t).trans (k.2 t)⟩
theorem Eqv.puto {st st' : St} (h : Eqv st st') (d : Option Nat) (v : AV) : Eqv (st.puto d v) (st'.puto d v) := by
  cases d with
  | none => exact h
  | some d => exact ⟨h.1, fun t => by simp only [St.puto, St.put, look]; split; rfl; exact h.2 t⟩
theorem Eqv.comm {st : St} {d e : Option Nat} {u v : AV} (h : ∀ x, d = some x → e ≠ some x) : Eqv ((st.puto d u).puto e v) ((st.puto e v).puto d u) := by
  cases d with
  | none => exact ⟨rfl, fun _ => rfl⟩
  | some d =>
    cases e with
    | none => exact ⟨rfl, fun _ => rfl⟩
    | some e =>
      refine ⟨rfl, fun t => ?_⟩
      simp only [St.puto, St.put, look]
      by_cases h1 : e = t
      · by_cases h2 : d = t
        · exact absurd (by rw [h1, h2]) (h d rfl)
        · subst h1
          have := beq_ne h2
          rw [this, Nat.beq_refl e]
      · rw [beq_ne h1]

theorem Eqv.conc {c : Ctx} {φ : Phi} {st st' : St} {a : Act} {w : World} (h : Eqv st st') (hc : Conc c φ st a w) : Conc c φ st' a w := by
  obtain ⟨h1, h2⟩ := h
  obtain ⟨tm, hp⟩ := st
  obtain ⟨tm', hp'⟩ := st'
  simp only at h1
  subst h1
  exact ⟨hc.size, hc.defers, hc.hok, fun t av ht => hc.tm t av (by rw [h2 t]; exact ht)⟩

theorem QStep.congr {cw : Md} {c : Ctx} {ops : Array Oper} {st st' : St} {o : Oper} {v : AV} (h : QStep cw c ops st o v) (hh : st'.hp = st.hp) (hl : ∀ t ∈ o.looksAt ops, look st'.tm t = look st.tm t) :
    QStep cw c ops st' o v := by
  unfold QStep at *
  rw [restr_congr hl, hh]
  exact h

theorem WStep.congr {cw : Md} {c : Ctx} {ops : Array Oper} {st st' : St} {o : Oper} {v : AV} {hp : List (Option Own)} (h : WStep cw c ops st o v hp) (hh : st'.hp = st.hp) (hl : ∀ t ∈ o.looksAt ops, look st'.tm t = look st.tm t) :
    WStep cw c ops st' o v hp := by
  unfold WStep at *
  rw [restr_congr hl, hh]
  exact h

theorem QStep0.congr {cw : Md} {c : Ctx} {ops : Array Oper} {st st' : St} {o : Oper} {v : AV} (h : QStep0 cw c ops st o v) (hh : st'.hp = st.hp) (hl : ∀ t ∈ o.looksAt ops, look st'.tm t = look st.tm t) :
    QStep0 cw c ops st' o v := by
  unfold QStep0 at *
  rw [restr_congr hl, hh]
  exact h

inductive Dv (cw : Md) (c : Ctx) (ops : Array Oper) (K : St → Prop) : Nat → St → Prop
  | done {m : Nat} {st : St} : (∀ i, i < ops.size → readyAt ops m i = false) → K st → Dv cw c ops K m st
  | take {m : Nat} {st : St} (i : Nat) (o : Oper) (v : AV) : ops[i]? = some o → takeAt cw ops m i = true → QStep cw c ops st o v → Dv cw c ops K (setBit m i) (st.puto o.dst v) → Dv cw c ops K m st
  | take0 {m : Nat} {st : St} (i : Nat) (o : Oper) (v : AV) : ops[i]? = some o → takeQ cw ops m i = true → QStep0 cw c ops st o v → Dv cw c ops K (setBit m i) (st.puto o.dst v) → Dv cw c ops K m st
  | branch {m : Nat} {st : St} (f : Nat → St) : (∃ i, i < ops.size ∧ readyAt ops m i = true) → (∀ i, i < ops.size → readyAt ops m i = true → SStep cw c ops i st (f i)) →
      (∀ i, i < ops.size → readyAt ops m i = true → Dv cw c ops K (setBit m i) (f i)) → Dv cw c ops K m st

theorem SStep.congr {cw : Md} {c : Ctx} {ops : Array Oper} {i : Nat} {st st' s1 : St} (h : SStep cw c ops i st s1) (he : Eqv st st') : ∃ s1', SStep cw c ops i st' s1' ∧ Eqv s1 s1' := by
  obtain ⟨he1, he2⟩ := he
  cases h with
  | q ho hq => exact ⟨_, .q ho (hq.congr he1.symm fun t _ => (he2 t).symm), Eqv.puto ⟨he1, he2⟩ _ _⟩
  | w ho hq =>
    rename_i o v hp'
    exact ⟨_, .w ho (hq.congr he1.symm fun t _ => (he2 t).symm), Eqv.puto (st := ⟨st.tm, hp'⟩) (st' := ⟨st'.tm, hp'⟩) ⟨rfl, he2⟩ _ _⟩
  | q0 ho hq => exact ⟨_, .q0 ho (hq.congr he1.symm fun t _ => (he2 t).symm), Eqv.puto ⟨he1, he2⟩ _ _⟩

theorem Dv.congr {cw : Md} {c : Ctx} {ops : Array Oper} {K : St → Prop} (hK : ∀ st st', Eqv st st' → K st → K st') {m : Nat} {st : St} (h : Dv cw c ops K m st) : ∀ st', Eqv st st' → Dv cw c ops K m st' := by
  induction h with
  | done h1 h2 => intro st' he; exact .done h1 (hK _ _ he h2)
  | take i o v ho ht hq hd ih =>
    intro st' he
    exact .take i o v ho ht (hq.congr he.1.symm fun t _ => (he.2 t).symm) (ih _ (he.puto _ _))
  | take0 i o v ho ht hq hd ih =>
    intro st' he
    exact .take0 i o v ho ht (hq.congr he.1.symm fun t _ => (he.2 t).symm) (ih _ (he.puto _ _))
  | @branch m st f hex hs hd ih =>
    intro st' he
    have this : ∀ i, ∃ s, i < ops.size → readyAt ops m i = true → SStep cw c ops i st' s ∧ Eqv (f i) s := fun i => by
      by_cases h : i < ops.size ∧ readyAt ops m i = true
      · obtain ⟨s, h1, h2⟩ := (hs i h.1 h.2).congr he
        exact ⟨s, fun _ _ => ⟨h1, h2⟩⟩
      · exact ⟨st', fun h1 h2 => absurd ⟨h1, h2⟩ h⟩
    exact .branch (fun i => Classical.choose (this i)) hex (fun i hi hr => (Classical.choose_spec (this i) hi hr).1)
      (fun i hi hr => ih i hi hr _ (Classical.choose_spec (this i) hi hr).2)

theorem getD_set_ne' {listed : Array Bool} {i j : Nat} (h : i ≠ j) : (listed.setIfInBounds i true).getD j false = listed.getD j false := by
  simp [Array.getElem?_setIfInBounds_ne h]

theorem setBit_comm (m i j : Nat) : setBit (setBit m i) j = setBit (setBit m j) i := by
  unfold setBit
  rw [Nat.or_assoc, Nat.or_comm (1 <<< i), ← Nat.or_assoc]

theorem apart_spec' {ops : Array Oper} {x y : Oper} (h : x.apart ops y = true) : (∀ d, x.dst = some d → d ∉ y.looksAt ops) ∧ (∀ d, x.dst = some d → y.dst ≠ some d) ∧ (∀ d, y.dst = some d → d ∉ x.looksAt ops) :=
  Oper.apart_spec h

theorem look_puto {st : St} {d : Option Nat} {v : AV} {t : Nat} (h : ∀ x, d = some x → x ≠ t) : look (st.puto d v).tm t = look st.tm t := by
  cases d with
  | none => rfl
  | some d =>
    simp only [St.puto, St.put, look]
    rw [beq_ne (h d rfl)]

theorem Dv.advance {cw : Md} {c : Ctx} {ops : Array Oper} {K : St → Prop} (hK : ∀ st st', Eqv st st' → K st → K st') {m : Nat} {st : St} (h : Dv cw c ops K m st) :
    Closed ops m → ∀ j, j < ops.size → readyAt ops m j = true → ∃ s1, SStep cw c ops j st s1 ∧ Dv cw c ops K (setBit m j) s1 := by
  induction h with
  | done h1 h2 => intro _ j hj hr; rw [h1 j hj] at hr; cases hr
  | branch f hex hs hd ih => intro _ j hj hr; exact ⟨f j, hs j hj hr, hd j hj hr⟩
  | @take m st i o v ho ht hq hd ih =>
    intro hcl j hj hr
    obtain ⟨hri, oi, hoi, hni, hsp⟩ := takeAt.spec ht
    obtain rfl : o = oi := Option.some.inj (ho.symm.trans hoi)
    by_cases hji : j = i
    · subst hji; exact ⟨_, .q ho hq, hd⟩
    · obtain ⟨s2, hs2, hd2⟩ := ih (hcl.set hri) j hj (readyAt.mono hr hji)
      have hoj : ops[j]? = some ops[j] := by simp [hj]
      have hbi : bit m i = false := by unfold readyAt at hri; simp only [Bool.and_eq_true, Bool.not_eq_true'] at hri; exact hri.1
      have hbj : bit m j = false := by unfold readyAt at hr; simp only [Bool.and_eq_true, Bool.not_eq_true'] at hr; exact hr.1
      have hai : bit (ancMask ops j) i = false := by
        cases hb : bit (ancMask ops j) i
        · rfl
        · have := anc_listed hcl hr hb; rw [hbi] at this; cases this
      obtain ⟨hap, hcls⟩ := hsp j _ hoj hji hbj hai
      obtain ⟨hl1, hl2, hl3⟩ := apart_spec' hap
      have hlook : ∀ t ∈ (ops[j]).looksAt ops, look st.tm t = look (st.puto o.dst v).tm t := fun t ht => (look_puto fun x hx => fun e => hl1 x hx (e ▸ ht)).symm
      have hhp : (st.puto o.dst v).hp = st.hp := by cases o.dst <;> rfl
      -- taking i is still possible behind j
      have htk : takeAt cw ops (setBit m j) i = true := takeAt.intro (readyAt.mono hri (Ne.symm hji)) ho hni fun k ok hk hki hbk hak => hsp k ok hk hki (by
        rw [bit_setBit] at hbk; simp only [Bool.or_eq_false_iff] at hbk; exact hbk.1) hak
      cases hs2 with
      | q ho2 hq2 =>
        rename_i o2 u
        obtain rfl : ops[j] = o2 := Option.some.inj (hoj.symm.trans ho2)
        refine ⟨_, .q ho2 (hq2.congr hhp.symm hlook), .take i o v ho htk (hq.congr (by cases (ops[j]).dst <;> rfl) fun t ht => look_puto fun x hx e => hl3 x hx (e ▸ ht)) ?_⟩
        rw [setBit_comm]
        exact hd2.congr hK _ (Eqv.comm hl2)
      | q0 ho2 hq2 =>
        rename_i o2 u
        obtain rfl : ops[j] = o2 := Option.some.inj (hoj.symm.trans ho2)
        refine ⟨_, .q0 ho2 (hq2.congr hhp.symm hlook), .take i o v ho htk (hq.congr (by cases (ops[j]).dst <;> rfl) fun t ht => look_puto fun x hx e => hl3 x hx (e ▸ ht)) ?_⟩
        rw [setBit_comm]
        exact hd2.congr hK _ (Eqv.comm hl2)
      | w ho2 hq2 =>
        rename_i o2 u hp'
        obtain rfl : ops[j] = o2 := Option.some.inj (hoj.symm.trans ho2)
        have hq' : QStep cw c ops (St.puto ⟨st.tm, hp'⟩ (ops[j]).dst u) o v := by
          have h1 := hq.1
          have e : restr (St.puto ⟨st.tm, hp'⟩ (ops[j]).dst u).tm (o.looksAt ops) = restr st.tm (o.looksAt ops) :=
            restr_congr fun t ht => look_puto (st := ⟨st.tm, hp'⟩) fun x hx e => hl3 x hx (e ▸ ht)
          have e0 : (St.puto ⟨st.tm, hp'⟩ (ops[j]).dst u).hp = hp' := by cases (ops[j]).dst <;> rfl
          refine ⟨h1, ?_⟩
          rw [e, e0]
          rcases hq.2 with h | ⟨h, hb0, hv⟩
          · exact .inl h
          · cases hfr : cw.fr with
            | true =>
              have hbb : ∀ hp, cw.bs hp = cw.base := fun hp => by unfold Md.bs; rw [if_pos hfr]
              rw [hbb] at hv ⊢
              exact .inr ⟨h, hq2.2.2.2.1 hfr, hv⟩
            | false =>
              have hbb : ∀ hp, cw.bs hp = hp := fun hp => by unfold Md.bs; rw [hfr]; rfl
              rw [hbb] at hv ⊢
              rcases hcls with h' | h' | h' | h'
              · exact absurd h' (by rw [h.2]; simp)
              · have := hq2.2.1; rw [h'] at this; cases this
              · have hx := hq2.2.2.1 h'
                rw [hhp] at hx
                exact .inr ⟨h, ExtW.refl, fun hp'' hx'' => hv hp'' (ExtW.transL hx hx'')⟩
              · rw [hfr] at h'; cases h'
        refine ⟨_, .w ho2 (hq2.congr hhp.symm hlook), .take i o v ho htk hq' ?_⟩
        rw [setBit_comm]
        refine hd2.congr hK _ ?_
        have e2 : St.puto ⟨(st.puto o.dst v).tm, hp'⟩ (ops[j]).dst u = ((St.puto ⟨st.tm, hp'⟩ o.dst v).puto (ops[j]).dst u) := by cases o.dst <;> rfl
        rw [e2]
        exact Eqv.comm (st := ⟨st.tm, hp'⟩) hl2
  | @take0 m st i o v ho ht hq hd ih =>
    intro hcl j hj hr
    obtain ⟨hri, oi, hoi, hni, hsp⟩ := takeQ.spec ht
    obtain rfl : o = oi := Option.some.inj (ho.symm.trans hoi)
    by_cases hji : j = i
    · subst hji; exact ⟨_, .q0 ho hq, hd⟩
    · obtain ⟨s2, hs2, hd2⟩ := ih (hcl.set hri) j hj (readyAt.mono hr hji)
      have hoj : ops[j]? = some ops[j] := by simp [hj]
      have hbi : bit m i = false := by unfold readyAt at hri; simp only [Bool.and_eq_true, Bool.not_eq_true'] at hri; exact hri.1
      have hbj : bit m j = false := by unfold readyAt at hr; simp only [Bool.and_eq_true, Bool.not_eq_true'] at hr; exact hr.1
      have hai : bit (ancMask ops j) i = false := by
        cases hb : bit (ancMask ops j) i
        · rfl
        · have := anc_listed hcl hr hb; rw [hbi] at this; cases this
      obtain ⟨hap, hcls⟩ := hsp j _ hoj hji hbj hai
      obtain ⟨hl1, hl2, hl3⟩ := apart_spec' hap
      have hlook : ∀ t ∈ (ops[j]).looksAt ops, look st.tm t = look (st.puto o.dst v).tm t := fun t ht => (look_puto fun x hx => fun e => hl1 x hx (e ▸ ht)).symm
      have hhp : (st.puto o.dst v).hp = st.hp := by cases o.dst <;> rfl
      have htk : takeQ cw ops (setBit m j) i = true := takeQ.intro (readyAt.mono hri (Ne.symm hji)) ho hni fun k ok hk hki hbk hak => hsp k ok hk hki (by
        rw [bit_setBit] at hbk; simp only [Bool.or_eq_false_iff] at hbk; exact hbk.1) hak
      have hq' : ∀ u, QStep0 cw c ops (st.puto (ops[j]).dst u) o v := fun u => hq.congr (by cases (ops[j]).dst <;> rfl) fun t ht => look_puto fun x hx e => hl3 x hx (e ▸ ht)
      cases hs2 with
      | q ho2 hq2 =>
        rename_i o2 u
        obtain rfl : ops[j] = o2 := Option.some.inj (hoj.symm.trans ho2)
        refine ⟨_, .q ho2 (hq2.congr hhp.symm hlook), .take0 i o v ho htk (hq' u) ?_⟩
        rw [setBit_comm]
        exact hd2.congr hK _ (Eqv.comm hl2)
      | q0 ho2 hq2 =>
        rename_i o2 u
        obtain rfl : ops[j] = o2 := Option.some.inj (hoj.symm.trans ho2)
        refine ⟨_, .q0 ho2 (hq2.congr hhp.symm hlook), .take0 i o v ho htk (hq' u) ?_⟩
        rw [setBit_comm]
        exact hd2.congr hK _ (Eqv.comm hl2)
      | w ho2 hq2 =>
        rename_i o2 u hp'
        obtain rfl : ops[j] = o2 := Option.some.inj (hoj.symm.trans ho2)
        have := hq2.2.1; rw [hcls] at this; cases this

theorem Dv.over {cw : Md} {c : Ctx} {ops : Array Oper} {K : St → Prop} {m : Nat} {st : St} (h : Dv cw c ops K m st) (hn : ∀ i, i < ops.size → readyAt ops m i = false) : K st := by
  cases h with
  | done _ h => exact h
  | take i o v ho ht hq hd =>
    have := hn i (Array.getElem?_eq_some_iff.1 ho).1
    rw [(takeAt.spec ht).1] at this; cases this
  | take0 i o v ho ht hq hd =>
    have := hn i (Array.getElem?_eq_some_iff.1 ho).1
    rw [(takeQ.spec ht).1] at this; cases this
  | branch f hex hs hd => obtain ⟨i, hi, hr⟩ := hex; rw [hn i hi] at hr; cases hr

theorem mem_ready_mask {ops : Array Oper} {m : Nat} {listed : Array Bool} (hs : listed.size = ops.size) (hl : ∀ i, i < ops.size → listed.getD i false = bit m i) (hm : ∀ i, bit m i = true → i < ops.size) {i : Nat} :
    i ∈ Region.ready .any ops listed ↔ i < ops.size ∧ readyAt ops m i = true := by
  unfold Region.ready readyAt
  rw [List.mem_filter, List.mem_range]
  have hgt : ∀ j, listed.getD j false = bit m j := fun j => by
    by_cases hj : j < ops.size
    · exact hl j hj
    · have : bit m j = false := by cases hb : bit m j; rfl; exact absurd (hm j hb) hj
      rw [this]; simp [hs, hj]
  refine and_congr_right fun hi => ?_
  have h1 : listed.getD i true = bit m i := by rw [← hl i hi]; simp [hs, hi]
  rw [h1]
  cases ho : ops[i]? with
  | none => simp
  | some o =>
    simp only [Option.map_some, Option.getD_some]
    have : (o.after.all fun e => !Region.binds .any e || listed.getD e.on false) = (o.after.all fun e => !Region.binds .any e || bit m e.on) := by
      congr 1; funext e; rw [hgt e.on]
    rw [this]

def left (ops : Array Oper) (m : Nat) : Nat := (List.range ops.size).countP fun i => !bit m i

theorem countP_lt {l : List Nat} {p q : Nat → Bool} (h : ∀ x ∈ l, q x = true → p x = true) {y : Nat} (hy : y ∈ l) (h1 : p y = true) (h2 : q y = false) : l.countP q < l.countP p := by
  induction l with
  | nil => cases hy
  | cons x l ih =>
    have hle : l.countP q ≤ l.countP p := List.countP_mono_left (fun z hz hq => h z (by simp [hz]) hq)
    rcases List.mem_cons.1 hy with rfl | hy
    · rw [List.countP_cons_of_pos h1, List.countP_cons_of_neg (by simp [h2])]; omega
    · have := ih (fun z hz => h z (by simp [hz])) hy
      by_cases hq : q x = true
      · rw [List.countP_cons_of_pos hq, List.countP_cons_of_pos (h x (by simp) hq)]; omega
      · rw [List.countP_cons_of_neg hq]
        have : l.countP p ≤ (x :: l).countP p := by rw [List.countP_cons]; omega
        omega

theorem left_set {ops : Array Oper} {m i : Nat} (hi : i < ops.size) (hr : readyAt ops m i = true) : left ops (setBit m i) < left ops m := by
  have hb : bit m i = false := by unfold readyAt at hr; simp only [Bool.and_eq_true, Bool.not_eq_true'] at hr; exact hr.1
  refine countP_lt (y := i) (fun x _ hx => ?_) (List.mem_range.2 hi) (by simp [hb]) (by simp [bit_setBit])
  simp only [Bool.not_eq_true', bit_setBit, Bool.or_eq_false_iff] at hx ⊢
  exact hx.1

theorem Dv.sound {cw : Md} {c : Ctx} {ops : Array Oper} {K : Exit → St → Prop} {K' : St → Prop} (hK : ∀ st st', Eqv st st' → K' st → K' st') (hK' : ∀ st, K' st → ∃ s0, K .normal s0 ∧ Eqv st s0) :
    ∀ (fuel m : Nat) (st : St) (listed : Array Bool), Dv cw c ops K' m st → left ops m ≤ fuel → listed.size = ops.size → (∀ i, i < ops.size → listed.getD i false = bit m i) → Closed ops m →
      (∀ i, bit m i = true → i < ops.size) → ∀ φ a w, Conc c φ st a w → wpAny c.P .any ops (Post c K) fuel listed a w := by
  have fin : ∀ (m : Nat) (st : St) (listed : Array Bool), Dv cw c ops K' m st → listed.size = ops.size → (∀ i, i < ops.size → listed.getD i false = bit m i) → Closed ops m → (∀ i, bit m i = true → i < ops.size) →
      Region.ready .any ops listed = [] → ∀ φ a w, Conc c φ st a w → Post c K .normal a w := by
    intro m st listed hd hs hl hcl hm hr φ a w hc
    have hn : ∀ i, i < ops.size → readyAt ops m i = false := fun i hi => by
      cases hb : readyAt ops m i
      · rfl
      · have := (mem_ready_mask hs hl hm).2 ⟨hi, hb⟩
        rw [hr] at this; cases this
    obtain ⟨s0, h1, h2⟩ := hK' _ (hd.over hn)
    exact ⟨s0, φ, h1, h2.conc hc⟩
  intro fuel
  induction fuel with
  | zero =>
    intro m st listed hd hlt hs hl hcl hm φ a w hc
    have hr : Region.ready .any ops listed = [] := by
      refine List.eq_nil_iff_forall_not_mem.2 fun i hi => ?_
      obtain ⟨h1, h2⟩ := (mem_ready_mask hs hl hm).1 hi
      have := left_set h1 h2
      omega
    exact ⟨hr, fin m st listed hd hs hl hcl hm hr φ a w hc⟩
  | succ fuel ih =>
    intro m st listed hd hlt hs hl hcl hm φ a w hc
    refine ⟨fun hr => fin m st listed hd hs hl hcl hm hr φ a w hc, fun j hj => ?_⟩
    obtain ⟨hj1, hj2⟩ := (mem_ready_mask hs hl hm).1 hj
    obtain ⟨s1, hs1, hd1⟩ := hd.advance hK hcl j hj1 hj2
    refine hs1.sound (N := wpAny c.P .any ops (Post c K) fuel (listed.setIfInBounds j true)) (fun φ a w hc => ?_) φ a w hc
    refine ih (setBit m j) s1 _ hd1 (by have := left_set hj1 hj2; omega) (by simp [hs]) (fun i hi => ?_) (hcl.set hj2) (fun i hi => ?_) φ a w hc
    · rw [bit_setBit]
      by_cases hij : j = i
      · subst hij; simp [hs, hj1]
      · rw [getD_set_ne' hij, hl i hi]; simp [hij]
    · rw [bit_setBit] at hi
      simp only [Bool.or_eq_true, decide_eq_true_eq] at hi
      rcases hi with h | rfl
      · exact hm i h
      · exact hj1

def KE (K : Exit → St → Prop) : St → Prop := fun st => ∃ s0, K .normal s0 ∧ Eqv st s0

theorem T_draw {cw : Md} {c : Ctx} {id : Nat} {ops : Array Oper} {st : St} {K : Exit → St → Prop} (hm : c.P.follows .mixedOrders = true) (h : Dv cw c ops (KE K) 0 st) : T c (.region id ops true) st K := by
  intro φ a w hc
  refine wp_region_any hm ?_
  refine Dv.sound (K' := KE K) (fun st st' he ⟨s0, h1, h2⟩ => ⟨s0, h1, he.symm.trans h2⟩) (fun st h => h) ops.size 0 st _ h ?_ (by simp) (fun i hi => by simp [bit, hi]) ?_ (fun i hi => by simp [bit] at hi) φ a _
    (hc.below ⟨rfl, rfl, rfl, Nat.le_refl _, fun _ _ => rfl⟩)
  · exact Nat.le_trans List.countP_le_length (by simp)
  · intro j o _ hb; simp [bit] at hb
end Go.Vx

namespace Go.Vx
open Go Go.RowKit


def constAV : Value → AV
  | .int k n => .int k n
  | .bool b => .bool b
  | .string s => .str s.data.toList
  | .slice none 0 0 => .nils
  | v => .lit v

theorem constAV_rel (P : Program) (w : World) (M : Nat → Prop) (v : Value) : RelD P w M (constAV v) v := by
  unfold constAV
  split
  · exact .int _ _
  · exact .bool _
  · exact .str _
  · exact .nils
  · exact .lit _

def opv (tm : List (Nat × AV)) : Operand → Option AV
  | .tmp t => look tm t
  | .const v => some (constAV v)
  | .global g => some (.lit (.pointer (some ⟨g, 0, none⟩)))
  | .func f => some (.fn f [])

def Opv (c : Ctx) (st : St) (x : Operand) (v : AV) : Prop := ∀ φ a w, Conc c φ st a w → RelF c.P w (Mut c.A φ st.hp) st.hp.length φ v (a.eval x)

theorem ov {c : Ctx} {st : St} {x : Operand} {v : AV} (h : opv st.tm x = some v) : Opv c st x v := by
  intro φ a w hc
  cases x with
  | tmp t => exact hc.tm t v h
  | const u => cases h; exact fun φ' _ => .data (constAV_rel _ _ _ _)
  | global g => cases h; exact fun φ' _ => .data (.lit _)
  | func f => cases h; exact fun φ' _ => .data (.fn f [] #[] rfl (fun i hi => by cases hi))

theorem ow {c : Ctx} {st : St} {x : Operand} {v : AV} {g : Bool} (h : opv st.tm x = some (.when g v)) (hg : g = true) : Opv c st x v := by
  intro φ a w hc φ' hφ
  have := ov h φ a w hc φ' hφ
  cases this with
  | data h => cases h
  | when _ _ _ h _ => exact h hg

theorem Opv.int {c : Ctx} {st : St} {x : Operand} {k : IntKind} {n : Int} (h : Opv c st x (.int k n)) {φ : Phi} {a : Act} {w : World} (hc : Conc c φ st a w) : a.eval x = .int k n := relF_int (h φ a w hc)
theorem Opv.bool {c : Ctx} {st : St} {x : Operand} {b : Bool} (h : Opv c st x (.bool b)) {φ : Phi} {a : Act} {w : World} (hc : Conc c φ st a w) : a.eval x = .bool b := relF_bool (h φ a w hc)
theorem relF_str {P : Program} {w : World} {M : Nat → Prop} {n : Nat} {φ : Phi} {b : List UInt8} {v : Value} (h : RelF P w M n φ (.str b) v) : v = .string ⟨b.toArray⟩ := by
  have := h φ (fun _ _ => rfl)
  cases this with | data h => cases h; rfl
theorem Opv.str {c : Ctx} {st : St} {x : Operand} {b : List UInt8} (h : Opv c st x (.str b)) {φ : Phi} {a : Act} {w : World} (hc : Conc c φ st a w) : a.eval x = .string ⟨b.toArray⟩ := relF_str (h φ a w hc)


theorem wanted_none {o : Oper} {y : Nat → Option Bool} (h : o.guard = none) : Region.wanted o y = true := by unfold Region.wanted; rw [h]

theorem SVal.run {c : Ctx} {ops : Array Oper} {st : St} {o : Oper} {v : AV} (hg : o.guard = none)
    (h : ∀ φ a w, Conc c φ st a w → ∃ u w', (execOp a.eval o).run c.P w = .ok (.value u) w' ∧ Below w.heap.size w w' ∧ RelF c.P w' (Mut c.A φ st.hp) st.hp.length φ v u) : SVal c ops st o v := by
  intro φ a w hc
  refine ⟨fun _ => ?_, fun hw => by rw [wanted_none hg] at hw; cases hw⟩
  obtain ⟨u, w', h1, h2, h3⟩ := h φ a w hc
  unfold Oper.wp
  rw [h1]
  exact ⟨u, rfl, h2, h3⟩

theorem SVal.pure {c : Ctx} {ops : Array Oper} {st : St} {o : Oper} {v : AV} (hg : o.guard = none)
    (h : ∀ φ a w, Conc c φ st a w → ∃ u, (execOp a.eval o).run c.P w = .ok (.value u) w ∧ RelF c.P w (Mut c.A φ st.hp) st.hp.length φ v u) : SVal c ops st o v :=
  .run hg fun φ a w hc => let ⟨u, h1, h2⟩ := h φ a w hc; ⟨u, w, h1, Below.refl _ _, h2⟩

theorem relF_data {P : Program} {w : World} {M : Nat → Prop} {n : Nat} {φ : Phi} {av : AV} {v : Value} (h : RelD P w M av v) : RelF P w M n φ av v := fun _ _ => .data h

theorem wp_guard {P : Program} {dst : Option Tmp} {op : Op} {ty : TypeId} {pos : String} {after : Array Edge} {g : Option (Nat × Bool)} {a : Act} {w : World} {K : Act → World → Prop} {Q : Exit → Act → World → Prop} :
    Oper.wp P ⟨dst, op, ty, pos, after, g⟩ a w K Q = Oper.wp P ⟨dst, op, ty, pos, after, none⟩ a w K Q := by
  unfold Oper.wp
  have : execOp a.eval ⟨dst, op, ty, pos, after, g⟩ = execOp a.eval ⟨dst, op, ty, pos, after, none⟩ := by cases op <;> rfl
  rw [this]
  generalize (execOp a.eval ⟨dst, op, ty, pos, after, none⟩).run P w = r
  cases r with
  | ok n w' => cases n <;> rfl
  | halt h w' => cases h <;> rfl

theorem rel_bool {P : Program} {w : World} {M : Nat → Prop} {φ : Phi} {b : Bool} {v : Value} (h : Rel P w M φ (.bool b) v) : v = .bool b := by
  cases h with | data h => cases h; rfl

theorem SVal.guarded {c : Ctx} {ops : Array Oper} {st : St} {dst : Option Tmp} {op : Op} {ty : TypeId} {pos : String} {after : Array Edge} {j d : Nat} {want : Bool} {v : AV} {b : Bool} (g : Bool)
    (hj : (ops[j]?).bind (·.dst) = some d) (hd : Nat.blt d c.nt = true) (hl : look st.tm d = some (.bool b)) (hgg : g = (b == want))
    (h : g = true → SVal c ops st ⟨dst, op, ty, pos, after, none⟩ v) : SVal c ops st ⟨dst, op, ty, pos, after, some (j, want)⟩ (.when g v) := by
  intro φ a w hc
  have hv : a.tmps.getD d undef = .bool b := relF_bool (hc.tm d _ hl)
  have hy : yielded ops a.tmps j = some b := by
    unfold yielded
    rw [hj]
    have hlt : d < a.tmps.size := by rw [hc.size]; simpa using hd
    have : a.tmps[d]? = some (.bool b) := by
      rw [Array.getElem?_eq_getElem hlt]
      simpa [hlt] using hv
    simp [this]
  have hwa : Region.wanted ⟨dst, op, ty, pos, after, some (j, want)⟩ (yielded ops a.tmps) = g := by
    unfold Region.wanted
    simp only [hy, hgg]
    cases b <;> cases want <;> rfl
  rw [hwa]
  refine ⟨fun hg => ?_, fun hg φ' _ => .when g v undef (fun h => by rw [hg] at h; cases h) (fun _ => rfl)⟩
  obtain ⟨h1, _⟩ := h hg φ a w hc
  rw [wp_guard]
  refine wp_imp ?_ (fun _ _ _ h => h) (h1 (wanted_none rfl))
  rintro a' w' ⟨u, rfl, hb, hr⟩
  exact ⟨u, rfl, hb, fun φ' hφ => .when g v u (fun _ => hr φ' hφ) (fun h => by rw [hg] at h; cases h)⟩

theorem SVal.guarded2 {c : Ctx} {ops : Array Oper} {st : St} {dst : Option Tmp} {op : Op} {ty : TypeId} {pos : String} {after : Array Edge} {j d : Nat} {want : Bool} {v : AV} {b h0 : Bool} (g : Bool)
    (hj : (ops[j]?).bind (·.dst) = some d) (hd : Nat.blt d c.nt = true) (hl : look st.tm d = some (.when h0 (.bool b))) (hgg : g = (h0 && (b == want)))
    (h : g = true → SVal c ops st ⟨dst, op, ty, pos, after, none⟩ v) : SVal c ops st ⟨dst, op, ty, pos, after, some (j, want)⟩ (.when g v) := by
  intro φ a w hc
  have hlt : d < a.tmps.size := by rw [hc.size]; simpa using hd
  have hwa : Region.wanted ⟨dst, op, ty, pos, after, some (j, want)⟩ (yielded ops a.tmps) = g := by
    have hrel := hc.tm d _ hl φ (fun _ _ => rfl)
    unfold Region.wanted yielded
    simp only [hj, Option.bind_some]
    have he : a.tmps[d]? = some (a.tmps.getD d undef) := by rw [Array.getElem?_eq_getElem hlt]; simp [hlt]
    rw [he]
    cases hrel with
    | data h => cases h
    | when _ _ _ h1 h2 =>
      cases h0 with
      | true =>
        have := h1 rfl
        have hv : a.tmps.getD d undef = .bool b := rel_bool this
        rw [hv, hgg]
        cases b <;> cases want <;> rfl
      | false =>
        rw [h2 rfl, hgg]
        cases want <;> rfl
  rw [hwa]
  refine ⟨fun hg => ?_, fun hg φ' _ => .when g v undef (fun h => by rw [hg] at h; cases h) (fun _ => rfl)⟩
  obtain ⟨h1, _⟩ := h hg φ a w hc
  rw [wp_guard]
  refine wp_imp ?_ (fun _ _ _ h => h) (h1 (wanted_none rfl))
  rintro a' w' ⟨u, rfl, hb, hr⟩
  exact ⟨u, rfl, hb, fun φ' hφ => .when g v u (fun _ => hr φ' hφ) (fun h => by rw [hg] at h; cases h)⟩

section ops
variable {c : Ctx} {ops : Array Oper} {st : St} {dst : Option Tmp} {ty : TypeId} {pos : String} {after : Array Edge}

theorem v_move {x : Operand} {v : AV} (h : Opv c st x v) : SVal c ops st ⟨dst, .move x, ty, pos, after, none⟩ v :=
  .pure rfl fun φ a w hc => ⟨a.eval x, rfl, h φ a w hc⟩
theorem v_assign {x : Operand} {v : AV} (h : Opv c st x v) : SVal c ops st ⟨dst, .assign x, ty, pos, after, none⟩ v :=
  .pure rfl fun φ a w hc => ⟨a.eval x, rfl, h φ a w hc⟩

theorem v_pick {x y z : Operand} {b : Bool} {v : AV} (h : Opv c st x (.bool b)) (h1 : b = true → Opv c st y v) (h2 : b = false → Opv c st z v) : SVal c ops st ⟨dst, .pick x y z, ty, pos, after, none⟩ v :=
  .pure rfl fun φ a w hc => by
    have e := h.bool hc
    cases b with
    | true => exact ⟨a.eval y, by simp [execOp, e, asBool, pure, bind, Sem.bind], h1 rfl φ a w hc⟩
    | false => exact ⟨a.eval z, by simp [execOp, e, asBool, pure, bind, Sem.bind], h2 rfl φ a w hc⟩

theorem v_or {x z : Operand} {p q : Bool} (h : Opv c st x (.bool p)) (h2 : p = false → Opv c st z (.bool q)) : SVal c ops st ⟨dst, .pick x (.const (.bool true)) z, ty, pos, after, none⟩ (.bool (p || q)) :=
  v_pick h (fun hp => by rw [hp]; exact ov rfl) (fun hp => by rw [hp]; exact h2 hp)
theorem v_and {x z : Operand} {p q : Bool} (h : Opv c st x (.bool p)) (h2 : p = true → Opv c st z (.bool q)) : SVal c ops st ⟨dst, .pick x z (.const (.bool false)), ty, pos, after, none⟩ (.bool (p && q)) :=
  v_pick h (fun hp => by rw [hp]; exact h2 hp) (fun hp => by rw [hp]; exact ov rfl)

section arith
variable {x y : Operand} {k : IntKind} {m n : Int} {t u : TypeId}

theorem v_arith {op : BinOp} {z : Int} (h : Opv c st x (.int k m)) (h' : Opv c st y (.int k n))
    (hz : (binOp op t (.int k m) (.int k n) : Sem Value) = .pure (.int k z)) (hne : op ≠ .eql) (hnn : op ≠ .neq) : SVal c ops st ⟨dst, .binOp op t x y u, ty, pos, after, none⟩ (.int k z) :=
  .pure rfl fun φ a w hc => by
    refine ⟨.int k z, ?_, relF_data (.int _ _)⟩
    have e := h.int hc
    have e' := h'.int hc
    simp only [execOp, e, e', hz]
    cases op <;> first | rfl | exact absurd rfl hne | exact absurd rfl hnn

theorem v_add {z : Int} (h : Opv c st x (.int k m)) (h' : Opv c st y (.int k n)) (hz : k.wrap (m + n) = z) : SVal c ops st ⟨dst, .binOp .add t x y u, ty, pos, after, none⟩ (.int k z) :=
  v_arith h h' (by simp [binOp, Op.intArith, hz, pure]) (by simp) (by simp)
theorem v_sub {z : Int} (h : Opv c st x (.int k m)) (h' : Opv c st y (.int k n)) (hz : k.wrap (m - n) = z) : SVal c ops st ⟨dst, .binOp .sub t x y u, ty, pos, after, none⟩ (.int k z) :=
  v_arith h h' (by simp [binOp, Op.intArith, hz, pure]) (by simp) (by simp)
theorem v_mul {z : Int} (h : Opv c st x (.int k m)) (h' : Opv c st y (.int k n)) (hz : k.wrap (m * n) = z) : SVal c ops st ⟨dst, .binOp .mul t x y u, ty, pos, after, none⟩ (.int k z) :=
  v_arith h h' (by simp [binOp, Op.intArith, hz, pure]) (by simp) (by simp)
theorem v_quo {z : Int} (h : Opv c st x (.int k m)) (h' : Opv c st y (.int k n)) (h0 : n ≠ 0) (hz : k.wrap (m.tdiv n) = z) : SVal c ops st ⟨dst, .binOp .quo t x y u, ty, pos, after, none⟩ (.int k z) :=
  v_arith h h' (by simp [binOp, Op.intDiv, h0, hz, pure]) (by simp) (by simp)
theorem v_rem {z : Int} (h : Opv c st x (.int k m)) (h' : Opv c st y (.int k n)) (h0 : n ≠ 0) (hz : m.tmod n = z) : SVal c ops st ⟨dst, .binOp .rem t x y u, ty, pos, after, none⟩ (.int k z) :=
  v_arith h h' (by simp [binOp, Op.intDiv, h0, hz, pure]) (by simp) (by simp)

theorem v_cmp {op : BinOp} {b : Bool} (h : Opv c st x (.int k m)) (h' : Opv c st y (.int k n)) (hz : (binOp op t (.int k m) (.int k n) : Sem Value) = .pure (.bool b)) : SVal c ops st ⟨dst, .binOp op t x y u, ty, pos, after, none⟩ (.bool b) :=
  .pure rfl fun φ a w hc => by
    refine ⟨.bool b, ?_, relF_data (.bool _)⟩
    have e := h.int hc
    have e' := h'.int hc
    simp only [execOp, e, e', hz]
    cases op <;> rfl
theorem v_eql (h : Opv c st x (.int k m)) (h' : Opv c st y (.int k n)) : SVal c ops st ⟨dst, .binOp .eql t x y u, ty, pos, after, none⟩ (.bool (decide (m = n))) := v_cmp h h' (by simp [binOp, Op.intCmp, pure]; rfl)
theorem v_neq (h : Opv c st x (.int k m)) (h' : Opv c st y (.int k n)) : SVal c ops st ⟨dst, .binOp .neq t x y u, ty, pos, after, none⟩ (.bool (!decide (m = n))) := v_cmp h h' (by simp [binOp, Op.intCmp, pure]; rfl)
theorem v_lss (h : Opv c st x (.int k m)) (h' : Opv c st y (.int k n)) : SVal c ops st ⟨dst, .binOp .lss t x y u, ty, pos, after, none⟩ (.bool (decide (m < n))) := v_cmp h h' (by simp [binOp, Op.intCmp, pure])
theorem v_leq (h : Opv c st x (.int k m)) (h' : Opv c st y (.int k n)) : SVal c ops st ⟨dst, .binOp .leq t x y u, ty, pos, after, none⟩ (.bool (decide (m ≤ n))) := v_cmp h h' (by simp [binOp, Op.intCmp, pure])
theorem v_gtr (h : Opv c st x (.int k m)) (h' : Opv c st y (.int k n)) : SVal c ops st ⟨dst, .binOp .gtr t x y u, ty, pos, after, none⟩ (.bool (decide (n < m))) := v_cmp h h' (by simp [binOp, Op.intCmp, pure])
theorem v_geq (h : Opv c st x (.int k m)) (h' : Opv c st y (.int k n)) : SVal c ops st ⟨dst, .binOp .geq t x y u, ty, pos, after, none⟩ (.bool (decide (n ≤ m))) := v_cmp h h' (by simp [binOp, Op.intCmp, pure])

theorem v_neg {z : Int} (h : Opv c st x (.int k m)) (hz : k.wrap (-m) = z) : SVal c ops st ⟨dst, .unOp .neg t x, ty, pos, after, none⟩ (.int k z) :=
  .pure rfl fun φ a w hc => by
    refine ⟨.int k z, ?_, relF_data (.int _ _)⟩
    simp [execOp, h.int hc, Op.unary, Op.intArith, hz, pure, bind, Sem.bind]
theorem v_not {b : Bool} (h : Opv c st x (.bool b)) : SVal c ops st ⟨dst, .unOp .not t x, ty, pos, after, none⟩ (.bool (!b)) :=
  .pure rfl fun φ a w hc => by
    refine ⟨.bool (!b), ?_, relF_data (.bool _)⟩
    simp [execOp, h.bool hc, Op.unary, pure, bind, Sem.bind]
end arith

end ops
end Go.Vx

namespace Go.Vx
open Go Go.RowKit


def setO : List (Option Own) → Nat → Option Own → List (Option Own)
  | [], _, _ => []
  | _ :: tl, 0, o => o :: tl
  | x :: tl, r + 1, o => x :: setO tl r o

theorem nth_setO {hp : List (Option Own)} {r : Nat} {o : Own} (h : nth hp r = some o) (o' : Option Own) (s : Nat) : nth (setO hp r o') s = if s = r then o' else nth hp s := by
  induction hp generalizing r s with
  | nil => simp [nth] at h
  | cons x tl ih =>
    cases r with
    | zero => cases s <;> simp [setO, nth]
    | succ r =>
      cases s with
      | zero => simp [setO, nth]
      | succ s => simp only [nth] at h; simp only [setO, nth, ih h]; simp

theorem setO_length (hp : List (Option Own)) (r : Nat) (o : Option Own) : (setO hp r o).length = hp.length := by
  induction hp generalizing r with
  | nil => rfl
  | cons x tl ih => cases r <;> simp [setO, ih]

theorem nth_append (hp : List (Option Own)) (o : Option Own) (s : Nat) : nth (hp ++ [o]) s = if s = hp.length then o else nth hp s := by
  induction hp generalizing s with
  | nil => cases s <;> simp [nth]
  | cons x tl ih => cases s <;> simp [nth, ih]

theorem own_update {c : Ctx} {φ : Phi} {hp : List (Option Own)} {w w' : World} {r : Nat} {o o' : Own} {L : Loc} (h : HeapOK c φ hp w) (hr : nth hp r = some o)
    (hos : w'.os = w.os) (htp : w'.tape = w.tape) (hou : w'.output = w.output) (hsz : w.heap.size ≤ w'.heap.size)
    (hb : ∀ b, b < w.heap.size → (φ r).blk ≠ some b → w'.heap[b]? = w.heap[b]?)
    (hblk : L.blk = (φ r).blk ∨ ∀ b, L.blk = some b → w.heap.size ≤ b)
    (hn : L.same (φ r) ∨ (φ r).n < L.n)
    (hnew : (∀ av x, RelF c.P w (Mut c.A φ hp) hp.length φ av x → RelF c.P w' (Mut c.A (fun x => if x = r then L else φ x) (setO hp r (some o'))) hp.length (fun x => if x = r then L else φ x) av x) →
      HRel c.P w' (Mut c.A (fun x => if x = r then L else φ x) (setO hp r (some o'))) hp.length (fun x => if x = r then L else φ x) r o') (hsub : L.sub = (φ r).sub := by rfl) :
    HeapOK c (fun x => if x = r then L else φ x) (setO hp r (some o')) w' ∧
    (∀ av x, RelF c.P w (Mut c.A φ hp) hp.length φ av x → RelF c.P w' (Mut c.A (fun x => if x = r then L else φ x) (setO hp r (some o'))) (setO hp r (some o')).length (fun x => if x = r then L else φ x) av x) := by
  have hlen := setO_length hp r (some o')
  have hrl : r < hp.length := nth_lt hr
  have hLh : ∀ b, L.has b → (φ r).has b ∨ w.heap.size ≤ b := by
    rintro b (h1 | h1)
    · rcases hblk with e | e
      · exact .inl (.inl (e ▸ h1))
      · exact .inr (e b h1)
    · exact .inl (.inr (hsub ▸ h1))
  -- blocks that data may be read from are as they were, and stay so
  have hbm : ∀ b, b < w.heap.size → ¬ Mut c.A φ hp b → w'.heap[b]? = w.heap[b]? := fun b hlt hm => hb b hlt fun e => hm (.inr ⟨r, o, hr, .inl e⟩)
  have hmm : ∀ b, b < w.heap.size → ¬ Mut c.A φ hp b → ¬ Mut c.A (fun x => if x = r then L else φ x) (setO hp r (some o')) b := by
    intro b hlt hm hm'
    rcases hm' with ha | ⟨s, os, hs, hbs⟩
    · exact hm (.inl ha)
    · rw [nth_setO hr] at hs
      by_cases hsr : s = r
      · subst hsr
        simp only [if_true] at hbs
        rcases hLh b hbs with e | e
        · exact hm (.inr ⟨s, o, hr, e⟩)
        · omega
      · rw [if_neg hsr] at hs
        simp only [if_neg hsr] at hbs
        exact hm (.inr ⟨s, os, hs, hbs⟩)
  have hrel : ∀ (ψ : Phi) av x, (∀ s, s < hp.length → ψ s = if s = r then L else φ s) → Rel c.P w (Mut c.A φ hp) (fun s => if s < hp.length then φ s else ψ s) av x →
      Rel c.P w' (Mut c.A (fun x => if x = r then L else φ x) (setO hp r (some o'))) ψ av x := by
    intro ψ av x hψ hx
    refine (hx.mono hsz hbm hmm).loc fun s => ?_
    by_cases hsl : s < hp.length
    · rw [hψ s hsl, if_pos hsl]
      by_cases hsr : s = r
      · subst hsr; rw [if_pos rfl]; exact hn
      · rw [if_neg hsr]; exact .inl (.refl _)
    · rw [if_neg hsl]; exact .inl (.refl _)
  have htr : ∀ av x, RelF c.P w (Mut c.A φ hp) hp.length φ av x → RelF c.P w' (Mut c.A (fun x => if x = r then L else φ x) (setO hp r (some o'))) hp.length (fun x => if x = r then L else φ x) av x := by
    intro av x hx ψ hψ
    refine hrel ψ av x (fun s hs => hψ s hs) (hx _ fun s hs => ?_)
    simp only [if_pos hs]
  refine ⟨⟨hos.trans h.os, htp.trans h.tape, hou.trans h.output, Nat.le_trans h.heap hsz, ?_, ?_, ?_, ?_, h.amb, h.glob, by rw [hlen]; exact h.len, fun s hs => ?_⟩, by rw [hlen]; exact htr⟩
  rotate_left 4
  · by_cases hsr : s = r
    · subst hsr
      simp only [if_true]
      rcases h.mono s hs with h1 | h1
      · rcases hn with h2 | h2
        · exact .inl (h2.trans h1)
        · exact .inr (by rw [← h1.2.2.1]; exact h2)
      · rcases hn with h2 | h2
        · exact .inr (by rw [h2.2.2.1]; exact h1)
        · exact .inr (Nat.lt_trans h1 h2)
    · simp only [if_neg hsr]; exact h.mono s hs
  · intro b hlt hnW
    rw [hb b (Nat.lt_of_lt_of_le hlt h.heap) fun e => ?_]
    · exact h.frame b hlt hnW
    · rcases (h.owned r o b hr (.inl e)).1 with hw | hw
      · exact hnW hw
      · omega
  · intro s os b hs hbs
    rw [nth_setO hr] at hs
    by_cases hsr : s = r
    · subst hsr
      simp only [if_true] at hbs
      rcases hLh b hbs with e | h1
      · exact h.owned s o b hr e
      · have h2 := h.heap
        exact ⟨.inr (by omega), fun ha => by have := (h.amb b ha).1; omega⟩
    · rw [if_neg hsr] at hs
      simp only [if_neg hsr] at hbs
      exact h.owned s os b hs hbs
  · intro s s' os os' b hs hs' hbs hbs'
    rw [nth_setO hr] at hs hs'
    have hold : ∀ x ox, nth hp x = some ox → (φ x).has b → b < w.heap.size := fun x ox hx hbx => (h.obj x ox hx).has_lt hbx
    by_cases hsr : s = r
    · by_cases hsr' : s' = r
      · rw [hsr, hsr']
      · rw [if_neg hsr'] at hs'
        simp only [if_neg hsr'] at hbs'
        simp only [hsr, if_true] at hbs
        rcases hLh b hbs with e | e
        · rw [hsr]; exact h.apart r s' o os' b hr hs' e hbs'
        · have := hold s' os' hs' hbs'; omega
    · rw [if_neg hsr] at hs
      simp only [if_neg hsr] at hbs
      by_cases hsr' : s' = r
      · simp only [hsr', if_true] at hbs'
        rcases hLh b hbs' with e | e
        · rw [hsr']; exact h.apart s r os o b hs hr hbs e
        · have := hold s os hs hbs; omega
      · rw [if_neg hsr'] at hs'
        simp only [if_neg hsr'] at hbs'
        exact h.apart s s' os os' b hs hs' hbs hbs'
  · intro s os hs
    rw [nth_setO hr] at hs
    rw [hlen]
    by_cases hsr : s = r
    · subst hsr
      rw [if_pos rfl] at hs
      cases hs
      exact hnew htr
    · rw [if_neg hsr] at hs
      have hO := h.obj s os hs
      refine ⟨by simp only [if_neg hsr]; exact hO.len, by simp only [if_neg hsr]; exact hO.sz, hO.rows, by simp only [if_neg hsr]; exact hO.room, by simp only [if_neg hsr]; exact hO.cap,
        by simp only [if_neg hsr]; exact hO.none, by simp only [if_neg hsr]; exact fun b hb => Nat.lt_of_lt_of_le (hO.subl b hb) hsz, by simp only [if_neg hsr]; exact hO.subn, ?_⟩
      intro b hbk
      simp only [if_neg hsr] at hbk ⊢
      obtain ⟨cs, h1, h2, h3⟩ := hO.some b hbk
      exact ⟨cs, h1.congr (hb b h1.lt fun e => hsr (h.apart s r os o b hs hr (.inl hbk) (.inl e))), h2, h3.tr (fun x hx => hb x (hO.subl x hx) fun e => hsr (h.apart s r os o x hs hr (.inr hx) (.inl e))) htr⟩

theorem own_newB {c : Ctx} {φ : Phi} {hp : List (Option Own)} {w : World} {o : Own} {cs : Array Value} {cap : Nat} {mp : Bool} {ob : Obj} (h : HeapOK c φ hp w) (hob : Blk (w.alloc ob) w.heap.size mp o.elem cs)
    (hcs : cs.size = cap * c.P.cellsOf o.elem) (hcap : cap < 2 ^ 63) (hlen : o.es.length ≤ cap) (hrows : ∀ row ∈ o.es, row.length = c.P.cellsOf o.elem)
    (hv : Cells c.P w (Mut c.A φ hp) hp.length φ (fun _ => False) o.es cs (c.P.cellsOf o.elem)) :
    HeapOK c (fun x => if x = hp.length then ⟨some w.heap.size, cap, o.es.length, c.P.cellsOf o.elem, mp, fun _ => False⟩ else φ x) (hp ++ [some o]) (w.alloc ob) ∧
    (∀ av x, RelF c.P w (Mut c.A φ hp) hp.length φ av x → RelF c.P (w.alloc ob) (Mut c.A (fun x => if x = hp.length then ⟨some w.heap.size, cap, o.es.length, c.P.cellsOf o.elem, mp, fun _ => False⟩ else φ x) (hp ++ [some o]))
      (hp ++ [some o]).length (fun x => if x = hp.length then ⟨some w.heap.size, cap, o.es.length, c.P.cellsOf o.elem, mp, fun _ => False⟩ else φ x) av x) := by
  generalize hL : (⟨some w.heap.size, cap, o.es.length, c.P.cellsOf o.elem, mp, fun _ => False⟩ : Loc) = L
  have hLh : ∀ b, L.has b → b = w.heap.size := by
    rintro b (h1 | h1) <;> rw [← hL] at h1
    · cases h1; rfl
    · exact h1.elim
  have hBl : Below w.heap.size w (w.alloc ob) := (Below.refl _ _).alloc (Nat.le_refl _) _
  have hlenA : (hp ++ [some o]).length = hp.length + 1 := by simp
  have hmm : ∀ b, b < w.heap.size → ¬ Mut c.A φ hp b → ¬ Mut c.A (fun x => if x = hp.length then L else φ x) (hp ++ [some o]) b := by
    intro b hlt hm hm'
    rcases hm' with ha | ⟨s, os, hs, hbs⟩
    · exact hm (.inl ha)
    · rw [nth_append] at hs
      by_cases hsr : s = hp.length
      · simp only [hsr, if_true] at hbs; rw [hLh b hbs] at hlt; omega
      · rw [if_neg hsr] at hs
        simp only [if_neg hsr] at hbs
        exact hm (.inr ⟨s, os, hs, hbs⟩)
  have htr : ∀ av x, RelF c.P w (Mut c.A φ hp) hp.length φ av x → RelF c.P (w.alloc ob) (Mut c.A (fun x => if x = hp.length then L else φ x) (hp ++ [some o])) (hp.length + 1) (fun x => if x = hp.length then L else φ x) av x := by
    intro av x hx ψ hψ
    refine (hx ψ fun s hs => ?_).mono hBl.size (fun b hb _ => hBl.block b hb) hmm
    rw [hψ s (by omega)]
    show (if s = hp.length then L else φ s) = φ s
    rw [if_neg (by omega)]
  refine ⟨⟨h.os, h.tape, h.output, Nat.le_trans h.heap hBl.size, fun b hb hn => (hBl.block b (Nat.lt_of_lt_of_le hb h.heap)).trans (h.frame b hb hn), ?_, ?_, ?_, h.amb, h.glob, by rw [hlenA]; exact Nat.le_succ_of_le h.len, fun s hs => by
    have := h.len
    simp only [if_neg (show ¬ s = hp.length by omega)]; exact h.mono s hs⟩, by rw [hlenA]; exact htr⟩
  · intro s os b hs hbs
    rw [nth_append] at hs
    by_cases hsr : s = hp.length
    · simp only [hsr, if_true] at hbs
      rw [hLh b hbs]
      have h2 := h.heap
      exact ⟨.inr h2, fun ha => by have := (h.amb _ ha).1; omega⟩
    · rw [if_neg hsr] at hs
      simp only [if_neg hsr] at hbs
      exact h.owned s os b hs hbs
  · intro s s' os os' b hs hs' hbs hbs'
    rw [nth_append] at hs hs'
    have hold : ∀ x ox, nth hp x = some ox → (φ x).has b → b < w.heap.size := fun x ox hx hbx => (h.obj x ox hx).has_lt hbx
    by_cases hsr : s = hp.length
    · by_cases hsr' : s' = hp.length
      · rw [hsr, hsr']
      · rw [if_neg hsr'] at hs'
        simp only [if_neg hsr'] at hbs'
        simp only [hsr, if_true] at hbs
        have := hLh b hbs
        have := hold s' os' hs' hbs'; omega
    · rw [if_neg hsr] at hs
      simp only [if_neg hsr] at hbs
      by_cases hsr' : s' = hp.length
      · simp only [hsr', if_true] at hbs'
        have := hLh b hbs'
        have := hold s os hs hbs; omega
      · rw [if_neg hsr'] at hs'
        simp only [if_neg hsr'] at hbs'
        exact h.apart s s' os os' b hs hs' hbs hbs'
  · intro s os hs
    rw [hlenA]
    rw [nth_append] at hs
    by_cases hsr : s = hp.length
    · rw [if_pos hsr] at hs
      cases hs
      refine ⟨by simp [hsr, ← hL], by simp [hsr, ← hL], hrows, by simp [hsr, ← hL, hlen], by simp [hsr, ← hL]; omega, by simp [hsr, ← hL], by simp [hsr, ← hL], by simp [hsr, ← hL], ?_⟩
      intro b hb
      simp only [hsr, if_true, ← hL] at hb
      cases hb
      rw [if_pos hsr]
      have hLs : L.sub = fun _ => False := by rw [← hL]
      exact ⟨cs, by rw [← hL]; exact hob, by rw [← hL]; exact hcs, by rw [hLs]; exact hv.tr (fun b hb => hb.elim) htr⟩
    · rw [if_neg hsr] at hs
      have hO := h.obj s os hs
      refine ⟨by simp only [if_neg hsr]; exact hO.len, by simp only [if_neg hsr]; exact hO.sz, hO.rows, by simp only [if_neg hsr]; exact hO.room, by simp only [if_neg hsr]; exact hO.cap,
        by simp only [if_neg hsr]; exact hO.none, by simp only [if_neg hsr]; exact fun b hb => Nat.lt_of_lt_of_le (hO.subl b hb) hBl.size, by simp only [if_neg hsr]; exact hO.subn, ?_⟩
      intro b hbk
      simp only [if_neg hsr] at hbk ⊢
      obtain ⟨cs', h1, h2, h3⟩ := hO.some b hbk
      exact ⟨cs', h1.congr (hBl.block b h1.lt), h2, h3.tr (fun x hx => hBl.block x (hO.subl x hx)) htr⟩
theorem own_new {c : Ctx} {φ : Phi} {hp : List (Option Own)} {w : World} {o : Own} {cs : Array Value} {cap : Nat} (h : HeapOK c φ hp w)
    (hcs : cs.size = cap * c.P.cellsOf o.elem) (hcap : cap < 2 ^ 63) (hlen : o.es.length ≤ cap) (hrows : ∀ row ∈ o.es, row.length = c.P.cellsOf o.elem)
    (hv : ∀ i j, i < o.es.length → j < c.P.cellsOf o.elem → RelF c.P w (Mut c.A φ hp) hp.length φ (cellAt o.es i j) (cs.getD (i * c.P.cellsOf o.elem + j) undef)) :
    HeapOK c (fun x => if x = hp.length then ⟨some w.heap.size, cap, o.es.length, c.P.cellsOf o.elem, false, fun _ => False⟩ else φ x) (hp ++ [some o]) (w.alloc (.cells cs o.elem)) ∧
    (∀ av x, RelF c.P w (Mut c.A φ hp) hp.length φ av x → RelF c.P (w.alloc (.cells cs o.elem)) (Mut c.A (fun x => if x = hp.length then ⟨some w.heap.size, cap, o.es.length, c.P.cellsOf o.elem, false, fun _ => False⟩ else φ x) (hp ++ [some o]))
      (hp ++ [some o]).length (fun x => if x = hp.length then ⟨some w.heap.size, cap, o.es.length, c.P.cellsOf o.elem, false, fun _ => False⟩ else φ x) av x) :=
  own_newB (mp := false) h (by show (w.heap.push _)[w.heap.size]? = _; simp) hcs hcap hlen hrows (.of hv)
end Go.Vx

namespace Go.Vx
open Go Go.RowKit


def tAgg (P : Program) (t n : Nat) : Bool :=
  match P.info? t with
  | some i => (Nat.beq i.size n && Nat.blt 0 n) && (match P.underlying t with | some (.struct _) => true | some (.array _ _) => true | _ => false)
  | none => false

def tScal (P : Program) (t : Nat) : Bool :=
  match P.info? t with
  | some i => Nat.beq i.size 1 && (match P.underlying t with | some (.struct _) => false | some (.array _ _) => false | some _ => true | none => false)
  | none => false

def tSl (P : Program) (t e n by_ : Nat) : Bool :=
  (match P.underlying t with | some (.slice e') => Nat.beq e' e | _ => false) &&
  (match P.info? e with | some i => Nat.beq i.size n && Nat.beq i.bytes by_ && Nat.blt 0 n && (match i.zero with | some z => Nat.beq z.cells.size n | none => false) | none => false)

def tArr (P : Program) (t len e n : Nat) : Bool :=
  (match P.underlying t with | some (.array l e') => Nat.beq l len && Nat.beq e' e | _ => false) &&
  (match P.info? e with | some i => Nat.beq i.size n | none => false)

def tFld (P : Program) (s f off : Nat) : Bool :=
  match P.underlying s with
  | some (.struct fs) => (match fs[f]? with
    | some fd => Nat.beq fd.offset off && (match P.info? fd.type with | some i => Nat.blt 0 i.size | none => false)
    | none => false)
  | _ => false

def zeroOf (P : Program) (t : Nat) : Option (List Value) := match P.info? t with | some i => i.zero.map fun z => z.cells.toList | none => none

theorem tAgg.spec {P : Program} {t n : Nat} (h : tAgg P t n = true) : ∃ i d, P.info? t = some i ∧ i.size = n ∧ P.underlying t = some d ∧ d.isRow = true ∧ P.cellsOf t = n ∧ 0 < n := by
  unfold tAgg at h
  split at h
  · rename_i i hi
    simp only [Bool.and_eq_true] at h
    have h1 := Nat.eq_of_beq_eq_true h.1.1
    have h0 : 0 < n := by simpa using h.1.2
    have hc : P.cellsOf t = n := by simp [Program.cellsOf, hi, h1]
    split at h
    · exact ⟨i, _, hi, h1, by assumption, rfl, hc, h0⟩
    · exact ⟨i, _, hi, h1, by assumption, rfl, hc, h0⟩
    · simp at h
  · cases h

theorem tScal.spec {P : Program} {t : Nat} (h : tScal P t = true) : ∃ i d, P.info? t = some i ∧ i.size = 1 ∧ P.underlying t = some d ∧ d.isRow = false ∧ P.cellsOf t = 1 := by
  unfold tScal at h
  split at h
  · rename_i i hi
    simp only [Bool.and_eq_true] at h
    have h1 := Nat.eq_of_beq_eq_true h.1
    have hc : P.cellsOf t = 1 := by simp [Program.cellsOf, hi, h1]
    have h2 := h.2
    split at h2
    · cases h2
    · cases h2
    · rename_i d hd1 hd2 hu
      refine ⟨i, d, hi, h1, hu, ?_, hc⟩
      cases d <;> first | rfl | exact absurd rfl (hd1 _) | exact absurd rfl (hd2 _ _)
    · cases h2
  · cases h

theorem tSl.spec {P : Program} {t e n by_ : Nat} (h : tSl P t e n by_ = true) : P.underlying t = some (.slice e) ∧ ∃ i z, P.info? e = some i ∧ i.size = n ∧ i.bytes = by_ ∧ 0 < n ∧ i.zero = some z ∧ z.cells.size = n ∧ P.cellsOf e = n := by
  unfold tSl at h
  simp only [Bool.and_eq_true] at h
  obtain ⟨h1, h2⟩ := h
  split at h1
  · rename_i e' hu
    have he := Nat.eq_of_beq_eq_true h1
    subst he
    split at h2
    · rename_i i hi
      simp only [Bool.and_eq_true] at h2
      obtain ⟨⟨⟨h3, h4⟩, h5⟩, h6⟩ := h2
      split at h6
      · rename_i z hz
        have h3' := Nat.eq_of_beq_eq_true h3
        exact ⟨hu, i, z, hi, h3', Nat.eq_of_beq_eq_true h4, by simpa using h5, hz, Nat.eq_of_beq_eq_true h6, by simp [Program.cellsOf, hi, h3']⟩
      · cases h6
    · cases h2
  · cases h1

theorem tArr.spec {P : Program} {t len e n : Nat} (h : tArr P t len e n = true) : P.underlying t = some (.array len e) ∧ ∃ i, P.info? e = some i ∧ i.size = n := by
  unfold tArr at h
  simp only [Bool.and_eq_true] at h
  obtain ⟨h1, h2⟩ := h
  split at h1
  · rename_i l e' hu
    simp only [Bool.and_eq_true] at h1
    have he := Nat.eq_of_beq_eq_true h1.2
    have hl := Nat.eq_of_beq_eq_true h1.1
    subst he hl
    split at h2
    · rename_i i hi
      exact ⟨hu, i, hi, Nat.eq_of_beq_eq_true h2⟩
    · cases h2
  · cases h1

theorem tFld.spec {P : Program} {s f off : Nat} (h : tFld P s f off = true) : ∃ fs fd i, P.underlying s = some (.struct fs) ∧ fs[f]? = some fd ∧ fd.offset = off ∧ P.info? fd.type = some i ∧ i.size ≠ 0 := by
  unfold tFld at h
  split at h
  · rename_i fs hu
    split at h
    · rename_i fd hf
      simp only [Bool.and_eq_true] at h
      obtain ⟨h1, h2⟩ := h
      split at h2
      · rename_i i hi
        exact ⟨fs, fd, i, hu, hf, Nat.eq_of_beq_eq_true h1, hi, by simp at h2; omega⟩
      · cases h2
    · cases h
  · cases h


theorem run_loadAt_scal {P : Program} (w : World) (b o t : Nat) (v : Value) (ht : tScal P t = true) (hc : w.cell? ⟨b, o, none⟩ = some v) :
    (Instr.loadAt t (.pointer (some ⟨b, o, none⟩))).run P w = .ok v w := by
  obtain ⟨i, d, hi, _, hu, hd, _⟩ := tScal.spec ht
  have hagg : (isAgg t).run P w = .ok false w := by
    unfold isAgg
    rw [Sem.run_bind, run_underlying hu w]
    cases d <;> simp_all
  simp [Instr.loadAt, Instr.sureAddr, loadVar, Sem.run_bind, hagg, load, Sem.run, hc]

theorem run_loadAt_agg {P : Program} (w : World) (b o t n : Nat) (cs : List Value) (ht : tAgg P t n = true) (hn : cs.length = n) (hc : ∀ j, j < n → w.cell? ⟨b, o + j, none⟩ = some (cs.getD j undef)) :
    (Instr.loadAt t (.pointer (some ⟨b, o, none⟩))).run P w = .ok (.agg cs.toArray) w := by
  obtain ⟨i, d, hi, hs, hu, hd, _, _⟩ := tAgg.spec ht
  refine run_loadAt_mid w b o t cs d (fun j v hv => ?_) hu hd (by simp [hi, hs, hn])
  have hlt : j < cs.length := (List.getElem?_eq_some_iff.1 hv).1
  rw [hc j (by omega)]
  simp [List.getD_eq_getElem?_getD, hv]

theorem cell_of_cells {w : World} {b off : Nat} {cs : Array Value} {e : TypeId} {fr : Nat × Nat} (h : w.heap[b]? = some (.cells cs e fr)) : w.cell? ⟨b, off, none⟩ = cs[off]? := by
  simp [World.cell?, h]

theorem relF_ptr {P : Program} {w : World} {M : Nat → Prop} {m : Nat} {φ : Phi} {r n i j : Nat} {v : Value} (h : RelF P w M m φ (.ptr r n i j) v) :
    (φ r).n = n → ∃ b, (φ r).blk = some b ∧ v = .pointer (some ⟨b, i * (φ r).sz + j, none⟩) := by
  have := h φ (fun _ _ => rfl)
  cases this with
  | data h => cases h
  | ptr _ _ _ _ _ _ _ h => exact fun e => (h e).2
theorem relF_ptr_mp {P : Program} {w : World} {M : Nat → Prop} {m : Nat} {φ : Phi} {r n i j : Nat} {v : Value} (h : RelF P w M m φ (.ptr r n i j) v) : (φ r).n = n → (φ r).mp = false := by
  have := h φ (fun _ _ => rfl)
  cases this with
  | data h => cases h
  | ptr _ _ _ _ _ _ _ h => exact fun e => (h e).1

theorem relF_own {P : Program} {w : World} {M : Nat → Prop} {m : Nat} {φ : Phi} {r n : Nat} {v : Value} (h : RelF P w M m φ (.own r n) v) :
    (φ r).n = n → v = .slice ((φ r).blk.map fun b => ⟨b, 0, none⟩) n (φ r).cap := by
  have := h φ (fun _ _ => rfl)
  cases this with
  | data h => cases h
  | own _ _ _ _ _ h => exact fun e => (h e).2
theorem relF_own_mp {P : Program} {w : World} {M : Nat → Prop} {m : Nat} {φ : Phi} {r n : Nat} {v : Value} (h : RelF P w M m φ (.own r n) v) : (φ r).n = n → (φ r).mp = false := by
  have := h φ (fun _ _ => rfl)
  cases this with
  | data h => cases h
  | own _ _ _ _ _ h => exact fun e => (h e).1
theorem relF_sub {P : Program} {w : World} {M : Nat → Prop} {m : Nat} {φ : Phi} {av : AV} {v : Value} (h : RelF P w M m φ av v) : noSub av = true := no_sub (h φ (fun _ _ => rfl))

def NS (l : List AV) : Prop := ∀ x ∈ l, noSub x = true
theorem nsR {l : List AV} (h : l.all noSub = true) : NS l := fun x hx => List.all_eq_true.1 h x hx
theorem nsM {α : Type} {f : α → AV} {l : List α} (h : ∀ x, noSub (f x) = true) : NS (l.map f) := fun x hx => by obtain ⟨y, _, rfl⟩ := List.mem_map.1 hx; exact h y
theorem NS.getD {l : List AV} (h : NS l) {i : Nat} (hi : i < l.length) : noSub (l.getD i .any) = true := by
  have : l.getD i .any = l[i] := by simp [List.getD_eq_getElem?_getD, hi]
  rw [this]; exact h _ (List.getElem_mem _)
theorem NS.getD' {l : List AV} (h : NS l) (i : Nat) : noSub (l.getD i .any) = true := by
  by_cases hi : i < l.length
  · exact h.getD hi
  · rw [List.getD_eq_getElem?_getD, List.getElem?_eq_none (by omega)]; rfl
theorem rel_agg {P : Program} {w : World} {M : Nat → Prop} {φ : Phi} {l : List AV} {v : Value} (h : Rel P w M φ (.agg l) v) :
    ∃ vs, v = .agg vs ∧ l.length = vs.size ∧ ∀ i, i < l.length → Rel P w M φ (l.getD i .any) (vs.getD i undef) := by
  cases h with
  | data h => cases h with | agg _ vs h1 h2 => exact ⟨vs, rfl, h1, fun i hi => .data (h2 i hi)⟩
  | agg _ vs h1 h2 => exact ⟨vs, rfl, h1, h2⟩

theorem relF_agg {P : Program} {w : World} {M : Nat → Prop} {m : Nat} {φ : Phi} {l : List AV} {v : Value} (h : RelF P w M m φ (.agg l) v) :
    ∃ vs, v = .agg vs ∧ l.length = vs.size ∧ ∀ i, i < l.length → RelF P w M m φ (l.getD i .any) (vs.getD i undef) := by
  obtain ⟨vs, hv, hl, _⟩ := rel_agg (h φ (fun _ _ => rfl))
  refine ⟨vs, hv, hl, fun i hi φ' hφ => ?_⟩
  obtain ⟨vs', hv', _, h2⟩ := rel_agg (h φ' hφ)
  rw [hv] at hv'
  cases hv'
  exact h2 i hi

theorem rel_tuple {P : Program} {w : World} {M : Nat → Prop} {φ : Phi} {l : List AV} {v : Value} (h : Rel P w M φ (.tuple l) v) :
    ∃ vs, v = .tuple vs ∧ l.length = vs.size ∧ ∀ i, i < l.length → Rel P w M φ (l.getD i .any) (vs.getD i undef) := by
  cases h with
  | data h => cases h with | tuple _ vs h1 h2 => exact ⟨vs, rfl, h1, fun i hi => .data (h2 i hi)⟩
  | tuple _ vs h1 h2 => exact ⟨vs, rfl, h1, h2⟩

theorem relF_aggI {P : Program} {w : World} {M : Nat → Prop} {m : Nat} {φ : Phi} {l : List AV} {vs : Array Value} (h1 : l.length = vs.size) (h2 : ∀ i, i < l.length → RelF P w M m φ (l.getD i .any) (vs.getD i undef)) :
    RelF P w M m φ (.agg l) (.agg vs) := fun φ' hφ => .agg l vs h1 fun i hi => h2 i hi φ' hφ

theorem relF_rp {P : Program} {w : World} {M : Nat → Prop} {m : Nat} {φ : Phi} {l : List AV} {off : Nat} {v : Value} (h : RelF P w M m φ (.rp l off) v) : RelD P w M (.rp l off) v := by
  have := h φ (fun _ _ => rfl)
  cases this with | data h => exact h
theorem relF_sl {P : Program} {w : World} {M : Nat → Prop} {m : Nat} {φ : Phi} {e : TypeId} {l : List (List AV)} {v : Value} (h : RelF P w M m φ (.sl e l) v) : RelD P w M (.sl e l) v := by
  have := h φ (fun _ _ => rfl)
  cases this with | data h => exact h

theorem getD_of_get? {α : Type} {l : List α} {i : Nat} {x d : α} (h : l[i]? = some x) : l.getD i d = x := by simp [List.getD_eq_getElem?_getD, h]

theorem ix_lt {i n j m : Nat} (hi : i < n) (hj : j < m) : i * m + j < n * m := by
  have h1 : i * m + j < i * m + m := by omega
  have h2 : i * m + m = (i + 1) * m := by rw [Nat.add_mul, Nat.one_mul]
  have h3 : (i + 1) * m ≤ n * m := Nat.mul_le_mul_right m (by omega)
  omega

section ops
variable {c : Ctx} {ops : Array Oper} {st : St} {dst : Option Tmp} {ty : TypeId} {pos : String} {after : Array Edge}

theorem live_cells {φ : Phi} {a : Act} {w : World} (hc : Conc c φ st a w) {r : Nat} {o : Own} (ho : nth st.hp r = some o) {i : Nat} {row : List AV} (hrow : o.es[i]? = some row) (hmp : (φ r).mp = false) :
    ∃ b cs, (φ r).blk = some b ∧ (φ r).n = o.es.length ∧ (φ r).sz = row.length ∧ w.heap[b]? = some (.cells cs o.elem (0, 0)) ∧ row.length = c.P.cellsOf o.elem ∧
      cs.size = (φ r).cap * row.length ∧ i < (φ r).cap ∧
      (∀ j, j < row.length → i * row.length + j < cs.size) ∧ ∀ j, j < row.length → noSub (row.getD j .any) = true → RelF c.P w (Mut c.A φ st.hp) st.hp.length φ (row.getD j .any) (cs.getD (i * row.length + j) undef) := by
  have hO := hc.hok.obj r o ho
  have hi : i < o.es.length := (List.getElem?_eq_some_iff.1 hrow).1
  have hmem : row ∈ o.es := List.mem_of_getElem? hrow
  have hrl := hO.rows row hmem
  cases hb : (φ r).blk with
  | none => have := (hO.none hb).1; rw [this] at hi; simp at hi
  | some b =>
    obtain ⟨cs, h1, h2, h3⟩ := hO.some b hb
    have hcap := hO.room
    refine ⟨b, cs, rfl, hO.len, by rw [hO.sz, hrl], h1.cells hmp, hrl, by rw [h2, hrl], by omega, fun j hj => ?_, fun j hj hn => ?_⟩
    · rw [h2, ← hrl]; exact ix_lt (by omega) hj
    · have e : cellAt o.es i j = row.getD j .any := by unfold cellAt; rw [getD_of_get? hrow]
      have := h3.plain hi (j := j) (by omega) (by rw [e]; exact hn)
      rw [hrl]
      rw [e] at this
      exact this

theorem v_loadA {x : Operand} {r n i j t sz : Nat} {o : Own} {row l : List AV} (h : Opv c st x (.ptr r n i j)) (ho : nth st.hp r = some o) (hn : o.es.length = n) (hrow : o.es[i]? = some row)
    (ht : tAgg c.P t sz = true) (hl : (row.drop j).take sz = l) (hlen : l.length = sz) (hns : NS l := by first | exact nsR rfl | exact nsM (fun _ => rfl)) : SVal c ops st ⟨dst, .load t x, ty, pos, after, none⟩ (.agg l) :=
  .pure rfl fun φ a w hc => by
    obtain ⟨b, cs, h1, h2, h3, h4, h5, _, _, h6, h7⟩ := live_cells hc ho hrow (relF_ptr_mp (h φ a w hc) (by rw [(hc.hok.obj r o ho).len, hn]))
    obtain ⟨b', hb', hx⟩ := relF_ptr (h φ a w hc) (by rw [h2, hn])
    rw [h1] at hb'; cases hb'
    obtain ⟨_, _, _, _, _, _, _, hsz0⟩ := tAgg.spec ht
    have hjl : j + sz ≤ row.length := by rw [← hl] at hlen; simp at hlen; omega
    refine ⟨.agg ((cs.toList.drop (i * row.length + j)).take sz).toArray, ?_, ?_⟩
    · simp only [execOp, hx, h3]
      rw [Sem.run_bind, run_loadAt_agg w b (i * row.length + j) t sz _ ht]
      · rfl
      · simp
        have := h6 (j + sz - 1) (by omega)
        omega
      · intro k hk
        rw [cell_of_cells h4]
        have := h6 (j + k) (by omega)
        simp [List.getD_eq_getElem?_getD, hk, List.getElem?_drop]
        have e : i * row.length + j + k = i * row.length + (j + k) := by omega
        rw [e, Array.getElem?_eq_getElem (by omega)]
        simp
    · refine relF_aggI ?_ fun k hk => ?_
      · simp [hlen]
        have := h6 (j + sz - 1) (by omega)
        omega
      · have e1 : l.getD k .any = row.getD (j + k) .any := by
          rw [← hl]; simp [List.getD_eq_getElem?_getD, List.getElem?_drop, show k < sz by omega]
        have h8 := h7 (j + k) (by omega) (by rw [← e1]; exact hns.getD hk)
        have e2 : ((cs.toList.drop (i * row.length + j)).take sz).toArray.getD k undef = cs.getD (i * row.length + (j + k)) undef := by
          simp [Array.getD_eq_getD_getElem?, List.getElem?_drop, show k < sz by omega, Nat.add_assoc]
        rw [e1, e2]; exact h8

theorem v_loadS {x : Operand} {r n i j t : Nat} {o : Own} {row : List AV} {v : AV} (h : Opv c st x (.ptr r n i j)) (ho : nth st.hp r = some o) (hn : o.es.length = n) (hrow : o.es[i]? = some row)
    (ht : tScal c.P t = true) (hv : row[j]? = some v) (hns : noSub v = true := by rfl) : SVal c ops st ⟨dst, .load t x, ty, pos, after, none⟩ v :=
  .pure rfl fun φ a w hc => by
    obtain ⟨b, cs, h1, h2, h3, h4, h5, _, _, h6, h7⟩ := live_cells hc ho hrow (relF_ptr_mp (h φ a w hc) (by rw [(hc.hok.obj r o ho).len, hn]))
    obtain ⟨b', hb', hx⟩ := relF_ptr (h φ a w hc) (by rw [h2, hn])
    rw [h1] at hb'; cases hb'
    have hj : j < row.length := (List.getElem?_eq_some_iff.1 hv).1
    have h6' := h6 j hj
    refine ⟨cs.getD (i * row.length + j) undef, ?_, ?_⟩
    · simp only [execOp, hx, h3]
      rw [Sem.run_bind, run_loadAt_scal w b (i * row.length + j) t _ ht]
      · rfl
      · rw [cell_of_cells h4, Array.getElem?_eq_getElem h6']; simp [h6']
    · have := h7 j hj (by rw [getD_of_get? hv]; exact hns)
      rw [getD_of_get? hv] at this
      exact this

theorem v_loadA_r {x : Operand} {t sz off : Nat} {cells l : List AV} (h : Opv c st x (.rp cells off)) (ht : tAgg c.P t sz = true) (hl : (cells.drop off).take sz = l) (hlen : l.length = sz) :
    SVal c ops st ⟨dst, .load t x, ty, pos, after, none⟩ (.agg l) :=
  .pure rfl fun φ a w hc => by
    have hr := relF_rp (h φ a w hc)
    generalize hx : a.eval x = ax at hr
    cases hr with
    | rp _ b base _ us hlt hM h1 h2 =>
      obtain ⟨_, _, _, _, _, _, _, hsz0⟩ := tAgg.spec ht
      have hjl : off + sz ≤ cells.length := by rw [← hl] at hlen; simp at hlen; omega
      refine ⟨.agg (((List.range sz).map fun k => us (off + k))).toArray, ?_, ?_⟩
      · simp only [execOp, hx]
        rw [Sem.run_bind, run_loadAt_agg w b (base + off) t sz ((List.range sz).map fun k => us (off + k)) ht]
        · rfl
        · simp
        · intro k hk
          rw [Nat.add_assoc, h1 (off + k) (by omega)]
          simp [List.getD_eq_getElem?_getD, hk]
      · refine relF_aggI (by simp [hlen]) fun k hk => relF_data ?_
        have h8 := h2 (off + k) (by omega)
        have e1 : l.getD k .any = cells.getD (off + k) .any := by
          rw [← hl]; simp [List.getD_eq_getElem?_getD, List.getElem?_drop, show k < sz by omega]
        rw [e1]
        simpa [Array.getD_eq_getD_getElem?, show k < sz by omega] using h8

theorem v_loadS_r {x : Operand} {t off : Nat} {cells : List AV} {v : AV} (h : Opv c st x (.rp cells off)) (ht : tScal c.P t = true) (hv : cells[off]? = some v) :
    SVal c ops st ⟨dst, .load t x, ty, pos, after, none⟩ v :=
  .pure rfl fun φ a w hc => by
    have hr := relF_rp (h φ a w hc)
    generalize hx : a.eval x = ax at hr
    cases hr with
    | rp _ b base _ us hlt hM h1 h2 =>
      have hj : off < cells.length := (List.getElem?_eq_some_iff.1 hv).1
      refine ⟨us off, ?_, relF_data ?_⟩
      · simp only [execOp, hx]
        rw [Sem.run_bind, run_loadAt_scal w b (base + off) t _ ht (h1 off hj)]
        rfl
      · have := h2 off hj
        rw [getD_of_get? hv] at this
        exact this

theorem addr_add (b o n : Nat) : (⟨b, o, none⟩ : Addr).add n = ⟨b, o + n, none⟩ := by unfold Addr.add; split <;> simp_all

theorem run_fieldAt' {P : Program} (w : World) (b o s f off : Nat) (ht : tFld P s f off = true) : (Instr.fieldAt s (.pointer (some ⟨b, o, none⟩)) f).run P w = .ok (.pointer (some ⟨b, o + off, none⟩)) w := by
  obtain ⟨fs, fd, i, hu, hf, ho, hi, hs⟩ := tFld.spec ht
  simp [Instr.fieldAt, run_underlying hu, hf, Instr.sureAddr, fieldPlace, sizeOf, typeInfo, hi, hs, addr_add, ho]

theorem v_fieldP {x : Operand} {r n i j s f off : Nat} {o : Own} (h : Opv c st x (.ptr r n i j)) (ho : nth st.hp r = some o) (hn : o.es.length = n) (ht : tFld c.P s f off = true) :
    SVal c ops st ⟨dst, .fieldAddr s x f, ty, pos, after, none⟩ (.ptr r n i (j + off)) :=
  .pure rfl fun φ a w hc => by
    have hO := hc.hok.obj r o ho
    obtain ⟨b, hb, hx⟩ := relF_ptr (h φ a w hc) (by rw [hO.len, hn])
    refine ⟨.pointer (some ⟨b, i * (φ r).sz + j + off, none⟩), ?_, ?_⟩
    · simp only [execOp, hx]
      rw [Sem.run_bind, run_fieldAt' w b _ s f off ht]
      rfl
    · intro φ' hφ
      have e : φ' r = φ r := hφ r (nth_lt ho)
      refine .ptr r n i (j + off) _ rfl (by rw [e, hO.len, hn]; exact Nat.le_refl _) fun _ => ⟨by rw [e]; exact relF_ptr_mp (h φ a w hc) (by rw [hO.len, hn]), b, by rw [e]; exact hb, by rw [e, Nat.add_assoc]⟩

theorem v_fieldR {x : Operand} {cells : List AV} {o s f off : Nat} (h : Opv c st x (.rp cells o)) (ht : tFld c.P s f off = true) :
    SVal c ops st ⟨dst, .fieldAddr s x f, ty, pos, after, none⟩ (.rp cells (o + off)) :=
  .pure rfl fun φ a w hc => by
    have hr := relF_rp (h φ a w hc)
    generalize hx : a.eval x = ax at hr
    cases hr with
    | rp _ b base _ us hlt hM h1 h2 =>
      refine ⟨.pointer (some ⟨b, base + o + off, none⟩), ?_, relF_data ?_⟩
      · simp only [execOp, hx]
        rw [Sem.run_bind, run_fieldAt' w b _ s f off ht]
        rfl
      · rw [Nat.add_assoc]; exact .rp cells b base (o + off) us hlt hM h1 h2

theorem v_ixS {x y : Operand} {t e n by_ m : Nat} {k : IntKind} {z : Int} {l : List (List AV)} {row : List AV} (h : Opv c st x (.sl e l)) (hy : Opv c st y (.int k z)) (ht : tSl c.P t e n by_ = true)
    (hz : z = (m : Int)) (hrow : l[m]? = some row) : SVal c ops st ⟨dst, .indexAddr t x y, ty, pos, after, none⟩ (.rp row 0) :=
  .pure rfl fun φ a w hc => by
    have hr := relF_sl (h φ a w hc)
    have e1 := hy.int hc
    obtain ⟨hu, i, zz, hi, hs, hby, hn0, _, _, hcs⟩ := tSl.spec ht
    have hm : m < l.length := (List.getElem?_eq_some_iff.1 hrow).1
    generalize hx : a.eval x = ax at hr
    cases hr with
    | sl0 _ _ _ => simp at hm
    | sl _ _ b off c' us hlt hM h1 h1' h2 h3 h4 =>
      refine ⟨.pointer (some ⟨b, off + m * n, none⟩), ?_, relF_data ?_⟩
      · subst hz
        simp [execOp, hx, e1, Instr.indexAt, asIntOf, run_underlying hu, sizeOf, typeInfo, hi, hs, addr_add]; intro h'; omega
      · have := RelD.rp (P := c.P) (w := w) (M := Mut c.A φ st.hp) row b (off + m * n) 0 (us m) hlt hM (fun j hj => ?_) (fun j hj => ?_)
        · simpa using this
        · have hl := h2 row (List.mem_of_getElem? hrow)
          rw [hcs] at hl
          have := h3 m j hm (by rw [hcs]; omega)
          rw [hcs] at this
          rw [Nat.add_assoc]; exact this
        · have hl := h2 row (List.mem_of_getElem? hrow)
          have := h4 m j hm (by omega)
          unfold cellAt at this
          rw [getD_of_get? hrow] at this
          exact this

theorem v_ixO {x y : Operand} {t e n by_ m r q : Nat} {k : IntKind} {z : Int} {o : Own} (h : Opv c st x (.own r q)) (hy : Opv c st y (.int k z)) (ht : tSl c.P t e n by_ = true)
    (ho : nth st.hp r = some o) (hq : o.es.length = q) (he : c.P.cellsOf o.elem = n) (hz : z = (m : Int)) (hm : m < q) : SVal c ops st ⟨dst, .indexAddr t x y, ty, pos, after, none⟩ (.ptr r q m 0) :=
  .pure rfl fun φ a w hc => by
    have hO := hc.hok.obj r o ho
    have hx := relF_own (h φ a w hc) (by rw [hO.len, hq])
    have e1 := hy.int hc
    obtain ⟨hu, i, zz, hi, hs, hby, hn0, _, _, hcs⟩ := tSl.spec ht
    cases hb : (φ r).blk with
    | none => have := (hO.none hb).1; rw [this] at hq; simp at hq; omega
    | some b =>
      rw [hb] at hx
      refine ⟨.pointer (some ⟨b, 0 + m * n, none⟩), ?_, fun φ' hφ => ?_⟩
      · subst hz
        simp [execOp, hx, e1, Instr.indexAt, asIntOf, run_underlying hu, sizeOf, typeInfo, hi, hs, addr_add]; intro h'; omega
      · have e : φ' r = φ r := hφ r (nth_lt ho)
        refine .ptr r q m 0 _ rfl (by rw [e, hO.len, hq]; exact Nat.le_refl _) fun _ => ⟨by rw [e]; exact relF_own_mp (h φ a w hc) (by rw [hO.len, hq]), b, by rw [e]; exact hb, by rw [e, hO.sz, he]; simp⟩

theorem run_indexAt_arr {P : Program} (w : World) {t len e n : Nat} (ht : tArr P t len e n = true) (b o : Nat) (k : IntKind) (m : Nat) (hm : m < len) :
    (Instr.indexAt t (.pointer (some ⟨b, o, none⟩)) (.int k (m : Int))).run P w = .ok (.pointer (some ⟨b, o + m * n, none⟩)) w := by
  obtain ⟨hu, inf, hi, hs⟩ := tArr.spec ht
  simp [Instr.indexAt, asIntOf, run_underlying hu, sizeOf, typeInfo, hi, hs, addr_add, Instr.sureAddr]
  intro h'; omega

theorem v_ixA {x y : Operand} {t e n len m r q i j : Nat} {k : IntKind} {z : Int} {o : Own} (h : Opv c st x (.ptr r q i j)) (hy : Opv c st y (.int k z)) (ht : tArr c.P t len e n = true)
    (ho : nth st.hp r = some o) (hq : o.es.length = q) (hz : z = (m : Int)) (hm : m < len) : SVal c ops st ⟨dst, .indexAddr t x y, ty, pos, after, none⟩ (.ptr r q i (j + m * n)) :=
  .pure rfl fun φ a w hc => by
    have hO := hc.hok.obj r o ho
    obtain ⟨b, hb, hx⟩ := relF_ptr (h φ a w hc) (by rw [hO.len, hq])
    have e1 := hy.int hc
    refine ⟨.pointer (some ⟨b, i * (φ r).sz + j + m * n, none⟩), ?_, fun φ' hφ => ?_⟩
    · subst hz
      simp only [execOp, hx, e1]
      rw [Sem.run_bind, run_indexAt_arr w ht _ _ _ _ hm]
      rfl
    · have e : φ' r = φ r := hφ r (nth_lt ho)
      refine .ptr r q i (j + m * n) _ rfl (by rw [e, hO.len, hq]; exact Nat.le_refl _) fun _ => ⟨by rw [e]; exact relF_ptr_mp (h φ a w hc) (by rw [hO.len, hq]), b, by rw [e]; exact hb, by rw [e, Nat.add_assoc]⟩

theorem v_ixR {x y : Operand} {t e n len m o : Nat} {cells : List AV} {k : IntKind} {z : Int} (h : Opv c st x (.rp cells o)) (hy : Opv c st y (.int k z)) (ht : tArr c.P t len e n = true)
    (hz : z = (m : Int)) (hm : m < len) : SVal c ops st ⟨dst, .indexAddr t x y, ty, pos, after, none⟩ (.rp cells (o + m * n)) :=
  .pure rfl fun φ a w hc => by
    have hr := relF_rp (h φ a w hc)
    have e1 := hy.int hc
    generalize hx : a.eval x = ax at hr
    cases hr with
    | rp _ b base _ us hlt hM h1 h2 =>
      refine ⟨.pointer (some ⟨b, base + o + m * n, none⟩), ?_, relF_data ?_⟩
      · subst hz
        show ((do pure (Next.value (← Instr.indexAt t (a.eval x) (a.eval y))) : Sem Next)).run c.P w = _
        rw [hx, e1, Sem.run_bind, run_indexAt_arr w ht _ _ _ _ hm]
        rfl
      · rw [Nat.add_assoc]; exact .rp cells b base (o + m * n) us hlt hM h1 h2

theorem v_extract {x : Operand} {l : List AV} {i : Nat} {v : AV} (h : Opv c st x (.tuple l)) (hv : l[i]? = some v) : SVal c ops st ⟨dst, .extract x i, ty, pos, after, none⟩ v :=
  .pure rfl fun φ a w hc => by
    have hi : i < l.length := (List.getElem?_eq_some_iff.1 hv).1
    obtain ⟨vs, hx, hl, _⟩ := rel_tuple (h φ a w hc φ (fun _ _ => rfl))
    refine ⟨vs.getD i undef, ?_, fun φ' hφ => ?_⟩
    · have : vs[i]? = some (vs.getD i undef) := by rw [Array.getElem?_eq_getElem (by omega)]; simp [show i < vs.size by omega]
      have e : Instr.extract (.tuple vs) i = .pure (vs.getD i undef) := by unfold Instr.extract; simp only [this]; rfl
      simp only [execOp, hx, e]
      rfl
    · obtain ⟨vs', hx', _, h2⟩ := rel_tuple (h φ a w hc φ' hφ)
      rw [hx] at hx'; cases hx'
      have := h2 i hi
      rw [getD_of_get? hv] at this
      exact this

end ops
end Go.Vx

namespace Go.Vx
open Go Go.RowKit


def c1B : AV → Bool
  | .int _ _ | .bool _ | .str _ | .nils | .sl _ _ | .rp _ _ | .fn _ _ | .own _ _ | .ptr _ _ _ _ | .osl _ _ _ _ | .mref _ _ => true
  | .lit v => v.oneCell'
  | _ => false

theorem relF_dataB {P : Program} {w : World} {M : Nat → Prop} {n : Nat} {φ : Phi} {av : AV} {v : Value} (h : RelF P w M n φ av v) (hb : c1B av = true) : v.oneCell' = true := by
  have h := h φ (fun _ _ => rfl)
  cases h with
  | data h => cases h <;> first | rfl | exact hb | cases hb
  | own _ _ _ h0 => exact h0
  | ptr _ _ _ _ _ h0 => exact h0
  | osl _ _ _ _ _ h0 => exact h0
  | agg => cases hb
  | tuple => cases hb
  | fn => rfl
  | when => cases hb
  | mref _ _ _ h0 => exact h0

def Cell1 (c : Ctx) (st : St) (av : AV) : Prop := ∀ φ a w, Conc c φ st a w → ∀ u, RelF c.P w (Mut c.A φ st.hp) st.hp.length φ av u → u.oneCell' = true

section cell1
variable {c : Ctx} {st : St}
theorem cell1_b {av : AV} (h : c1B av = true) : Cell1 c st av := fun _ _ _ _ _ hu => relF_dataB hu h
theorem cell1_all {l : List AV} (h : l.all c1B = true) : ∀ x ∈ l, Cell1 c st x := fun x hx => cell1_b (List.all_eq_true.1 h x hx)
end cell1

theorem cells_one {v : Value} (h : v.oneCell' = true) : v.cells = #[v] := by cases v <;> first | rfl | cases h

section ops
variable {c : Ctx} {ops : Array Oper} {st : St} {dst : Option Tmp} {ty : TypeId} {pos : String} {after : Array Edge}

theorem WVal.run {o : Oper} {v : AV} {hp' : List (Option Own)} (hg : o.guard = none)
    (h : ∀ φ a w, Conc c φ st a w → ∃ u w' φ', (execOp a.eval o).run c.P w = .ok (.value u) w' ∧ HeapOK c φ' hp' w' ∧
      (∀ av x, RelF c.P w (Mut c.A φ st.hp) st.hp.length φ av x → RelF c.P w' (Mut c.A φ' hp') hp'.length φ' av x) ∧ RelF c.P w' (Mut c.A φ' hp') hp'.length φ' v u) : WVal c ops st o v hp' := by
  intro φ a w hc
  refine ⟨wanted_none hg, ?_⟩
  obtain ⟨u, w', φ', h1, h2, h3, h4⟩ := h φ a w hc
  unfold Oper.wp
  rw [h1]
  exact ⟨u, φ', rfl, h2, h3, h4⟩

theorem relF_newptr {P : Program} {w : World} {M : Nat → Prop} {hp : List (Option Own)} {φ : Phi} {o : Own} {L : Loc} {b : Nat} (hb : L.blk = some b) (hn : L.n = 1) (hmp : L.mp = false := by rfl) :
    RelF P w M (hp ++ [some o]).length (fun x => if x = hp.length then L else φ x) (.ptr hp.length 1 0 0) (.pointer (some ⟨b, 0, none⟩)) := by
  intro φ' hφ
  have e : φ' hp.length = L := by
    have := hφ hp.length (by simp)
    simpa using this
  exact .ptr _ _ _ _ _ rfl (by rw [e, hn]; exact Nat.le_refl _) fun _ => ⟨by rw [e]; exact hmp, b, by rw [e]; exact hb, by simp⟩

theorem w_new {o : Oper} {t sz r : Nat} {l : List AV} (hr : st.hp.length = r) (hg : o.guard = none) (hl : l.length = sz) (hsz : c.P.cellsOf t = sz)
    (h : ∀ φ a w, Conc c φ st a w → ∃ cs, (execOp a.eval o).run c.P w = .ok (.value (.pointer (some ⟨w.heap.size, 0, none⟩))) (w.alloc (.cells cs t)) ∧ cs.size = sz ∧
      ∀ j, j < sz → RelF c.P w (Mut c.A φ st.hp) st.hp.length φ (l.getD j .any) (cs.getD j undef)) :
    WVal c ops st o (.ptr r 1 0 0) (st.hp ++ [some ⟨t, [l]⟩]) := by
  subst hr
  refine .run hg fun φ a w hc => ?_
  obtain ⟨cs, h1, h2, h3⟩ := h φ a w hc
  have hn := own_new (o := ⟨t, [l]⟩) (cs := cs) (cap := 1) hc.hok (by simp [h2, hsz]) (by decide) (by simp) (by simp [hl, hsz]) (fun i j hi hj => by
    simp at hi
    subst hi
    have := h3 j (by simpa [hsz] using hj)
    simpa [cellAt] using this)
  exact ⟨_, _, _, h1, hn.1, hn.2, relF_newptr rfl (by simp)⟩

theorem w_box {x : Operand} {t n : Nat} {l : List AV} (r : Nat) (hr : st.hp.length = r) (h : Opv c st x (.agg l)) (ht : tAgg c.P t n = true) (hl : l.length = n) :
    WVal c ops st ⟨dst, .box t x, ty, pos, after, none⟩ (.ptr r 1 0 0) (st.hp ++ [some ⟨t, [l]⟩]) := by
  obtain ⟨i, d, hi, hs, hu, hd, hc', _⟩ := tAgg.spec ht
  refine w_new hr rfl hl hc' fun φ a w hc => ?_
  obtain ⟨vs, hx, hvs, h2⟩ := relF_agg (h φ a w hc)
  refine ⟨vs, ?_, by omega, fun j hj => h2 j (by omega)⟩
  simp only [execOp, hx, Instr.box, newVar, newRow, Value.cells]
  rfl

theorem w_alloc {t : Nat} {zs : List Value} {row : List AV} (r : Nat) (hr : st.hp.length = r) (hz : zeroOf c.P t = some zs) (hrow : zs.map constAV = row) (hl : c.P.cellsOf t = row.length) :
    WVal c ops st ⟨dst, .alloc t, ty, pos, after, none⟩ (.ptr r 1 0 0) (st.hp ++ [some ⟨t, [row]⟩]) := by
  refine w_new hr rfl rfl hl fun φ a w hc => ?_
  unfold zeroOf at hz
  split at hz
  · rename_i i hi
    simp only [Option.map_eq_some_iff] at hz
    obtain ⟨z, hz, hzs⟩ := hz
    have hsz : z.cells.size = row.length := by rw [← hrow, ← hzs]; simp
    refine ⟨z.cells, ?_, hsz, fun j hj => ?_⟩
    · simp [execOp, Instr.alloc, zeroValue, typeInfo, hi, hz, newVar, newRow]
    · refine relF_data ?_
      have e : row.getD j .any = constAV (z.cells.getD j undef) := by
        rw [← hrow, ← hzs]
        have hj' : j < z.cells.size := by omega
        simp [List.getD_eq_getElem?_getD, hj']
      rw [e]
      exact constAV_rel _ _ _ _
  · cases hz


theorem splice_getD {α : Type} (xs l : List α) (j k : Nat) (d : α) (h : j + l.length ≤ xs.length) :
    (xs.take j ++ (l ++ xs.drop (j + l.length))).getD k d = if k < j then xs.getD k d else if k < j + l.length then l.getD (k - j) d else xs.getD k d := by
  have hm : min j xs.length = j := by omega
  simp only [List.getD_eq_getElem?_getD]
  by_cases h1 : k < j
  · rw [if_pos h1, List.getElem?_append_left (by rw [List.length_take]; omega), List.getElem?_take, if_pos h1]
  · rw [if_neg h1, List.getElem?_append_right (by rw [List.length_take]; omega), List.length_take, hm]
    by_cases h2 : k < j + l.length
    · rw [if_pos h2, List.getElem?_append_left (by omega)]
    · rw [if_neg h2, List.getElem?_append_right (by omega), List.getElem?_drop]
      congr 2
      omega

theorem splice_getDA (cs : Array Value) (vs : List Value) (o k : Nat) (h : o + vs.length ≤ cs.size) :
    (cs.toList.take o ++ vs ++ cs.toList.drop (o + vs.length)).toArray.getD k undef = if k < o then cs.getD k undef else if k < o + vs.length then vs.getD (k - o) undef else cs.getD k undef := by
  have e : ∀ (l : List Value) i, l.toArray.getD i undef = l.getD i undef := fun l i => by simp [Array.getD_eq_getD_getElem?, List.getD_eq_getElem?_getD]
  have e' : ∀ i, cs.getD i undef = cs.toList.getD i undef := fun i => by simp [Array.getD_eq_getD_getElem?, List.getD_eq_getElem?_getD]
  rw [e, List.append_assoc, splice_getD _ _ _ _ _ (by simpa using h), e']


theorem store_core {φ : Phi} {a : Act} {w : World} (hc : Conc c φ st a w) {r n i j : Nat} {o : Own} {row l row' : List AV} {vs : List Value} (ho : nth st.hp r = some o) (hn : o.es.length = n) (hrow : o.es[i]? = some row)
    (hlen : j + l.length ≤ row.length) (hvl : vs.length = l.length) (hvs : ∀ k, k < l.length → RelF c.P w (Mut c.A φ st.hp) st.hp.length φ (l.getD k .any) (vs.getD k undef)) (h1 : ∀ v ∈ vs, v.oneCell' = true)
    (hrow' : row.take j ++ (l ++ row.drop (j + l.length)) = row') {b : Nat} (hb : (φ r).blk = some b) (hmp : (φ r).mp = false) :
    ∃ w', (storeCells ⟨b, i * (φ r).sz + j, none⟩ vs).run c.P w = .ok () w' ∧ HeapOK c φ (setO st.hp r (some ⟨o.elem, o.es.set i row'⟩)) w' ∧
      (∀ av x, RelF c.P w (Mut c.A φ st.hp) st.hp.length φ av x → RelF c.P w' (Mut c.A φ (setO st.hp r (some ⟨o.elem, o.es.set i row'⟩))) (setO st.hp r (some ⟨o.elem, o.es.set i row'⟩)).length φ av x) := by
  obtain ⟨b', cs, hb', h2, h3, h4, h5, h6, h7, h8, h9⟩ := live_cells hc ho hrow hmp
  rw [hb] at hb'; cases hb'
  have hO := hc.hok.obj r o ho
  have hi : i < o.es.length := (List.getElem?_eq_some_iff.1 hrow).1
  have hcap := hO.room
  have hbound : i * row.length + row.length ≤ cs.size := by
    rw [h6]
    have : (i + 1) * row.length ≤ (φ r).cap * row.length := Nat.mul_le_mul_right _ (by omega)
    rw [Nat.add_mul, Nat.one_mul] at this
    exact this
  have hst := run_storeCells_at c.P b (i * row.length + j) o.elem vs 0 cs w h4 (by omega) h1
  simp only [Nat.add_zero] at hst
  rw [h3]
  have hrl' : row'.length = row.length := by rw [← hrow']; simp; omega
  have hφ : (fun x => if x = r then φ r else φ x) = φ := by funext x; split; subst_vars; rfl; rfl
  have hu := own_update (L := φ r) (o' := ⟨o.elem, o.es.set i row'⟩) (w' := w.setRow b (cs.toList.take (i * row.length + j) ++ vs ++ cs.toList.drop (i * row.length + j + vs.length)).toArray) hc.hok ho rfl rfl rfl (by simp)
    (fun b' hlt hne => setRow_other w b b' _ (fun e => hne (by rw [hb, e]))) (.inl rfl) (.inl (.refl _)) (fun htr => by
      simp only [hφ] at htr ⊢
      refine ⟨by rw [hO.len]; simp, hO.sz, ?_, by simpa using hO.room, hO.cap, (fun h => by rw [hb] at h; cases h), (by simpa using hO.subl), hO.subn, fun b' hb' => ?_⟩
      · intro x hx
        rcases List.mem_or_eq_of_mem_set hx with hx | rfl
        · exact hO.rows x hx
        · rw [hrl', h5]
      · rw [hb] at hb'; cases hb'
        obtain ⟨cs2, g1, g2, T, t1, t2, g3⟩ := hO.some b hb
        have g1 := g1.cells hmp
        rw [h4] at g1; cases g1
        refine ⟨_, (by rw [hmp]; exact setRow_heap w b cs _ o.elem _ h4), ?_, fun i' j' x => T i' j' x ∧ ¬ (i' = i ∧ j ≤ j' ∧ j' < j + l.length), fun i' j' x hx => t1 i' j' x hx.1, fun i1 j1 i2 j2 x hx hy => t2 i1 j1 i2 j2 x hx.1 hy.1, fun i' j' hi' hj' => ?_⟩
        · simp; rw [← h5]; rw [h6] at hbound ⊢; omega
        · simp only [List.length_set] at hi'
          rw [← h5] at hj' ⊢
          have hii : i' * row.length + j' < cs.size := by rw [h6]; exact ix_lt (by omega) hj'
          have gold := fun hj => (g3 i' j' hi' hj).tr (fun x hx => setRow_other w b x (cs.toList.take (i * row.length + j) ++ vs ++ cs.toList.drop (i * row.length + j + vs.length)).toArray (fun e => hO.subn b hb (by rw [← e]; exact t1 i' j' x hx))) htr
          rw [← h5] at gold
          have gold := gold hj'
          have keep : ¬ (i' = i ∧ j ≤ j' ∧ j' < j + l.length) → ∀ av x, TRel c.P (w.setRow b (cs.toList.take (i * row.length + j) ++ vs ++ cs.toList.drop (i * row.length + j + vs.length)).toArray) (Mut c.A φ (setO st.hp r (some ⟨o.elem, o.es.set i row'⟩))) st.hp.length φ (T i' j') av x →
              TRel c.P (w.setRow b (cs.toList.take (i * row.length + j) ++ vs ++ cs.toList.drop (i * row.length + j + vs.length)).toArray) (Mut c.A φ (setO st.hp r (some ⟨o.elem, o.es.set i row'⟩))) st.hp.length φ (fun x => T i' j' x ∧ ¬ (i' = i ∧ j ≤ j' ∧ j' < j + l.length)) av x := fun hk av x hx => hx.sub fun y hy => ⟨hy, hk⟩
          by_cases hii' : i' = i
          · subst hii'
            have ec : cellAt (o.es.set i' row') i' j' = (row.take j ++ (l ++ row.drop (j + l.length))).getD j' .any := by rw [hrow']; simp [cellAt, hi]
            have er : cellAt o.es i' j' = row.getD j' .any := by simp [cellAt, List.getD_eq_getElem?_getD, hrow]
            rw [er] at gold
            rw [ec]
            rw [splice_getD row l j j' .any hlen, splice_getDA cs vs _ _ (by omega)]
            by_cases hj1 : j' < j
            · rw [if_pos hj1, if_pos (by omega)]; exact keep (by omega) _ _ gold
            · by_cases hj2 : j' < j + l.length
              · rw [if_neg hj1, if_pos hj2, if_neg (show ¬ i' * row.length + j' < i' * row.length + j by omega), if_pos (by omega), show i' * row.length + j' - (i' * row.length + j) = j' - j by omega]
                exact .leaf (htr _ _ (hvs _ (by omega)))
              · rw [if_neg hj1, if_neg hj2, if_neg (show ¬ i' * row.length + j' < i' * row.length + j by omega), if_neg (by omega)]; exact keep (by omega) _ _ gold
          · have ec : cellAt (o.es.set i row') i' j' = cellAt o.es i' j' := by simp [cellAt, List.getD_eq_getElem?_getD, List.getElem?_set_ne (Ne.symm hii')]
            rw [ec, splice_getDA cs vs _ _ (by omega)]
            rcases Nat.lt_or_ge i' i with hlt | hge
            · have : i' * row.length + j' < i * row.length := ix_lt hlt hj'
              rw [if_pos (by omega)]; exact keep (by omega) _ _ gold
            · have : (i + 1) * row.length ≤ i' * row.length := Nat.mul_le_mul_right _ (by omega)
              rw [Nat.add_mul, Nat.one_mul] at this
              rw [if_neg (by omega), if_neg (by omega)]; exact keep (by omega) _ _ gold)
  simp only [hφ] at hu
  exact ⟨_, hst, hu.1, hu.2⟩
end ops
end Go.Vx

namespace Go.Vx
open Go Go.RowKit

section ops
variable {c : Ctx} {ops : Array Oper} {st : St} {dst : Option Tmp} {ty : TypeId} {pos : String} {after : Array Edge}

theorem WVal.skip {o : Oper} {v : AV} {hp' : List (Option Own)} (hg : o.guard = none)
    (h : ∀ φ a w, Conc c φ st a w → ∃ w' φ', (execOp a.eval o).run c.P w = .ok .skip w' ∧ HeapOK c φ' hp' w' ∧
      (∀ av x, RelF c.P w (Mut c.A φ st.hp) st.hp.length φ av x → RelF c.P w' (Mut c.A φ' hp') hp'.length φ' av x) ∧ RelF c.P w' (Mut c.A φ' hp') hp'.length φ' v undef) : WVal c ops st o v hp' := by
  intro φ a w hc
  refine ⟨wanted_none hg, ?_⟩
  obtain ⟨w', φ', h1, h2, h3, h4⟩ := h φ a w hc
  unfold Oper.wp
  rw [h1]
  exact ⟨undef, φ', rfl, h2, h3, h4⟩

def CellsOf (P : Program) (t : Nat) (v : AV) (l : List AV) : Prop := (v = .agg l ∧ tAgg P t l.length = true) ∨ (l = [v] ∧ tScal P t = true)

theorem cells_agg {P : Program} {t n : Nat} {l : List AV} (h : tAgg P t n = true) (hl : l.length = n) : CellsOf P t (.agg l) l := .inl ⟨rfl, by rw [hl]; exact h⟩
theorem cells_scal {P : Program} {t : Nat} {v : AV} (h : tScal P t = true) : CellsOf P t v [v] := .inr ⟨rfl, h⟩

theorem w_store {x y : Operand} {t r n i j : Nat} {o : Own} {v : AV} {row l row' : List AV} (h : Opv c st x (.ptr r n i j)) (hy : Opv c st y v) (ht : CellsOf c.P t v l)
    (ho : nth st.hp r = some o) (hn : o.es.length = n) (hrow : o.es[i]? = some row) (hlen : j + l.length ≤ row.length) (h1 : ∀ u ∈ l, Cell1 c st u)
    (hrow' : row.take j ++ (l ++ row.drop (j + l.length)) = row') :
    WVal c ops st ⟨none, .store t x y, ty, pos, after, none⟩ .any (setO st.hp r (some ⟨o.elem, o.es.set i row'⟩)) := by
  refine .skip rfl fun φ a w hc => ?_
  have hO := hc.hok.obj r o ho
  obtain ⟨b, hb, hx⟩ := relF_ptr (h φ a w hc) (by rw [hO.len, hn])
  have hyv := hy φ a w hc
  -- the value's cells
  have key : ∃ vs : List Value, (a.eval y).cells = vs.toArray ∧ vs.length = l.length ∧ (∀ k, k < l.length → RelF c.P w (Mut c.A φ st.hp) st.hp.length φ (l.getD k .any) (vs.getD k undef)) ∧
      (∀ u ∈ vs, u.oneCell' = true) ∧ (sizeOf t).run c.P w = .ok l.length w := by
    rcases ht with ⟨rfl, ht⟩ | ⟨rfl, ht⟩
    · obtain ⟨vs, hv, hvl, h2⟩ := relF_agg hyv
      obtain ⟨inf, d, hi, hs, _, _, _, _⟩ := tAgg.spec ht
      refine ⟨vs.toList, by rw [hv]; rfl, by simp [hvl], fun k hk => ?_, ?_, ?_⟩
      · have := h2 k hk
        simpa [Array.getD_eq_getD_getElem?, List.getD_eq_getElem?_getD] using this
      · intro u hu
        obtain ⟨k, hk, rfl⟩ := List.getElem_of_mem hu
        simp at hk
        have := h2 k (by omega)
        have hm : l.getD k .any ∈ l := by simp [List.getD_eq_getElem?_getD, show k < l.length by omega]
        have := h1 _ hm φ a w hc _ this
        simpa [hk] using this
      · simp [sizeOf, typeInfo, hi, hs]
    · obtain ⟨inf, d, hi, hs, _, _, _⟩ := tScal.spec ht
      have h2 := h1 v (by simp) φ a w hc _ hyv
      refine ⟨[a.eval y], by rw [cells_one h2], by simp, fun k hk => ?_, by simpa using h2, by simp [sizeOf, typeInfo, hi, hs]⟩
      simp at hk
      subst hk
      simpa using hyv
  obtain ⟨vs, hvc, hvl, hvs, hv1, hsz⟩ := key
  obtain ⟨w', hst, hh, hf⟩ := store_core hc ho hn hrow hlen hvl hvs hv1 hrow' hb (relF_ptr_mp (h φ a w hc) (by rw [hO.len, hn]))
  refine ⟨w', φ, ?_, hh, hf, relF_data (.any _)⟩
  have e : (Instr.storeAt t (a.eval x) (a.eval y)).run c.P w = .ok () w' := by
    rw [hx]
    simp [Instr.storeAt, Instr.sureAddr, storeVar, hsz, hvc, hvl, hst]
  show ((do Instr.storeAt t (a.eval x) (a.eval y); pure Next.skip : Sem Next)).run c.P w = _
  rw [Sem.run_bind, e]
  rfl

theorem nsCell {l : List (List AV)} (h : ∀ row ∈ l, NS row) (i j : Nat) : noSub (cellAt l i j) = true := by
  unfold cellAt
  by_cases hi : i < l.length
  · have : l.getD i [] = l[i] := by simp [List.getD_eq_getElem?_getD, hi]
    rw [this]; exact (h _ (List.getElem_mem _)).getD' j
  · have : l.getD i [] = [] := by rw [List.getD_eq_getElem?_getD, List.getElem?_eq_none (by omega)]; rfl
    rw [this]; rfl


def SlV (c : Ctx) (st : St) (y : Operand) (sz : Nat) (ys : List (List AV)) : Prop := ∀ φ a w, Conc c φ st a w → ∃ base cap, a.eval y = .slice base ys.length cap ∧ ys.length < 2 ^ 63 ∧ (∀ row ∈ ys, row.length = sz) ∧
  (ys ≠ [] → ∃ (b off : Nat) (us : Nat → Nat → Value), base = some ⟨b, off, none⟩ ∧ (∀ i j, i < ys.length → j < sz → w.cell? ⟨b, off + (i * sz + j), none⟩ = some (us i j)) ∧
    (∀ i j, i < ys.length → j < sz → RelF c.P w (Mut c.A φ st.hp) st.hp.length φ (cellAt ys i j) (us i j)))

theorem slv_sl {y : Operand} {e sz : Nat} {ys : List (List AV)} (h : Opv c st y (.sl e ys)) (hsz : c.P.cellsOf e = sz) : SlV c st y sz ys := by
  intro φ a w hc
  have hr := relF_sl (h φ a w hc)
  generalize hx : a.eval y = ay at hr
  subst hsz
  cases hr with
  | sl0 _ ad cp => exact ⟨ad, cp, rfl, by simp, by simp, fun h => absurd rfl h⟩
  | sl _ _ b off cp us h0 h1 h2 h2' h3 h4 h5 => exact ⟨_, cp, rfl, h2, h3, fun _ => ⟨b, off, us, rfl, h4, fun i j hi hj => relF_data (h5 i j hi hj)⟩⟩

theorem v_len {y : Operand} {t e sz by_ : Nat} {ys : List (List AV)} {z : Int} (h : SlV c st y sz ys) (ht : tSl c.P t e sz by_ = true) (hz : (ys.length : Int) = z) :
    SVal c ops st ⟨dst, .call { callee := .builtin .len, args := #[y], argTypes := #[t] }, ty, pos, after, none⟩ (.int .i64 z) :=
  .pure rfl fun φ a w hc => by
    obtain ⟨base, cap, hx, _⟩ := h φ a w hc
    obtain ⟨hu, _⟩ := tSl.spec ht
    refine ⟨.int .i64 z, ?_, relF_data (.int _ _)⟩
    simp [execOp, resolve, invoke, builtin, hx, Builtin.len_, run_underlying hu, goInt, hz]

def tStr (P : Program) (t : Nat) : Bool := match P.underlying t with | some .string => true | _ => false
theorem tStr.spec {P : Program} {t : Nat} (h : tStr P t = true) : P.underlying t = some .string := by
  unfold tStr at h; split at h; assumption; cases h

theorem v_lenStr {y : Operand} {t : Nat} {s : List UInt8} {z : Int} (h : Opv c st y (.str s)) (ht : tStr c.P t = true) (hz : (s.length : Int) = z) :
    SVal c ops st ⟨dst, .call { callee := .builtin .len, args := #[y], argTypes := #[t] }, ty, pos, after, none⟩ (.int .i64 z) :=
  .pure rfl fun φ a w hc => by
    have hu := tStr.spec ht
    refine ⟨.int .i64 z, ?_, relF_data (.int _ _)⟩
    have : (ByteArray.mk s.toArray).size = s.length := by simp [ByteArray.size]
    simp [execOp, resolve, invoke, builtin, h.str hc, Builtin.len_, run_underlying hu, goInt, this, hz]

def tInt (P : Program) (t : Nat) (k : IntKind) : Bool := match P.underlying t with | some (.int k') => decide (k' = k) | _ => false
theorem tInt.spec {P : Program} {t : Nat} {k : IntKind} (h : tInt P t k = true) : P.underlying t = some (.int k) := by
  unfold tInt at h
  split at h
  · rename_i k' hu; simp at h; rw [hu, h]
  · cases h

theorem news_of {φ : Phi} {a : Act} {w : World} {sz : Nat} {ys : List (List AV)} (_hc : Conc c φ st a w) {b off : Nat} {us : Nat → Nat → Value}
    (h1 : ∀ i j, i < ys.length → j < sz → w.cell? ⟨b, off + (i * sz + j), none⟩ = some (us i j)) (hsz : 0 < sz) :
    ∃ news : List Value, news.length = ys.length * sz ∧ (∀ j u, news[j]? = some u → w.cell? ((⟨b, off, none⟩ : Addr).add j) = some u) ∧ (∀ i j, i < ys.length → j < sz → news.getD (i * sz + j) undef = us i j) := by
  refine ⟨(List.range (ys.length * sz)).map fun k => us (k / sz) (k % sz), by simp, fun k u hk => ?_, fun i j hi hj => ?_⟩
  · have hlt : k < ys.length * sz := by
      have := (List.getElem?_eq_some_iff.1 hk).1
      simpa using this
    have hu : us (k / sz) (k % sz) = u := by simpa [hlt] using hk
    rw [addr_add, ← hu, ← h1 (k / sz) (k % sz) (Nat.div_lt_of_lt_mul (by rw [Nat.mul_comm]; exact hlt)) (Nat.mod_lt _ hsz)]
    have : k / sz * sz + k % sz = k := by rw [Nat.mul_comm]; exact Nat.div_add_mod k sz
    rw [this]
  · have hlt : i * sz + j < ys.length * sz := ix_lt hi hj
    have h1 : (i * sz + j) / sz = i := by rw [Nat.mul_comm, Nat.mul_add_div hsz, Nat.div_eq_of_lt hj]; omega
    have h2 : (i * sz + j) % sz = j := by rw [Nat.mul_comm, Nat.mul_add_mod, Nat.mod_eq_of_lt hj]
    simp [List.getD_eq_getElem?_getD, hlt, h1, h2]

theorem cellAt_append_left {xs ys : List (List AV)} {i j : Nat} (h : i < xs.length) : cellAt (xs ++ ys) i j = cellAt xs i j := by simp [cellAt, List.getD_eq_getElem?_getD, List.getElem?_append_left h]
theorem cellAt_append_right {xs ys : List (List AV)} {i j : Nat} (h : xs.length ≤ i) : cellAt (xs ++ ys) i j = cellAt ys (i - xs.length) j := by simp [cellAt, List.getD_eq_getElem?_getD, List.getElem?_append_right h]

theorem app_getD (olds news : List Value) (Z : Array Value) (k : Nat) : (olds.toArray ++ news.toArray ++ Z).getD k undef =
    if k < olds.length then olds.getD k undef else if k < olds.length + news.length then news.getD (k - olds.length) undef else Z.getD (k - olds.length - news.length) undef := by
  simp only [Array.getD_eq_getD_getElem?, Array.getElem?_append, Array.size_append, List.size_toArray, List.getElem?_toArray, List.getD_eq_getElem?_getD]
  by_cases h1 : k < olds.length
  · rw [if_pos (by omega), if_pos h1, if_pos h1]
  · by_cases h2 : k < olds.length + news.length
    · rw [if_pos h2, if_neg h1, if_neg h1, if_pos h2]
    · rw [if_neg h2, if_neg h1, if_neg h2]
      congr 2
      omega

theorem w_append {x y : Operand} {t e sz by_ r n m : Nat} {o : Own} {ys : List (List AV)} (h : Opv c st x (.own r n)) (hy : SlV c st y sz ys) (ht : tSl c.P t e sz by_ = true)
    (ho : nth st.hp r = some o) (hn : o.es.length = n) (he : o.elem = e) (hm : ys.length = m) (hpos : 0 < m) (h1 : ∀ row ∈ ys, ∀ u ∈ row, Cell1 c st u) (hb : (n + m) * by_ ≤ 140737488355328) (h63 : n + m < 2 ^ 63) :
    WVal c ops st ⟨dst, .call { callee := .builtin .append, args := #[x, y], argTypes := #[t, t] }, ty, pos, after, none⟩ (.own r (n + m)) (setO st.hp r (some ⟨e, o.es ++ ys⟩)) := by
  subst he
  refine .run rfl fun φ a w hc => ?_
  obtain ⟨hu, inf, z, hi, hs, hby, hn0, hz, hzs, hcs⟩ := tSl.spec ht
  have hO := hc.hok.obj r o ho
  have hx := relF_own (h φ a w hc) (by rw [hO.len, hn])
  obtain ⟨base, cap, hyv, _, hyr, hyc⟩ := hy φ a w hc
  have hyne : ys ≠ [] := fun e => by rw [e] at hm; simp at hm; omega
  obtain ⟨b, off, us, rfl, hc1, hc2⟩ := hyc hyne
  obtain ⟨news, hnl, hn1, hn2⟩ := news_of hc hc1 hn0
  rw [hm] at hnl hyv
  have hone : ∀ u ∈ news, u.oneCell' = true := by
    intro u hu'
    obtain ⟨k, hk, rfl⟩ := List.getElem_of_mem hu'
    have hk' : k < ys.length * sz := by rw [hm]; omega
    have hdi : k / sz < ys.length := Nat.div_lt_of_lt_mul (by rw [Nat.mul_comm]; exact hk')
    have hmo : k % sz < sz := Nat.mod_lt _ hn0
    have e1 : k / sz * sz + k % sz = k := by rw [Nat.mul_comm]; exact Nat.div_add_mod k sz
    have e2 := hn2 (k / sz) (k % sz) hdi hmo
    rw [e1] at e2
    have e3 : news[k] = us (k / sz) (k % sz) := by rw [← e2]; simp [List.getD_eq_getElem?_getD, hk]
    rw [e3]
    have hrow : ys[k / sz] ∈ ys := List.getElem_mem hdi
    refine h1 _ hrow (cellAt ys (k / sz) (k % sz)) ?_ φ a w hc _ (hc2 _ _ hdi hmo)
    have hl := hyr _ hrow
    have : cellAt ys (k / sz) (k % sz) = ys[k / sz][k % sz]'(by omega) := by simp [cellAt, List.getD_eq_getElem?_getD, hdi, hl, hmo]
    rw [this]
    exact List.getElem_mem _
  have hmp := relF_own_mp (h φ a w hc) (by rw [hO.len, hn])
  have h2n : (o.es ++ ys).length = n + m := by simp [hn, hm]
  have hrl : r < st.hp.length := nth_lt ho
  -- whatever has come of it
  have fin : ∀ (w' : World) (L : Loc) (g : Nat) (cs : Array Value), w'.os = w.os → w'.tape = w.tape → w'.output = w.output → w.heap.size ≤ w'.heap.size →
      (∀ b, b < w.heap.size → (φ r).blk ≠ some b → w'.heap[b]? = w.heap[b]?) → (L.blk = (φ r).blk ∨ w.heap.size ≤ g) → L.blk = some g → L.n = n + m → L.sz = sz → L.cap < 2 ^ 63 → n + m ≤ L.cap → L.mp = false → L.sub = (φ r).sub →
      w'.heap[g]? = some (.cells cs o.elem (0, 0)) → cs.size = L.cap * sz → (∀ i j, i < n → j < sz → ∃ b csO, (φ r).blk = some b ∧ w.heap[b]? = some (.cells csO o.elem (0, 0)) ∧ cs.getD (i * sz + j) undef = csO.getD (i * sz + j) undef) →
      (∀ i j, i < m → j < sz → cs.getD ((n + i) * sz + j) undef = us i j) →
      ∃ φ', HeapOK c φ' (setO st.hp r (some ⟨o.elem, o.es ++ ys⟩)) w' ∧
      (∀ av x, RelF c.P w (Mut c.A φ st.hp) st.hp.length φ av x → RelF c.P w' (Mut c.A φ' (setO st.hp r (some ⟨o.elem, o.es ++ ys⟩))) (setO st.hp r (some ⟨o.elem, o.es ++ ys⟩)).length φ' av x) ∧
      RelF c.P w' (Mut c.A φ' (setO st.hp r (some ⟨o.elem, o.es ++ ys⟩))) (setO st.hp r (some ⟨o.elem, o.es ++ ys⟩)).length φ' (.own r (n + m)) (.slice (some ⟨g, 0, none⟩) (n + m) L.cap) := by
    intro w' L g cs hos htp hou hsz hblk hLb hLg hLn hLs hLc hLr hLm hLu hg hcsz hold hnew
    have hgs : ¬ (φ r).sub g := fun hs => by
      rcases hLb with h | h
      · exact hO.subn g (by rw [← h]; exact hLg) hs
      · have := hO.subl g hs; omega
    have hupd := own_update (L := L) (o' := ⟨o.elem, o.es ++ ys⟩) (w' := w') hc.hok ho hos htp hou hsz hblk (by
        rcases hLb with h | h
        · exact .inl h
        · exact .inr fun b hb => by rw [hLg] at hb; cases hb; exact h) (.inr (by rw [hO.len, hn, hLn]; omega)) (fun htr => by
      refine ⟨by simp only [if_true, hLn, h2n], by simp [hLs, hcs], ?_, by simp [hn, hm]; exact hLr, by simpa using hLc, (fun h => by simp [hLg] at h), (by simp only [if_true, hLu]; exact fun b hb => Nat.lt_of_lt_of_le (hO.subl b hb) hsz), (by simp only [if_true, hLu, hLg]; rintro b hb; cases hb; exact hgs), fun b' hb' => ?_⟩
      · intro row hrow
        rcases List.mem_append.1 hrow with hrow | hrow
        · exact hO.rows row hrow
        · rw [hcs]; exact hyr row hrow
      · simp only [if_true, hLg] at hb'
        cases hb'
        have hT : ∃ T : Nat → Nat → Nat → Prop, (∀ i j b, T i j b → (φ r).sub b) ∧ (∀ i j i' j' b, T i j b → T i' j' b → i = i' ∧ j = j') ∧ ∀ i j, i < n → j < sz → ∀ b0 csO, (φ r).blk = some b0 → w.heap[b0]? = some (.cells csO o.elem (0, 0)) →
            TRel c.P w (Mut c.A φ st.hp) st.hp.length φ (T i j) (cellAt o.es i j) (csO.getD (i * sz + j) undef) := by
          cases hbk : (φ r).blk with
          | none => exact ⟨fun _ _ _ => False, fun _ _ _ h => h.elim, fun _ _ _ _ _ h => h.elim, fun i j _ _ b0 csO h => by cases h⟩
          | some b0 =>
            obtain ⟨cs2, g1, g2, T, t1, t2, g3⟩ := hO.some b0 hbk
            refine ⟨T, t1, t2, fun i j hi hj b1 csO hb1 hgO => ?_⟩
            cases hb1
            have g1 := g1.cells hmp
            rw [hgO] at g1; cases g1
            have := g3 i j (by rw [hn]; exact hi) (by rw [hcs]; exact hj)
            rwa [hcs] at this
        obtain ⟨T, t1, t2, g3⟩ := hT
        refine ⟨cs, (by simp only [if_true, hLm]; exact hg), by simp [hcsz, hcs], fun i j x => T i j x ∧ i < n, (fun i j x hx => by simp only [if_true, hLu]; exact t1 i j x hx.1), (fun i1 j1 i2 j2 x hx hy => t2 i1 j1 i2 j2 x hx.1 hy.1), fun i j hi' hj' => ?_⟩
        simp only [hcs] at hj' ⊢
        by_cases hin : i < n
        · obtain ⟨b0, csO, hb0, hgO, hvO⟩ := hold i j hin hj'
          rw [hvO, cellAt_append_left (by rw [hn]; exact hin)]
          exact ((g3 i j hin hj' b0 csO hb0 hgO).tr (fun x hx => hblk x (hO.subl x (t1 i j x hx)) (fun e => hO.subn x e (t1 i j x hx))) htr).sub fun x hx => ⟨hx, hin⟩
        · rw [cellAt_append_right (by rw [hn]; omega), hn]
          have hlt : i - n < m := by simp [hn, hm] at hi'; omega
          have e := hnew (i - n) j hlt hj'
          rw [show n + (i - n) = i by omega] at e
          rw [e]
          exact .leaf (htr _ _ (hc2 (i - n) j (by rw [hm]; exact hlt) hj'))) (by exact hLu)
    refine ⟨_, hupd.1, hupd.2, fun φ' hφ => ?_⟩
    have e : φ' r = L := by
      have := hφ r (by rw [setO_length]; exact hrl)
      simpa using this
    exact .own r (n + m) _ rfl (by rw [e, hLn]; exact Nat.le_refl _) fun _ => by rw [e, hLg]; exact ⟨hLm, rfl⟩
  have hml : n + m ≤ maxLen := by simp only [maxLen]; omega
  cases hbk : (φ r).blk with
  | none =>
    obtain ⟨hes, hcap⟩ := hO.none hbk
    have hn' : n = 0 := by rw [← hn, hes]; rfl
    subst hn'
    rw [hbk, hcap] at hx
    have hr := run_append_nil (P := c.P) w t ty o.elem inf z hu hi hz ⟨b, off, none⟩ m cap news (by rw [hnl, hs]) hn1 hpos (by omega) (by rw [hby]; simp at hb; omega)
    obtain ⟨φ', g1, g2, g3⟩ := fin (w.drew.alloc (.cells (news.toArray ++ Builtin.zeroCells z.cells (grownCap w m 0 o.elem - m)) o.elem)) ⟨some w.heap.size, grownCap w m 0 o.elem, 0 + m, sz, false, (φ r).sub⟩ w.heap.size (news.toArray ++ Builtin.zeroCells z.cells (grownCap w m 0 o.elem - m)) rfl rfl rfl (by simp) (fun b' hlt _ => heap_alloc_old w.drew _ b' hlt) (.inr (Nat.le_refl _)) rfl rfl rfl
      (by have := grownCap_le_maxLen w m 0 o.elem (by simpa using hml); simp only [maxLen] at this; show grownCap w m 0 o.elem < 2 ^ 63; omega) (by simpa using grownCap_ge w m 0 o.elem) rfl rfl
      (heap_alloc_new w.drew _) (by
        have hge := grownCap_ge w m 0 o.elem
        simp only [Array.size_append, List.size_toArray, size_zeroCells, hzs, hnl, ← Nat.add_mul]
        congr 1; omega) (fun i j hi' _ => absurd hi' (by omega)) (fun i j hi' hj' => by
        rw [← hn2 i j (by rw [hm]; exact hi') hj']
        have : i * sz + j < news.length := by rw [hnl]; exact ix_lt hi' hj'
        simp [Array.getD_eq_getD_getElem?, List.getD_eq_getElem?_getD, Array.getElem?_append, this])
    refine ⟨_, _, φ', ?_, g1, g2, g3⟩
    simp [execOp, resolve, invoke, builtin, hx, hyv, hr]
  | some g =>
    obtain ⟨cs, h4, h5, _⟩ := hO.some g hbk
    have h4 := h4.cells hmp
    rw [hcs] at h5
    have hroom := hO.room
    have hcap63 := hO.cap
    rw [hbk] at hx
    simp only [Option.map_some] at hx
    by_cases hfit : n + m ≤ (φ r).cap
    · have hbnd : n * sz + news.length ≤ cs.size := by
        rw [hnl, h5, ← Nat.add_mul]; exact Nat.mul_le_mul_right _ hfit
      have hr := run_append_room (P := c.P) w t ty o.elem inf hu hi g n (φ r).cap cs h4 ⟨b, off, none⟩ m cap news (by rw [hnl, hs]) hn1 hone hfit (by rw [hs]; exact hbnd)
      rw [hs] at hr
      obtain ⟨φ', g1, g2, g3⟩ := fin (w.setRow g (cs.toList.take (n * sz) ++ news ++ cs.toList.drop (n * sz + news.length)).toArray) ⟨some g, (φ r).cap, n + m, sz, false, (φ r).sub⟩ g (cs.toList.take (n * sz) ++ news ++ cs.toList.drop (n * sz + news.length)).toArray rfl rfl rfl (by simp) (fun b' _ hne => setRow_other w g b' _ (fun e => hne (by rw [hbk, e]))) (.inl hbk.symm) rfl rfl rfl hcap63 hfit rfl rfl
        (setRow_heap w g cs _ o.elem _ h4) (by simp; omega) (fun i j hi' hj' => ⟨g, cs, hbk, h4, by
          have : i * sz + j < n * sz := ix_lt hi' hj'
          rw [splice_getDA cs news _ _ hbnd, if_pos this]⟩) (fun i j hi' hj' => by
          rw [← hn2 i j (by rw [hm]; exact hi') hj']
          have h7 : i * sz + j < news.length := by rw [hnl]; exact ix_lt hi' hj'
          rw [splice_getDA cs news _ _ hbnd, Nat.add_mul, if_neg (by omega), if_pos (by omega)]
          congr 1; omega)
      refine ⟨_, _, φ', ?_, g1, g2, g3⟩
      simp [execOp, resolve, invoke, builtin, hx, hyv, hr]
    · obtain ⟨olds, holdl, holds, holdv⟩ : ∃ olds : List Value, olds.length = n * sz ∧ (∀ j u, olds[j]? = some u → w.cell? ((⟨g, 0, none⟩ : Addr).add j) = some u) ∧ (∀ k, k < n * sz → olds.getD k undef = cs.getD k undef) := by
        refine ⟨cs.toList.take (n * sz), ?_, fun j u hu' => ?_, fun k hk => ?_⟩
        · have : n * sz ≤ cs.size := by rw [h5]; exact Nat.mul_le_mul_right _ (by omega)
          simp; omega
        · rw [addr_add, Nat.zero_add, cell_of_cells h4]
          rw [List.getElem?_take] at hu'
          split at hu'
          · simpa using hu'
          · cases hu'
        · rw [List.getD_eq_getElem?_getD, List.getElem?_take, if_pos hk]
          simp [Array.getD_eq_getD_getElem?]
      have hr := run_append_grow (P := c.P) w t ty o.elem inf z hu hi hz ⟨g, 0, none⟩ n (φ r).cap olds (by rw [holdl, hs]) holds ⟨b, off, none⟩ m cap news (by rw [hnl, hs]) hn1 (by omega) (by omega) (growslice_fits (by omega) (by rw [hby]; exact hb))
      obtain ⟨φ', g1, g2, g3⟩ := fin (w.drew.alloc (.cells (olds.toArray ++ news.toArray ++ Builtin.zeroCells z.cells (grownCap w (n + m) (φ r).cap o.elem - (n + m))) o.elem)) ⟨some w.heap.size, grownCap w (n + m) (φ r).cap o.elem, n + m, sz, false, (φ r).sub⟩ w.heap.size (olds.toArray ++ news.toArray ++ Builtin.zeroCells z.cells (grownCap w (n + m) (φ r).cap o.elem - (n + m))) rfl rfl rfl (by simp) (fun b' hlt _ => heap_alloc_old w.drew _ b' hlt) (.inr (Nat.le_refl _)) rfl rfl rfl
        (by have := grownCap_le_maxLen w (n + m) (φ r).cap o.elem hml; simp only [maxLen] at this; show grownCap w (n + m) (φ r).cap o.elem < 2 ^ 63; omega) (grownCap_ge w (n + m) (φ r).cap o.elem) rfl rfl
        (heap_alloc_new w.drew _) (by
          have hge := grownCap_ge w (n + m) (φ r).cap o.elem
          rw [Array.size_append, Array.size_append, List.size_toArray, List.size_toArray, size_zeroCells, hzs, hnl, holdl, ← Nat.add_mul, ← Nat.add_mul, Nat.add_sub_cancel' hge]) (fun i j hi' hj' => ⟨g, cs, hbk, h4, by
          have h8 : i * sz + j < n * sz := ix_lt hi' hj'
          rw [← holdv _ h8]
          rw [app_getD, holdl, if_pos h8]⟩) (fun i j hi' hj' => by
          rw [← hn2 i j (by rw [hm]; exact hi') hj']
          have h7 : i * sz + j < news.length := by rw [hnl]; exact ix_lt hi' hj'
          have h8 : ¬ ((n + i) * sz + j < n * sz) := by rw [Nat.add_mul]; omega
          have h9 : (n + i) * sz + j - n * sz = i * sz + j := by rw [Nat.add_mul]; omega
          rw [app_getD, holdl, if_neg h8, if_pos (by rw [Nat.add_mul]; omega), h9])
      refine ⟨_, _, φ', ?_, g1, g2, g3⟩
      simp [execOp, resolve, invoke, builtin, hx, hyv, hr]
end ops
end Go.Vx

namespace Go.Vx
open Go Go.RowKit


inductive Keep (tm : List (Nat × AV)) : List (Nat × AV) → Prop
  | nil : Keep tm []
  | cons {t : Nat} {v v' : AV} {tl : List (Nat × AV)} : look tm t = some v → v = v' → Keep tm tl → Keep tm ((t, v') :: tl)

theorem Keep.look {tm tl : List (Nat × AV)} (h : Keep tm tl) {t : Nat} {v : AV} (hl : look tl t = some v) : look tm t = some v := by
  induction h with
  | nil => cases hl
  | cons h1 h2 _ ih =>
    simp only [Vx.look] at hl
    split at hl
    · rename_i he
      have he := Nat.eq_of_beq_eq_true he
      subst he
      cases hl
      rw [h1, h2]
    · exact ih hl

theorem kn {tm : List (Nat × AV)} : Keep tm [] := .nil
theorem kc {tm : List (Nat × AV)} (t : Nat) {v : AV} {tl : List (Nat × AV)} (h : look tm t = some v) (k : Keep tm tl) : Keep tm ((t, v) :: tl) := .cons h rfl k
theorem Ent.keep {c : Ctx} {tm tm' : List (Nat × AV)} {hp hp' : List (Option Own)} (h : Keep tm tm') (e : hp = hp') : Ent c ⟨tm, hp⟩ ⟨tm', hp'⟩ := by
  subst e
  exact fun φ a w hc => ⟨φ, hc.size, hc.defers, hc.hok, fun t av ht => hc.tm t av (h.look ht)⟩

theorem T_keep {c : Ctx} {code : Code} {st : St} {tm' : List (Nat × AV)} {hp' : List (Option Own)} {K : Exit → St → Prop} (h : Keep st.tm tm') (e : st.hp = hp') (k : T c code ⟨tm', hp'⟩ K) : T c code st K :=
  T_ent (Ent.keep h e) k

inductive Low (n : Nat) : AV → Prop
  | int (k : IntKind) (z : Int) : Low n (.int k z)
  | bool (b : Bool) : Low n (.bool b)
  | str (s : List UInt8) : Low n (.str s)
  | lit (v : Value) : Low n (.lit v)
  | nils : Low n .nils
  | sl (e : TypeId) (l : List (List AV)) : Low n (.sl e l)
  | rp (l : List AV) (o : Nat) : Low n (.rp l o)
  | own (r m : Nat) : r < n → Low n (.own r m)
  | ptr (r m i j : Nat) : r < n → Low n (.ptr r m i j)
  | osl (r m j k : Nat) : r < n → Low n (.osl r m j k)
  | mref (r m : Nat) : r < n → Low n (.mref r m)
  | agg (l : List AV) : (∀ x ∈ l, Low n x) → Low n (.agg l)
  | tuple (l : List AV) : (∀ x ∈ l, Low n x) → Low n (.tuple l)
  | fn (f : FuncId) (l : List AV) : (∀ x ∈ l, Low n x) → Low n (.fn f l)
  | any : Low n .any

theorem Low.rel {P : Program} {w : World} {M : Nat → Prop} {n : Nat} {φ φ' : Phi} {av : AV} {v : Value} (h : Rel P w M φ av v) (hl : Low n av) (hφ : Agree n φ φ') : Rel P w M φ' av v := by
  induction h with
  | data h => exact .data h
  | own r m v h0 h1 h2 =>
    cases hl with | own _ _ hr => exact .own r m v h0 (by rw [hφ r hr]; exact h1) (by rw [hφ r hr]; exact h2)
  | ptr r m i j v h0 h1 h2 =>
    cases hl with | ptr _ _ _ _ hr => exact .ptr r m i j v h0 (by rw [hφ r hr]; exact h1) (by rw [hφ r hr]; exact h2)
  | osl r m i j v h0 h1 h2 =>
    cases hl with | osl _ _ _ _ hr => exact .osl r m i j v h0 (by rw [hφ r hr]; exact h1) (by rw [hφ r hr]; exact h2)
  | agg l vs h1 h2 ih => cases hl with | agg _ hl => exact .agg l vs h1 fun i hi => ih i hi (hl _ (by simp [List.getD_eq_getElem?_getD, hi]))
  | tuple l vs h1 h2 ih => cases hl with | tuple _ hl => exact .tuple l vs h1 fun i hi => ih i hi (hl _ (by simp [List.getD_eq_getElem?_getD, hi]))
  | fn f l vs h1 h2 ih => cases hl with | fn _ _ hl => exact .fn f l vs h1 fun i hi => ih i hi (hl _ (by simp [List.getD_eq_getElem?_getD, hi]))
  | when b av v h1 h2 ih => cases hl
  | mref r m v h0 h1 h2 =>
    cases hl with | mref _ _ hr => exact .mref r m v h0 (by rw [hφ r hr]; exact h1) (by rw [hφ r hr]; exact h2)

def LowTm (n : Nat) : List (Nat × AV) → Prop
  | [] => True
  | (_, v) :: tl => Low n v ∧ LowTm n tl
theorem LowTm.look {n : Nat} {tm : List (Nat × AV)} (h : LowTm n tm) : ∀ t v, look tm t = some v → Low n v := by
  induction tm with
  | nil => intro t v hl; cases hl
  | cons x tl ih =>
    intro t v hl
    obtain ⟨s, u⟩ := x
    simp only [Vx.look] at hl
    split at hl
    · cases hl; exact h.1
    · exact ih h.2 t v hl
def LowHp (n : Nat) : List (Option Own) → Prop
  | [] => True
  | none :: tl => LowHp n tl
  | some o :: tl => (∀ row ∈ o.es, ∀ x ∈ row, Low n x) ∧ LowHp n tl
theorem LowHp.nth {n : Nat} {hp : List (Option Own)} (h : LowHp n hp) : ∀ r o, nth hp r = some o → ∀ row ∈ o.es, ∀ x ∈ row, Low n x := by
  induction hp with
  | nil => intro r o hr; simp [Vx.nth] at hr
  | cons x tl ih =>
    intro r o hr
    cases r with
    | zero =>
      simp only [Vx.nth] at hr
      subst hr
      exact h.1
    | succ r =>
      simp only [Vx.nth] at hr
      cases x with
      | none => exact ih h r o hr
      | some y => exact ih h.2 r o hr

theorem Ent.row {c : Ctx} {tm : List (Nat × AV)} {hp : List (Option Own)} (t : Nat) (e : TypeId) (hl : look tm t = some .nils) : Ent c ⟨tm, hp⟩ ⟨(t, .own hp.length 0) :: tm, hp ++ [some ⟨e, []⟩]⟩ := by
  intro φ a w hc
  have hlen : (hp ++ [some (⟨e, []⟩ : Own)]).length = hp.length + 1 := by simp
  have hno : ∀ b, ¬ (⟨none, 0, 0, c.P.cellsOf e, false, fun _ => False⟩ : Loc).has b := by rintro b (h | h); cases h; exact h
  have hmut : ∀ b, Mut c.A (fun x => if x = hp.length then ⟨none, 0, 0, c.P.cellsOf e, false, fun _ => False⟩ else φ x) (hp ++ [some ⟨e, []⟩]) b → Mut c.A φ hp b := by
    rintro b (ha | ⟨r, o, hr, hb⟩)
    · exact .inl ha
    · rw [nth_append] at hr
      by_cases h : r = hp.length
      · simp only [if_pos h] at hb; exact (hno b hb).elim
      · rw [if_neg h] at hr; simp only [if_neg h] at hb; exact .inr ⟨r, o, hr, hb⟩
  have htr : ∀ av x, RelF c.P w (Mut c.A φ hp) hp.length φ av x → RelF c.P w (Mut c.A (fun x => if x = hp.length then ⟨none, 0, 0, c.P.cellsOf e, false, fun _ => False⟩ else φ x) (hp ++ [some ⟨e, []⟩])) (hp.length + 1)
      (fun x => if x = hp.length then ⟨none, 0, 0, c.P.cellsOf e, false, fun _ => False⟩ else φ x) av x := by
    intro av x hx ψ hψ
    refine (hx ψ fun s hs => ?_).mono (Nat.le_refl _) (fun _ _ _ => rfl) (fun b _ hm hm' => hm (hmut b hm'))
    rw [hψ s (by omega)]
    show (if s = hp.length then _ else φ s) = φ s
    rw [if_neg (by omega)]
  refine ⟨fun x => if x = hp.length then ⟨none, 0, 0, c.P.cellsOf e, false, fun _ => False⟩ else φ x, hc.size, hc.defers, ⟨hc.hok.os, hc.hok.tape, hc.hok.output, hc.hok.heap, hc.hok.frame, ?_, ?_, ?_, hc.hok.amb, hc.hok.glob, by rw [hlen]; exact Nat.le_succ_of_le hc.hok.len, fun s hs => by
    have hh : c.n0 ≤ hp.length := hc.hok.len
    have : ¬ s = hp.length := by omega
    simp only [if_neg this]
    exact hc.hok.mono s hs⟩, ?_⟩
  · intro r o b hr hb
    rw [nth_append] at hr
    by_cases h : r = hp.length
    · simp only [if_pos h] at hb; exact (hno b hb).elim
    · rw [if_neg h] at hr; simp only [if_neg h] at hb; exact hc.hok.owned r o b hr hb
  · intro r r' o o' b hr hr' hb hb'
    rw [nth_append] at hr hr'
    by_cases h : r = hp.length
    · simp only [if_pos h] at hb; exact (hno b hb).elim
    · by_cases h' : r' = hp.length
      · simp only [if_pos h'] at hb'; exact (hno b hb').elim
      · rw [if_neg h] at hr; simp only [if_neg h] at hb
        rw [if_neg h'] at hr'; simp only [if_neg h'] at hb'
        exact hc.hok.apart r r' o o' b hr hr' hb hb'
  · intro r o hr
    rw [hlen]
    rw [nth_append] at hr
    by_cases h : r = hp.length
    · rw [if_pos h] at hr
      cases hr
      refine ⟨by simp [h], by simp [h], by simp, by simp, by simp [h], by simp [h], by simp [h], by simp [h], fun b hb => by simp [h] at hb⟩
    · rw [if_neg h] at hr
      have hO := hc.hok.obj r o hr
      refine ⟨by simp only [if_neg h]; exact hO.len, by simp only [if_neg h]; exact hO.sz, hO.rows, by simp only [if_neg h]; exact hO.room, by simp only [if_neg h]; exact hO.cap, by simp only [if_neg h]; exact hO.none, by simp only [if_neg h]; exact hO.subl, by simp only [if_neg h]; exact hO.subn, fun b hb => ?_⟩
      simp only [if_neg h] at hb ⊢
      obtain ⟨cs, h3, h4, h5⟩ := hO.some b hb
      exact ⟨cs, h3, h4, h5.tr (fun _ _ => rfl) htr⟩
  · intro s av hs
    rw [hlen]
    simp only [look] at hs
    split at hs
    · rename_i he
      have he := Nat.eq_of_beq_eq_true he
      subst he
      cases hs
      have hv := hc.tm t _ hl φ (fun _ _ => rfl)
      have hv : a.tmps.getD t undef = .slice none 0 0 := by
        generalize a.tmps.getD t undef = x at hv
        cases hv with | data h => cases h; rfl
      intro ψ hψ
      have e1 : ψ hp.length = ⟨none, 0, 0, c.P.cellsOf e, false, fun _ => False⟩ := by
        have := hψ hp.length (by omega)
        simpa using this
      rw [hv]
      exact .own _ 0 _ rfl (by rw [e1]; exact Nat.le_refl _) fun _ => by rw [e1]; exact ⟨rfl, rfl⟩
    · exact htr _ _ (hc.tm s av hs)


def View (c : Ctx) (st : St) (av dv : AV) : Prop := ∀ φ a w, Conc c φ st a w → ∀ v, RelF c.P w (Mut c.A φ st.hp) st.hp.length φ av v → RelD c.P w c.A dv v

def Dat (c : Ctx) (st : St) (av dv : AV) : Prop := ∀ φ a w, Conc c φ st a w → ∀ v, RelF c.P w (Mut c.A φ st.hp) st.hp.length φ av v → RelD c.P w (Mut c.A φ st.hp) dv v

def datB1 : AV → Bool
  | .int _ _ | .bool _ | .str _ | .nils | .sl _ _ | .rp _ _ | .lit _ => true
  | _ => false
def datB : AV → Bool
  | .fn _ l => l.all datB1
  | av => datB1 av
theorem rel_datB1 {P : Program} {w : World} {M : Nat → Prop} {φ : Phi} {av : AV} {v : Value} (h : Rel P w M φ av v) (hb : datB1 av = true) : RelD P w M av v := by
  cases h with
  | data h => exact h
  | _ => cases hb
theorem rel_datB {P : Program} {w : World} {M : Nat → Prop} {φ : Phi} {av : AV} {v : Value} (h : Rel P w M φ av v) (hb : datB av = true) : RelD P w M av v := by
  cases h with
  | data h => exact h
  | fn f l vs h1 h2 => exact .fn f l vs h1 fun i hi => rel_datB1 (h2 i hi) (by
      have : l.getD i .any = l[i] := by simp [List.getD_eq_getElem?_getD, hi]
      rw [this]; exact List.all_eq_true.1 hb _ (List.getElem_mem _))
  | _ => cases hb

theorem noSub_datB {av : AV} (h : datB av = true) : noSub av = true := by cases av <;> first | rfl | cases h
theorem ns_datB {l : List AV} (h : l.all datB = true) : NS l := fun x hx => noSub_datB (List.all_eq_true.1 h x hx)
section view
variable {c : Ctx} {st : St}
theorem Dat.b {av : AV} (h : datB av = true) : Dat c st av av := fun φ a w hc v hv => rel_datB (hv φ (fun _ _ => rfl)) h

theorem Dat.view {av dv : AV} (h : Dat c st av dv) : View c st av dv := fun φ a w hc v hv =>
  (h φ a w hc v hv).mono (Nat.le_refl _) (fun _ _ _ => rfl) (fun _ _ hm ha => hm (.inl ha))

theorem Dat.agg {l l' : List AV} (hl : l.length = l'.length) (h : ∀ i, i < l.length → Dat c st (l.getD i .any) (l'.getD i .any)) : Dat c st (.agg l) (.agg l') := by
  intro φ a w hc v hv
  obtain ⟨vs, rfl, h1, h2⟩ := relF_agg hv
  exact .agg l' vs (by omega) fun i hi => h i (by omega) φ a w hc _ (h2 i (by omega))

theorem View.agg {l l' : List AV} (hl : l.length = l'.length) (h : ∀ i, i < l.length → View c st (l.getD i .any) (l'.getD i .any)) : View c st (.agg l) (.agg l') := by
  intro φ a w hc v hv
  obtain ⟨vs, rfl, h1, h2⟩ := relF_agg hv
  exact .agg l' vs (by omega) fun i hi => h i (by omega) φ a w hc _ (h2 i (by omega))

inductive Pw (R : AV → AV → Prop) : List AV → List AV → Prop
  | nil : Pw R [] []
  | cons {x y : AV} {l m : List AV} : R x y → Pw R l m → Pw R (x :: l) (y :: m)

theorem Pw.len {R : AV → AV → Prop} {l m : List AV} (h : Pw R l m) : l.length = m.length := by induction h with | nil => rfl | cons _ _ ih => simp [ih]
theorem Pw.get {R : AV → AV → Prop} {l m : List AV} (h : Pw R l m) : ∀ i, i < l.length → R (l.getD i .any) (m.getD i .any) := by
  induction h with
  | nil => intro i hi; cases hi
  | cons h1 _ ih =>
    intro i hi
    cases i with
    | zero => simpa using h1
    | succ i => simpa using ih i (by simpa using hi)
theorem Pw.refl {R : AV → AV → Prop} {l : List AV} (h : ∀ x ∈ l, R x x) : Pw R l l := by
  induction l with
  | nil => exact .nil
  | cons x l ih => exact .cons (h x (by simp)) (ih fun y hy => h y (by simp [hy]))

theorem Dat.aggL {l l' : List AV} (h : Pw (Dat c st) l l') : Dat c st (.agg l) (.agg l') := .agg h.len h.get
theorem View.aggL {l l' : List AV} (h : Pw (View c st) l l') : View c st (.agg l) (.agg l') := .agg h.len h.get
theorem Dat.aggB {l : List AV} (h : l.all datB = true) : Dat c st (.agg l) (.agg l) := .aggL (.refl fun x hx => .b (List.all_eq_true.1 h x hx))

theorem View.own {r n : Nat} {o : Own} {es : List (List AV)} (ho : nth st.hp r = some o) (hn : o.es.length = n) (hes : es.length = n) (hrows : ∀ row ∈ es, row.length = c.P.cellsOf o.elem)
    (h : ∀ i j, i < n → j < c.P.cellsOf o.elem → View c st (cellAt o.es i j) (cellAt es i j)) (hns : ∀ row ∈ o.es, NS row) : View c st (.own r n) (.sl o.elem es) := by
  intro φ a w hc v hv
  have hO := hc.hok.obj r o ho
  have hx := relF_own hv (by rw [hO.len, hn])
  rw [hx]
  have h63 : n < 2 ^ 63 := by have := hO.room; have := hO.cap; omega
  cases hb : (φ r).blk with
  | none =>
    have := (hO.none hb).1
    rw [this] at hn
    simp at hn
    subst hn
    have : es = [] := List.eq_nil_of_length_eq_zero hes
    subst this
    exact .sl0 _ _ _
  | some b =>
    obtain ⟨cs, h3, h4, h5⟩ := hO.some b hb
    have h3 := h3.cells (relF_own_mp hv (by rw [hO.len, hn]))
    have hlt : b < w.heap.size := (Array.getElem?_eq_some_iff.1 h3).1
    have hcells : ∀ i j, i < es.length → j < c.P.cellsOf o.elem → w.cell? ⟨b, 0 + (i * c.P.cellsOf o.elem + j), none⟩ = some (cs.getD (i * c.P.cellsOf o.elem + j) undef) := fun i j hi hj => by
      rw [cell_of_cells h3]
      have hroom := hO.room
      have : i * c.P.cellsOf o.elem + j < cs.size := by rw [h4]; exact ix_lt (by omega) hj
      simp [this]
    have := RelD.sl (P := c.P) (w := w) (M := c.A) o.elem es b 0 (φ r).cap (fun i j => cs.getD (i * c.P.cellsOf o.elem + j) undef) hlt (hc.hok.owned r o b ho (.inl hb)).2 (by omega) (by have := hO.room; omega) hrows hcells
      (fun i j hi hj => h i j (by omega) hj φ a w hc _ (h5.plain (by omega) hj (nsCell hns i j)))
    rw [hes] at this
    exact this

theorem View.ownB {r n : Nat} {o : Own} (ho : nth st.hp r = some o) (hn : o.es.length = n) (h : ∀ row ∈ o.es, row.length = c.P.cellsOf o.elem ∧ row.all datB = true) : View c st (.own r n) (.sl o.elem o.es) := by
  refine .own ho hn hn (fun row hr => (h row hr).1) (fun i j hi hj => ?_) (fun row hr => ns_datB (h row hr).2)
  have hi' : i < o.es.length := by omega
  have hrow := h _ (List.getElem_mem hi')
  have : cellAt o.es i j = o.es[i][j]'(by omega) := by simp [cellAt, List.getD_eq_getElem?_getD, hi', hrow.1, hj]
  rw [this]
  exact (Dat.b (List.all_eq_true.1 hrow.2 _ (List.getElem_mem _))).view
end view


theorem glob_now {c : Ctx} {φ : Phi} {st : St} {a : Act} {w : World} (hc : Conc c φ st a w) : GlOK c.gl w (Mut c.A φ st.hp) [] := by
  have hg := hc.hok.glob
  refine ⟨Nat.le_trans hg.len hc.hok.heap, (fun b hb => by cases hb), fun p hp => ?_⟩
  obtain ⟨h1, ⟨e, fr, h2⟩, h3⟩ := hg.tab p hp
  have hlt := (Array.getElem?_eq_some_iff.1 h2).1
  have hW : p.1 ∉ c.W := fun hw => by have := hg.W p.1 hw; omega
  refine ⟨h1, ⟨e, fr, (hc.hok.frame p.1 hlt hW).trans h2⟩, ?_⟩
  rintro (ha | ⟨r, o, hr, hb⟩)
  · exact h3 ha
  · rcases (hc.hok.owned r o p.1 hr hb).1 with hw | hw
    · exact hW hw
    · omega

def Spec (P : Program) (gl : Gl) (f : FuncId) (args : List AV) (res : AV) : Prop := ∀ (A : Nat → Prop) (w : World) (vals : Array Value), (∀ b, A b → b < w.heap.size) → GlOK gl w A [] → vals.size = args.length →
  (∀ i, i < args.length → RelD P w A (args.getD i .any) (vals.getD i undef)) → Calls P f vals w fun e w' => ∃ v, e = .returned v ∧ Below w.heap.size w w' ∧ RelD P w' A res v

inductive RetV (c : Ctx) (st : St) : ResultVar → AV → Prop
  | tmp {t : Nat} {av dv : AV} : look st.tm t = some av → View c st av dv → RetV c st (.tmp t) dv
  | agg {t ty r n i j sz : Nat} {o : Own} {row l l' : List AV} : look st.tm t = some (.ptr r n i j) → nth st.hp r = some o → o.es.length = n → o.es[i]? = some row → tAgg c.P ty sz = true → (row.drop j).take sz = l → l.length = sz →
      Pw (View c st) l l' → (hns : NS l := by first | exact nsR rfl | exact nsM (fun _ => rfl)) → RetV c st (.cell t ty) (.agg l')
  | scal {t ty r n i j : Nat} {o : Own} {row : List AV} {v v' : AV} : look st.tm t = some (.ptr r n i j) → nth st.hp r = some o → o.es.length = n → o.es[i]? = some row → tScal c.P ty = true → row[j]? = some v →
      View c st v v' → (hns : noSub v = true := by rfl) → RetV c st (.cell t ty) v'

def rvRun (tmps : Array Value) : ResultVar → Sem Value
  | .tmp t => pure (tmps.getD t undef)
  | .cell t ty => do loadVar ty (← asAddr (tmps.getD t undef))

theorem RetV.sound {c : Ctx} {st : St} {rv : ResultVar} {dv : AV} (h : RetV c st rv dv) {φ : Phi} {a : Act} {w : World} (hc : Conc c φ st a w) :
    ∃ v, (rvRun a.tmps rv).run c.P w = .ok v w ∧ RelD c.P w c.A dv v := by
  unfold rvRun
  cases h with
  | tmp hl hv => exact ⟨_, rfl, hv φ a w hc _ (hc.tm _ _ hl)⟩
  | @agg t ty r n i j sz o row l l' hl ho hn hrow ht hl' hlen hv hns =>
    have hmp := relF_ptr_mp (hc.tm t _ hl) (by rw [(hc.hok.obj r o ho).len, hn])
    have hld := v_loadA (c := c) (ops := #[]) (st := st) (dst := none) (ty := 0) (pos := "") (after := #[]) (x := .tmp t) (ov hl) ho hn hrow ht hl' hlen hns φ a w hc
    obtain ⟨hw, _⟩ := hld
    have hw := hw rfl
    obtain ⟨b, cs, h1, h2, h3, h4, h5, _, _, h6, h7⟩ := live_cells hc ho hrow hmp
    obtain ⟨b', hb', hx⟩ := relF_ptr (hc.tm t _ hl) (by rw [h2, hn])
    unfold Oper.wp at hw
    simp only [execOp, Act.eval, hx, Sem.run_bind] at hw
    simp only [hx]
    have e : (do loadVar ty (← asAddr (.pointer (some ⟨b', i * (φ r).sz + j, none⟩))) : Sem Value).run c.P w = (Instr.loadAt ty (.pointer (some ⟨b', i * (φ r).sz + j, none⟩))).run c.P w := rfl
    rw [e]
    cases hr : (Instr.loadAt ty (.pointer (some ⟨b', i * (φ r).sz + j, none⟩))).run c.P w with
    | halt hh w'' => rw [hr] at hw; cases hh <;> exact hw.elim
    | ok v w'' =>
      rw [hr] at hw
      obtain ⟨u, hu1, hu2, hu3⟩ := hw
      -- the load leaves the world alone
      obtain ⟨inf, d, hi, hs, hu, hd, _, hsz0⟩ := tAgg.spec ht
      have hjl : j + sz ≤ row.length := by rw [← hl'] at hlen; simp at hlen; omega
      have hw2 : (Instr.loadAt ty (.pointer (some ⟨b', i * (φ r).sz + j, none⟩))).run c.P w = .ok (.agg ((cs.toList.drop (i * row.length + j)).take sz).toArray) w := by
        rw [h1] at hb'; cases hb'
        rw [h3]
        refine run_loadAt_agg w b (i * row.length + j) ty sz _ ht ?_ ?_
        · simp
          have := h6 (j + sz - 1) (by omega)
          omega
        · intro k hk
          rw [cell_of_cells h4]
          have := h6 (j + k) (by omega)
          simp [List.getD_eq_getElem?_getD, hk, List.getElem?_drop]
          have e : i * row.length + j + k = i * row.length + (j + k) := by omega
          rw [e, Array.getElem?_eq_getElem (by omega)]
          simp
      rw [hw2] at hr
      cases hr
      refine ⟨_, rfl, ?_⟩
      refine .agg l' _ (by rw [← hv.len, hlen]; simp; have := h6 (j + sz - 1) (by omega); omega) fun k hk => ?_
      have hk' : k < sz := by rw [← hv.len, hlen] at hk; exact hk
      refine hv.get k (by rw [hlen]; exact hk') φ a w hc _ ?_
      have e1 : l.getD k .any = row.getD (j + k) .any := by
        rw [← hl']; simp [List.getD_eq_getElem?_getD, List.getElem?_drop, show k < sz by omega]
      have h8 := h7 (j + k) (by omega) (by rw [← e1]; exact hns.getD' k)
      have e2 : ((cs.toList.drop (i * row.length + j)).take sz).toArray.getD k undef = cs.getD (i * row.length + (j + k)) undef := by
        simp [Array.getD_eq_getD_getElem?, List.getElem?_drop, show k < sz by omega, Nat.add_assoc]
      rw [e1, e2]; exact h8
  | @scal t ty r n i j o row v v' hl ho hn hrow ht hv hvv hns =>
    have hmp := relF_ptr_mp (hc.tm t _ hl) (by rw [(hc.hok.obj r o ho).len, hn])
    obtain ⟨b, cs, h1, h2, h3, h4, h5, _, _, h6, h7⟩ := live_cells hc ho hrow hmp
    obtain ⟨b', hb', hx⟩ := relF_ptr (hc.tm t _ hl) (by rw [h2, hn])
    rw [h1] at hb'; cases hb'
    have hj : j < row.length := (List.getElem?_eq_some_iff.1 hv).1
    have h6' := h6 j hj
    refine ⟨cs.getD (i * row.length + j) undef, ?_, ?_⟩
    · simp only [hx, h3]
      have e : (do loadVar ty (← asAddr (.pointer (some ⟨b, i * row.length + j, none⟩))) : Sem Value).run c.P w = (Instr.loadAt ty (.pointer (some ⟨b, i * row.length + j, none⟩))).run c.P w := rfl
      rw [e, run_loadAt_scal w b (i * row.length + j) ty _ ht]
      rw [cell_of_cells h4, Array.getElem?_eq_getElem h6']; simp [h6']
    · have := h7 j hj (by rw [getD_of_get? hv]; exact hns)
      rw [getD_of_get? hv] at this
      exact hvv φ a w hc _ this
end Go.Vx

/- A text of the proof: a verified executor of the program form, or the contracts of the functions that the law reaches. -/
import Derived.Test.YtecdkapjjhkanaaDoorVxH
set_option linter.all false
namespace Go.Vx
open Go Go.RowKit

/-- The function has a Go body that is entered. -/
def callable (P : Program) (f : FuncId) : Bool := match P.funcs[f]? with
  | some fn => !(fn.name == "runtime.NumGoroutine") && fn.body.isSome
  | none => false

theorem callable.spec {P : Program} {f : FuncId} (h : callable P f = true) : ∃ fn, P.funcs[f]? = some fn ∧ (fn.name == "runtime.NumGoroutine") = false ∧ fn.body.isNone = false := by
  unfold callable at h
  split at h
  · rename_i fn hf
    simp only [Bool.and_eq_true, Bool.not_eq_true'] at h
    exact ⟨fn, hf, h.1, by cases hb : fn.body <;> simp_all⟩
  · cases h

/-- What the result variables give together. -/
inductive Ret (c : Ctx) (st : St) : Array ResultVar → AV → Prop
  | zero : Ret c st #[] (.tuple [])
  | one {r : ResultVar} {d : AV} : RetV c st r d → Ret c st #[r] d
  | two {r1 r2 : ResultVar} {d1 d2 : AV} : RetV c st r1 d1 → RetV c st r2 d2 → Ret c st #[r1, r2] (.tuple [d1, d2])
  | three {r1 r2 r3 : ResultVar} {d1 d2 d3 : AV} : RetV c st r1 d1 → RetV c st r2 d2 → RetV c st r3 d3 → Ret c st #[r1, r2, r3] (.tuple [d1, d2, d3])
  | four {r1 r2 r3 r4 : ResultVar} {d1 d2 d3 d4 : AV} : RetV c st r1 d1 → RetV c st r2 d2 → RetV c st r3 d3 → RetV c st r4 d4 → Ret c st #[r1, r2, r3, r4] (.tuple [d1, d2, d3, d4])

theorem run_results {P : Program} {fn : Func} {tmps : Array Value} {w : World} : (results fn tmps).run P w =
    ((fn.results.mapM (rvRun tmps)).run P w).andThen fun vs w => .ok (if h : vs.size = 1 then vs[0] else .tuple vs) w := by
  unfold results
  rw [Sem.run_bind]
  rfl

theorem relD_tuple2 {P : Program} {w : World} {M : Nat → Prop} {ds : List AV} {vs : List Value} (hl : ds.length = vs.length) (h : ∀ i, i < ds.length → RelD P w M (ds.getD i .any) (vs.getD i undef)) : RelD P w M (.tuple ds) (.tuple vs.toArray) :=
  .tuple ds _ (by simpa using hl) fun i hi => by simpa [Array.getD_eq_getD_getElem?, List.getD_eq_getElem?_getD] using h i hi

theorem Ret.sound {c : Ctx} {st : St} {fn : Func} {res : AV} (h : Ret c st fn.results res) {φ : Phi} {a : Act} {w : World} (hc : Conc c φ st a w) : ∃ v, (results fn a.tmps).run c.P w = .ok v w ∧ RelD c.P w c.A res v := by
  rw [run_results]
  generalize fn.results = rs at h
  cases h with
  | zero => exact ⟨.tuple #[], by simp, .tuple [] #[] rfl (fun i hi => by cases hi)⟩
  | one h1 =>
    obtain ⟨v1, e1, d1⟩ := h1.sound hc
    exact ⟨v1, by simp [e1], d1⟩
  | two h1 h2 =>
    obtain ⟨v1, e1, d1⟩ := h1.sound hc
    obtain ⟨v2, e2, d2⟩ := h2.sound hc
    refine ⟨.tuple #[v1, v2], by simp [e1, e2], relD_tuple2 (vs := [v1, v2]) rfl fun i hi => ?_⟩
    match i, hi with
    | 0, _ => exact d1
    | 1, _ => exact d2
  | three h1 h2 h3 =>
    obtain ⟨v1, e1, d1⟩ := h1.sound hc
    obtain ⟨v2, e2, d2⟩ := h2.sound hc
    obtain ⟨v3, e3, d3⟩ := h3.sound hc
    refine ⟨.tuple #[v1, v2, v3], by simp [e1, e2, e3], relD_tuple2 (vs := [v1, v2, v3]) rfl fun i hi => ?_⟩
    match i, hi with
    | 0, _ => exact d1
    | 1, _ => exact d2
    | 2, _ => exact d3
  | four h1 h2 h3 h4 =>
    obtain ⟨v1, e1, d1⟩ := h1.sound hc
    obtain ⟨v2, e2, d2⟩ := h2.sound hc
    obtain ⟨v3, e3, d3⟩ := h3.sound hc
    obtain ⟨v4, e4, d4⟩ := h4.sound hc
    refine ⟨.tuple #[v1, v2, v3, v4], by simp [e1, e2, e3, e4], relD_tuple2 (vs := [v1, v2, v3, v4]) rfl fun i hi => ?_⟩
    match i, hi with
    | 0, _ => exact d1
    | 1, _ => exact d2
    | 2, _ => exact d3
    | 3, _ => exact d4

/-- A function's end. -/
def retK (c : Ctx) (rs : Array ResultVar) (res : AV) : Exit → St → Prop
  | .ret, st | .normal, st => Ret c st rs res
  | _, _ => False

def enumA : Nat → List AV → List (Nat × AV)
  | _, [] => []
  | k, v :: l => (k, v) :: enumA (k + 1) l

theorem look_enumA {l : List AV} {k t : Nat} {v : AV} (h : look (enumA k l) t = some v) : k ≤ t ∧ t - k < l.length ∧ l.getD (t - k) .any = v := by
  induction l generalizing k with
  | nil => cases h
  | cons x l ih =>
    simp only [enumA, look] at h
    split at h
    · rename_i he
      have he := Nat.eq_of_beq_eq_true he
      subst he
      cases h
      simp
    · rename_i he
      obtain ⟨h1, h2, h3⟩ := ih h
      refine ⟨by omega, by simp; omega, ?_⟩
      have : t - k = (t - (k + 1)) + 1 := by omega
      rw [this]
      simpa using h3

def φz : Phi := fun _ => ⟨none, 0, 0, 0⟩

structure CSpec (P : Program) (gl : Gl) (f : FuncId) (args : List AV) (res : AV) : Prop where
  call : callable P f = true
  spec : Spec P gl f args res

theorem spec_of {P : Program} {gl : Gl} {f : FuncId} {fn : Func} {code : Code} {args : List AV} {res : AV} (hc : callable P f = true) (hf : P.funcs[f]? = some fn) (hb : fn.body = some code) (hlen : Nat.ble args.length fn.ntmps = true)
    (hT : ∀ w0 A, T ⟨P, fn.ntmps, w0, A, [], gl, 0, φz⟩ code ⟨enumA 0 args, []⟩ (retK ⟨P, fn.ntmps, w0, A, [], gl, 0, φz⟩ fn.results res)) : CSpec P gl f args res := by
  refine ⟨hc, fun A w vals hA hgl hsz hv => ?_⟩
  have hlen : args.length ≤ fn.ntmps := by simpa using hlen
  refine calls_of_wp hf hb ?_
  have hconc : Conc ⟨P, fn.ntmps, w, A, [], gl, 0, φz⟩ φz ⟨enumA 0 args, []⟩ { tmps := vals ++ Array.replicate (fn.ntmps - vals.size) undef, defers := [] } w := by
    refine ⟨by simp; omega, rfl, ⟨rfl, rfl, rfl, Nat.le_refl _, fun _ _ _ => rfl, (fun r o b h => by cases h), (fun r r' o o' b h => by cases h), (fun r o h => by cases h), (fun b hb => ⟨hA b hb, by simp⟩), hgl, Nat.zero_le _, fun r hr => by cases hr⟩, ?_⟩
    intro t av ht
    obtain ⟨_, h2, h3⟩ := look_enumA ht
    simp only [Nat.sub_zero] at h2 h3
    refine relF_data ?_
    have := hv t h2
    rw [h3] at this
    have e : (vals ++ Array.replicate (fn.ntmps - vals.size) undef).getD t undef = vals.getD t undef := by
      simp [Array.getD_eq_getD_getElem?, Array.getElem?_append, show t < vals.size by omega]
    rw [e]
    exact this.mono (Nat.le_refl _) (fun _ _ _ => rfl) (fun b _ hm => fun h => h.elim hm fun ⟨r, o, hr, _⟩ => by cases hr)
  refine wp_mono (hT w A _ _ _ hconc) ?_
  rintro e a' w' ⟨st', φ', hk, hc'⟩
  have fin : Ret ⟨P, fn.ntmps, w, A, [], gl, 0, φz⟩ st' fn.results res → a'.defers = [] ∧ ∃ v, (results fn a'.tmps).run P w' = .ok v w' ∧ (∃ v', Ending.returned v = .returned v' ∧ Below w.heap.size w w' ∧ RelD P w' A res v') := fun hr => by
    obtain ⟨v, h1, h2⟩ := hr.sound hc'
    exact ⟨hc'.defers, v, h1, v, rfl, ⟨hc'.hok.os, hc'.hok.tape, hc'.hok.output, hc'.hok.heap, fun b hb => hc'.hok.frame b hb (by simp)⟩, h2⟩
  cases e with
  | ret => exact fin hk
  | normal => exact fin hk
  | exit id => exact hk.elim
  | goto l => exact hk.elim
  | panic ch => exact hk.elim
  | outgrown => exact hk.elim

/-! ## Calls -/

inductive ArgsD (c : Ctx) (st : St) : List Operand → List AV → Prop
  | nil : ArgsD c st [] []
  | cons {x : Operand} {av d : AV} {xs : List Operand} {ds : List AV} : Opv c st x av → Dat c st av d → ArgsD c st xs ds → ArgsD c st (x :: xs) (d :: ds)

theorem ArgsD.rel {c : Ctx} {st : St} {xs : List Operand} {ds : List AV} (h : ArgsD c st xs ds) {φ : Phi} {a : Act} {w : World} (hc : Conc c φ st a w) :
    xs.length = ds.length ∧ ∀ i, i < ds.length → RelD c.P w (Mut c.A φ st.hp) (ds.getD i .any) ((xs.map a.eval).getD i undef) := by
  induction h with
  | nil => exact ⟨rfl, fun i hi => by cases hi⟩
  | cons h1 h2 _ ih =>
    refine ⟨by simp [ih.1], fun i hi => ?_⟩
    cases i with
    | zero => simpa using h2 φ a w hc _ (h1 φ a w hc)
    | succ i => simpa using ih.2 i (by simpa using hi)

inductive ArgsV (c : Ctx) (st : St) : List Operand → List AV → Prop
  | nil : ArgsV c st [] []
  | cons {x : Operand} {av d : AV} {xs : List Operand} {ds : List AV} : Opv c st x av → View c st av d → ArgsV c st xs ds → ArgsV c st (x :: xs) (d :: ds)

theorem ArgsV.rel {c : Ctx} {st : St} {xs : List Operand} {ds : List AV} (h : ArgsV c st xs ds) {φ : Phi} {a : Act} {w : World} (hc : Conc c φ st a w) :
    xs.length = ds.length ∧ ∀ i, i < ds.length → RelD c.P w c.A (ds.getD i .any) ((xs.map a.eval).getD i undef) := by
  induction h with
  | nil => exact ⟨rfl, fun i hi => by cases hi⟩
  | cons h1 h2 _ ih =>
    refine ⟨by simp [ih.1], fun i hi => ?_⟩
    cases i with
    | zero => simpa using h2 φ a w hc _ (h1 φ a w hc)
    | succ i => simpa using ih.2 i (by simpa using hi)

/-- Data without references. -/
def Flat (d : AV) : Prop := ∀ (P : Program) (w w' : World) (M M' : Nat → Prop) (v : Value), RelD P w M d v → RelD P w' M' d v

theorem Flat.int {k : IntKind} {n : Int} : Flat (.int k n) := fun _ _ _ _ _ _ h => by cases h; exact .int _ _
theorem Flat.bool {b : Bool} : Flat (.bool b) := fun _ _ _ _ _ _ h => by cases h; exact .bool _
theorem Flat.str {b : List UInt8} : Flat (.str b) := fun _ _ _ _ _ _ h => by cases h; exact .str _
theorem Flat.agg {l : List AV} (hl : ∀ x ∈ l, Flat x) : Flat (.agg l) := fun _ _ _ _ _ _ h => by
  cases h with | agg _ vs h1 h2 => exact .agg l vs h1 fun i hi => hl _ (by simp [List.getD_eq_getElem?_getD, hi]) _ _ _ _ _ _ (h2 i hi)
theorem Flat.tuple {l : List AV} (hl : ∀ x ∈ l, Flat x) : Flat (.tuple l) := fun _ _ _ _ _ _ h => by
  cases h with | tuple _ vs h1 h2 => exact .tuple l vs h1 fun i hi => hl _ (by simp [List.getD_eq_getElem?_getD, hi]) _ _ _ _ _ _ (h2 i hi)

section ops
variable {c : Ctx} {ops : Array Oper} {st : St} {dst : Option Tmp} {ty : TypeId} {pos : String} {after : Array Edge}

theorem run_callFunc {P : Program} {f : FuncId} (h : callable P f = true) (args : Array Value) (w : World) : (callFunc f args).run P w = .ok (.enter f args) w := by
  obtain ⟨fn, h1, h2, h3⟩ := callable.spec h
  have h2 : ¬ fn.name = "runtime.NumGoroutine" := by simpa using h2
  have h3 : ¬ fn.body = none := fun hb => by rw [hb] at h3; cases h3
  simp [callFunc, h1, h2, h3]

theorem mut_lt {φ : Phi} {a : Act} {w : World} (hc : Conc c φ st a w) : ∀ b, Mut c.A φ st.hp b → b < w.heap.size := by
  rintro b (ha | ⟨r, o, hr, hb⟩)
  · exact Nat.lt_of_lt_of_le (hc.hok.amb b ha).1 hc.hok.heap
  · obtain ⟨cs, h1, _⟩ := (hc.hok.obj r o hr).some b hb
    exact (Array.getElem?_eq_some_iff.1 h1).1

theorem v_call {f : FuncId} {xs : List Operand} {ts : Array TypeId} {ds : List AV} {res : AV} (hs : CSpec c.P c.gl f ds res) (ha : ArgsD c st xs ds) :
    SVal c ops st ⟨dst, .call { callee := .value (.func f), args := xs.toArray, argTypes := ts }, ty, pos, after, none⟩ res := by
  intro φ a w hc
  refine ⟨fun _ => ?_, fun hw => by cases hw⟩
  obtain ⟨hl, hr⟩ := ha.rel hc
  unfold Oper.wp
  have e : (execOp a.eval ⟨dst, .call { callee := .value (.func f), args := xs.toArray, argTypes := ts }, ty, pos, after, none⟩).run c.P w = .ok (.enter f (xs.map a.eval).toArray) w := by
    simp [execOp, resolve, Act.eval, Deferred.ofValue, invoke, run_callFunc hs.call]
  rw [e]
  refine (hs.spec (Mut c.A φ st.hp) w _ (mut_lt hc) (glob_now hc) (by simpa using hl) (fun i hi => by simpa [Array.getD_eq_getD_getElem?, List.getD_eq_getElem?_getD] using hr i hi)).mono ?_
  rintro e w' ⟨v, rfl, hb, hv⟩
  exact ⟨v, rfl, hb, relF_data hv⟩

/-- Rows of our own may be lent to a function that hands back numbers, bools, strings alone. -/
theorem v_callB {f : FuncId} {xs : List Operand} {ts : Array TypeId} {ds : List AV} {res : AV} (hs : CSpec c.P c.gl f ds res) (hf : Flat res) (ha : ArgsV c st xs ds) :
    SVal c ops st ⟨dst, .call { callee := .value (.func f), args := xs.toArray, argTypes := ts }, ty, pos, after, none⟩ res := by
  intro φ a w hc
  refine ⟨fun _ => ?_, fun hw => by cases hw⟩
  obtain ⟨hl, hr⟩ := ha.rel hc
  unfold Oper.wp
  have e : (execOp a.eval ⟨dst, .call { callee := .value (.func f), args := xs.toArray, argTypes := ts }, ty, pos, after, none⟩).run c.P w = .ok (.enter f (xs.map a.eval).toArray) w := by
    simp [execOp, resolve, Act.eval, Deferred.ofValue, invoke, run_callFunc hs.call]
  rw [e]
  refine (hs.spec c.A w _ (fun b hb => mut_lt hc b (.inl hb)) (let g := glob_now hc; ⟨g.len, g.W, fun p hp => let ⟨h1, h2, h3⟩ := g.tab p hp; ⟨h1, h2, fun h => h3 (.inl h)⟩⟩) (by simpa using hl) (fun i hi => by simpa [Array.getD_eq_getD_getElem?, List.getD_eq_getElem?_getD] using hr i hi)).mono ?_
  rintro e w' ⟨v, rfl, hb, hv⟩
  exact ⟨v, rfl, hb, relF_data (hf _ _ _ _ _ _ hv)⟩

/-! ## Literals -/

def overL : List AV → List AV → List AV
  | xs, [] => xs
  | [], _ => []
  | _ :: xs, y :: ys => y :: overL xs ys
def setL : List AV → Nat → List AV → List AV
  | xs, 0, ys => overL xs ys
  | [], _ + 1, _ => []
  | x :: xs, n + 1, ys => x :: setL xs n ys

theorem overL_getD : ∀ (xs ys : List AV), ys.length ≤ xs.length → (overL xs ys).length = xs.length ∧ ∀ k, (overL xs ys).getD k .any = if k < ys.length then ys.getD k .any else xs.getD k .any
  | xs, [], _ => by unfold overL; exact ⟨by cases xs <;> rfl, fun k => by cases xs <;> simp⟩
  | [], _ :: _, h => by simp at h
  | x :: xs, y :: ys, h => by
    have ih := overL_getD xs ys (by simpa using h)
    refine ⟨by simp [overL, ih.1], fun k => ?_⟩
    cases k with
    | zero => simp [overL]
    | succ k => simpa [overL] using ih.2 k

theorem setL_getD : ∀ (xs : List AV) (n : Nat) (ys : List AV), n + ys.length ≤ xs.length → (setL xs n ys).length = xs.length ∧
    ∀ k, (setL xs n ys).getD k .any = if k < n then xs.getD k .any else if k < n + ys.length then ys.getD (k - n) .any else xs.getD k .any
  | xs, 0, ys, h => by
    have e : setL xs 0 ys = overL xs ys := by cases xs <;> rfl
    obtain ⟨h1, h2⟩ := overL_getD xs ys (by simpa using h)
    rw [e]
    exact ⟨h1, fun k => by rw [h2 k]; simp⟩
  | [], n + 1, ys, h => by simp at h
  | x :: xs, n + 1, ys, h => by
    obtain ⟨h1, h2⟩ := setL_getD xs n ys (by simp at h; omega)
    refine ⟨by simp [setL, h1], fun k => ?_⟩
    cases k with
    | zero => simp [setL]
    | succ k =>
      have := h2 k
      simp only [setL, List.getD_cons_succ]
      rw [this]
      by_cases c1 : k < n
      · rw [if_pos c1, if_pos (by omega)]
      · by_cases c2 : k < n + ys.length
        · rw [if_neg c1, if_pos c2, if_neg (by omega), if_pos (by omega)]; congr 1; omega
        · rw [if_neg c1, if_neg c2, if_neg (by omega), if_neg (by omega)]

theorem foldl_splice (off : Nat) : ∀ (l : List Value) (k : Nat) (cs : Array Value), off + k + l.length ≤ cs.size →
    ((l.zipIdx k).foldl (fun cs (x : Value × Nat) => cs.setIfInBounds (off + x.2) x.1) cs).size = cs.size ∧
    ∀ i, ((l.zipIdx k).foldl (fun cs (x : Value × Nat) => cs.setIfInBounds (off + x.2) x.1) cs).getD i undef = if i < off + k then cs.getD i undef else if i < off + k + l.length then l.getD (i - (off + k)) undef else cs.getD i undef
  | [], k, cs, _ => ⟨rfl, fun i => by
      simp only [List.length_nil, Nat.add_zero]
      by_cases h : i < off + k
      · rw [if_pos h]; rfl
      · rw [if_neg h, if_neg h]; rfl⟩
  | v :: l, k, cs, h => by
    have hlt : off + k < cs.size := by simp at h; omega
    obtain ⟨h1, h2⟩ := foldl_splice off l (k + 1) (cs.setIfInBounds (off + k) v) (by simp at h ⊢; omega)
    refine ⟨by simpa using h1, fun i => ?_⟩
    have := h2 i
    simp only [List.zipIdx_cons, List.foldl_cons]
    rw [this, getD_set cs (off + k) i v hlt]
    by_cases c1 : i < off + k
    · rw [if_pos (by omega), if_neg (by omega), if_pos c1]
    · rw [if_neg c1]
      by_cases c2 : i = off + k
      · rw [if_pos (by omega), if_pos c2.symm, if_pos (by simp; omega)]; simp [c2]
      · rw [if_neg (by omega)]
        by_cases c3 : i < off + k + (v :: l).length
        · rw [if_pos (by simp at c3; omega), if_pos c3]
          have : i - (off + k) = (i - (off + (k + 1))) + 1 := by omega
          rw [this]; simp
        · rw [if_neg (by simp at c3; omega), if_neg (Ne.symm c2), if_neg c3]

/-- The cells of an operand's value. -/
def CellV (c : Ctx) (st : St) (x : Operand) (l : List AV) : Prop := ∀ φ a w, Conc c φ st a w → (a.eval x).cells.size = l.length ∧ ∀ k, k < l.length → RelF c.P w (Mut c.A φ st.hp) st.hp.length φ (l.getD k .any) ((a.eval x).cells.getD k undef)

theorem cva {x : Operand} {l : List AV} (h : Opv c st x (.agg l)) : CellV c st x l := fun φ a w hc => by
  obtain ⟨vs, hv, h1, h2⟩ := relF_agg (h φ a w hc)
  rw [hv]
  exact ⟨h1.symm, h2⟩
theorem cvs {x : Operand} {v : AV} (h : Opv c st x v) (h1 : Cell1 c st v) : CellV c st x [v] := fun φ a w hc => by
  have hv := h φ a w hc
  rw [cells_one (h1 φ a w hc _ hv)]
  refine ⟨rfl, fun k hk => ?_⟩
  have : k = 0 := by simp at hk; omega
  subst this
  simpa using hv

inductive Parts (c : Ctx) (st : St) : List (Nat × Operand) → List (Nat × List AV) → Prop
  | nil : Parts c st [] []
  | cons {i : Nat} {x : Operand} {l : List AV} {ps : List (Nat × Operand)} {qs : List (Nat × List AV)} : CellV c st x l → Parts c st ps qs → Parts c st ((i, x) :: ps) ((i, l) :: qs)

def fillA (pl : Nat → Option (Nat × Nat)) : List AV → List (Nat × List AV) → Option (List AV)
  | xs, [] => some xs
  | xs, (i, l) :: rest => match pl i with
    | none => none
    | some (off, sz) => match Nat.beq l.length sz, Nat.ble (off + sz) xs.length with
      | true, true => fillA pl (setL xs off l) rest
      | _, _ => none

theorem fill_rel {φ : Phi} {a : Act} {w : World} (hc : Conc c φ st a w) (pl : Nat → Option (Nat × Nat)) {ps : List (Nat × Operand)} {qs : List (Nat × List AV)} (h : Parts c st ps qs) :
    ∀ (cs : Array Value) (xs ys : List AV), cs.size = xs.length → (∀ k, k < xs.length → RelF c.P w (Mut c.A φ st.hp) st.hp.length φ (xs.getD k .any) (cs.getD k undef)) → fillA pl xs qs = some ys →
      ∃ cs', Instr.fill pl cs (ps.map fun p => (p.1, a.eval p.2)) = some cs' ∧ cs'.size = ys.length ∧ ∀ k, k < ys.length → RelF c.P w (Mut c.A φ st.hp) st.hp.length φ (ys.getD k .any) (cs'.getD k undef) := by
  induction h with
  | nil => intro cs xs ys h1 h2 h3; cases h3; exact ⟨cs, rfl, h1, h2⟩
  | @cons i x l ps qs hx _ ih =>
    intro cs xs ys h1 h2 h3
    simp only [fillA] at h3
    split at h3
    · cases h3
    · rename_i off sz hpl
      split at h3
      · rename_i hb1 hb2
        have hl := Nat.eq_of_beq_eq_true hb1
        have hle := Nat.le_of_ble_eq_true hb2
        obtain ⟨c1, c2⟩ := hx φ a w hc
        obtain ⟨s1, s2⟩ := setL_getD xs off l (by omega)
        obtain ⟨f1, f2⟩ := foldl_splice off (a.eval x).cells.toList 0 cs (by simp; omega)
        simp only [List.map_cons, Instr.fill, hpl]
        have hnot : ¬ ((decide ((a.eval x).cells.size ≠ sz) || decide (off + (a.eval x).cells.size > cs.size)) = true) := by
          simp only [Bool.or_eq_true, decide_eq_true_eq]; omega
        rw [if_neg hnot]
        have ef : (a.eval x).cells.zipIdx.foldl (fun cs (x : Value × Nat) => cs.setIfInBounds (off + x.2) x.1) cs = ((a.eval x).cells.toList.zipIdx 0).foldl (fun cs (x : Value × Nat) => cs.setIfInBounds (off + x.2) x.1) cs := by
          rw [← Array.foldl_toList]
          simp
        have ef' : (a.eval x).cells.zipIdx.foldl (fun cs (x : Value × Nat) => match x with | (c, j) => cs.setIfInBounds (off + j) c) cs = ((a.eval x).cells.toList.zipIdx 0).foldl (fun cs (x : Value × Nat) => cs.setIfInBounds (off + x.2) x.1) cs := ef
        rw [ef']
        refine ih _ (setL xs off l) ys (by rw [f1, s1, h1]) (fun k hk => ?_) h3
        rw [s1] at hk
        rw [s2 k, f2 k]
        simp only [Nat.add_zero, Array.length_toList]
        by_cases k1 : k < off
        · rw [if_pos k1, if_pos k1]; exact h2 k hk
        · rw [if_neg k1, if_neg k1]
          by_cases k2 : k < off + l.length
          · rw [if_pos k2, if_pos (by omega)]
            have := c2 (k - off) (by omega)
            simpa [Array.getD_eq_getD_getElem?, List.getD_eq_getElem?_getD] using this
          · rw [if_neg k2, if_neg (by omega)]; exact h2 k hk
      · cases h3

/-- Where a struct's fields lie. -/
def structPl (P : Program) (t : Nat) : Option (List (Nat × Nat)) := match P.underlying t with
  | some (.struct fs) => some (fs.toList.map fun f => (f.offset, P.cellsOf f.type))
  | _ => none

def hasAll (P : Program) (t : Nat) : Bool := match P.underlying t with
  | some (.struct fs) => fs.all fun f => (P.info? f.type).isSome
  | _ => false

theorem v_build {t : Nat} {ps : List (Nat × Operand)} {qs : List (Nat × List AV)} {pl : List (Nat × Nat)} {zs : List Value} {ys : List AV} (hpl : structPl c.P t = some pl) (hal : hasAll c.P t = true) (hz : zeroOf c.P t = some zs)
    (hp : Parts c st ps qs) (hf : fillA (pl[·]?) (zs.map constAV) qs = some ys) : SVal c ops st ⟨dst, .build t ps.toArray, ty, pos, after, none⟩ (.agg ys) :=
  .pure rfl fun φ a w hc => by
    unfold structPl at hpl
    split at hpl
    · rename_i fs hu
      cases hpl
      unfold zeroOf at hz
      split at hz
      · rename_i i hi
        simp only [Option.map_eq_some_iff] at hz
        obtain ⟨z, hz, rfl⟩ := hz
        have hall : ∀ f ∈ fs, (c.P.info? f.type).isSome = true := by
          unfold hasAll at hal
          rw [hu] at hal
          exact fun f hf => Array.all_eq_true_iff_forall_mem.1 hal f hf
        obtain ⟨cs', h1, h2, h3⟩ := fill_rel hc ((fs.toList.map fun f => (f.offset, c.P.cellsOf f.type))[·]?) hp z.cells (z.cells.toList.map constAV) ys (by simp) (fun k hk => relF_data (by
          have hk' : k < z.cells.size := by simpa using hk
          have e : (z.cells.toList.map constAV).getD k .any = constAV (z.cells.getD k undef) := by simp [List.getD_eq_getElem?_getD, hk']
          rw [e]
          exact constAV_rel _ _ _ _)) hf
        refine ⟨.agg cs', ?_, relF_aggI h2.symm h3⟩
        have hplaces : (fs.mapM fun f => (do pure (f.offset, ← sizeOf f.type) : Sem (Nat × Nat))).run c.P w = .ok (fs.map fun f => (f.offset, c.P.cellsOf f.type)) w := by
          have key : ∀ (l : List Field), (∀ f ∈ l, (c.P.info? f.type).isSome = true) → (l.mapM fun f => (do pure (f.offset, ← sizeOf f.type) : Sem (Nat × Nat))).run c.P w = .ok (l.map fun f => (f.offset, c.P.cellsOf f.type)) w := by
            intro l
            induction l with
            | nil => intro _; rfl
            | cons f l ih =>
              intro hl
              obtain ⟨inf, hinf⟩ := Option.isSome_iff_exists.1 (hl f (by simp))
              have ih := ih fun g hg => hl g (by simp [hg])
              have e1 : (do pure (f.offset, ← sizeOf f.type) : Sem (Nat × Nat)).run c.P w = .ok (f.offset, c.P.cellsOf f.type) w := by simp [sizeOf, typeInfo, hinf, Program.cellsOf]
              rw [List.mapM_cons, Sem.run_bind, e1]
              simp only [Result.andThen_ok]
              rw [Sem.run_bind, ih]
              rfl
          have := key fs.toList (fun f hf => hall f (by simpa using hf))
          obtain ⟨fl⟩ := fs
          rw [List.mapM_toArray, Sem.run_map, this]
          simp
        have hfun : (fun (x : Nat) => (fs.map fun f => (f.offset, c.P.cellsOf f.type))[x]?) = ((fs.toList.map fun f => (f.offset, c.P.cellsOf f.type))[·]?) := by
          funext x; simp
        have hzr : (zeroValue t).run c.P w = .ok z w := by simp [zeroValue, typeInfo, hi, hz]
        have : (Instr.build t (ps.map fun p => (p.1, a.eval p.2)).toArray).run c.P w = .ok (.agg cs') w := by
          unfold Instr.build
          simp only [Sem.run_bind, hzr, Result.andThen_ok, run_underlying hu, hplaces, hfun, h1]
          rfl
        have e : (ps.toArray.map fun (p : Nat × Operand) => (p.1, a.eval p.2)) = (ps.map fun p => (p.1, a.eval p.2)).toArray := by simp
        show ((do pure (Next.value (← Instr.build t (ps.toArray.map fun (p : Nat × Operand) => (p.1, a.eval p.2)))) : Sem Next)).run c.P w = _
        rw [e, Sem.run_bind, this]
        rfl
      · cases hz
    · cases hpl
end ops
end Go.Vx

/- A text of the proof: a verified executor of the program form, or the contracts of the functions that the law reaches. -/
import Derived.Test.YtecdkapjjhkanaaDoorVxA
set_option linter.all false
namespace Go.Vx
open Go Go.RowKit

/-! ## Operations -/

theorem LetsOut.imp {Q Q' : Exit → Act → World → Prop} (h : ∀ e a w, Q e a w → Q' e a w) : LetsOut Q → LetsOut Q' := fun ⟨a, w, q⟩ => ⟨a, w, h _ _ _ q⟩

theorem wp_imp {P : Program} {o : Oper} {a : Act} {w : World} {K K' : Act → World → Prop} {Q Q' : Exit → Act → World → Prop} (hK : ∀ a w, K a w → K' a w)
    (hQ : ∀ e a w, Q e a w → Q' e a w) (hh : o.wp P a w K Q) : o.wp P a w K' Q' := by
  unfold Oper.wp at *
  generalize (execOp a.eval o).run P w = r at *
  cases r with
  | ok n w' =>
    cases n <;> simp only [Oper.upon] at hh ⊢ <;>
      first
        | exact hK _ _ hh
        | exact Calls.mono hh (fun e w'' he => by cases e <;> first | exact hK _ _ he | exact hQ _ _ _ he | exact LetsOut.imp hQ he)
        | exact Rows.mono hh (fun _ _ he => hK _ _ he)
  | halt x w' => cases x <;> simp only [Oper.upon] at hh ⊢ <;> first | exact hQ _ _ _ hh | exact hh

def noQ : Exit → Act → World → Prop := fun _ _ _ => False

/-- An operation that leaves v in its slot, makes blocks at most, and turns nothing that was there. -/
def SVal (c : Ctx) (ops : Array Oper) (st : St) (o : Oper) (v : AV) : Prop := ∀ φ a w, Conc c φ st a w →
  (Region.wanted o (yielded ops a.tmps) = true → o.wp c.P a w (fun a' w' => ∃ u, a' = a.put o.dst u ∧ Below w.heap.size w w' ∧ RelF c.P w' (Mut c.A φ st.hp) st.hp.length φ v u) noQ) ∧
  (Region.wanted o (yielded ops a.tmps) = false → RelF c.P w (Mut c.A φ st.hp) st.hp.length φ v undef)

/-- An operation that turns our own objects. -/
def WVal (c : Ctx) (ops : Array Oper) (st : St) (o : Oper) (v : AV) (hp' : List (Option Own)) : Prop := ∀ φ a w, Conc c φ st a w →
  Region.wanted o (yielded ops a.tmps) = true ∧ o.wp c.P a w (fun a' w' => ∃ u φ', a' = a.put o.dst u ∧ HeapOK c φ' hp' w' ∧
    (∀ av x, RelF c.P w (Mut c.A φ st.hp) st.hp.length φ av x → RelF c.P w' (Mut c.A φ' hp') hp'.length φ' av x) ∧ RelF c.P w' (Mut c.A φ' hp') hp'.length φ' v u) noQ

/-- One operation behind the other. -/
def R (c : Ctx) (ops : Array Oper) (rest : List Oper) (st : St) (K : Exit → St → Prop) : Prop := ∀ φ a w, Conc c φ st a w → wpList c.P ops (Post c K) rest a w

theorem R_nil {c : Ctx} {ops : Array Oper} {st : St} {K : Exit → St → Prop} (h : K .normal st) : R c ops [] st K := fun φ _ _ hc => ⟨st, φ, h, hc⟩

theorem R_q {c : Ctx} {ops : Array Oper} {o : Oper} {rest : List Oper} {st : St} {K : Exit → St → Prop} (v : AV) (hd : dstLt o.dst c.nt = true) (hv : SVal c ops st o v)
    (h : R c ops rest (st.puto o.dst v) K) : R c ops (o :: rest) st K := by
  intro φ a w hc
  obtain ⟨h1, h2⟩ := hv φ a w hc
  unfold wpList
  by_cases hw : Region.wanted o (yielded ops a.tmps) = true
  · rw [if_pos hw]
    refine .inl (wp_imp ?_ (fun _ _ _ h => h.elim) (h1 hw))
    rintro a' w' ⟨u, rfl, hb, hr⟩
    exact h φ _ _ ((hc.below hb).puto hd hr)
  · rw [if_neg hw]
    exact h φ _ _ (hc.puto hd (h2 (by simpa using hw)))

theorem R_w {c : Ctx} {ops : Array Oper} {o : Oper} {rest : List Oper} {st : St} {K : Exit → St → Prop} (v : AV) (hp' : List (Option Own)) (hd : dstLt o.dst c.nt = true) (hv : WVal c ops st o v hp')
    (h : R c ops rest (St.puto ⟨st.tm, hp'⟩ o.dst v) K) : R c ops (o :: rest) st K := by
  intro φ a w hc
  obtain ⟨h1, h2⟩ := hv φ a w hc
  unfold wpList
  rw [if_pos h1]
  refine .inl (wp_imp ?_ (fun _ _ _ h => h.elim) h2)
  rintro a' w' ⟨u, φ', rfl, hh, hf, hr⟩
  have hc' : Conc c φ' ⟨st.tm, hp'⟩ a w' := ⟨hc.size, hc.defers, hh, fun t av ht => hf _ _ (hc.tm t av ht)⟩
  exact h φ' _ _ (hc'.puto hd hr)

theorem T_reg {c : Ctx} {id : Nat} {l : List Oper} {st : St} {K : Exit → St → Prop} (h : R c l.toArray l st K) : T c (.region id l.toArray false) st K :=
  fun φ a w hc => wp_region_lit (h φ a w hc)

/-! ## A region that draws its order -/

theorem beq_ne {d t : Nat} (h : d ≠ t) : Nat.beq d t = false := by
  cases hb : Nat.beq d t
  · rfl
  · exact absurd (Nat.eq_of_beq_eq_true hb) h

def restr (tm : List (Nat × AV)) : List Nat → List (Nat × AV)
  | [] => []
  | t :: ts => match look tm t with
    | some v => (t, v) :: restr tm ts
    | none => restr tm ts

theorem look_restr {tm : List (Nat × AV)} {ts : List Nat} {t : Nat} {v : AV} (h : look (restr tm ts) t = some v) : look tm t = some v := by
  induction ts with
  | nil => simp [restr, look] at h
  | cons s ts ih =>
    simp only [restr] at h
    split at h
    · rename_i u hu
      simp only [look] at h
      split at h
      · rename_i he
        have he := Nat.eq_of_beq_eq_true he
        subst he
        rw [hu]; exact h
      · exact ih h
    · exact ih h

theorem restr_congr {tm tm' : List (Nat × AV)} {ts : List Nat} (h : ∀ t ∈ ts, look tm t = look tm' t) : restr tm ts = restr tm' ts := by
  induction ts with
  | nil => rfl
  | cons s ts ih =>
    simp only [restr]
    rw [h s (by simp), ih (fun t ht => h t (by simp [ht]))]

theorem Conc.restr {c : Ctx} {φ : Phi} {st : St} {a : Act} {w : World} (h : Conc c φ st a w) (ts : List Nat) : Conc c φ ⟨restr st.tm ts, st.hp⟩ a w :=
  ⟨h.size, h.defers, h.hok, fun t av ht => h.tm t av (look_restr ht)⟩

/-- Which operations only leave a value, and look at no object of our own. -/
def freeOp : Op → Bool
  | .move _ | .assign _ | .pick .. | .build .. | .buildSlice .. | .field .. | .unOp .. | .extract .. | .binOp .. | .index .. | .makeFunc .. => true
  | .call { callee := .builtin .min, .. } | .call { callee := .builtin .max, .. } => true
  | _ => false
/-- .. which may look at them, but don't turn them. -/
def readOp : Op → Bool
  | .load .. | .fieldAddr .. | .nilCheck _ | .indexAddr .. | .slice .. | .convert .. | .makeInterface .. | .call { callee := .value _, .. } | .call { callee := .builtin .len, .. } => true
  | _ => false

def isCall : Op → Bool
  | .call { callee := .value _, .. } => true
  | _ => false
/-- Operations that turn nothing of ours; 'cw': but calls may, in this region. -/
def noWrite (cw : Bool) (o : Op) : Bool := freeOp o || (readOp o && !(cw && isCall o))

theorem free_not_read {o : Op} (h : readOp o = true) : freeOp o = false := by
  unfold readOp at h
  split at h <;> first | rfl | cases h

/-- More objects, the old ones as they were. -/
def Ext (hp hp' : List (Option Own)) : Prop := hp.length ≤ hp'.length ∧ ∀ r o, nth hp r = some o → nth hp' r = some o
theorem Ext.refl {hp : List (Option Own)} : Ext hp hp := ⟨Nat.le_refl _, fun _ _ h => h⟩
/-- .. but for those of wl, which keep their size. -/
def ExtW (wl : List Nat) (hp hp' : List (Option Own)) : Prop := hp.length ≤ hp'.length ∧ ∀ r o, nth hp r = some o → (wl.contains r = false → nth hp' r = some o) ∧ ∃ o', nth hp' r = some o' ∧ o'.elem = o.elem ∧ o'.es.length = o.es.length
theorem ExtW.refl {wl : List Nat} {hp : List (Option Own)} : ExtW wl hp hp := ⟨Nat.le_refl _, fun _ o h => ⟨fun _ => h, o, h, rfl, rfl⟩⟩
theorem ExtW.transL {wl : List Nat} {a b c : List (Option Own)} (h : Ext a b) (k : ExtW wl b c) : ExtW wl a c := ⟨Nat.le_trans h.1 k.1, fun r o hr => k.2 r o (h.2 r o hr)⟩
theorem ExtW.get {wl : List Nat} {hp hp' : List (Option Own)} (h : ExtW wl hp hp') {r : Nat} {o : Own} (hr : nth hp r = some o) (hw : wl.contains r = false) : nth hp' r = some o := (h.2 r o hr).1 hw
theorem exW {wl : List Nat} {hp hp' : List (Option Own)} {r : Nat} {o : Own} {G : Prop} (hx : ExtW wl hp hp') (h : nth hp r = some o) (k : ∀ o', nth hp' r = some o' → o'.es.length = o.es.length → G) : G := by
  obtain ⟨_, o', h1, _, h2⟩ := hx.2 r o h
  exact k o' h1 h2
/-- The same, object by object. -/
inductive EL (wl : List Nat) : Nat → List (Option Own) → List (Option Own) → Prop
  | nil {k : Nat} {t : List (Option Own)} : EL wl k [] t
  | keep {k : Nat} {o : Option Own} {b t : List (Option Own)} : EL wl (k + 1) b t → EL wl k (o :: b) (o :: t)
  | wr {k : Nat} {o o' : Own} {b t : List (Option Own)} : wl.contains k = true → o'.elem = o.elem → o'.es.length = o.es.length → EL wl (k + 1) b t → EL wl k (some o :: b) (some o' :: t)
theorem EL.extK {wl : List Nat} {k : Nat} {b t : List (Option Own)} (h : EL wl k b t) : b.length ≤ t.length ∧ ∀ r o, nth b r = some o → (wl.contains (k + r) = false → nth t r = some o) ∧ ∃ o', nth t r = some o' ∧ o'.elem = o.elem ∧ o'.es.length = o.es.length := by
  induction h with
  | nil => exact ⟨Nat.zero_le _, fun r o h => by cases h⟩
  | @keep k o b t _ ih =>
    refine ⟨by simp only [List.length_cons]; omega, fun r q hq => ?_⟩
    cases r with
    | zero => exact ⟨fun _ => hq, q, hq, rfl, rfl⟩
    | succ r =>
      have := ih.2 r q hq
      rw [show k + 1 + r = k + (r + 1) by omega] at this
      exact this
  | @wr k o o' b t hw he hl _ ih =>
    refine ⟨by simp only [List.length_cons]; omega, fun r q hq => ?_⟩
    cases r with
    | zero =>
      simp only [nth, Option.some.injEq] at hq
      subst hq
      exact ⟨fun h => absurd (Nat.add_zero k ▸ h) (by rw [hw]; simp), o', rfl, he, hl⟩
    | succ r =>
      have := ih.2 r q hq
      rw [show k + 1 + r = k + (r + 1) by omega] at this
      exact this
theorem EL.ext {wl : List Nat} {b t : List (Option Own)} (h : EL wl 0 b t) : ExtW wl b t := by
  have := h.extK
  simp only [Nat.zero_add] at this
  exact this

/-- How a region's orders are dealt with: 'cw': calls may write; 'fr': writes reach new objects only, those of 'base' stay. -/
structure Md where
  cw : Bool
  fr : Bool
  base : List (Option Own)
  fd : List Nat
  wl : List Nat
def md0 : Md := ⟨false, false, [], [], []⟩
/-- Operations that hang on nothing of ours, in this region. -/
def isFree (cw : Md) (o : Oper) : Bool := freeOp o.op || (match o.dst with | some d => cw.fd.contains d | none => false)
def Md.bs (cw : Md) (hp : List (Option Own)) : List (Option Own) := if cw.fr then cw.base else hp

/-- Operation o is quiet in this state, whatever else becomes of the slots that it does not look at, and (if it is free) of our objects. -/
def QStep (cw : Md) (c : Ctx) (ops : Array Oper) (st : St) (o : Oper) (v : AV) : Prop :=
  dstLt o.dst c.nt = true ∧
  ((isFree cw o = true ∧ ∀ hp', SVal c ops ⟨restr st.tm (o.looksAt ops), hp'⟩ o v) ∨
   ((readOp o.op = true ∧ isFree cw o = false) ∧ ExtW cw.wl (cw.bs st.hp) st.hp ∧ ∀ hp', ExtW cw.wl (cw.bs st.hp) hp' → SVal c ops ⟨restr st.tm (o.looksAt ops), hp'⟩ o v))

theorem Ext.trans {a b c : List (Option Own)} (h : Ext a b) (k : Ext b c) : Ext a c := ⟨Nat.le_trans h.1 k.1, fun r o hr => k.2 r o (h.2 r o hr)⟩

/-- Operations that only make an object. -/
def extOp : Op → Bool
  | .alloc _ | .box .. | .makeSlice .. => true
  | .call { callee := .builtin .append, args := #[.const (.slice none 0 0), _], .. } => true
  | _ => false

def WStep (cw : Md) (c : Ctx) (ops : Array Oper) (st : St) (o : Oper) (v : AV) (hp' : List (Option Own)) : Prop :=
  dstLt o.dst c.nt = true ∧ noWrite cw.cw o.op = false ∧ (extOp o.op = true → Ext st.hp hp') ∧ (cw.fr = true → ExtW cw.wl cw.base hp') ∧ WVal c ops ⟨restr st.tm (o.looksAt ops), st.hp⟩ o v hp'

/-- What operation number i may make of the state. -/
inductive SStep (cw : Md) (c : Ctx) (ops : Array Oper) (i : Nat) (st : St) : St → Prop
  | q {o : Oper} {v : AV} : ops[i]? = some o → QStep cw c ops st o v → SStep cw c ops i st (st.puto o.dst v)
  | w {o : Oper} {v : AV} {hp' : List (Option Own)} : ops[i]? = some o → WStep cw c ops st o v hp' → SStep cw c ops i st (St.puto ⟨st.tm, hp'⟩ o.dst v)

theorem SStep.sound {cw : Md} {c : Ctx} {ops : Array Oper} {i : Nat} {st st' : St} (h : SStep cw c ops i st st') {Q : Exit → Act → World → Prop} {N : Act → World → Prop}
    (hN : ∀ φ a w, Conc c φ st' a w → N a w) : ∀ φ a w, Conc c φ st a w → wpOp c.P ops Q i N a w := by
  intro φ a w hc
  cases h with
  | q ho hq =>
    rename_i o v
    obtain ⟨hd, hq⟩ := hq
    have hv : SVal c ops ⟨restr st.tm (o.looksAt ops), st.hp⟩ o v := by
      rcases hq with ⟨_, h⟩ | ⟨_, h⟩
      · exact h _
      · exact h.2 _ h.1
    obtain ⟨h1, h2⟩ := hv φ a w (hc.restr _)
    unfold wpOp
    simp only [ho]
    by_cases hw : Region.wanted o (yielded ops a.tmps) = true
    · rw [if_pos hw]
      refine .inl (wp_imp ?_ (fun _ _ _ h => h.elim) (h1 hw))
      rintro a' w' ⟨u, rfl, hb, hr⟩
      exact hN φ _ _ ((hc.below hb).puto hd hr)
    · rw [if_neg hw]
      exact hN φ _ _ (hc.puto hd (h2 (by simpa using hw)))
  | w ho hq =>
    rename_i o v hp'
    obtain ⟨hd, _, _, _, hv⟩ := hq
    obtain ⟨h1, h2⟩ := hv φ a w (hc.restr _)
    unfold wpOp
    simp only [ho]
    rw [if_pos h1]
    refine .inl (wp_imp ?_ (fun _ _ _ h => h.elim) h2)
    rintro a' w' ⟨u, φ', rfl, hh, hf, hr⟩
    have hc' : Conc c φ' ⟨st.tm, hp'⟩ a w' := ⟨hc.size, hc.defers, hh, fun t av ht => hf _ _ (hc.tm t av ht)⟩
    exact hN φ' _ _ (hc'.puto hd hr)

/-! ### Orders -/

def bit (m i : Nat) : Bool := Nat.testBit m i
def setBit (m i : Nat) : Nat := m ||| 1 <<< i

theorem bit_setBit (m i j : Nat) : bit (setBit m i) j = (bit m j || decide (i = j)) := by
  unfold bit setBit
  rw [Nat.testBit_or, Nat.one_shiftLeft, Nat.testBit_two_pow]

/-- Operation number i may come up when those of the mask m have. -/
def readyAt (ops : Array Oper) (m i : Nat) : Bool :=
  !bit m i && (match ops[i]? with | some o => o.after.all fun e => !Region.binds .any e || bit m e.on | none => false)

def directMask (o : Oper) : Nat := o.after.toList.foldl (fun m e => if Region.binds .any e then setBit m e.on else m) 0

def closeMask (ops : Array Oper) : Nat → Nat → Nat
  | 0, m => m
  | i + 1, m => closeMask ops i (if bit m i then m ||| (match ops[i]? with | some o => directMask o | none => 0) else m)

/-- All that operation number j waits for. -/
def ancMask (ops : Array Oper) (j : Nat) : Nat := closeMask ops j (match ops[j]? with | some o => directMask o | none => 0)

def Closed (ops : Array Oper) (m : Nat) : Prop := ∀ j o, ops[j]? = some o → bit m j = true → ∀ e ∈ o.after, Region.binds .any e = true → bit m e.on = true

theorem directMask_spec {o : Oper} {i : Nat} (h : bit (directMask o) i = true) : ∃ e ∈ o.after, Region.binds .any e = true ∧ e.on = i := by
  unfold directMask at h
  have key : ∀ (l : List Edge) (m : Nat), bit (l.foldl (fun m e => if Region.binds .any e then setBit m e.on else m) m) i = true → bit m i = true ∨ ∃ e ∈ l, Region.binds .any e = true ∧ e.on = i := by
    intro l
    induction l with
    | nil => intro m h; exact .inl h
    | cons e l ih =>
      intro m h
      rcases ih _ h with h | ⟨e', h1, h2⟩
      · simp only at h
        split at h
        · rename_i hb
          rw [bit_setBit] at h
          simp only [Bool.or_eq_true, decide_eq_true_eq] at h
          rcases h with h | h
          · exact .inl h
          · exact .inr ⟨e, by simp, hb, h⟩
        · exact .inl h
      · exact .inr ⟨e', by simp [h1], h2⟩
  rcases key _ _ h with h | ⟨e, h1, h2⟩
  · simp [bit] at h
  · exact ⟨e, by simpa using h1, h2⟩

theorem closeMask_spec {ops : Array Oper} {m : Nat} (hc : Closed ops m) : ∀ (n x : Nat), (∀ i, bit x i = true → bit m i = true) → ∀ i, bit (closeMask ops n x) i = true → bit m i = true := by
  intro n
  induction n with
  | zero => intro x h i hi; exact h i hi
  | succ n ih =>
    intro x h i hi
    refine ih _ ?_ i hi
    intro j hj
    split at hj
    · rename_i hb
      unfold bit at hj
      rw [Nat.testBit_or, Bool.or_eq_true] at hj
      rcases hj with hj | hj
      · exact h j hj
      · split at hj
        · rename_i o ho
          obtain ⟨e, he, hbi, rfl⟩ := directMask_spec (o := o) (by unfold bit; exact hj)
          exact hc n o ho (h n hb) e he hbi
        · simp at hj
    · exact h j hj

theorem anc_listed {ops : Array Oper} {m j i : Nat} (hc : Closed ops m) (hr : readyAt ops m j = true) (h : bit (ancMask ops j) i = true) : bit m i = true := by
  unfold ancMask at h
  refine closeMask_spec hc j _ ?_ i h
  intro x hx
  unfold readyAt at hr
  split at hx
  · rename_i o ho
    rw [ho] at hr
    simp only [Bool.and_eq_true, Array.all_eq_true_iff_forall_mem] at hr
    obtain ⟨e, he, hbi, rfl⟩ := directMask_spec hx
    have := hr.2 e he
    simpa [hbi] using this
  · simp [bit] at hx

theorem Closed.set {ops : Array Oper} {m i : Nat} (hc : Closed ops m) (hr : readyAt ops m i = true) : Closed ops (setBit m i) := by
  intro j o ho hj e he hb
  rw [bit_setBit] at hj ⊢
  simp only [Bool.or_eq_true, decide_eq_true_eq] at hj ⊢
  rcases hj with hj | rfl
  · exact .inl (hc j o ho hj e he hb)
  · unfold readyAt at hr
    rw [ho] at hr
    simp only [Bool.and_eq_true, Array.all_eq_true_iff_forall_mem] at hr
    have := hr.2 e he
    exact .inl (by simpa [hb] using this)

theorem readyAt.mono {ops : Array Oper} {m i j : Nat} (h : readyAt ops m j = true) (hne : j ≠ i) : readyAt ops (setBit m i) j = true := by
  unfold readyAt at *
  simp only [Bool.and_eq_true, Bool.not_eq_true'] at h ⊢
  refine ⟨by rw [bit_setBit]; simp [h.1, Ne.symm hne], ?_⟩
  have h2 := h.2
  split at h2
  · rename_i o ho
    rw [Array.all_eq_true_iff_forall_mem] at h2 ⊢
    intro e he
    have := h2 e he
    rw [bit_setBit]
    simp only [Bool.or_eq_true, Bool.not_eq_true', decide_eq_true_eq] at this ⊢
    rcases this with h | h
    · exact .inl h
    · exact .inr (.inl h)
  · cases h2

/-- May operation number i be taken ahead of the others? -/
def takeAt (cw : Md) (ops : Array Oper) (m i : Nat) : Bool :=
  readyAt ops m i && (match ops[i]? with
    | some oi => noWrite cw.cw oi.op && (List.range ops.size).all fun j => Nat.beq j i || bit m j || bit (ancMask ops j) i ||
      (match ops[j]? with
        | some oj => oi.apart ops oj && (isFree cw oi || noWrite cw.cw oj.op || extOp oj.op || cw.fr)
        | none => true)
    | none => false)

theorem takeAt.spec {cw : Md} {ops : Array Oper} {m i : Nat} (h : takeAt cw ops m i = true) : readyAt ops m i = true ∧ ∃ oi, ops[i]? = some oi ∧ noWrite cw.cw oi.op = true ∧
    ∀ j oj, ops[j]? = some oj → j ≠ i → bit m j = false → bit (ancMask ops j) i = false → oi.apart ops oj = true ∧ (isFree cw oi = true ∨ noWrite cw.cw oj.op = true ∨ extOp oj.op = true ∨ cw.fr = true) := by
  unfold takeAt at h
  simp only [Bool.and_eq_true] at h
  obtain ⟨h1, h2⟩ := h
  split at h2
  · rename_i oi hoi
    simp only [Bool.and_eq_true, List.all_eq_true, List.mem_range] at h2
    refine ⟨h1, oi, hoi, h2.1, fun j oj hj hne hb ha => ?_⟩
    have h3 := h2.2 j (Array.getElem?_eq_some_iff.1 hj).1
    rw [hj, hb, ha, beq_ne hne] at h3
    simp only [Bool.and_eq_true, Bool.or_eq_true] at h3
    rcases h3 with ((h3 | h3) | h3) | h3
    · cases h3
    · cases h3
    · cases h3
    · exact ⟨h3.1, by simpa [or_assoc] using h3.2⟩
  · cases h2

theorem takeAt.intro {cw : Md} {ops : Array Oper} {m i : Nat} (h1 : readyAt ops m i = true) {oi : Oper} (hi : ops[i]? = some oi) (hn : noWrite cw.cw oi.op = true)
    (h : ∀ j oj, ops[j]? = some oj → j ≠ i → bit m j = false → bit (ancMask ops j) i = false → oi.apart ops oj = true ∧ (isFree cw oi = true ∨ noWrite cw.cw oj.op = true ∨ extOp oj.op = true ∨ cw.fr = true)) : takeAt cw ops m i = true := by
  unfold takeAt
  rw [h1, hi]
  simp only [Bool.true_and, hn, List.all_eq_true, List.mem_range]
  intro j hj
  by_cases hne : j = i
  · subst hne; simp
  · cases hb : bit m j
    · cases ha : bit (ancMask ops j) i
      · have : ops[j]? = some ops[j] := by simp [hj]
        rw [this]
        obtain ⟨h2, h3⟩ := h j ops[j] this hne hb ha
        rcases h3 with h3 | h3 | h3 | h3 <;> simp [h2, h3]
      · simp
    · simp

/-- The states are one, but for the order of their lists. -/
def Eqv (st st' : St) : Prop := st.hp = st'.hp ∧ ∀ t, look st.tm t = look st'.tm t

theorem Eqv.symm {st st' : St} (h : Eqv st st') : Eqv st' st := ⟨h.1.symm, fun t => (h.2 t).symm⟩
theorem Eqv.trans {a b c : St} (h : Eqv a b) (k : Eqv b c) : Eqv a c := ⟨h.1.trans k.1, fun t => (h.2 t).trans (k.2 t)⟩
theorem Eqv.puto {st st' : St} (h : Eqv st st') (d : Option Nat) (v : AV) : Eqv (st.puto d v) (st'.puto d v) := by
  cases d with
  | none => exact h
  | some d => exact ⟨h.1, fun t => by simp only [St.puto, St.put, look]; split; rfl; exact h.2 t⟩
theorem Eqv.comm {st : St} {d e : Option Nat} {u v : AV} (h : ∀ x, d = some x → e ≠ some x) : Eqv ((st.puto d u).puto e v) ((st.puto e v).puto d u) := by
  cases d with
  | none => exact ⟨rfl, fun _ => rfl⟩
  | some d =>
    cases e with
    | none => exact ⟨rfl, fun _ => rfl⟩
    | some e =>
      refine ⟨rfl, fun t => ?_⟩
      simp only [St.puto, St.put, look]
      by_cases h1 : e = t
      · by_cases h2 : d = t
        · exact absurd (by rw [h1, h2]) (h d rfl)
        · subst h1
          have := beq_ne h2
          rw [this, Nat.beq_refl e]
      · rw [beq_ne h1]

theorem Eqv.conc {c : Ctx} {φ : Phi} {st st' : St} {a : Act} {w : World} (h : Eqv st st') (hc : Conc c φ st a w) : Conc c φ st' a w := by
  obtain ⟨h1, h2⟩ := h
  obtain ⟨tm, hp⟩ := st
  obtain ⟨tm', hp'⟩ := st'
  simp only at h1
  subst h1
  exact ⟨hc.size, hc.defers, hc.hok, fun t av ht => hc.tm t av (by rw [h2 t]; exact ht)⟩

theorem QStep.congr {cw : Md} {c : Ctx} {ops : Array Oper} {st st' : St} {o : Oper} {v : AV} (h : QStep cw c ops st o v) (hh : st'.hp = st.hp) (hl : ∀ t ∈ o.looksAt ops, look st'.tm t = look st.tm t) :
    QStep cw c ops st' o v := by
  unfold QStep at *
  rw [restr_congr hl, hh]
  exact h

theorem WStep.congr {cw : Md} {c : Ctx} {ops : Array Oper} {st st' : St} {o : Oper} {v : AV} {hp : List (Option Own)} (h : WStep cw c ops st o v hp) (hh : st'.hp = st.hp) (hl : ∀ t ∈ o.looksAt ops, look st'.tm t = look st.tm t) :
    WStep cw c ops st' o v hp := by
  unfold WStep at *
  rw [restr_congr hl, hh]
  exact h

/-- A way through a region in whatever order. -/
inductive Dv (cw : Md) (c : Ctx) (ops : Array Oper) (K : St → Prop) : Nat → St → Prop
  | done {m : Nat} {st : St} : (∀ i, i < ops.size → readyAt ops m i = false) → K st → Dv cw c ops K m st
  | take {m : Nat} {st : St} (i : Nat) (o : Oper) (v : AV) : ops[i]? = some o → takeAt cw ops m i = true → QStep cw c ops st o v → Dv cw c ops K (setBit m i) (st.puto o.dst v) → Dv cw c ops K m st
  | branch {m : Nat} {st : St} (f : Nat → St) : (∃ i, i < ops.size ∧ readyAt ops m i = true) → (∀ i, i < ops.size → readyAt ops m i = true → SStep cw c ops i st (f i)) →
      (∀ i, i < ops.size → readyAt ops m i = true → Dv cw c ops K (setBit m i) (f i)) → Dv cw c ops K m st

theorem SStep.congr {cw : Md} {c : Ctx} {ops : Array Oper} {i : Nat} {st st' s1 : St} (h : SStep cw c ops i st s1) (he : Eqv st st') : ∃ s1', SStep cw c ops i st' s1' ∧ Eqv s1 s1' := by
  obtain ⟨he1, he2⟩ := he
  cases h with
  | q ho hq => exact ⟨_, .q ho (hq.congr he1.symm fun t _ => (he2 t).symm), Eqv.puto ⟨he1, he2⟩ _ _⟩
  | w ho hq =>
    rename_i o v hp'
    exact ⟨_, .w ho (hq.congr he1.symm fun t _ => (he2 t).symm), Eqv.puto (st := ⟨st.tm, hp'⟩) (st' := ⟨st'.tm, hp'⟩) ⟨rfl, he2⟩ _ _⟩

theorem Dv.congr {cw : Md} {c : Ctx} {ops : Array Oper} {K : St → Prop} (hK : ∀ st st', Eqv st st' → K st → K st') {m : Nat} {st : St} (h : Dv cw c ops K m st) : ∀ st', Eqv st st' → Dv cw c ops K m st' := by
  induction h with
  | done h1 h2 => intro st' he; exact .done h1 (hK _ _ he h2)
  | take i o v ho ht hq hd ih =>
    intro st' he
    exact .take i o v ho ht (hq.congr he.1.symm fun t _ => (he.2 t).symm) (ih _ (he.puto _ _))
  | @branch m st f hex hs hd ih =>
    intro st' he
    have this : ∀ i, ∃ s, i < ops.size → readyAt ops m i = true → SStep cw c ops i st' s ∧ Eqv (f i) s := fun i => by
      by_cases h : i < ops.size ∧ readyAt ops m i = true
      · obtain ⟨s, h1, h2⟩ := (hs i h.1 h.2).congr he
        exact ⟨s, fun _ _ => ⟨h1, h2⟩⟩
      · exact ⟨st', fun h1 h2 => absurd ⟨h1, h2⟩ h⟩
    exact .branch (fun i => Classical.choose (this i)) hex (fun i hi hr => (Classical.choose_spec (this i) hi hr).1)
      (fun i hi hr => ih i hi hr _ (Classical.choose_spec (this i) hi hr).2)

theorem getD_set_ne' {listed : Array Bool} {i j : Nat} (h : i ≠ j) : (listed.setIfInBounds i true).getD j false = listed.getD j false := by
  simp [Array.getElem?_setIfInBounds_ne h]

theorem setBit_comm (m i j : Nat) : setBit (setBit m i) j = setBit (setBit m j) i := by
  unfold setBit
  rw [Nat.or_assoc, Nat.or_comm (1 <<< i), ← Nat.or_assoc]

theorem apart_spec' {ops : Array Oper} {x y : Oper} (h : x.apart ops y = true) : (∀ d, x.dst = some d → d ∉ y.looksAt ops) ∧ (∀ d, x.dst = some d → y.dst ≠ some d) ∧ (∀ d, y.dst = some d → d ∉ x.looksAt ops) :=
  Oper.apart_spec h

theorem look_puto {st : St} {d : Option Nat} {v : AV} {t : Nat} (h : ∀ x, d = some x → x ≠ t) : look (st.puto d v).tm t = look st.tm t := by
  cases d with
  | none => rfl
  | some d =>
    simp only [St.puto, St.put, look]
    rw [beq_ne (h d rfl)]

theorem Dv.advance {cw : Md} {c : Ctx} {ops : Array Oper} {K : St → Prop} (hK : ∀ st st', Eqv st st' → K st → K st') {m : Nat} {st : St} (h : Dv cw c ops K m st) :
    Closed ops m → ∀ j, j < ops.size → readyAt ops m j = true → ∃ s1, SStep cw c ops j st s1 ∧ Dv cw c ops K (setBit m j) s1 := by
  induction h with
  | done h1 h2 => intro _ j hj hr; rw [h1 j hj] at hr; cases hr
  | branch f hex hs hd ih => intro _ j hj hr; exact ⟨f j, hs j hj hr, hd j hj hr⟩
  | @take m st i o v ho ht hq hd ih =>
    intro hcl j hj hr
    obtain ⟨hri, oi, hoi, hni, hsp⟩ := takeAt.spec ht
    obtain rfl : o = oi := Option.some.inj (ho.symm.trans hoi)
    by_cases hji : j = i
    · subst hji; exact ⟨_, .q ho hq, hd⟩
    · obtain ⟨s2, hs2, hd2⟩ := ih (hcl.set hri) j hj (readyAt.mono hr hji)
      have hoj : ops[j]? = some ops[j] := by simp [hj]
      have hbi : bit m i = false := by unfold readyAt at hri; simp only [Bool.and_eq_true, Bool.not_eq_true'] at hri; exact hri.1
      have hbj : bit m j = false := by unfold readyAt at hr; simp only [Bool.and_eq_true, Bool.not_eq_true'] at hr; exact hr.1
      have hai : bit (ancMask ops j) i = false := by
        cases hb : bit (ancMask ops j) i
        · rfl
        · have := anc_listed hcl hr hb; rw [hbi] at this; cases this
      obtain ⟨hap, hcls⟩ := hsp j _ hoj hji hbj hai
      obtain ⟨hl1, hl2, hl3⟩ := apart_spec' hap
      have hlook : ∀ t ∈ (ops[j]).looksAt ops, look st.tm t = look (st.puto o.dst v).tm t := fun t ht => (look_puto fun x hx => fun e => hl1 x hx (e ▸ ht)).symm
      have hhp : (st.puto o.dst v).hp = st.hp := by cases o.dst <;> rfl
      -- taking i is still possible behind j
      have htk : takeAt cw ops (setBit m j) i = true := takeAt.intro (readyAt.mono hri (Ne.symm hji)) ho hni fun k ok hk hki hbk hak => hsp k ok hk hki (by
        rw [bit_setBit] at hbk; simp only [Bool.or_eq_false_iff] at hbk; exact hbk.1) hak
      cases hs2 with
      | q ho2 hq2 =>
        rename_i o2 u
        obtain rfl : ops[j] = o2 := Option.some.inj (hoj.symm.trans ho2)
        refine ⟨_, .q ho2 (hq2.congr hhp.symm hlook), .take i o v ho htk (hq.congr (by cases (ops[j]).dst <;> rfl) fun t ht => look_puto fun x hx e => hl3 x hx (e ▸ ht)) ?_⟩
        rw [setBit_comm]
        exact hd2.congr hK _ (Eqv.comm hl2)
      | w ho2 hq2 =>
        rename_i o2 u hp'
        obtain rfl : ops[j] = o2 := Option.some.inj (hoj.symm.trans ho2)
        have hq' : QStep cw c ops (St.puto ⟨st.tm, hp'⟩ (ops[j]).dst u) o v := by
          have h1 := hq.1
          have e : restr (St.puto ⟨st.tm, hp'⟩ (ops[j]).dst u).tm (o.looksAt ops) = restr st.tm (o.looksAt ops) :=
            restr_congr fun t ht => look_puto (st := ⟨st.tm, hp'⟩) fun x hx e => hl3 x hx (e ▸ ht)
          have e0 : (St.puto ⟨st.tm, hp'⟩ (ops[j]).dst u).hp = hp' := by cases (ops[j]).dst <;> rfl
          refine ⟨h1, ?_⟩
          rw [e, e0]
          rcases hq.2 with h | ⟨h, hb0, hv⟩
          · exact .inl h
          · cases hfr : cw.fr with
            | true =>
              have hbb : ∀ hp, cw.bs hp = cw.base := fun hp => by unfold Md.bs; rw [if_pos hfr]
              rw [hbb] at hv ⊢
              exact .inr ⟨h, hq2.2.2.2.1 hfr, hv⟩
            | false =>
              have hbb : ∀ hp, cw.bs hp = hp := fun hp => by unfold Md.bs; rw [hfr]; rfl
              rw [hbb] at hv ⊢
              rcases hcls with h' | h' | h' | h'
              · exact absurd h' (by rw [h.2]; simp)
              · have := hq2.2.1; rw [h'] at this; cases this
              · have hx := hq2.2.2.1 h'
                rw [hhp] at hx
                exact .inr ⟨h, ExtW.refl, fun hp'' hx'' => hv hp'' (ExtW.transL hx hx'')⟩
              · rw [hfr] at h'; cases h'
        refine ⟨_, .w ho2 (hq2.congr hhp.symm hlook), .take i o v ho htk hq' ?_⟩
        rw [setBit_comm]
        refine hd2.congr hK _ ?_
        have e2 : St.puto ⟨(st.puto o.dst v).tm, hp'⟩ (ops[j]).dst u = ((St.puto ⟨st.tm, hp'⟩ o.dst v).puto (ops[j]).dst u) := by cases o.dst <;> rfl
        rw [e2]
        exact Eqv.comm (st := ⟨st.tm, hp'⟩) hl2

theorem Dv.over {cw : Md} {c : Ctx} {ops : Array Oper} {K : St → Prop} {m : Nat} {st : St} (h : Dv cw c ops K m st) (hn : ∀ i, i < ops.size → readyAt ops m i = false) : K st := by
  cases h with
  | done _ h => exact h
  | take i o v ho ht hq hd =>
    have := hn i (Array.getElem?_eq_some_iff.1 ho).1
    rw [(takeAt.spec ht).1] at this; cases this
  | branch f hex hs hd => obtain ⟨i, hi, hr⟩ := hex; rw [hn i hi] at hr; cases hr

theorem mem_ready_mask {ops : Array Oper} {m : Nat} {listed : Array Bool} (hs : listed.size = ops.size) (hl : ∀ i, i < ops.size → listed.getD i false = bit m i) (hm : ∀ i, bit m i = true → i < ops.size) {i : Nat} :
    i ∈ Region.ready .any ops listed ↔ i < ops.size ∧ readyAt ops m i = true := by
  unfold Region.ready readyAt
  rw [List.mem_filter, List.mem_range]
  have hgt : ∀ j, listed.getD j false = bit m j := fun j => by
    by_cases hj : j < ops.size
    · exact hl j hj
    · have : bit m j = false := by cases hb : bit m j; rfl; exact absurd (hm j hb) hj
      rw [this]; simp [hs, hj]
  refine and_congr_right fun hi => ?_
  have h1 : listed.getD i true = bit m i := by rw [← hl i hi]; simp [hs, hi]
  rw [h1]
  cases ho : ops[i]? with
  | none => simp
  | some o =>
    simp only [Option.map_some, Option.getD_some]
    have : (o.after.all fun e => !Region.binds .any e || listed.getD e.on false) = (o.after.all fun e => !Region.binds .any e || bit m e.on) := by
      congr 1; funext e; rw [hgt e.on]
    rw [this]

def left (ops : Array Oper) (m : Nat) : Nat := (List.range ops.size).countP fun i => !bit m i

theorem countP_lt {l : List Nat} {p q : Nat → Bool} (h : ∀ x ∈ l, q x = true → p x = true) {y : Nat} (hy : y ∈ l) (h1 : p y = true) (h2 : q y = false) : l.countP q < l.countP p := by
  induction l with
  | nil => cases hy
  | cons x l ih =>
    have hle : l.countP q ≤ l.countP p := List.countP_mono_left (fun z hz hq => h z (by simp [hz]) hq)
    rcases List.mem_cons.1 hy with rfl | hy
    · rw [List.countP_cons_of_pos h1, List.countP_cons_of_neg (by simp [h2])]; omega
    · have := ih (fun z hz => h z (by simp [hz])) hy
      by_cases hq : q x = true
      · rw [List.countP_cons_of_pos hq, List.countP_cons_of_pos (h x (by simp) hq)]; omega
      · rw [List.countP_cons_of_neg hq]
        have : l.countP p ≤ (x :: l).countP p := by rw [List.countP_cons]; omega
        omega

theorem left_set {ops : Array Oper} {m i : Nat} (hi : i < ops.size) (hr : readyAt ops m i = true) : left ops (setBit m i) < left ops m := by
  have hb : bit m i = false := by unfold readyAt at hr; simp only [Bool.and_eq_true, Bool.not_eq_true'] at hr; exact hr.1
  refine countP_lt (y := i) (fun x _ hx => ?_) (List.mem_range.2 hi) (by simp [hb]) (by simp [bit_setBit])
  simp only [Bool.not_eq_true', bit_setBit, Bool.or_eq_false_iff] at hx ⊢
  exact hx.1

theorem Dv.sound {cw : Md} {c : Ctx} {ops : Array Oper} {K : Exit → St → Prop} {K' : St → Prop} (hK : ∀ st st', Eqv st st' → K' st → K' st') (hK' : ∀ st, K' st → ∃ s0, K .normal s0 ∧ Eqv st s0) :
    ∀ (fuel m : Nat) (st : St) (listed : Array Bool), Dv cw c ops K' m st → left ops m ≤ fuel → listed.size = ops.size → (∀ i, i < ops.size → listed.getD i false = bit m i) → Closed ops m →
      (∀ i, bit m i = true → i < ops.size) → ∀ φ a w, Conc c φ st a w → wpAny c.P .any ops (Post c K) fuel listed a w := by
  have fin : ∀ (m : Nat) (st : St) (listed : Array Bool), Dv cw c ops K' m st → listed.size = ops.size → (∀ i, i < ops.size → listed.getD i false = bit m i) → Closed ops m → (∀ i, bit m i = true → i < ops.size) →
      Region.ready .any ops listed = [] → ∀ φ a w, Conc c φ st a w → Post c K .normal a w := by
    intro m st listed hd hs hl hcl hm hr φ a w hc
    have hn : ∀ i, i < ops.size → readyAt ops m i = false := fun i hi => by
      cases hb : readyAt ops m i
      · rfl
      · have := (mem_ready_mask hs hl hm).2 ⟨hi, hb⟩
        rw [hr] at this; cases this
    obtain ⟨s0, h1, h2⟩ := hK' _ (hd.over hn)
    exact ⟨s0, φ, h1, h2.conc hc⟩
  intro fuel
  induction fuel with
  | zero =>
    intro m st listed hd hlt hs hl hcl hm φ a w hc
    have hr : Region.ready .any ops listed = [] := by
      refine List.eq_nil_iff_forall_not_mem.2 fun i hi => ?_
      obtain ⟨h1, h2⟩ := (mem_ready_mask hs hl hm).1 hi
      have := left_set h1 h2
      omega
    exact ⟨hr, fin m st listed hd hs hl hcl hm hr φ a w hc⟩
  | succ fuel ih =>
    intro m st listed hd hlt hs hl hcl hm φ a w hc
    refine ⟨fun hr => fin m st listed hd hs hl hcl hm hr φ a w hc, fun j hj => ?_⟩
    obtain ⟨hj1, hj2⟩ := (mem_ready_mask hs hl hm).1 hj
    obtain ⟨s1, hs1, hd1⟩ := hd.advance hK hcl j hj1 hj2
    refine hs1.sound (N := wpAny c.P .any ops (Post c K) fuel (listed.setIfInBounds j true)) (fun φ a w hc => ?_) φ a w hc
    refine ih (setBit m j) s1 _ hd1 (by have := left_set hj1 hj2; omega) (by simp [hs]) (fun i hi => ?_) (hcl.set hj2) (fun i hi => ?_) φ a w hc
    · rw [bit_setBit]
      by_cases hij : j = i
      · subst hij; simp [hs, hj1]
      · rw [getD_set_ne' hij, hl i hi]; simp [hij]
    · rw [bit_setBit] at hi
      simp only [Bool.or_eq_true, decide_eq_true_eq] at hi
      rcases hi with h | rfl
      · exact hm i h
      · exact hj1

def KE (K : Exit → St → Prop) : St → Prop := fun st => ∃ s0, K .normal s0 ∧ Eqv st s0

theorem T_draw {cw : Md} {c : Ctx} {id : Nat} {ops : Array Oper} {st : St} {K : Exit → St → Prop} (hm : c.P.follows .mixedOrders = true) (h : Dv cw c ops (KE K) 0 st) : T c (.region id ops true) st K := by
  intro φ a w hc
  refine wp_region_any hm ?_
  refine Dv.sound (K' := KE K) (fun st st' he ⟨s0, h1, h2⟩ => ⟨s0, h1, he.symm.trans h2⟩) (fun st h => h) ops.size 0 st _ h ?_ (by simp) (fun i hi => by simp [bit, hi]) ?_ (fun i hi => by simp [bit] at hi) φ a _
    (hc.below ⟨rfl, rfl, rfl, Nat.le_refl _, fun _ _ => rfl⟩)
  · exact Nat.le_trans List.countP_le_length (by simp)
  · intro j o _ hb; simp [bit] at hb
end Go.Vx

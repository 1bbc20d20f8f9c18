/- A text of the proof: a verified executor of the program form, or the contracts of the functions that the law reaches. -/
import Derived.Test.YtecdkapjjhkanaaDoorVxR
set_option linter.all false
namespace Go.Vx
open Go Go.RowKit
section
variable {c : Ctx} {ops : Array Oper} {st : St} {dst : Option Tmp} {ty : TypeId} {pos : String} {after : Array Edge}

/-! ## Functions that capture -/
inductive OpsV (c : Ctx) (st : St) : List Operand → List AV → Prop
  | nil : OpsV c st [] []
  | cons {x : Operand} {av : AV} {xs : List Operand} {l : List AV} : Opv c st x av → OpsV c st xs l → OpsV c st (x :: xs) (av :: l)
theorem OpsV.rel {xs : List Operand} {l : List AV} (h : OpsV c st xs l) {φ : Phi} {a : Act} {w : World} (hc : Conc c φ st a w) :
    xs.length = l.length ∧ ∀ i, i < l.length → RelF c.P w (Mut c.A φ st.hp) st.hp.length φ (l.getD i .any) ((xs.map a.eval).getD i undef) := by
  induction h with
  | nil => exact ⟨rfl, fun i hi => by cases hi⟩
  | cons h1 _ ih =>
    refine ⟨by simp [ih.1], fun i hi => ?_⟩
    cases i with
    | zero => simpa using h1 φ a w hc
    | succ i => simpa using ih.2 i (by simpa using hi)

theorem v_makeFunc {f : FuncId} {xs : List Operand} {l : List AV} (h : OpsV c st xs l) : SVal c ops st ⟨dst, .makeFunc (.func f) #[] xs.toArray, ty, pos, after, none⟩ (.fn f l) :=
  .pure rfl fun φ a w hc => by
    obtain ⟨h1, h2⟩ := h.rel hc
    refine ⟨.func (.func f) #[] (xs.map a.eval).toArray, by simp [execOp, Instr.makeFunc], fun φ' hφ => .fn f l _ (by simp [h1]) fun i hi => ?_⟩
    have := h2 i hi φ' hφ
    simpa [Array.getD_eq_getD_getElem?, List.getD_eq_getElem?_getD] using this

theorem relF_fnC {P : Program} {w : World} {M : Nat → Prop} {n : Nat} {φ : Phi} {f : FuncId} {l : List AV} {v : Value} (h : RelF P w M n φ (.fn f l) v) :
    ∃ vs, v = .func (.func f) #[] vs ∧ l.length = vs.size ∧ ∀ i, i < l.length → RelF P w M n φ (l.getD i .any) (vs.getD i undef) := by
  have key : ∀ φ', Rel P w M φ' (.fn f l) v → ∃ vs, v = .func (.func f) #[] vs ∧ l.length = vs.size ∧ ∀ i, i < l.length → Rel P w M φ' (l.getD i .any) (vs.getD i undef) := by
    intro φ' h
    cases h with
    | data h => cases h with | fn _ _ vs h1 h2 => exact ⟨vs, rfl, h1, fun i hi => .data (h2 i hi)⟩
    | fn _ _ vs h1 h2 => exact ⟨vs, rfl, h1, h2⟩
  obtain ⟨vs, rfl, h1, _⟩ := key φ (h φ (fun _ _ => rfl))
  refine ⟨vs, rfl, h1, fun i hi φ' hφ => ?_⟩
  obtain ⟨vs', e, _, h3⟩ := key φ' (h φ' hφ)
  cases e
  exact h3 i hi

/-- A pointer to an object of ours, lent to be read. -/
theorem View.ptr {r n i j : Nat} {o : Own} {row row' : List AV} (ho : nth st.hp r = some o) (hn : o.es.length = n) (hrow : o.es[i]? = some row) (hv : Pw (View c st) row row') : View c st (.ptr r n i j) (.rp row' j) := by
  intro φ a w hc v hr
  obtain ⟨b, cs, h1, h2, h3, h4, h5, _, _, h6, h7⟩ := live_cells hc ho hrow
  obtain ⟨b', hb', hx⟩ := relF_ptr hr (by rw [h2, hn])
  rw [h1] at hb'; cases hb'
  rw [hx, h3]
  have hl := hv.len
  refine .rp row' b (i * row.length) j (fun k => cs.getD (i * row.length + k) undef) (Array.getElem?_eq_some_iff.1 h4).1 (hc.hok.owned r o b ho h1).2 (fun k hk => ?_) (fun k hk => hv.get k (by omega) φ a w hc _ (h7 k (by omega)))
  rw [cell_of_cells h4, Array.getElem?_eq_getElem (h6 k (by omega))]
  simp [h6 k (by omega)]

theorem View.fn {f : FuncId} {l l' : List AV} (h : Pw (View c st) l l') : View c st (.fn f l) (.fn f l') := by
  intro φ a w hc v hv
  obtain ⟨vs, rfl, h1, h2⟩ := relF_fnC hv
  exact .fn f l' vs (by rw [← h.len]; exact h1) fun i hi => h.get i (by rw [h.len]; exact hi) φ a w hc _ (h2 i (by rw [h.len]; exact hi))

theorem Dat.fnC {f : FuncId} {l l' : List AV} (h : Pw (Dat c st) l l') : Dat c st (.fn f l) (.fn f l') := by
  intro φ a w hc v hv
  obtain ⟨vs, rfl, h1, h2⟩ := relF_fnC hv
  exact .fn f l' vs (by rw [← h.len]; exact h1) fun i hi => h.get i (by rw [h.len]; exact hi) φ a w hc _ (h2 i (by rw [h.len]; exact hi))

/-- A call through a function value that captures data. -/
theorem v_callC {f : FuncId} {t : Tmp} {xs : List Operand} {ts : Array TypeId} {ds caps : List AV} {res : AV} (hf : Opv c st (.tmp t) (.fn f caps)) (hcap : caps.all datB = true) (hs : CSpec c.P c.gl f (ds ++ caps) res) (ha : ArgsD c st xs ds) :
    SVal c ops st ⟨dst, .call { callee := .value (.tmp t), args := xs.toArray, argTypes := ts }, ty, pos, after, none⟩ res := by
  intro φ a w hc
  refine ⟨fun _ => ?_, fun hw => by cases hw⟩
  obtain ⟨hl, hr⟩ := ha.rel hc
  obtain ⟨vs, hfv, hvl, hvr⟩ := relF_fnC (hf φ a w hc)
  unfold Oper.wp
  have e : (execOp a.eval ⟨dst, .call { callee := .value (.tmp t), args := xs.toArray, argTypes := ts }, ty, pos, after, none⟩).run c.P w = .ok (.enter f ((xs.map a.eval).toArray ++ vs)) w := by
    simp [execOp, resolve, hfv, Deferred.ofValue, invoke, run_callFunc hs.call]
  rw [e]
  refine (hs.spec (Mut c.A φ st.hp) w _ (mut_lt hc) (glob_now hc) (by simp [hl, hvl]) (fun i hi => ?_)).mono ?_
  · by_cases h : i < ds.length
    · have := hr i h
      have hx : i < xs.length := by omega
      simpa [Array.getD_eq_getD_getElem?, List.getD_eq_getElem?_getD, Array.getElem?_append, List.getElem?_append, h, hx] using this
    · have hi' : i - ds.length < caps.length := by simp at hi; omega
      have hd := Dat.b (c := c) (st := st) (av := caps.getD (i - ds.length) .any) (by
        have : caps.getD (i - ds.length) .any = caps[i - ds.length] := by simp [List.getD_eq_getElem?_getD, hi']
        rw [this]; exact List.all_eq_true.1 hcap _ (List.getElem_mem _))
      have := hd φ a w hc _ (hvr (i - ds.length) hi')
      have hx : ¬ i < xs.length := by omega
      have e1 : (ds ++ caps).getD i .any = caps.getD (i - ds.length) .any := by simp [List.getD_eq_getElem?_getD, List.getElem?_append, h]
      have e2 : ((xs.map a.eval).toArray ++ vs).getD i undef = vs.getD (i - ds.length) undef := by
        simp [Array.getD_eq_getD_getElem?, Array.getElem?_append, hl, h]
      rw [e1, e2]; exact this
  · rintro e w' ⟨v, rfl, hb, hv⟩
    exact ⟨v, rfl, hb, relF_data hv⟩
end
end Go.Vx

/- A text of the proof: a verified executor of the program form, or the contracts of the functions that the law reaches. -/
import Derived.Test.YtecdkapjjhkanaaDoorVxU
set_option linter.all false
namespace Go.Vx
open Go Go.RowKit

/-! ## Functions to which objects are lent -/

/-- Function f, called with args over the objects os that are lent to it: it returns res, over the objects os'. -/
def GSpec0 (P : Program) (gl : Gl) (f : FuncId) (args : List AV) (os : List (Option Own)) (res : AV) (os' : List (Option Own)) : Prop :=
  ∀ (A : Nat → Prop) (W : List Nat) (w : World) (φ : Phi) (vals : Array Value), HeapOK ⟨P, 0, w, A, W, gl, os.length, φ⟩ φ os w → vals.size = args.length →
    (∀ i, i < args.length → RelF P w (Mut A φ os) os.length φ (args.getD i .any) (vals.getD i undef)) →
    Calls P f vals w fun e w' => ∃ v φ', e = .returned v ∧ HeapOK ⟨P, 0, w, A, W, gl, os.length, φ⟩ φ' os' w' ∧ RelF P w' (Mut A φ' os') os'.length φ' res v

structure GSpec (P : Program) (gl : Gl) (f : FuncId) (args : List AV) (os : List (Option Own)) (res : AV) (os' : List (Option Own)) : Prop where
  call : callable P f = true
  spec : GSpec0 P gl f args os res os'

/-- What a result variable gives, in the words of the state. -/
inductive RetW (c : Ctx) (st : St) : ResultVar → AV → Prop
  | tmp {t : Nat} {av : AV} : look st.tm t = some av → RetW c st (.tmp t) av
  | agg {t ty r n i j sz : Nat} {o : Own} {row l : List AV} : look st.tm t = some (.ptr r n i j) → nth st.hp r = some o → o.es.length = n → o.es[i]? = some row → tAgg c.P ty sz = true → (row.drop j).take sz = l → l.length = sz →
      RetW c st (.cell t ty) (.agg l)
  | scal {t ty r n i j : Nat} {o : Own} {row : List AV} {v : AV} : look st.tm t = some (.ptr r n i j) → nth st.hp r = some o → o.es.length = n → o.es[i]? = some row → tScal c.P ty = true → row[j]? = some v →
      RetW c st (.cell t ty) v

theorem RetW.sound {c : Ctx} {st : St} {rv : ResultVar} {dv : AV} (h : RetW c st rv dv) {φ : Phi} {a : Act} {w : World} (hc : Conc c φ st a w) :
    ∃ v, (rvRun a.tmps rv).run c.P w = .ok v w ∧ RelF c.P w (Mut c.A φ st.hp) st.hp.length φ dv v := by
  unfold rvRun
  cases h with
  | tmp hl => exact ⟨_, rfl, hc.tm _ _ hl⟩
  | @agg t ty r n i j sz o row l hl ho hn hrow ht hl' hlen =>
    obtain ⟨b, cs, h1, h2, h3, h4, h5, _, _, h6, h7⟩ := live_cells hc ho hrow
    obtain ⟨b', hb', hx⟩ := relF_ptr (hc.tm t _ hl) (by rw [h2, hn])
    rw [h1] at hb'; cases hb'
    obtain ⟨_, _, _, _, _, _, _, hsz0⟩ := tAgg.spec ht
    have hjl : j + sz ≤ row.length := by rw [← hl'] at hlen; simp at hlen; omega
    refine ⟨.agg ((cs.toList.drop (i * row.length + j)).take sz).toArray, ?_, ?_⟩
    · simp only [hx, h3]
      have := run_loadAt_agg w b (i * row.length + j) ty sz ((cs.toList.drop (i * row.length + j)).take sz) ht (by
        simp
        have := h6 (j + sz - 1) (by omega)
        omega) (fun k hk => by
        rw [cell_of_cells h4]
        have := h6 (j + k) (by omega)
        simp [List.getD_eq_getElem?_getD, hk, List.getElem?_drop]
        have e : i * row.length + j + k = i * row.length + (j + k) := by omega
        rw [e, Array.getElem?_eq_getElem (by omega)]
        simp)
      simp only [Instr.loadAt, Instr.sureAddr] at this
      exact this
    · refine relF_aggI ?_ fun k hk => ?_
      · simp [hlen]
        have := h6 (j + sz - 1) (by omega)
        omega
      · have h8 := h7 (j + k) (by omega)
        have e1 : l.getD k .any = row.getD (j + k) .any := by
          rw [← hl']; simp [List.getD_eq_getElem?_getD, List.getElem?_drop, show k < sz by omega]
        have e2 : ((cs.toList.drop (i * row.length + j)).take sz).toArray.getD k undef = cs.getD (i * row.length + (j + k)) undef := by
          simp [Array.getD_eq_getD_getElem?, List.getElem?_drop, show k < sz by omega, Nat.add_assoc]
        rw [e1, e2]; exact h8
  | @scal t ty r n i j o row v hl ho hn hrow ht hv =>
    obtain ⟨b, cs, h1, h2, h3, h4, h5, _, _, h6, h7⟩ := live_cells hc ho hrow
    obtain ⟨b', hb', hx⟩ := relF_ptr (hc.tm t _ hl) (by rw [h2, hn])
    rw [h1] at hb'; cases hb'
    have hj : j < row.length := (List.getElem?_eq_some_iff.1 hv).1
    have h6' := h6 j hj
    refine ⟨cs.getD (i * row.length + j) undef, ?_, ?_⟩
    · simp only [hx, h3]
      have := run_loadAt_scal w b (i * row.length + j) ty (cs.getD (i * row.length + j) undef) ht (by
        rw [cell_of_cells h4, Array.getElem?_eq_getElem h6']; simp [h6'])
      simp only [Instr.loadAt, Instr.sureAddr] at this
      exact this
    · have := h7 j hj
      rw [getD_of_get? hv] at this
      exact this

inductive RetWs (c : Ctx) (st : St) : List ResultVar → List AV → Prop
  | nil : RetWs c st [] []
  | cons {r : ResultVar} {d : AV} {rs : List ResultVar} {ds : List AV} : RetW c st r d → RetWs c st rs ds → RetWs c st (r :: rs) (d :: ds)

def packR : List AV → AV
  | [d] => d
  | ds => .tuple ds

theorem RetWs.run {c : Ctx} {st : St} {rs : List ResultVar} {ds : List AV} (h : RetWs c st rs ds) {φ : Phi} {a : Act} {w : World} (hc : Conc c φ st a w) :
    ∃ vs : List Value, (rs.mapM (fun r => rvRun a.tmps r)).run c.P w = .ok vs w ∧ ds.length = vs.length ∧ rs.length = vs.length ∧ ∀ i, i < ds.length → RelF c.P w (Mut c.A φ st.hp) st.hp.length φ (ds.getD i .any) (vs.getD i undef) := by
  induction h with
  | nil => exact ⟨[], rfl, rfl, rfl, fun i hi => by cases hi⟩
  | cons h1 _ ih =>
    obtain ⟨v, e1, e2⟩ := h1.sound hc
    obtain ⟨vs, f1, f2, f2', f3⟩ := ih
    refine ⟨v :: vs, ?_, by simp [f2], by simp [f2'], fun i hi => ?_⟩
    · simp [e1, f1]
    · cases i with
      | zero => simpa using e2
      | succ i => simpa using f3 i (by simpa using hi)

theorem relF_tupI {P : Program} {w : World} {M : Nat → Prop} {m : Nat} {φ : Phi} {l : List AV} {vs : Array Value} (h1 : l.length = vs.size) (h2 : ∀ i, i < l.length → RelF P w M m φ (l.getD i .any) (vs.getD i undef)) :
    RelF P w M m φ (.tuple l) (.tuple vs) := fun φ' hφ => .tuple l vs h1 fun i hi => h2 i hi φ' hφ

theorem RetWs.sound {c : Ctx} {st : St} {fn : Func} {rs : List ResultVar} {ds : List AV} (hrs : fn.results = rs.toArray) (h : RetWs c st rs ds) {φ : Phi} {a : Act} {w : World} (hc : Conc c φ st a w) :
    ∃ v, (results fn a.tmps).run c.P w = .ok v w ∧ RelF c.P w (Mut c.A φ st.hp) st.hp.length φ (packR ds) v := by
  obtain ⟨vs, h1, h2, h2', h3⟩ := h.run hc
  have key : (rs.toArray.mapM (rvRun a.tmps)).run c.P w = .ok vs.toArray w := by
    have h1 : (List.mapM (rvRun a.tmps) rs).run c.P w = .ok vs w := h1
    simp [h1]
  rw [run_results, hrs, key]
  clear key h1
  cases h with
  | nil =>
    cases vs with
    | nil => exact ⟨.tuple #[], rfl, relF_tupI rfl fun i hi => by cases hi⟩
    | cons v vs => simp at h2
  | @cons r d rs ds hr hq =>
    cases hq with
    | nil =>
      cases vs with
      | nil => simp at h2
      | cons v vs =>
        cases vs with
        | cons v' vs => simp at h2
        | nil => exact ⟨v, rfl, h3 0 (by simp)⟩
    | @cons r' d' rs ds hr' hq' =>
      cases vs with
      | nil => simp at h2
      | cons v vs =>
        cases vs with
        | nil => simp at h2
        | cons v' vs => exact ⟨.tuple (v :: v' :: vs).toArray, by simp, relF_tupI (by simpa using h2) fun i hi => by simpa [Array.getD_eq_getD_getElem?, List.getD_eq_getElem?_getD] using h3 i hi⟩
end Go.Vx

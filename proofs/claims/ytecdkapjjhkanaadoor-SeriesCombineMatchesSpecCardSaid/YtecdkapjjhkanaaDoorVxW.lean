/- A text of the proof: a verified executor of the program form, or the contracts of the functions that the law reaches. -/
import Derived.Test.YtecdkapjjhkanaaDoorVxV
set_option linter.all false
namespace Go.Vx
open Go Go.RowKit

def retG (c : Ctx) (rs : Array ResultVar) (res : AV) (os' : List (Option Own)) : Exit → St → Prop
  | .ret, st | .normal, st => ∃ (s : List (Option Nat)) (rs' : List ResultVar) (ds : List AV), rs = rs'.toArray ∧ RetWs c st rs' ds ∧ SelHp c.P (selQ s st.hp) st.hp s os' ∧ dupB s = true ∧ fixB' 0 c.n0 s = true ∧ RenR (selQ s st.hp) (packR ds) res
  | _, _ => False
theorem retg {c : Ctx} {st : St} {rs : Array ResultVar} {res : AV} {os' : List (Option Own)} (s : List (Option Nat)) {rs' : List ResultVar} {ds : List AV} (h1 : rs = rs'.toArray) (h2 : RetWs c st rs' ds) (h3 : SelHp c.P (selQ s st.hp) st.hp s os')
    (h4 : dupB s = true) (h5 : fixB' 0 c.n0 s = true) (h6 : RenR (selQ s st.hp) (packR ds) res) : retG c rs res os' .ret st := ⟨s, rs', ds, h1, h2, h3, h4, h5, h6⟩

theorem gspec_of {P : Program} {gl : Gl} {f : FuncId} {fn : Func} {code : Code} {args : List AV} {os os' : List (Option Own)} {res : AV} (hc : callable P f = true) (hf : P.funcs[f]? = some fn) (hb : fn.body = some code)
    (hlen : Nat.ble args.length fn.ntmps = true)
    (hT : ∀ w0 A W φ0, T ⟨P, fn.ntmps, w0, A, W, gl, os.length, φ0⟩ code ⟨enumA 0 args, os⟩ (retG ⟨P, fn.ntmps, w0, A, W, gl, os.length, φ0⟩ fn.results res os')) : GSpec P gl f args os res os' := by
  refine ⟨hc, fun A W w φ vals hok hsz hv => ?_⟩
  have hlen : args.length ≤ fn.ntmps := by simpa using hlen
  refine calls_of_wp hf hb ?_
  have hconc : Conc ⟨P, fn.ntmps, w, A, W, gl, os.length, φ⟩ φ ⟨enumA 0 args, os⟩ { tmps := vals ++ Array.replicate (fn.ntmps - vals.size) undef, defers := [] } w := by
    refine ⟨by simp; omega, rfl, ⟨hok.os, hok.tape, hok.output, hok.heap, hok.frame, hok.owned, hok.apart, hok.obj, hok.amb, hok.glob, hok.len, hok.mono⟩, ?_⟩
    intro t av ht
    obtain ⟨_, h2, h3⟩ := look_enumA ht
    simp only [Nat.sub_zero] at h2 h3
    have := hv t h2
    rw [h3] at this
    have e : (vals ++ Array.replicate (fn.ntmps - vals.size) undef).getD t undef = vals.getD t undef := by
      simp [Array.getD_eq_getD_getElem?, Array.getElem?_append, show t < vals.size by omega]
    rw [e]
    exact this
  refine wp_mono (hT w A W φ _ _ _ hconc) ?_
  rintro e a' w' ⟨st', φ', hk, hc'⟩
  have fin : retG ⟨P, fn.ntmps, w, A, W, gl, os.length, φ⟩ fn.results res os' .ret st' → a'.defers = [] ∧ ∃ v, (results fn a'.tmps).run P w' = .ok v w' ∧
      (∃ v' φ', Ending.returned v = .returned v' ∧ HeapOK ⟨P, 0, w, A, W, gl, os.length, φ⟩ φ' os' w' ∧ RelF P w' (Mut A φ' os') os'.length φ' res v') := by
    rintro ⟨s, rs', ds, h2, h4, h5, h6, h7, h8⟩
    obtain ⟨v, e1, e2⟩ := h4.sound h2 hc'
    obtain ⟨φ2, hok, hren⟩ := sel_core hc' s h5 h6 h7
    exact ⟨hc'.defers, v, e1, v, φ2, rfl, ⟨hok.os, hok.tape, hok.output, hok.heap, hok.frame, hok.owned, hok.apart, hok.obj, hok.amb, hok.glob, hok.len, hok.mono⟩, hren _ _ _ h8 e2⟩
  cases e with
  | ret => exact fin hk
  | normal => exact fin hk
  | exit id => exact hk.elim
  | goto l => exact hk.elim
  | panic ch => exact hk.elim
  | outgrown => exact hk.elim

/-! ## A call that lends -/

/-- The callee's object i is the caller's r: those of ρ are lent, those behind are new from n on. -/
def callR (ρ : List Nat) (n : Nat) (i r : Nat) : Prop := ρ[i]? = some r ∨ (ρ.length ≤ i ∧ r = n + (i - ρ.length))

inductive ArgsG (c : Ctx) (st : St) (R : Rw) : List Operand → List AV → Prop
  | nil : ArgsG c st R [] []
  | cons {x : Operand} {av d : AV} {xs : List Operand} {ds : List AV} : Opv c st x av → RenR R av d → ArgsG c st R xs ds → ArgsG c st R (x :: xs) (d :: ds)

/-- The caller's objects behind the call, from number r on. -/
inductive Back (P : Program) (ρ : List Nat) (n : Nat) (hp os' : List (Option Own)) : Nat → List (Option Own) → Prop
  | nil {r : Nat} : Back P ρ n hp os' r []
  | none {r : Nat} {tl : List (Option Own)} : Back P ρ n hp os' (r + 1) tl → Back P ρ n hp os' r (none :: tl)
  | keep {r : Nat} {o : Own} {tl : List (Option Own)} : nth hp r = some o → ρ.contains r = false → Back P ρ n hp os' (r + 1) tl → Back P ρ n hp os' r (some o :: tl)
  | lent {r : Nat} {o o2 : Own} {tl : List (Option Own)} (i : Nat) : callR ρ n i r → nth os' i = some o → RenOO P (rwR (callR ρ n)) o o2 → Back P ρ n hp os' (r + 1) tl → Back P ρ n hp os' r (some o2 :: tl)

theorem Back.get {P : Program} {ρ : List Nat} {n : Nat} {hp os' : List (Option Own)} {k : Nat} {tl : List (Option Own)} (h : Back P ρ n hp os' k tl) : ∀ r o2, nth tl r = some o2 →
    (∃ i o, callR ρ n i (k + r) ∧ nth os' i = some o ∧ RenOO P (rwR (callR ρ n)) o o2) ∨ (nth hp (k + r) = some o2 ∧ ρ.contains (k + r) = false) := by
  induction h with
  | nil => intro r o2 h; cases h
  | none _ ih =>
    intro r o2 h
    cases r with
    | zero => cases h
    | succ r => have := ih r o2 h; rwa [Nat.add_assoc, Nat.add_comm 1 r] at this
  | keep h1 h2 _ ih =>
    intro r o2 h
    cases r with
    | zero => cases h; exact .inr ⟨h1, h2⟩
    | succ r => have := ih r o2 h; rwa [Nat.add_assoc, Nat.add_comm 1 r] at this
  | lent i h1 h2 h3 _ ih =>
    intro r o2 h
    cases r with
    | zero => cases h; exact .inl ⟨i, _, h1, h2, h3⟩
    | succ r => have := ih r o2 h; rwa [Nat.add_assoc, Nat.add_comm 1 r] at this

/-- The objects that are lent, told in the callee's numbers. -/
inductive Lend (P : Program) (ρ : List Nat) (hp : List (Option Own)) : List Nat → List (Option Own) → Prop
  | nil : Lend P ρ hp [] []
  | cons {r : Nat} {o o1 : Own} {s : List Nat} {os : List (Option Own)} : nth hp r = some o1 → RenOO P (rwR fun r i => ρ[i]? = some r) o1 o → Lend P ρ hp s os → Lend P ρ hp (r :: s) (some o :: os)

theorem Lend.len {P : Program} {ρ : List Nat} {hp : List (Option Own)} {s : List Nat} {os : List (Option Own)} (h : Lend P ρ hp s os) : os.length = s.length := by induction h <;> simp_all
theorem Lend.get {P : Program} {ρ : List Nat} {hp : List (Option Own)} {s : List Nat} {os : List (Option Own)} (h : Lend P ρ hp s os) : ∀ i r, s[i]? = some r → ∃ o o1, nth os i = some o ∧ nth hp r = some o1 ∧ RenOO P (rwR fun r i => ρ[i]? = some r) o1 o := by
  induction h with
  | nil => intro i r h; simp at h
  | cons h1 h2 _ ih =>
    intro i r h
    cases i with
    | zero => simp at h; subst h; exact ⟨_, _, rfl, h1, h2⟩
    | succ i => simpa [nth] using ih i r (by simpa using h)

theorem ArgsG.rel {c : Ctx} {st : St} {R : Rw} {xs : List Operand} {ds : List AV} (h : ArgsG c st R xs ds) {φ : Phi} {a : Act} {w : World} (hc : Conc c φ st a w) :
    xs.length = ds.length ∧ ∀ i, i < ds.length → ∃ av, RenR R av (ds.getD i .any) ∧ RelF c.P w (Mut c.A φ st.hp) st.hp.length φ av ((xs.map a.eval).getD i undef) := by
  induction h with
  | nil => exact ⟨rfl, fun i hi => by cases hi⟩
  | @cons x av d xs ds h1 h2 _ ih =>
    refine ⟨by simp [ih.1], fun i hi => ?_⟩
    cases i with
    | zero => exact ⟨av, by simpa using h2, by simpa using h1 φ a w hc⟩
    | succ i => simpa using ih.2 i (by simpa using hi)

section
variable {c : Ctx} {ops : Array Oper} {st : St} {dst : Option Tmp} {ty : TypeId} {pos : String} {after : Array Edge}

/-- What a call that lends makes of the state. -/
theorem call_lends {φ : Phi} {a : Act} {w : World} (hc : Conc c φ st a w) {f : FuncId} {ds : List AV} {os os' hp' : List (Option Own)} {res res' : AV} {vals : Array Value} (ρ : List Nat) (hs : GSpec c.P c.gl f ds os res os')
    (hvs : vals.size = ds.length) (ha : ∀ i, i < ds.length → ∃ av, RenR (rwR fun r i => ρ[i]? = some r) av (ds.getD i .any) ∧ RelF c.P w (Mut c.A φ st.hp) st.hp.length φ av (vals.getD i undef))
    (hl : Lend c.P ρ st.hp ρ os) (hnd : nodupB ρ = true) (hb : Back c.P ρ st.hp.length st.hp os' 0 hp') (hlen : st.hp.length + (os'.length - ρ.length) = hp'.length) (hr : RenR (rwR (callR ρ st.hp.length)) res res')
    (hin : os'.length ≥ ρ.length) :
    Calls c.P f vals w fun e w' => ∃ v φ', e = .returned v ∧ HeapOK c φ' hp' w' ∧
      (∀ av x, RelF c.P w (Mut c.A φ st.hp) st.hp.length φ av x → RelF c.P w' (Mut c.A φ' hp') hp'.length φ' av x) ∧ RelF c.P w' (Mut c.A φ' hp') hp'.length φ' res' v := by
  have hos := hl.len
  have hok := hc.hok
  generalize hhp : st.hp = hp at *
  -- the callee's view
  let W' : List Nat := ρ.filterMap fun r => (φ r).blk
  have hW' : ∀ b, b ∈ W' ↔ ∃ i r, ρ[i]? = some r ∧ (φ r).blk = some b := fun b => by
    simp only [W', List.mem_filterMap]
    constructor
    · rintro ⟨r, h1, h2⟩
      obtain ⟨i, hi⟩ := List.mem_iff_getElem?.1 h1
      exact ⟨i, r, hi, h2⟩
    · rintro ⟨i, r, h1, h2⟩
      exact ⟨r, List.mem_of_getElem? h1, h2⟩
  let A' : Nat → Prop := fun b => Mut c.A φ hp b ∧ b ∉ W'
  let φc : Phi := fun i => match ρ[i]? with | some r => φ r | none => φz i
  have hφc : ∀ i r, ρ[i]? = some r → φc i = φ r := fun i r h => by simp only [φc, h]
  have hlentMut : ∀ b, b ∈ W' → ∃ r o, ρ.contains r = true ∧ nth hp r = some o ∧ (φ r).blk = some b := fun b hb => by
    obtain ⟨i, r, h1, h2⟩ := (hW' b).1 hb
    obtain ⟨o, o1, h3, h4, h5⟩ := hl.get i r h1
    exact ⟨r, o1, by simpa using List.mem_of_getElem? h1, h4, h2⟩
  have hmutlt : ∀ b, Mut c.A φ hp b → b < w.heap.size := fun b hb => mut_lt hc b (by rw [hhp]; exact hb)
  have hMsub : ∀ b, Mut A' φc os b → Mut c.A φ hp b := by
    rintro b (ha | ⟨i, o, hi, hbk⟩)
    · exact ha.1
    · have hlt := nth_lt hi
      obtain ⟨r, hr⟩ : ∃ r, ρ[i]? = some r := ⟨ρ[i]'(by omega), by simp [show i < ρ.length by omega]⟩
      obtain ⟨o', o1, h3, h4, h5⟩ := hl.get i r hr
      rw [hφc i r hr] at hbk
      exact .inr ⟨r, o1, h4, hbk⟩
  have hRin : ∀ x y, (fun r i => ρ[i]? = some r) x y → y < os.length ∧ φc y = φ x := fun x y h => ⟨by rw [hos]; exact (List.getElem?_eq_some_iff.1 h).1, hφc y x h⟩
  have hgl := glob_now hc
  rw [hhp] at hgl
  have hok' : HeapOK ⟨c.P, 0, w, A', W', c.gl, os.length, φc⟩ φc os w := by
    refine ⟨rfl, rfl, rfl, Nat.le_refl _, fun _ _ _ => rfl, ?_, ?_, ?_, fun b hb => ⟨hmutlt b hb.1, hb.2⟩, ?_, Nat.le_refl _, fun r _ => .inl rfl⟩
    · intro i o b hi hbk
      have hlt := nth_lt hi
      obtain ⟨r, hr⟩ : ∃ r, ρ[i]? = some r := ⟨ρ[i]'(by omega), by simp [show i < ρ.length by omega]⟩
      rw [hφc i r hr] at hbk
      have : b ∈ W' := (hW' b).2 ⟨i, r, hr, hbk⟩
      exact ⟨.inl this, fun h => h.2 this⟩
    · intro i i' o o' b hi hi' hbk hbk'
      have hlt := nth_lt hi
      have hlt' := nth_lt hi'
      obtain ⟨r, hr⟩ : ∃ r, ρ[i]? = some r := ⟨ρ[i]'(by omega), by simp [show i < ρ.length by omega]⟩
      obtain ⟨r', hr'⟩ : ∃ r, ρ[i']? = some r := ⟨ρ[i']'(by omega), by simp [show i' < ρ.length by omega]⟩
      rw [hφc i r hr] at hbk
      rw [hφc i' r' hr'] at hbk'
      obtain ⟨_, o1, _, h4, _⟩ := hl.get i r hr
      obtain ⟨_, o1', _, h4', _⟩ := hl.get i' r' hr'
      have := hok.apart r r' o1 o1' b h4 h4' hbk hbk'
      subst this
      exact nodup_of hnd i i' r hr hr'
    · intro i o hi
      have hlt := nth_lt hi
      obtain ⟨r, hr⟩ : ∃ r, ρ[i]? = some r := ⟨ρ[i]'(by omega), by simp [show i < ρ.length by omega]⟩
      obtain ⟨o', o1, h3, h4, h5⟩ := hl.get i r hr
      rw [hi] at h3; cases h3
      exact (hok.obj r o1 h4).ren (hφc i r hr) h5 fun ψ hψ => rwR_ok (fun x y hxy => (hψ y (hRin x y hxy).1).trans (hRin x y hxy).2) (fun b _ hm hm' => hm (hMsub b hm'))
    · refine ⟨hgl.len, fun b hw => ?_, fun p hp => ?_⟩
      · obtain ⟨r, o, _, h5, h6⟩ := hlentMut b hw
        rcases (hok.owned r o b h5 h6).1 with h7 | h7
        · exact hok.glob.W b h7
        · exact Nat.le_trans hok.glob.len h7
      · obtain ⟨h1, h2, h3⟩ := hgl.tab p hp
        exact ⟨h1, h2, fun ha => h3 ha.1⟩
  refine (hs.spec A' W' w φc vals hok' hvs (fun i hi => ?_)).mono ?_
  · obtain ⟨av, h1, h2⟩ := ha i hi
    exact h2.ren h1 fun ψ hψ => rwR_ok (fun x y hxy => (hψ y (hRin x y hxy).1).trans (hRin x y hxy).2) (fun b _ hm hm' => hm (hMsub b hm'))
  rintro e w' ⟨v, φ', rfl, hq, hv⟩
  -- back at the caller
  let φ'' : Phi := fun r => if r < hp.length then (match ρ.findIdx? (· == r) with | some i => φ' i | none => φ r) else φ' (ρ.length + (r - hp.length))
  have hlt_of : ∀ i r, ρ[i]? = some r → r < hp.length := fun i r h => by
    obtain ⟨_, o1, _, h4, _⟩ := hl.get i r h
    exact nth_lt h4
  have hφR : ∀ i r, callR ρ hp.length i r → φ'' r = φ' i := by
    rintro i r (h | ⟨h1, rfl⟩)
    · have hlt := hlt_of i r h
      have hfi : ρ.findIdx? (· == r) = some i := by
        rw [List.findIdx?_eq_some_iff_getElem]
        obtain ⟨hi, he⟩ := List.getElem?_eq_some_iff.1 h
        refine ⟨hi, by simp [he], fun j hj => ?_⟩
        simp only [beq_iff_eq]
        intro hje
        have : j = i := nodup_of hnd j i r (by rw [List.getElem?_eq_getElem (by omega)]; exact congrArg some hje) h
        omega
      simp only [φ'', if_pos hlt, hfi]
    · simp only [φ'', if_neg (show ¬ hp.length + (i - ρ.length) < hp.length by omega)]
      congr 1; omega
  have hφK : ∀ r, r < hp.length → ρ.contains r = false → φ'' r = φ r := fun r h1 h2 => by
    have : ρ.findIdx? (· == r) = none := by
      rw [List.findIdx?_eq_none_iff]
      intro x hx
      cases hxr : x == r
      · rfl
      · rw [beq_iff_eq] at hxr
        subst hxr
        rw [List.contains_eq_mem] at h2
        simp [hx] at h2
    simp only [φ'', if_pos h1, this]
  have hgrow : ∀ r, r < hp.length → φ'' r = φ r ∨ (φ r).n < (φ'' r).n := fun r h => by
    cases hcr : ρ.contains r with
    | false => exact .inl (hφK r h hcr)
    | true =>
      obtain ⟨i, hi⟩ := List.mem_iff_getElem?.1 (show r ∈ ρ by simpa using hcr)
      rw [hφR i r (.inl hi), ← hφc i r hi]
      exact hq.mono i (by show i < os.length; rw [hos]; exact (List.getElem?_eq_some_iff.1 hi).1)
  have hback : ∀ r o2, nth hp' r = some o2 → (∃ i o, callR ρ hp.length i r ∧ nth os' i = some o ∧ RenOO c.P (rwR (callR ρ hp.length)) o o2) ∨ (nth hp r = some o2 ∧ ρ.contains r = false) := fun r o2 h => by
    have := hb.get r o2 h
    rwa [Nat.zero_add] at this
  -- blocks of the callee's objects: lent ones, or new
  have hcb : ∀ i o b, nth os' i = some o → (φ' i).blk = some b → (b ∈ W' ∨ w.heap.size ≤ b) ∧ ¬ A' b := fun i o b h1 h2 => hq.owned i o b h1 h2
  have hframe : ∀ b, b < w.heap.size → b ∉ W' → w'.heap[b]? = w.heap[b]? := fun b h1 h2 => hq.frame b h1 h2
  have hnMut : ∀ b, b < w.heap.size → ¬ Mut c.A φ hp b → w'.heap[b]? = w.heap[b]? := fun b h1 h2 => hframe b h1 fun hw => by
    obtain ⟨r, o, _, h5, h6⟩ := hlentMut b hw
    exact h2 (.inr ⟨r, o, h5, h6⟩)
  have hmm : ∀ b, b < w.heap.size → ¬ Mut c.A φ hp b → ¬ Mut c.A φ'' hp' b := by
    rintro b hlt hm (ha | ⟨r, o2, hr2, hbk⟩)
    · exact hm (.inl ha)
    · rcases hback r o2 hr2 with ⟨i, o, h1, h2, _⟩ | ⟨h1, h2⟩
      · rw [hφR i r h1] at hbk
        rcases (hcb i o b h2 hbk).1 with h | h
        · obtain ⟨r', o', _, h5, h6⟩ := hlentMut b h
          exact hm (.inr ⟨r', o', h5, h6⟩)
        · omega
      · rw [hφK r (nth_lt h1) h2] at hbk
        exact hm (.inr ⟨r, o2, h1, hbk⟩)
  have hn'' : hp.length ≤ hp'.length := by omega
  have hrel : ∀ (ψ : Phi) av x, (∀ s, s < hp.length → ψ s = φ'' s) → Rel c.P w (Mut c.A φ hp) (fun s => if s < hp.length then φ s else ψ s) av x → Rel c.P w' (Mut c.A φ'' hp') ψ av x := by
    intro ψ av x hψ hx
    induction hx with
    | data h => exact .data (h.mono hq.heap hnMut hmm)
    | own s n v h0 h1 h2 =>
      by_cases hsl : s < hp.length
      · have e := hψ s hsl
        rw [if_pos hsl] at h1 h2
        rcases hgrow s hsl with hg | hg
        · exact .own s n v h0 (by rw [e, hg]; exact h1) (by rw [e, hg]; exact h2)
        · exact .own s n v h0 (by rw [e]; omega) (by rw [e]; intro h; omega)
      · rw [if_neg hsl] at h1 h2
        exact .own s n v h0 h1 h2
    | ptr s n i j v h0 h1 h2 =>
      by_cases hsl : s < hp.length
      · have e := hψ s hsl
        rw [if_pos hsl] at h1 h2
        rcases hgrow s hsl with hg | hg
        · exact .ptr s n i j v h0 (by rw [e, hg]; exact h1) (by rw [e, hg]; exact h2)
        · exact .ptr s n i j v h0 (by rw [e]; omega) (by rw [e]; intro h; omega)
      · rw [if_neg hsl] at h1 h2
        exact .ptr s n i j v h0 h1 h2
    | osl s n i j v h0 h1 h2 =>
      by_cases hsl : s < hp.length
      · have e := hψ s hsl
        rw [if_pos hsl] at h1 h2
        rcases hgrow s hsl with hg | hg
        · exact .osl s n i j v h0 (by rw [e, hg]; exact h1) (by rw [e, hg]; exact h2)
        · exact .osl s n i j v h0 (by rw [e]; omega) (by rw [e]; intro h; omega)
      · rw [if_neg hsl] at h1 h2
        exact .osl s n i j v h0 h1 h2
    | agg l vs h1 h2 ih => exact .agg l vs h1 ih
    | tuple l vs h1 h2 ih => exact .tuple l vs h1 ih
    | fn f l vs h1 h2 ih => exact .fn f l vs h1 ih
    | when b av v h1 h2 ih => exact .when b av v ih h2
  have htr : ∀ av x, RelF c.P w (Mut c.A φ hp) hp.length φ av x → RelF c.P w' (Mut c.A φ'' hp') hp'.length φ'' av x := by
    intro av x hx ψ hψ
    refine hrel ψ av x (fun s hs => hψ s (by omega)) (hx _ fun s hs => ?_)
    simp only [if_pos hs]
  have hRout : ∀ x y, callR ρ hp.length x y ∧ x < os'.length → y < hp'.length ∧ φ'' y = φ' x := by
    rintro x y ⟨h, hx⟩
    refine ⟨?_, hφR x y h⟩
    rcases h with h | ⟨h1, rfl⟩
    · have := hlt_of x y h; omega
    · omega
  have hMout : ∀ b, b < w'.heap.size → ¬ Mut A' φ' os' b → ¬ Mut c.A φ'' hp' b := by
    rintro b _ hm (ha | ⟨r, o2, hr2, hbk⟩)
    · refine hm (.inl ⟨.inl ha, fun hw => ?_⟩)
      obtain ⟨r, o, _, h5, h6⟩ := hlentMut b hw
      exact (hok.owned r o b h5 h6).2 ha
    · rcases hback r o2 hr2 with ⟨i, o, h1, h2, _⟩ | ⟨h1, h2⟩
      · rw [hφR i r h1] at hbk
        exact hm (.inr ⟨i, o, h2, hbk⟩)
      · rw [hφK r (nth_lt h1) h2] at hbk
        refine hm (.inl ⟨.inr ⟨r, o2, h1, hbk⟩, fun hw => ?_⟩)
        obtain ⟨r', o', h4, h5, h6⟩ := hlentMut b hw
        have := hok.apart r r' o2 o' b h1 h5 hbk h6
        subst this
        rw [h2] at h4; cases h4
  -- numbers of callee's objects that its values bear lie below os'.length, or nothing is known of them
  have hren : ∀ (av av' : AV) (x : Value), RenR (rwR (callR ρ hp.length)) av av' → RelF c.P w' (Mut A' φ' os') os'.length φ' av x → RelF c.P w' (Mut c.A φ'' hp') hp'.length φ'' av' x := by
    intro av av' x h1 h2 ψ hψ
    let χ : Phi := fun i => if i < os'.length then φ' i else match ρ[i]? with | some r => ψ r | none => ψ (hp.length + (i - ρ.length))
    have h3 := h2 χ fun i hi => by simp only [χ, if_pos hi]
    refine h1.rel (rwR_ok (fun i r hir => ?_) hMout) h3
    by_cases hi : i < os'.length
    · obtain ⟨e1, e2⟩ := hRout i r ⟨hir, hi⟩
      simp only [χ, if_pos hi]
      rw [hψ r e1, e2]
    · simp only [χ, if_neg hi]
      rcases hir with h | ⟨h5, rfl⟩
      · rw [h]
      · rw [List.getElem?_eq_none (by omega)]
  refine ⟨v, φ'', rfl, ⟨hq.os.trans hok.os, hq.tape.trans hok.tape, hq.output.trans hok.output, Nat.le_trans hok.heap hq.heap, ?_, ?_, ?_, ?_, hok.amb, hok.glob, Nat.le_trans (by have := hok.len; exact this) hn'', ?_⟩, htr, hren _ _ _ hr hv⟩
  · intro b hlt hnW
    rw [hframe b (Nat.lt_of_lt_of_le hlt hok.heap) fun hw => ?_]
    · exact hok.frame b hlt hnW
    · obtain ⟨r, o, _, h5, h6⟩ := hlentMut b hw
      rcases (hok.owned r o b h5 h6).1 with h | h
      · exact hnW h
      · omega
  · intro r o2 b hr2 hbk
    rcases hback r o2 hr2 with ⟨i, o, h1, h2, _⟩ | ⟨h1, h2⟩
    · rw [hφR i r h1] at hbk
      rcases (hcb i o b h2 hbk).1 with h | h
      · obtain ⟨r', o', _, h5, h6⟩ := hlentMut b h
        exact hok.owned r' o' b h5 h6
      · have := hok.heap
        exact ⟨.inr (by omega), fun ha => by have := (hok.amb b ha).1; omega⟩
    · rw [hφK r (nth_lt h1) h2] at hbk
      exact hok.owned r o2 b h1 hbk
  · intro r r' o o' b hr1 hr1' hbk hbk'
    have mix : ∀ i x o y q, callR ρ hp.length i x → nth os' i = some o → (φ' i).blk = some b → nth hp y = some q → ρ.contains y = false → (φ y).blk = some b → False := by
      intro i x o y q h1 h2 h3 h4 h5 h6
      rcases (hcb i o b h2 h3).1 with h | h
      · obtain ⟨r', o', e4, e5, e6⟩ := hlentMut b h
        have := hok.apart y r' q o' b h4 e5 h6 e6
        subst this
        rw [h5] at e4; cases e4
      · have := hmutlt b (.inr ⟨y, q, h4, h6⟩); omega
    rcases hback r o hr1 with ⟨i, oi, h1, h2, _⟩ | ⟨h1, h2⟩
    · rw [hφR i r h1] at hbk
      rcases hback r' o' hr1' with ⟨i', oi', h1', h2', _⟩ | ⟨h1', h2'⟩
      · rw [hφR i' r' h1'] at hbk'
        have := hq.apart i i' oi oi' b h2 h2' hbk hbk'
        subst this
        rcases h1 with h1 | ⟨h1, rfl⟩
        · rcases h1' with h1' | ⟨h1', rfl⟩
          · rw [h1] at h1'; cases h1'; rfl
          · have := (List.getElem?_eq_some_iff.1 h1).1; omega
        · rcases h1' with h1' | ⟨h1', rfl⟩
          · have := (List.getElem?_eq_some_iff.1 h1').1; omega
          · rfl
      · rw [hφK r' (nth_lt h1') h2'] at hbk'
        exact (mix i r oi r' o' h1 h2 hbk h1' h2' hbk').elim
    · rw [hφK r (nth_lt h1) h2] at hbk
      rcases hback r' o' hr1' with ⟨i', oi', h1', h2', _⟩ | ⟨h1', h2'⟩
      · rw [hφR i' r' h1'] at hbk'
        exact (mix i' r' oi' r o h1' h2' hbk' h1 h2 hbk).elim
      · rw [hφK r' (nth_lt h1') h2'] at hbk'
        exact hok.apart r r' o o' b h1 h1' hbk hbk'
  · intro r o2 hr2
    rcases hback r o2 hr2 with ⟨i, o, h1, h2, h3⟩ | ⟨h1, h2⟩
    · have hO := hq.obj i o h2
      obtain ⟨g1, g2, g4, g5⟩ := h3
      have he := hφR i r h1
      refine ⟨by rw [he, ← g2]; exact hO.len, by rw [he, ← g1]; exact hO.sz, g4, by rw [he, ← g2]; exact hO.room, by rw [he]; exact hO.cap, fun hb => ?_, fun b hb => ?_⟩
      · rw [he] at hb ⊢
        obtain ⟨e1, e2⟩ := hO.none hb
        exact ⟨List.eq_nil_of_length_eq_zero (by rw [← g2, e1]; rfl), e2⟩
      · rw [he] at hb
        obtain ⟨cs, e1, e2, e3⟩ := hO.some b hb
        refine ⟨cs, by rw [← g1]; exact e1, by rw [he, ← g1]; exact e2, fun i' j' hi' hj' => ?_⟩
        rw [← g1] at hj' ⊢
        exact hren _ _ _ (g5 i' j' (by omega) hj') (e3 i' j' (by omega) hj')
    · have hO := hok.obj r o2 h1
      have he := hφK r (nth_lt h1) h2
      refine ⟨by rw [he]; exact hO.len, by rw [he]; exact hO.sz, hO.rows, by rw [he]; exact hO.room, by rw [he]; exact hO.cap, by rw [he]; exact hO.none, fun b hb => ?_⟩
      rw [he] at hb
      obtain ⟨cs, e1, e2, e3⟩ := hO.some b hb
      refine ⟨cs, ?_, by rw [he]; exact e2, fun i' j' hi' hj' => htr _ _ (e3 i' j' hi' hj')⟩
      rw [hframe b (hmutlt b (.inr ⟨r, o2, h1, hb⟩)) fun hw => ?_]
      · exact e1
      · obtain ⟨r', o', e4, e5, e6⟩ := hlentMut b hw
        have := hok.apart r r' o2 o' b h1 e5 hb e6
        subst this
        rw [h2] at e4; cases e4
  · intro r hr0
    have hl0 : c.n0 ≤ hp.length := hok.len
    rcases hok.mono r hr0 with h1 | h1
    · rcases hgrow r (by omega) with h2 | h2
      · exact .inl (h2.trans h1)
      · exact .inr (by rw [← h1]; exact h2)
    · rcases hgrow r (by omega) with h2 | h2
      · exact .inr (by rw [h2]; exact h1)
      · exact .inr (Nat.lt_trans h1 h2)

theorem w_callG {f : FuncId} {xs : List Operand} {ts : Array TypeId} {ds : List AV} {os os' hp' : List (Option Own)} {res res' : AV} (ρ : List Nat) (hs : GSpec c.P c.gl f ds os res os') (ha : ArgsG c st (rwR fun r i => ρ[i]? = some r) xs ds)
    (hl : Lend c.P ρ st.hp ρ os) (hnd : nodupB ρ = true) (hb : Back c.P ρ st.hp.length st.hp os' 0 hp') (hlen : st.hp.length + (os'.length - ρ.length) = hp'.length) (hin : Nat.ble ρ.length os'.length = true)
    (hr : RenR (rwR (callR ρ st.hp.length)) res res') :
    WVal c ops st ⟨dst, .call { callee := .value (.func f), args := xs.toArray, argTypes := ts }, ty, pos, after, none⟩ res' hp' := by
  intro φ a w hc
  refine ⟨rfl, ?_⟩
  obtain ⟨h1, h2⟩ := ha.rel hc
  unfold Oper.wp
  have e : (execOp a.eval ⟨dst, .call { callee := .value (.func f), args := xs.toArray, argTypes := ts }, ty, pos, after, none⟩).run c.P w = .ok (.enter f (xs.map a.eval).toArray) w := by
    simp [execOp, resolve, Act.eval, Deferred.ofValue, invoke, run_callFunc hs.call]
  rw [e]
  refine (call_lends hc ρ hs (vals := (xs.map a.eval).toArray) (by simpa using h1) (fun i hi => ?_) hl hnd hb hlen hr (Nat.le_of_ble_eq_true hin)).mono ?_
  · obtain ⟨av, e1, e2⟩ := h2 i hi
    exact ⟨av, e1, by simpa [Array.getD_eq_getD_getElem?, List.getD_eq_getElem?_getD] using e2⟩
  rintro e w' ⟨v, φ', rfl, g1, g2, g3⟩
  exact ⟨v, φ', rfl, g1, g2, g3⟩
end
end Go.Vx

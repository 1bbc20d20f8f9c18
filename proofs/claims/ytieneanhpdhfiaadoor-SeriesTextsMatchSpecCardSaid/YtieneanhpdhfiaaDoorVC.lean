/- A text of the proof: a verified executor of the program form, or the contracts of the functions that the law reaches. -/
import Derived.Test.YtieneanhpdhfiaaDoorVB
import Derived.Laws.StructEq
import Derived.IntWalk
import Derived.Laws.Shifts
import Derived.Deep.Slices
import Derived.WideShapes
import Derived.OpenShut
import Derived.Laws.Externs
set_option linter.all false
namespace Go.Vx
open Go Go.RowKit


inductive Keep (tm : List (Nat × AV)) : List (Nat × AV) → Prop
  | nil : Keep tm []
  | cons {t : Nat} {v v' : AV} {tl : List (Nat × AV)} : look tm t = some v → v = v' → Keep tm tl → Keep tm ((t, v') :: tl)

theorem Keep.look {tm tl : List (Nat × AV)} (h : Keep tm tl) {t : Nat} {v : AV} (hl : look tl t = some v) : look tm t = some v := by
  induction h with
  | nil => cases hl
  | cons h1 h2 _ ih =>
    simp only [Vx.look] at hl
    split at hl
    · rename_i he
      have he := Nat.eq_of_beq_eq_true he
      subst he
      cases hl
      rw [h1, h2]
    · exact ih hl

theorem Ent.keep {c : Ctx} {tm tm' : List (Nat × AV)} {hp hp' : List (Option Own)} (h : Keep tm tm') (e : hp = hp') : Ent c ⟨tm, hp⟩ ⟨tm', hp'⟩ := by
  subst e
  exact fun φ a w hc => ⟨φ, hc.size, hc.defers, hc.hok, fun t av ht => hc.tm t av (h.look ht)⟩

theorem X0 {c : Ctx} {code : Code} {st : St} {tm' : List (Nat × AV)} {hp' : List (Option Own)} {K : Exit → St → Prop} (h : Keep st.tm tm') (e : st.hp = hp') (k : T c code ⟨tm', hp'⟩ K) : T c code st K :=
  ZaW (Ent.keep h e) k

inductive Low (n : Nat) : AV → Prop
  | int (k : IntKind) (z : Int) : Low n (.int k z)
  | bool (b : Bool) : Low n (.bool b)
  | str (s : List UInt8) : Low n (.str s)
  | lit (v : Value) : Low n (.lit v)
  | nils : Low n .nils
  | sl (e : TypeId) (l : List (List AV)) : Low n (.sl e l)
  | rp (l : List AV) (o : Nat) : Low n (.rp l o)
  | own (r m : Nat) : r < n → Low n (.own r m)
  | ptr (r m i j : Nat) : r < n → Low n (.ptr r m i j)
  | osl (r m j k : Nat) : r < n → Low n (.osl r m j k)
  | mref (r m : Nat) : r < n → Low n (.mref r m)
  | bptr (r m : Nat) : r < n → Low n (.bptr r m)
  | agg (l : List AV) : (∀ x ∈ l, Low n x) → Low n (.agg l)
  | tuple (l : List AV) : (∀ x ∈ l, Low n x) → Low n (.tuple l)
  | fn (f : FuncId) (l : List AV) : (∀ x ∈ l, Low n x) → Low n (.fn f l)
  | any : Low n .any

theorem Low.rel {P : Program} {w : World} {M : Nat → Prop} {n : Nat} {φ φ' : Phi} {av : AV} {v : Value} (h : Rel P w M φ av v) (hl : Low n av) (hφ : JT n φ φ') : Rel P w M φ' av v := by
  induction h with
  | data h => exact .data h
  | own r m v h0 h1 h2 =>
    cases hl with | own _ _ hr => exact .own r m v h0 (by rw [hφ r hr]; exact h1) (by rw [hφ r hr]; exact h2)
  | ptr r m i j v h0 h1 h2 =>
    cases hl with | ptr _ _ _ _ hr => exact .ptr r m i j v h0 (by rw [hφ r hr]; exact h1) (by rw [hφ r hr]; exact h2)
  | osl r m i j v h0 h1 h2 =>
    cases hl with | osl _ _ _ _ hr => exact .osl r m i j v h0 (by rw [hφ r hr]; exact h1) (by rw [hφ r hr]; exact h2)
  | agg l vs h1 h2 ih => cases hl with | agg _ hl => exact .agg l vs h1 fun i hi => ih i hi (hl _ (by simp [List.getD_eq_getElem?_getD, hi]))
  | tuple l vs h1 h2 ih => cases hl with | tuple _ hl => exact .tuple l vs h1 fun i hi => ih i hi (hl _ (by simp [List.getD_eq_getElem?_getD, hi]))
  | fn f l vs h1 h2 ih => cases hl with | fn _ _ hl => exact .fn f l vs h1 fun i hi => ih i hi (hl _ (by simp [List.getD_eq_getElem?_getD, hi]))
  | when b av v h1 h2 ih => cases hl
  | mref r m v h0 h1 h2 =>
    cases hl with | mref _ _ hr => exact .mref r m v h0 (by rw [hφ r hr]; exact h1) (by rw [hφ r hr]; exact h2)
  | bptr r m v h0 h1 h2 =>
    cases hl with | bptr _ _ hr => exact .bptr r m v h0 (by rw [hφ r hr]; exact h1) (by rw [hφ r hr]; exact h2)

def LowTm (n : Nat) : List (Nat × AV) → Prop
  | [] => True
  | (_, v) :: tl => Low n v ∧ LowTm n tl
theorem LowTm.look {n : Nat} {tm : List (Nat × AV)} (h : LowTm n tm) : ∀ t v, look tm t = some v → Low n v := by
  induction tm with
  | nil => intro t v hl; cases hl
  | cons x tl ih =>
    intro t v hl
    obtain ⟨s, u⟩ := x
    simp only [Vx.look] at hl
    split at hl
    · cases hl; exact h.1
    · exact ih h.2 t v hl
def LowHp (n : Nat) : List (Option Own) → Prop
  | [] => True
  | none :: tl => LowHp n tl
  | some o :: tl => (∀ row ∈ o.es, ∀ x ∈ row, Low n x) ∧ LowHp n tl
theorem LowHp.nth {n : Nat} {hp : List (Option Own)} (h : LowHp n hp) : ∀ r o, nth hp r = some o → ∀ row ∈ o.es, ∀ x ∈ row, Low n x := by
  induction hp with
  | nil => intro r o hr; simp [Vx.nth] at hr
  | cons x tl ih =>
    intro r o hr
    cases r with
    | zero =>
      simp only [Vx.nth] at hr
      subst hr
      exact h.1
    | succ r =>
      simp only [Vx.nth] at hr
      cases x with
      | none => exact ih h r o hr
      | some y => exact ih h.2 r o hr

theorem Ent.row {c : Ctx} {tm : List (Nat × AV)} {hp : List (Option Own)} (t : Nat) (e : TypeId) (hl : look tm t = some .nils) : Ent c ⟨tm, hp⟩ ⟨(t, .own hp.length 0) :: tm, hp ++ [some ⟨e, []⟩]⟩ := by
  intro φ a w hc
  have hlen : (hp ++ [some (⟨e, []⟩ : Own)]).length = hp.length + 1 := by simp
  have hno : ∀ b, ¬ (⟨none, 0, 0, c.P.cellsOf e, false, fun _ => False⟩ : Loc).has b := by rintro b (h | h); cases h; exact h
  have hmut : ∀ b, Mut c.A (fun x => if x = hp.length then ⟨none, 0, 0, c.P.cellsOf e, false, fun _ => False⟩ else φ x) (hp ++ [some ⟨e, []⟩]) b → Mut c.A φ hp b := by
    rintro b (ha | ⟨r, o, hr, hb⟩)
    · exact .inl ha
    · rw [QD] at hr
      by_cases h : r = hp.length
      · simp only [if_pos h] at hb; exact (hno b hb).elim
      · rw [if_neg h] at hr; simp only [if_neg h] at hb; exact .inr ⟨r, o, hr, hb⟩
  have htr : ∀ av x, RelF c.P w (Mut c.A φ hp) hp.length φ av x → RelF c.P w (Mut c.A (fun x => if x = hp.length then ⟨none, 0, 0, c.P.cellsOf e, false, fun _ => False⟩ else φ x) (hp ++ [some ⟨e, []⟩])) (hp.length + 1)
      (fun x => if x = hp.length then ⟨none, 0, 0, c.P.cellsOf e, false, fun _ => False⟩ else φ x) av x := by
    intro av x hx ψ hψ
    refine (hx ψ fun s hs => ?_).mono (Nat.le_refl _) (fun _ _ _ => rfl) (fun b _ hm hm' => hm (hmut b hm'))
    rw [hψ s (by omega)]
    show (if s = hp.length then _ else φ s) = φ s
    rw [if_neg (by omega)]
  refine ⟨fun x => if x = hp.length then ⟨none, 0, 0, c.P.cellsOf e, false, fun _ => False⟩ else φ x, hc.size, hc.defers, ⟨hc.hok.os, hc.hok.tape, hc.hok.output, hc.hok.heap, hc.hok.frame, ?_, ?_, ?_, hc.hok.amb, hc.hok.glob, by rw [hlen]; exact Nat.le_succ_of_le hc.hok.len, fun s hs => by
    have hh : c.n0 ≤ hp.length := hc.hok.len
    have : ¬ s = hp.length := by omega
    simp only [if_neg this]
    exact hc.hok.mono s hs⟩, ?_⟩
  · intro r o b hr hb
    rw [QD] at hr
    by_cases h : r = hp.length
    · simp only [if_pos h] at hb; exact (hno b hb).elim
    · rw [if_neg h] at hr; simp only [if_neg h] at hb; exact hc.hok.owned r o b hr hb
  · intro r r' o o' b hr hr' hb hb'
    rw [QD] at hr hr'
    by_cases h : r = hp.length
    · simp only [if_pos h] at hb; exact (hno b hb).elim
    · by_cases h' : r' = hp.length
      · simp only [if_pos h'] at hb'; exact (hno b hb').elim
      · rw [if_neg h] at hr; simp only [if_neg h] at hb
        rw [if_neg h'] at hr'; simp only [if_neg h'] at hb'
        exact hc.hok.apart r r' o o' b hr hr' hb hb'
  · intro r o hr
    rw [hlen]
    rw [QD] at hr
    by_cases h : r = hp.length
    · rw [if_pos h] at hr
      cases hr
      refine ⟨by simp [h], by simp [h], by simp, by simp, by simp [h], by simp [h], by simp [h], by simp [h], fun b hb => by simp [h] at hb⟩
    · rw [if_neg h] at hr
      have hO := hc.hok.obj r o hr
      refine ⟨by simp only [if_neg h]; exact hO.len, by simp only [if_neg h]; exact hO.sz, hO.rows, by simp only [if_neg h]; exact hO.room, by simp only [if_neg h]; exact hO.cap, by simp only [if_neg h]; exact hO.none, by simp only [if_neg h]; exact hO.subl, by simp only [if_neg h]; exact hO.subn, fun b hb => ?_⟩
      simp only [if_neg h] at hb ⊢
      obtain ⟨cs, h3, h4, h5⟩ := hO.some b hb
      exact ⟨cs, h3, h4, h5.tr (fun _ _ => rfl) htr⟩
  · intro s av hs
    rw [hlen]
    simp only [look] at hs
    split at hs
    · rename_i he
      have he := Nat.eq_of_beq_eq_true he
      subst he
      cases hs
      have hv := hc.tm t _ hl φ (fun _ _ => rfl)
      have hv : a.tmps.getD t undef = .slice none 0 0 := by
        generalize a.tmps.getD t undef = x at hv
        cases hv with | data h => cases h; rfl
      intro ψ hψ
      have e1 : ψ hp.length = ⟨none, 0, 0, c.P.cellsOf e, false, fun _ => False⟩ := by
        have := hψ hp.length (by omega)
        simpa using this
      rw [hv]
      exact .own _ 0 _ rfl (by rw [e1]; exact Nat.le_refl _) fun _ => by rw [e1]; exact ⟨rfl, rfl⟩
    · exact htr _ _ (hc.tm s av hs)


def View (c : Ctx) (st : St) (av dv : AV) : Prop := ∀ φ a w, Conc c φ st a w → ∀ v, RelF c.P w (Mut c.A φ st.hp) st.hp.length φ av v → RelD c.P w c.A dv v

def Dat (c : Ctx) (st : St) (av dv : AV) : Prop := ∀ φ a w, Conc c φ st a w → ∀ v, RelF c.P w (Mut c.A φ st.hp) st.hp.length φ av v → RelD c.P w (Mut c.A φ st.hp) dv v

def ZeK : AV → Bool
  | .int _ _ | .bool _ | .str _ | .nils | .sl _ _ | .rp _ _ | .lit _ | .any | .slf _ _ | .ifc _ => true
  | _ => false
def datB : AV → Bool
  | .fn _ l => l.all ZeK
  | av => ZeK av
theorem Zd8 {P : Program} {w : World} {M : Nat → Prop} {φ : Phi} {av : AV} {v : Value} (h : Rel P w M φ av v) (hb : ZeK av = true) : RelD P w M av v := by
  cases h with
  | data h => exact h
  | _ => cases hb
theorem Zbf {P : Program} {w : World} {M : Nat → Prop} {φ : Phi} {av : AV} {v : Value} (h : Rel P w M φ av v) (hb : datB av = true) : RelD P w M av v := by
  cases h with
  | data h => exact h
  | fn f l vs h1 h2 => exact .fn f l vs h1 fun i hi => Zd8 (h2 i hi) (by
      have : l.getD i .any = l[i] := by simp [List.getD_eq_getElem?_getD, hi]
      rw [this]; exact List.all_eq_true.1 hb _ (List.getElem_mem _))
  | _ => cases hb

theorem Jg {av : AV} (h : datB av = true) : noSub av = true := by cases av <;> first | rfl | cases h
theorem ZdT {l : List AV} (h : l.all datB = true) : NS l := fun x hx => Jg (List.all_eq_true.1 h x hx)
section view
variable {c : Ctx} {st : St}
theorem Dat.b {av : AV} (h : datB av = true) : Dat c st av av := fun φ a w hc v hv => Zbf (hv φ (fun _ _ => rfl)) h

theorem Dat.view {av dv : AV} (h : Dat c st av dv) : View c st av dv := fun φ a w hc v hv =>
  (h φ a w hc v hv).mono (Nat.le_refl _) (fun _ _ _ => rfl) (fun _ _ hm ha => hm (.inl ha))

theorem Dat.agg {l l' : List AV} (hl : l.length = l'.length) (h : ∀ i, i < l.length → Dat c st (l.getD i .any) (l'.getD i .any)) : Dat c st (.agg l) (.agg l') := by
  intro φ a w hc v hv
  obtain ⟨vs, rfl, h1, h2⟩ := XO hv
  exact .agg l' vs (by omega) fun i hi => h i (by omega) φ a w hc _ (h2 i (by omega))

theorem View.agg {l l' : List AV} (hl : l.length = l'.length) (h : ∀ i, i < l.length → View c st (l.getD i .any) (l'.getD i .any)) : View c st (.agg l) (.agg l') := by
  intro φ a w hc v hv
  obtain ⟨vs, rfl, h1, h2⟩ := XO hv
  exact .agg l' vs (by omega) fun i hi => h i (by omega) φ a w hc _ (h2 i (by omega))

inductive Pw (R : AV → AV → Prop) : List AV → List AV → Prop
  | nil : Pw R [] []
  | cons {x y : AV} {l m : List AV} : R x y → Pw R l m → Pw R (x :: l) (y :: m)

theorem Pw.len {R : AV → AV → Prop} {l m : List AV} (h : Pw R l m) : l.length = m.length := by induction h with | nil => rfl | cons _ _ ih => simp [ih]
theorem Pw.get {R : AV → AV → Prop} {l m : List AV} (h : Pw R l m) : ∀ i, i < l.length → R (l.getD i .any) (m.getD i .any) := by
  induction h with
  | nil => intro i hi; cases hi
  | cons h1 _ ih =>
    intro i hi
    cases i with
    | zero => simpa using h1
    | succ i => simpa using ih i (by simpa using hi)
theorem Pw.refl {R : AV → AV → Prop} {l : List AV} (h : ∀ x ∈ l, R x x) : Pw R l l := by
  induction l with
  | nil => exact .nil
  | cons x l ih => exact .cons (h x (by simp)) (ih fun y hy => h y (by simp [hy]))

theorem Dat.aggL {l l' : List AV} (h : Pw (Dat c st) l l') : Dat c st (.agg l) (.agg l') := .agg h.len h.get
theorem View.aggL {l l' : List AV} (h : Pw (View c st) l l') : View c st (.agg l) (.agg l') := .agg h.len h.get
theorem Dat.aggB {l : List AV} (h : l.all datB = true) : Dat c st (.agg l) (.agg l) := .aggL (.refl fun x hx => .b (List.all_eq_true.1 h x hx))

theorem View.own {r n : Nat} {o : Own} {es : List (List AV)} (ho : nth st.hp r = some o) (hn : o.es.length = n) (hes : es.length = n) (hrows : ∀ row ∈ es, row.length = c.P.cellsOf o.elem)
    (h : ∀ i j, i < n → j < c.P.cellsOf o.elem → View c st (cellAt o.es i j) (cellAt es i j)) (hns : ∀ row ∈ o.es, NS row) : View c st (.own r n) (.sl o.elem es) := by
  intro φ a w hc v hv
  have hO := hc.hok.obj r o ho
  have hx := QO hv (by rw [hO.len, hn])
  rw [hx]
  have h63 : n < 2 ^ 63 := by have := hO.room; have := hO.cap; omega
  cases hb : (φ r).blk with
  | none =>
    have := (hO.none hb).1
    rw [this] at hn
    simp at hn
    subst hn
    have : es = [] := List.eq_nil_of_length_eq_zero hes
    subst this
    exact .sl0 _ _ _
  | some b =>
    obtain ⟨cs, h3, h4, h5⟩ := hO.some b hb
    have h3 := h3.cells (QH hv (by rw [hO.len, hn]))
    have hlt : b < w.heap.size := (Array.getElem?_eq_some_iff.1 h3).1
    have hcells : ∀ i j, i < es.length → j < c.P.cellsOf o.elem → w.cell? ⟨b, 0 + (i * c.P.cellsOf o.elem + j), none⟩ = some (cs.getD (i * c.P.cellsOf o.elem + j) undef) := fun i j hi hj => by
      rw [Zn h3]
      have hroom := hO.room
      have : i * c.P.cellsOf o.elem + j < cs.size := by rw [h4]; exact Q3 (by omega) hj
      simp [this]
    have := RelD.sl (P := c.P) (w := w) (M := c.A) o.elem es b 0 (φ r).cap (fun i j => cs.getD (i * c.P.cellsOf o.elem + j) undef) hlt (hc.hok.owned r o b ho (.inl hb)).2 (by omega) (by have := hO.room; omega) hrows hcells
      (fun i j hi hj => h i j (by omega) hj φ a w hc _ (h5.plain (by omega) hj (Zdv hns i j)))
    rw [hes] at this
    exact this

theorem View.ownB {r n : Nat} {o : Own} (ho : nth st.hp r = some o) (hn : o.es.length = n) (h : ∀ row ∈ o.es, row.length = c.P.cellsOf o.elem ∧ row.all datB = true) : View c st (.own r n) (.sl o.elem o.es) := by
  refine .own ho hn hn (fun row hr => (h row hr).1) (fun i j hi hj => ?_) (fun row hr => ZdT (h row hr).2)
  have hi' : i < o.es.length := by omega
  have hrow := h _ (List.getElem_mem hi')
  have : cellAt o.es i j = o.es[i][j]'(by omega) := by simp [cellAt, List.getD_eq_getElem?_getD, hi', hrow.1, hj]
  rw [this]
  exact (Dat.b (List.all_eq_true.1 hrow.2 _ (List.getElem_mem _))).view
end view


theorem X4 {c : Ctx} {φ : Phi} {st : St} {a : Act} {w : World} (hc : Conc c φ st a w) : GlOK c.gl w (Mut c.A φ st.hp) [] := by
  have hg := hc.hok.glob
  refine ⟨Nat.le_trans hg.len hc.hok.heap, (fun b hb => by cases hb), fun p hp => ?_⟩
  obtain ⟨h1, ⟨e, fr, h2⟩, h3⟩ := hg.tab p hp
  have hlt := (Array.getElem?_eq_some_iff.1 h2).1
  have hW : p.1 ∉ c.W := fun hw => by have := hg.W p.1 hw; omega
  refine ⟨h1, ⟨e, fr, (hc.hok.frame p.1 hlt hW).trans h2⟩, ?_⟩
  rintro (ha | ⟨r, o, hr, hb⟩)
  · exact h3 ha
  · rcases (hc.hok.owned r o p.1 hr hb).1 with hw | hw
    · exact hW hw
    · omega

def Spec (P : Program) (gl : Gl) (f : FuncId) (args : List AV) (res : AV) : Prop := ∀ (A : Nat → Prop) (w : World) (vals : Array Value), (∀ b, A b → b < w.heap.size) → GlOK gl w A [] → vals.size = args.length →
  (∀ i, i < args.length → RelD P w A (args.getD i .any) (vals.getD i undef)) → Calls P f vals w fun e w' => ∃ v, e = .returned v ∧ Below w.heap.size w w' ∧ RelD P w' A res v

inductive RetV (c : Ctx) (st : St) : ResultVar → AV → Prop
  | tmp {t : Nat} {av dv : AV} : look st.tm t = some av → View c st av dv → RetV c st (.tmp t) dv
  | agg {t ty r n i j sz : Nat} {o : Own} {row l l' : List AV} : look st.tm t = some (.ptr r n i j) → nth st.hp r = some o → o.es.length = n → o.es[i]? = some row → tAgg c.P ty sz = true → (row.drop j).take sz = l → l.length = sz →
      Pw (View c st) l l' → (hns : NS l := by first | exact nsR rfl | exact nsM (fun _ => rfl)) → RetV c st (.cell t ty) (.agg l')
  | scal {t ty r n i j : Nat} {o : Own} {row : List AV} {v v' : AV} : look st.tm t = some (.ptr r n i j) → nth st.hp r = some o → o.es.length = n → o.es[i]? = some row → tScal c.P ty = true → row[j]? = some v →
      View c st v v' → (hns : noSub v = true := by rfl) → RetV c st (.cell t ty) v'

def ZaT (tmps : Array Value) : ResultVar → Sem Value
  | .tmp t => pure (tmps.getD t undef)
  | .cell t ty => do loadVar ty (← asAddr (tmps.getD t undef))

theorem RetV.sound {c : Ctx} {st : St} {rv : ResultVar} {dv : AV} (h : RetV c st rv dv) {φ : Phi} {a : Act} {w : World} (hc : Conc c φ st a w) :
    ∃ v, (ZaT a.tmps rv).run c.P w = .ok v w ∧ RelD c.P w c.A dv v := by
  unfold ZaT
  cases h with
  | tmp hl hv => exact ⟨_, rfl, hv φ a w hc _ (hc.tm _ _ hl)⟩
  | @agg t ty r n i j sz o row l l' hl ho hn hrow ht hl' hlen hv hns =>
    have hmp := ZP (hc.tm t _ hl) (by rw [(hc.hok.obj r o ho).len, hn])
    have hld := Qe (c := c) (ops := #[]) (st := st) (dst := none) (ty := 0) (pos := "") (after := #[]) (x := .tmp t) (ov hl) ho hn hrow ht hl' hlen hns φ a w hc
    obtain ⟨hw, _⟩ := hld
    have hw := hw rfl
    obtain ⟨b, cs, h1, h2, h3, h4, h5, _, _, h6, h7⟩ := QF hc ho hrow hmp
    obtain ⟨b', hb', hx⟩ := Qb (hc.tm t _ hl) (by rw [h2, hn])
    unfold Oper.wp at hw
    simp only [execOp, Act.eval, hx, Sem.run_bind] at hw
    simp only [hx]
    have e : (do loadVar ty (← asAddr (.pointer (some ⟨b', i * (φ r).sz + j, none⟩))) : Sem Value).run c.P w = (Instr.loadAt ty (.pointer (some ⟨b', i * (φ r).sz + j, none⟩))).run c.P w := rfl
    rw [e]
    cases hr : (Instr.loadAt ty (.pointer (some ⟨b', i * (φ r).sz + j, none⟩))).run c.P w with
    | halt hh w'' => rw [hr] at hw; cases hh <;> exact hw.elim
    | ok v w'' =>
      rw [hr] at hw
      obtain ⟨u, hu1, hu2, hu3⟩ := hw
      -- the load leaves the world alone
      obtain ⟨inf, d, hi, hs, hu, hd, _, hsz0⟩ := tAgg.spec ht
      have hjl : j + sz ≤ row.length := by rw [← hl'] at hlen; simp at hlen; omega
      have hw2 : (Instr.loadAt ty (.pointer (some ⟨b', i * (φ r).sz + j, none⟩))).run c.P w = .ok (.agg ((cs.toList.drop (i * row.length + j)).take sz).toArray) w := by
        rw [h1] at hb'; cases hb'
        rw [h3]
        refine Q7 w b (i * row.length + j) ty sz _ ht ?_ ?_
        · simp
          have := h6 (j + sz - 1) (by omega)
          omega
        · intro k hk
          rw [Zn h4]
          have := h6 (j + k) (by omega)
          simp [List.getD_eq_getElem?_getD, hk, List.getElem?_drop]
          have e : i * row.length + j + k = i * row.length + (j + k) := by omega
          rw [e, Array.getElem?_eq_getElem (by omega)]
          simp
      rw [hw2] at hr
      cases hr
      refine ⟨_, rfl, ?_⟩
      refine .agg l' _ (by rw [← hv.len, hlen]; simp; have := h6 (j + sz - 1) (by omega); omega) fun k hk => ?_
      have hk' : k < sz := by rw [← hv.len, hlen] at hk; exact hk
      refine hv.get k (by rw [hlen]; exact hk') φ a w hc _ ?_
      have e1 : l.getD k .any = row.getD (j + k) .any := by
        rw [← hl']; simp [List.getD_eq_getElem?_getD, List.getElem?_drop, show k < sz by omega]
      have h8 := h7 (j + k) (by omega) (by rw [← e1]; exact hns.getD' k)
      have e2 : ((cs.toList.drop (i * row.length + j)).take sz).toArray.getD k undef = cs.getD (i * row.length + (j + k)) undef := by
        simp [Array.getD_eq_getD_getElem?, List.getElem?_drop, show k < sz by omega, Nat.add_assoc]
      rw [e1, e2]; exact h8
  | @scal t ty r n i j o row v v' hl ho hn hrow ht hv hvv hns =>
    have hmp := ZP (hc.tm t _ hl) (by rw [(hc.hok.obj r o ho).len, hn])
    obtain ⟨b, cs, h1, h2, h3, h4, h5, _, _, h6, h7⟩ := QF hc ho hrow hmp
    obtain ⟨b', hb', hx⟩ := Qb (hc.tm t _ hl) (by rw [h2, hn])
    rw [h1] at hb'; cases hb'
    have hj : j < row.length := (List.getElem?_eq_some_iff.1 hv).1
    have h6' := h6 j hj
    refine ⟨cs.getD (i * row.length + j) undef, ?_, ?_⟩
    · simp only [hx, h3]
      have e : (do loadVar ty (← asAddr (.pointer (some ⟨b, i * row.length + j, none⟩))) : Sem Value).run c.P w = (Instr.loadAt ty (.pointer (some ⟨b, i * row.length + j, none⟩))).run c.P w := rfl
      rw [e, QU w b (i * row.length + j) ty _ ht]
      rw [Zn h4, Array.getElem?_eq_getElem h6']; simp [h6']
    · have := h7 j hj (by rw [getD_of_get? hv]; exact hns)
      rw [getD_of_get? hv] at this
      exact hvv φ a w hc _ this
end Go.Vx

namespace Go.Vx
open Go Go.RowKit

def callable (P : Program) (f : FuncId) : Bool := match P.funcs[f]? with
  | some fn => !(fn.name == "runtime.NumGoroutine") && fn.body.isSome
  | none => false

theorem callable.spec {P : Program} {f : FuncId} (h : callable P f = true) : ∃ fn, P.funcs[f]? = some fn ∧ (fn.name == "runtime.NumGoroutine") = false ∧ fn.body.isNone = false := by
  unfold callable at h
  split at h
  · rename_i fn hf
    simp only [Bool.and_eq_true, Bool.not_eq_true'] at h
    exact ⟨fn, hf, h.1, by cases hb : fn.body <;> simp_all⟩
  · cases h

inductive Ret (c : Ctx) (st : St) : Array ResultVar → AV → Prop
  | zero : Ret c st #[] (.tuple [])
  | one {r : ResultVar} {d : AV} : RetV c st r d → Ret c st #[r] d
  | two {r1 r2 : ResultVar} {d1 d2 : AV} : RetV c st r1 d1 → RetV c st r2 d2 → Ret c st #[r1, r2] (.tuple [d1, d2])
  | three {r1 r2 r3 : ResultVar} {d1 d2 d3 : AV} : RetV c st r1 d1 → RetV c st r2 d2 → RetV c st r3 d3 → Ret c st #[r1, r2, r3] (.tuple [d1, d2, d3])
  | four {r1 r2 r3 r4 : ResultVar} {d1 d2 d3 d4 : AV} : RetV c st r1 d1 → RetV c st r2 d2 → RetV c st r3 d3 → RetV c st r4 d4 → Ret c st #[r1, r2, r3, r4] (.tuple [d1, d2, d3, d4])

theorem ZaR {P : Program} {fn : Func} {tmps : Array Value} {w : World} : (results fn tmps).run P w =
    ((fn.results.mapM (ZaT tmps)).run P w).andThen fun vs w => .ok (if h : vs.size = 1 then vs[0] else .tuple vs) w := by
  unfold results
  rw [Sem.run_bind]
  rfl

theorem JA {P : Program} {w : World} {M : Nat → Prop} {ds : List AV} {vs : List Value} (hl : ds.length = vs.length) (h : ∀ i, i < ds.length → RelD P w M (ds.getD i .any) (vs.getD i undef)) : RelD P w M (.tuple ds) (.tuple vs.toArray) :=
  .tuple ds _ (by simpa using hl) fun i hi => by simpa [Array.getD_eq_getD_getElem?, List.getD_eq_getElem?_getD] using h i hi

theorem Ret.sound {c : Ctx} {st : St} {fn : Func} {res : AV} (h : Ret c st fn.results res) {φ : Phi} {a : Act} {w : World} (hc : Conc c φ st a w) : ∃ v, (results fn a.tmps).run c.P w = .ok v w ∧ RelD c.P w c.A res v := by
  rw [ZaR]
  generalize fn.results = rs at h
  cases h with
  | zero => exact ⟨.tuple #[], by simp, .tuple [] #[] rfl (fun i hi => by cases hi)⟩
  | one h1 =>
    obtain ⟨v1, e1, d1⟩ := h1.sound hc
    exact ⟨v1, by simp [e1], d1⟩
  | two h1 h2 =>
    obtain ⟨v1, e1, d1⟩ := h1.sound hc
    obtain ⟨v2, e2, d2⟩ := h2.sound hc
    refine ⟨.tuple #[v1, v2], by simp [e1, e2], JA (vs := [v1, v2]) rfl fun i hi => ?_⟩
    match i, hi with
    | 0, _ => exact d1
    | 1, _ => exact d2
  | three h1 h2 h3 =>
    obtain ⟨v1, e1, d1⟩ := h1.sound hc
    obtain ⟨v2, e2, d2⟩ := h2.sound hc
    obtain ⟨v3, e3, d3⟩ := h3.sound hc
    refine ⟨.tuple #[v1, v2, v3], by simp [e1, e2, e3], JA (vs := [v1, v2, v3]) rfl fun i hi => ?_⟩
    match i, hi with
    | 0, _ => exact d1
    | 1, _ => exact d2
    | 2, _ => exact d3
  | four h1 h2 h3 h4 =>
    obtain ⟨v1, e1, d1⟩ := h1.sound hc
    obtain ⟨v2, e2, d2⟩ := h2.sound hc
    obtain ⟨v3, e3, d3⟩ := h3.sound hc
    obtain ⟨v4, e4, d4⟩ := h4.sound hc
    refine ⟨.tuple #[v1, v2, v3, v4], by simp [e1, e2, e3, e4], JA (vs := [v1, v2, v3, v4]) rfl fun i hi => ?_⟩
    match i, hi with
    | 0, _ => exact d1
    | 1, _ => exact d2
    | 2, _ => exact d3
    | 3, _ => exact d4

def ZfV (c : Ctx) (rs : Array ResultVar) (res : AV) : Exit → St → Prop
  | .ret, st | .normal, st => Ret c st rs res
  | _, _ => False

def ZaU : Nat → List AV → List (Nat × AV)
  | _, [] => []
  | k, v :: l => (k, v) :: ZaU (k + 1) l

theorem Zbq {l : List AV} {k t : Nat} {v : AV} (h : look (ZaU k l) t = some v) : k ≤ t ∧ t - k < l.length ∧ l.getD (t - k) .any = v := by
  induction l generalizing k with
  | nil => cases h
  | cons x l ih =>
    simp only [ZaU, look] at h
    split at h
    · rename_i he
      have he := Nat.eq_of_beq_eq_true he
      subst he
      cases h
      simp
    · rename_i he
      obtain ⟨h1, h2, h3⟩ := ih h
      refine ⟨by omega, by simp; omega, ?_⟩
      have : t - k = (t - (k + 1)) + 1 := by omega
      rw [this]
      simpa using h3

def φz : Phi := fun _ => ⟨none, 0, 0, 0, false, fun _ => False⟩

structure CSpec (P : Program) (gl : Gl) (f : FuncId) (args : List AV) (res : AV) : Prop where
  call : callable P f = true
  spec : Spec P gl f args res

theorem Zff {P : Program} {gl : Gl} {f : FuncId} {fn : Func} {code : Code} {args : List AV} {res : AV} (hc : callable P f = true) (hf : P.funcs[f]? = some fn) (hb : fn.body = some code) (hlen : Nat.ble args.length fn.ntmps = true)
    (hT : ∀ w0 A, T ⟨P, fn.ntmps, w0, A, [], gl, 0, φz⟩ code ⟨ZaU 0 args, []⟩ (ZfV ⟨P, fn.ntmps, w0, A, [], gl, 0, φz⟩ fn.results res)) : CSpec P gl f args res := by
  refine ⟨hc, fun A w vals hA hgl hsz hv => ?_⟩
  have hlen : args.length ≤ fn.ntmps := by simpa using hlen
  refine calls_of_wp hf hb ?_
  have hconc : Conc ⟨P, fn.ntmps, w, A, [], gl, 0, φz⟩ φz ⟨ZaU 0 args, []⟩ { tmps := vals ++ Array.replicate (fn.ntmps - vals.size) undef, defers := [] } w := by
    refine ⟨by simp; omega, rfl, ⟨rfl, rfl, rfl, Nat.le_refl _, fun _ _ _ => rfl, (fun r o b h => by cases h), (fun r r' o o' b h => by cases h), (fun r o h => by cases h), (fun b hb => ⟨hA b hb, by simp⟩), hgl, Nat.zero_le _, fun r hr => by cases hr⟩, ?_⟩
    intro t av ht
    obtain ⟨_, h2, h3⟩ := Zbq ht
    simp only [Nat.sub_zero] at h2 h3
    refine Ze ?_
    have := hv t h2
    rw [h3] at this
    have e : (vals ++ Array.replicate (fn.ntmps - vals.size) undef).getD t undef = vals.getD t undef := by
      simp [Array.getD_eq_getD_getElem?, Array.getElem?_append, show t < vals.size by omega]
    rw [e]
    exact this.mono (Nat.le_refl _) (fun _ _ _ => rfl) (fun b _ hm => fun h => h.elim hm fun ⟨r, o, hr, _⟩ => by cases hr)
  refine wp_mono (hT w A _ _ _ hconc) ?_
  rintro e a' w' ⟨st', φ', hk, hc'⟩
  have fin : Ret ⟨P, fn.ntmps, w, A, [], gl, 0, φz⟩ st' fn.results res → a'.defers = [] ∧ ∃ v, (results fn a'.tmps).run P w' = .ok v w' ∧ (∃ v', Ending.returned v = .returned v' ∧ Below w.heap.size w w' ∧ RelD P w' A res v') := fun hr => by
    obtain ⟨v, h1, h2⟩ := hr.sound hc'
    exact ⟨hc'.defers, v, h1, v, rfl, ⟨hc'.hok.os, hc'.hok.tape, hc'.hok.output, hc'.hok.heap, fun b hb => hc'.hok.frame b hb (by simp)⟩, h2⟩
  cases e with
  | ret => exact fin hk
  | normal => exact fin hk
  | exit id => exact hk.elim
  | goto l => exact hk.elim
  | panic ch => exact hk.elim
  | outgrown => exact hk.elim


inductive ArgsD (c : Ctx) (st : St) : List Operand → List AV → Prop
  | nil : ArgsD c st [] []
  | cons {x : Operand} {av d : AV} {xs : List Operand} {ds : List AV} : Opv c st x av → Dat c st av d → ArgsD c st xs ds → ArgsD c st (x :: xs) (d :: ds)

theorem ArgsD.rel {c : Ctx} {st : St} {xs : List Operand} {ds : List AV} (h : ArgsD c st xs ds) {φ : Phi} {a : Act} {w : World} (hc : Conc c φ st a w) :
    xs.length = ds.length ∧ ∀ i, i < ds.length → RelD c.P w (Mut c.A φ st.hp) (ds.getD i .any) ((xs.map a.eval).getD i undef) := by
  induction h with
  | nil => exact ⟨rfl, fun i hi => by cases hi⟩
  | cons h1 h2 _ ih =>
    refine ⟨by simp [ih.1], fun i hi => ?_⟩
    cases i with
    | zero => simpa using h2 φ a w hc _ (h1 φ a w hc)
    | succ i => simpa using ih.2 i (by simpa using hi)

inductive ArgsV (c : Ctx) (st : St) : List Operand → List AV → Prop
  | nil : ArgsV c st [] []
  | cons {x : Operand} {av d : AV} {xs : List Operand} {ds : List AV} : Opv c st x av → View c st av d → ArgsV c st xs ds → ArgsV c st (x :: xs) (d :: ds)

theorem ArgsV.rel {c : Ctx} {st : St} {xs : List Operand} {ds : List AV} (h : ArgsV c st xs ds) {φ : Phi} {a : Act} {w : World} (hc : Conc c φ st a w) :
    xs.length = ds.length ∧ ∀ i, i < ds.length → RelD c.P w c.A (ds.getD i .any) ((xs.map a.eval).getD i undef) := by
  induction h with
  | nil => exact ⟨rfl, fun i hi => by cases hi⟩
  | cons h1 h2 _ ih =>
    refine ⟨by simp [ih.1], fun i hi => ?_⟩
    cases i with
    | zero => simpa using h2 φ a w hc _ (h1 φ a w hc)
    | succ i => simpa using ih.2 i (by simpa using hi)

def Flat (d : AV) : Prop := ∀ (P : Program) (w w' : World) (M M' : Nat → Prop) (v : Value), RelD P w M d v → RelD P w' M' d v

theorem Flat.int {k : IntKind} {n : Int} : Flat (.int k n) := fun _ _ _ _ _ _ h => by cases h; exact .int _ _
theorem Flat.bool {b : Bool} : Flat (.bool b) := fun _ _ _ _ _ _ h => by cases h; exact .bool _
theorem Flat.str {b : List UInt8} : Flat (.str b) := fun _ _ _ _ _ _ h => by cases h; exact .str _
theorem Flat.agg {l : List AV} (hl : ∀ x ∈ l, Flat x) : Flat (.agg l) := fun _ _ _ _ _ _ h => by
  cases h with | agg _ vs h1 h2 => exact .agg l vs h1 fun i hi => hl _ (by simp [List.getD_eq_getElem?_getD, hi]) _ _ _ _ _ _ (h2 i hi)
theorem Flat.tuple {l : List AV} (hl : ∀ x ∈ l, Flat x) : Flat (.tuple l) := fun _ _ _ _ _ _ h => by
  cases h with | tuple _ vs h1 h2 => exact .tuple l vs h1 fun i hi => hl _ (by simp [List.getD_eq_getElem?_getD, hi]) _ _ _ _ _ _ (h2 i hi)

section ops
variable {c : Ctx} {ops : Array Oper} {st : St} {dst : Option Tmp} {ty : TypeId} {pos : String} {after : Array Edge}

theorem QM {P : Program} {f : FuncId} (h : callable P f = true) (args : Array Value) (w : World) : (callFunc f args).run P w = .ok (.enter f args) w := by
  obtain ⟨fn, h1, h2, h3⟩ := callable.spec h
  have h2 : ¬ fn.name = "runtime.NumGoroutine" := by simpa using h2
  have h3 : ¬ fn.body = none := fun hb => by rw [hb] at h3; cases h3
  simp [callFunc, h1, h2, h3]

theorem ZaL {φ : Phi} {a : Act} {w : World} (hc : Conc c φ st a w) : ∀ b, Mut c.A φ st.hp b → b < w.heap.size := by
  rintro b (ha | ⟨r, o, hr, hb⟩)
  · exact Nat.lt_of_lt_of_le (hc.hok.amb b ha).1 hc.hok.heap
  · exact (hc.hok.obj r o hr).has_lt hb

theorem Zg {f : FuncId} {xs : List Operand} {ts : Array TypeId} {ds : List AV} {res : AV} (hs : CSpec c.P c.gl f ds res) (ha : ArgsD c st xs ds) :
    SVal c ops st ⟨dst, .call { callee := .value (.func f), args := xs.toArray, argTypes := ts }, ty, pos, after, none⟩ res := by
  intro φ a w hc
  refine ⟨fun _ => ?_, fun hw => by cases hw⟩
  obtain ⟨hl, hr⟩ := ha.rel hc
  unfold Oper.wp
  have e : (execOp a.eval ⟨dst, .call { callee := .value (.func f), args := xs.toArray, argTypes := ts }, ty, pos, after, none⟩).run c.P w = .ok (.enter f (xs.map a.eval).toArray) w := by
    simp [execOp, resolve, Act.eval, Deferred.ofValue, invoke, QM hs.call]
  rw [e]
  refine (hs.spec (Mut c.A φ st.hp) w _ (ZaL hc) (X4 hc) (by simpa using hl) (fun i hi => by simpa [Array.getD_eq_getD_getElem?, List.getD_eq_getElem?_getD] using hr i hi)).mono ?_
  rintro e w' ⟨v, rfl, hb, hv⟩
  exact ⟨v, rfl, hb, Ze hv⟩

theorem Zdw {f : FuncId} {xs : List Operand} {ts : Array TypeId} {ds : List AV} {res : AV} (hs : CSpec c.P c.gl f ds res) (hf : Flat res) (ha : ArgsV c st xs ds) :
    SVal c ops st ⟨dst, .call { callee := .value (.func f), args := xs.toArray, argTypes := ts }, ty, pos, after, none⟩ res := by
  intro φ a w hc
  refine ⟨fun _ => ?_, fun hw => by cases hw⟩
  obtain ⟨hl, hr⟩ := ha.rel hc
  unfold Oper.wp
  have e : (execOp a.eval ⟨dst, .call { callee := .value (.func f), args := xs.toArray, argTypes := ts }, ty, pos, after, none⟩).run c.P w = .ok (.enter f (xs.map a.eval).toArray) w := by
    simp [execOp, resolve, Act.eval, Deferred.ofValue, invoke, QM hs.call]
  rw [e]
  refine (hs.spec c.A w _ (fun b hb => ZaL hc b (.inl hb)) (let g := X4 hc; ⟨g.len, g.W, fun p hp => let ⟨h1, h2, h3⟩ := g.tab p hp; ⟨h1, h2, fun h => h3 (.inl h)⟩⟩) (by simpa using hl) (fun i hi => by simpa [Array.getD_eq_getD_getElem?, List.getD_eq_getElem?_getD] using hr i hi)).mono ?_
  rintro e w' ⟨v, rfl, hb, hv⟩
  exact ⟨v, rfl, hb, Ze (hf _ _ _ _ _ _ hv)⟩


def Zaq : List AV → List AV → List AV
  | xs, [] => xs
  | [], _ => []
  | _ :: xs, y :: ys => y :: Zaq xs ys
def Zcs : List AV → Nat → List AV → List AV
  | xs, 0, ys => Zaq xs ys
  | [], _ + 1, _ => []
  | x :: xs, n + 1, ys => x :: Zcs xs n ys

theorem ZbA : ∀ (xs ys : List AV), ys.length ≤ xs.length → (Zaq xs ys).length = xs.length ∧ ∀ k, (Zaq xs ys).getD k .any = if k < ys.length then ys.getD k .any else xs.getD k .any
  | xs, [], _ => by unfold Zaq; exact ⟨by cases xs <;> rfl, fun k => by cases xs <;> simp⟩
  | [], _ :: _, h => by simp at h
  | x :: xs, y :: ys, h => by
    have ih := ZbA xs ys (by simpa using h)
    refine ⟨by simp [Zaq, ih.1], fun k => ?_⟩
    cases k with
    | zero => simp [Zaq]
    | succ k => simpa [Zaq] using ih.2 k

theorem ZbX : ∀ (xs : List AV) (n : Nat) (ys : List AV), n + ys.length ≤ xs.length → (Zcs xs n ys).length = xs.length ∧
    ∀ k, (Zcs xs n ys).getD k .any = if k < n then xs.getD k .any else if k < n + ys.length then ys.getD (k - n) .any else xs.getD k .any
  | xs, 0, ys, h => by
    have e : Zcs xs 0 ys = Zaq xs ys := by cases xs <;> rfl
    obtain ⟨h1, h2⟩ := ZbA xs ys (by simpa using h)
    rw [e]
    exact ⟨h1, fun k => by rw [h2 k]; simp⟩
  | [], n + 1, ys, h => by simp at h
  | x :: xs, n + 1, ys, h => by
    obtain ⟨h1, h2⟩ := ZbX xs n ys (by simp at h; omega)
    refine ⟨by simp [Zcs, h1], fun k => ?_⟩
    cases k with
    | zero => simp [Zcs]
    | succ k =>
      have := h2 k
      simp only [Zcs, List.getD_cons_succ]
      rw [this]
      by_cases c1 : k < n
      · rw [if_pos c1, if_pos (by omega)]
      · by_cases c2 : k < n + ys.length
        · rw [if_neg c1, if_pos c2, if_neg (by omega), if_pos (by omega)]; congr 1; omega
        · rw [if_neg c1, if_neg c2, if_neg (by omega), if_neg (by omega)]

theorem Jf (off : Nat) : ∀ (l : List Value) (k : Nat) (cs : Array Value), off + k + l.length ≤ cs.size →
    ((l.zipIdx k).foldl (fun cs (x : Value × Nat) => cs.setIfInBounds (off + x.2) x.1) cs).size = cs.size ∧
    ∀ i, ((l.zipIdx k).foldl (fun cs (x : Value × Nat) => cs.setIfInBounds (off + x.2) x.1) cs).getD i undef = if i < off + k then cs.getD i undef else if i < off + k + l.length then l.getD (i - (off + k)) undef else cs.getD i undef
  | [], k, cs, _ => ⟨rfl, fun i => by
      simp only [List.length_nil, Nat.add_zero]
      by_cases h : i < off + k
      · rw [if_pos h]; rfl
      · rw [if_neg h, if_neg h]; rfl⟩
  | v :: l, k, cs, h => by
    have hlt : off + k < cs.size := by simp at h; omega
    obtain ⟨h1, h2⟩ := Jf off l (k + 1) (cs.setIfInBounds (off + k) v) (by simp at h ⊢; omega)
    refine ⟨by simpa using h1, fun i => ?_⟩
    have := h2 i
    simp only [List.zipIdx_cons, List.foldl_cons]
    rw [this, ZcW cs (off + k) i v hlt]
    by_cases c1 : i < off + k
    · rw [if_pos (by omega), if_neg (by omega), if_pos c1]
    · rw [if_neg c1]
      by_cases c2 : i = off + k
      · rw [if_pos (by omega), if_pos c2.symm, if_pos (by simp; omega)]; simp [c2]
      · rw [if_neg (by omega)]
        by_cases c3 : i < off + k + (v :: l).length
        · rw [if_pos (by simp at c3; omega), if_pos c3]
          have : i - (off + k) = (i - (off + (k + 1))) + 1 := by omega
          rw [this]; simp
        · rw [if_neg (by simp at c3; omega), if_neg (Ne.symm c2), if_neg c3]

def CellV (c : Ctx) (st : St) (x : Operand) (l : List AV) : Prop := ∀ φ a w, Conc c φ st a w → (a.eval x).cells.size = l.length ∧ ∀ k, k < l.length → RelF c.P w (Mut c.A φ st.hp) st.hp.length φ (l.getD k .any) ((a.eval x).cells.getD k undef)

theorem cva {x : Operand} {l : List AV} (h : Opv c st x (.agg l)) : CellV c st x l := fun φ a w hc => by
  obtain ⟨vs, hv, h1, h2⟩ := XO (h φ a w hc)
  rw [hv]
  exact ⟨h1.symm, h2⟩
theorem cvs {x : Operand} {v : AV} (h : Opv c st x v) (h1 : Zbi c st v) : CellV c st x [v] := fun φ a w hc => by
  have hv := h φ a w hc
  rw [Zb7 (h1 φ a w hc _ hv)]
  refine ⟨rfl, fun k hk => ?_⟩
  have : k = 0 := by simp at hk; omega
  subst this
  simpa using hv

inductive Parts (c : Ctx) (st : St) : List (Nat × Operand) → List (Nat × List AV) → Prop
  | nil : Parts c st [] []
  | cons {i : Nat} {x : Operand} {l : List AV} {ps : List (Nat × Operand)} {qs : List (Nat × List AV)} : CellV c st x l → Parts c st ps qs → Parts c st ((i, x) :: ps) ((i, l) :: qs)

def Zc1 (pl : Nat → Option (Nat × Nat)) : List AV → List (Nat × List AV) → Option (List AV)
  | xs, [] => some xs
  | xs, (i, l) :: rest => match pl i with
    | none => none
    | some (off, sz) => match Nat.beq l.length sz, Nat.ble (off + sz) xs.length with
      | true, true => Zc1 pl (Zcs xs off l) rest
      | _, _ => none

theorem ZcV {φ : Phi} {a : Act} {w : World} (hc : Conc c φ st a w) (pl : Nat → Option (Nat × Nat)) {ps : List (Nat × Operand)} {qs : List (Nat × List AV)} (h : Parts c st ps qs) :
    ∀ (cs : Array Value) (xs ys : List AV), cs.size = xs.length → (∀ k, k < xs.length → RelF c.P w (Mut c.A φ st.hp) st.hp.length φ (xs.getD k .any) (cs.getD k undef)) → Zc1 pl xs qs = some ys →
      ∃ cs', Instr.fill pl cs (ps.map fun p => (p.1, a.eval p.2)) = some cs' ∧ cs'.size = ys.length ∧ ∀ k, k < ys.length → RelF c.P w (Mut c.A φ st.hp) st.hp.length φ (ys.getD k .any) (cs'.getD k undef) := by
  induction h with
  | nil => intro cs xs ys h1 h2 h3; cases h3; exact ⟨cs, rfl, h1, h2⟩
  | @cons i x l ps qs hx _ ih =>
    intro cs xs ys h1 h2 h3
    simp only [Zc1] at h3
    split at h3
    · cases h3
    · rename_i off sz hpl
      split at h3
      · rename_i hb1 hb2
        have hl := Nat.eq_of_beq_eq_true hb1
        have hle := Nat.le_of_ble_eq_true hb2
        obtain ⟨c1, c2⟩ := hx φ a w hc
        obtain ⟨s1, s2⟩ := ZbX xs off l (by omega)
        obtain ⟨f1, f2⟩ := Jf off (a.eval x).cells.toList 0 cs (by simp; omega)
        simp only [List.map_cons, Instr.fill, hpl]
        have hnot : ¬ ((decide ((a.eval x).cells.size ≠ sz) || decide (off + (a.eval x).cells.size > cs.size)) = true) := by
          simp only [Bool.or_eq_true, decide_eq_true_eq]; omega
        rw [if_neg hnot]
        have ef : (a.eval x).cells.zipIdx.foldl (fun cs (x : Value × Nat) => cs.setIfInBounds (off + x.2) x.1) cs = ((a.eval x).cells.toList.zipIdx 0).foldl (fun cs (x : Value × Nat) => cs.setIfInBounds (off + x.2) x.1) cs := by
          rw [← Array.foldl_toList]
          simp
        have ef' : (a.eval x).cells.zipIdx.foldl (fun cs (x : Value × Nat) => match x with | (c, j) => cs.setIfInBounds (off + j) c) cs = ((a.eval x).cells.toList.zipIdx 0).foldl (fun cs (x : Value × Nat) => cs.setIfInBounds (off + x.2) x.1) cs := ef
        rw [ef']
        refine ih _ (Zcs xs off l) ys (by rw [f1, s1, h1]) (fun k hk => ?_) h3
        rw [s1] at hk
        rw [s2 k, f2 k]
        simp only [Nat.add_zero, Array.length_toList]
        by_cases k1 : k < off
        · rw [if_pos k1, if_pos k1]; exact h2 k hk
        · rw [if_neg k1, if_neg k1]
          by_cases k2 : k < off + l.length
          · rw [if_pos k2, if_pos (by omega)]
            have := c2 (k - off) (by omega)
            simpa [Array.getD_eq_getD_getElem?, List.getD_eq_getElem?_getD] using this
          · rw [if_neg k2, if_neg (by omega)]; exact h2 k hk
      · cases h3

def JB (P : Program) (t : Nat) : Option (List (Nat × Nat)) := match P.underlying t with
  | some (.struct fs) => some (fs.toList.map fun f => (f.offset, P.cellsOf f.type))
  | _ => none

def Zbk (P : Program) (t : Nat) : Bool := match P.underlying t with
  | some (.struct fs) => fs.all fun f => (P.info? f.type).isSome
  | _ => false

theorem ZK {t : Nat} {ps : List (Nat × Operand)} {qs : List (Nat × List AV)} {pl : List (Nat × Nat)} {zs : List Value} {ys : List AV} (hpl : JB c.P t = some pl) (hal : Zbk c.P t = true) (hz : Q8 c.P t = some zs)
    (hp : Parts c st ps qs) (hf : Zc1 (pl[·]?) (zs.map constAV) qs = some ys) : SVal c ops st ⟨dst, .build t ps.toArray, ty, pos, after, none⟩ (.agg ys) :=
  .pure rfl fun φ a w hc => by
    unfold JB at hpl
    split at hpl
    · rename_i fs hu
      cases hpl
      unfold Q8 at hz
      split at hz
      · rename_i i hi
        simp only [Option.map_eq_some_iff] at hz
        obtain ⟨z, hz, rfl⟩ := hz
        have hall : ∀ f ∈ fs, (c.P.info? f.type).isSome = true := by
          unfold Zbk at hal
          rw [hu] at hal
          exact fun f hf => Array.all_eq_true_iff_forall_mem.1 hal f hf
        obtain ⟨cs', h1, h2, h3⟩ := ZcV hc ((fs.toList.map fun f => (f.offset, c.P.cellsOf f.type))[·]?) hp z.cells (z.cells.toList.map constAV) ys (by simp) (fun k hk => Ze (by
          have hk' : k < z.cells.size := by simpa using hk
          have e : (z.cells.toList.map constAV).getD k .any = constAV (z.cells.getD k undef) := by simp [List.getD_eq_getElem?_getD, hk']
          rw [e]
          exact Xr _ _ _ _)) hf
        refine ⟨.agg cs', ?_, Je h2.symm h3⟩
        have hplaces : (fs.mapM fun f => (do pure (f.offset, ← sizeOf f.type) : Sem (Nat × Nat))).run c.P w = .ok (fs.map fun f => (f.offset, c.P.cellsOf f.type)) w := by
          have key : ∀ (l : List Field), (∀ f ∈ l, (c.P.info? f.type).isSome = true) → (l.mapM fun f => (do pure (f.offset, ← sizeOf f.type) : Sem (Nat × Nat))).run c.P w = .ok (l.map fun f => (f.offset, c.P.cellsOf f.type)) w := by
            intro l
            induction l with
            | nil => intro _; rfl
            | cons f l ih =>
              intro hl
              obtain ⟨inf, hinf⟩ := Option.isSome_iff_exists.1 (hl f (by simp))
              have ih := ih fun g hg => hl g (by simp [hg])
              have e1 : (do pure (f.offset, ← sizeOf f.type) : Sem (Nat × Nat)).run c.P w = .ok (f.offset, c.P.cellsOf f.type) w := by simp [sizeOf, typeInfo, hinf, Program.cellsOf]
              rw [List.mapM_cons, Sem.run_bind, e1]
              simp only [Result.andThen_ok]
              rw [Sem.run_bind, ih]
              rfl
          have := key fs.toList (fun f hf => hall f (by simpa using hf))
          obtain ⟨fl⟩ := fs
          rw [List.mapM_toArray, Sem.run_map, this]
          simp
        have hfun : (fun (x : Nat) => (fs.map fun f => (f.offset, c.P.cellsOf f.type))[x]?) = ((fs.toList.map fun f => (f.offset, c.P.cellsOf f.type))[·]?) := by
          funext x; simp
        have hzr : (zeroValue t).run c.P w = .ok z w := by simp [zeroValue, typeInfo, hi, hz]
        have : (Instr.build t (ps.map fun p => (p.1, a.eval p.2)).toArray).run c.P w = .ok (.agg cs') w := by
          unfold Instr.build
          simp only [Sem.run_bind, hzr, Result.andThen_ok, run_underlying hu, hplaces, hfun, h1]
          rfl
        have e : (ps.toArray.map fun (p : Nat × Operand) => (p.1, a.eval p.2)) = (ps.map fun p => (p.1, a.eval p.2)).toArray := by simp
        show ((do pure (Next.value (← Instr.build t (ps.toArray.map fun (p : Nat × Operand) => (p.1, a.eval p.2)))) : Sem Next)).run c.P w = _
        rw [e, Sem.run_bind, this]
        rfl
      · cases hz
    · cases hpl
end ops
end Go.Vx

namespace Go.Vx
open Go Go.RowKit

section ops
variable {c : Ctx} {ops : Array Oper} {st : St} {dst : Option Tmp} {ty : TypeId} {pos : String} {after : Array Edge}

theorem Dat.fn {f : FuncId} : Dat c st (.fn f []) (.fn f []) := by
  intro φ a w hc v hv
  have hv := hv φ (fun _ _ => rfl)
  cases hv with
  | data h => exact h
  | fn _ _ vs h1 _ => exact .fn f [] vs h1 (fun i hi => by cases hi)

theorem ZbY {size : Nat} : ∀ (ps : List (Nat × Value)) (k : Nat) (cs : Array Value), (∀ q, q < ps.length → (ps.getD q (0, undef)).1 = k + q) → (∀ p ∈ ps, p.2.cells.size = size) → (k + ps.length) * size ≤ cs.size →
    ∃ cs', Instr.fill (fun i => some (i * size, size)) cs ps = some cs' ∧ cs'.size = cs.size ∧ (∀ x, x < k * size → cs'.getD x undef = cs.getD x undef) ∧
      ∀ q j, q < ps.length → j < size → cs'.getD ((k + q) * size + j) undef = ((ps.getD q (0, undef)).2.cells).getD j undef
  | [], k, cs, _, _, _ => ⟨cs, rfl, rfl, fun _ _ => rfl, fun q j hq => by cases hq⟩
  | p :: ps, k, cs, h1, h2, h3 => by
    obtain ⟨i, v⟩ := p
    have hi : i = k := by have := h1 0 (by simp); simpa using this
    subst hi
    have hv := h2 (i, v) (by simp)
    simp only at hv
    have hb : i * size + size ≤ cs.size := by
      have : (i + 1) * size ≤ (i + ((i, v) :: ps).length) * size := Nat.mul_le_mul_right _ (by simp)
      rw [Nat.add_mul, Nat.one_mul] at this
      omega
    obtain ⟨f1, f2⟩ := Jf (i * size) v.cells.toList 0 cs (by simp [hv]; omega)
    have ef : v.cells.zipIdx.foldl (fun cs (x : Value × Nat) => match x with | (c, j) => cs.setIfInBounds (i * size + j) c) cs = (v.cells.toList.zipIdx 0).foldl (fun cs (x : Value × Nat) => cs.setIfInBounds (i * size + x.2) x.1) cs := by
      rw [← Array.foldl_toList]
      simp
    obtain ⟨cs', g1, g2, g3, g4⟩ := ZbY ps (i + 1) _ (fun q hq => by have := h1 (q + 1) (by simpa using hq); simp at this ⊢; omega) (fun p hp => h2 p (by simp [hp])) (by
      rw [f1]
      have : i + 1 + ps.length = i + ((i, v) :: ps).length := by simp; omega
      rw [this]; exact h3)
    refine ⟨cs', ?_, by rw [g2, f1], fun x hx => ?_, fun q j hq hj => ?_⟩
    · simp only [Instr.fill]
      have hnot : ¬ ((decide (v.cells.size ≠ size) || decide (i * size + v.cells.size > cs.size)) = true) := by
        simp only [Bool.or_eq_true, decide_eq_true_eq]; omega
      rw [if_neg hnot, ef]
      exact g1
    · rw [g3 x (by rw [Nat.add_mul]; omega), f2 x, if_pos (by omega)]
    · cases q with
      | zero =>
        rw [Nat.add_zero, g3 _ (by rw [Nat.add_mul]; omega), f2, if_neg (by omega), if_pos (by simp [hv]; omega)]
        simp [Array.getD_eq_getD_getElem?, List.getD_eq_getElem?_getD]
      | succ q =>
        have := g4 q j (by simpa using hq) hj
        rw [show i + (q + 1) = i + 1 + q by omega, this]
        simp

inductive Elems (c : Ctx) (st : St) (sz : Nat) : List (Nat × Operand) → Nat → List (List AV) → Prop
  | nil {k : Nat} : Elems c st sz [] k []
  | cons {k : Nat} {x : Operand} {l l' : List AV} {ps : List (Nat × Operand)} {ls : List (List AV)} : CellV c st x l → l'.length = sz → Pw (Dat c st) l l' → Elems c st sz ps (k + 1) ls → Elems c st sz ((k, x) :: ps) k (l' :: ls)

theorem Elems.spec {sz : Nat} {ps : List (Nat × Operand)} {k : Nat} {ls : List (List AV)} (h : Elems c st sz ps k ls) {φ : Phi} {a : Act} {w : World} (hc : Conc c φ st a w) :
    ps.length = ls.length ∧ (∀ row ∈ ls, row.length = sz) ∧ (∀ q, q < ps.length → ((ps.map fun p => (p.1, a.eval p.2)).getD q (0, undef)).1 = k + q) ∧ (∀ p ∈ ps.map (fun p => (p.1, a.eval p.2)), p.2.cells.size = sz) ∧
      ∀ q j, q < ps.length → j < sz → RelD c.P w (Mut c.A φ st.hp) (cellAt ls q j) ((((ps.map fun p => (p.1, a.eval p.2)).getD q (0, undef)).2.cells).getD j undef) := by
  induction h with
  | nil => exact ⟨rfl, by simp, (fun q hq => by cases hq), by simp, (fun q j hq => by cases hq)⟩
  | @cons k x l l' ps ls hx hl hd _ ih =>
    have hll := hd.len
    obtain ⟨h1, h2, h3, h4, h5⟩ := ih
    obtain ⟨c1, c2⟩ := hx φ a w hc
    refine ⟨by simp [h1], ?_, fun q hq => ?_, ?_, fun q j hq hj => ?_⟩
    · intro row hrow
      rcases List.mem_cons.1 hrow with rfl | hrow
      · exact hl
      · exact h2 row hrow
    · cases q with
      | zero => simp
      | succ q =>
        have := h3 q (by simpa using hq)
        simp at this ⊢
        omega
    · intro p hp
      rcases List.mem_cons.1 hp with rfl | hp
      · exact c1.trans (hll.trans hl)
      · exact h4 p hp
    · cases q with
      | zero =>
        have := hd.get j (by omega) φ a w hc _ (c2 j (by omega))
        simpa [cellAt] using this
      | succ q =>
        have := h5 q j (by simpa using hq) hj
        simpa [cellAt] using this

theorem Zap {t e sz by_ n : Nat} {ps : List (Nat × Operand)} {ls : List (List AV)} (ht : tSl c.P t e sz by_ = true) (hp : Elems c st sz ps 0 ls) (hn : ps.length = n) (hbig : Nat.ble (n * sz) (2 ^ 24) = true) :
    SVal c ops st ⟨dst, .buildSlice t n ps.toArray, ty, pos, after, none⟩ (.sl e ls) := by
  obtain ⟨hu, inf, z, hi, hs, hby, hn0, hz, hzs, hcs⟩ := tSl.spec ht
  refine .run rfl fun φ a w hc => ?_
  obtain ⟨h1, h2, h3, h4, h5⟩ := hp.spec hc
  have hbig : n * sz ≤ 2 ^ 24 := by simpa using hbig
  have hps : (ps.map fun p => (p.1, a.eval p.2)).length = n := by simpa using hn
  obtain ⟨cs', g1, g2, _, g4⟩ := ZbY (size := sz) (ps.map fun p => (p.1, a.eval p.2)) 0 ((Array.range (n * sz)).map (z.cells[· % z.cells.size]!)) (fun q hq => by have := h3 q (by simpa using hq); simpa using this) h4 (by simp [hn])
  have hsz : cs'.size = n * sz := by rw [g2]; simp
  have hzero : n * sz ≠ 0 → (zeroValue e).run c.P w = .ok z w := fun _ => by simp [zeroValue, typeInfo, hi, hz]
  refine ⟨.slice (some ⟨w.heap.size, 0, none⟩) n n, w.alloc (.cells cs' e), ?_, (Below.refl _ _).alloc (Nat.le_refl _) _, Ze ?_⟩
  · have e1 : (ps.toArray.map fun (p : Nat × Operand) => (p.1, a.eval p.2)) = (ps.map fun p => (p.1, a.eval p.2)).toArray := by simp
    have hsize : (sizeOf e).run c.P w = .ok sz w := by simp [sizeOf, typeInfo, hi, hs]
    have hfill : ∀ zero : Array Value, (if n * sz = 0 then zero = #[] else zero = z.cells) → Instr.fill (fun i => some (i * sz, sz)) ((Array.range (n * sz)).map (zero[· % zero.size]!)) (ps.map fun p => (p.1, a.eval p.2)) = some cs' := by
      intro zero hzr
      by_cases h0 : n * sz = 0
      · rw [if_pos h0] at hzr
        rw [← g1]
        congr 1
        simp [h0]
      · rw [if_neg h0] at hzr
        rw [hzr]; exact g1
    have key : (Instr.buildSlice t n (ps.map fun p => (p.1, a.eval p.2)).toArray).run c.P w = .ok (.slice (some ⟨w.heap.size, 0, none⟩) n n) (w.alloc (.cells cs' e)) := by
      unfold Instr.buildSlice
      rw [Sem.run_bind, run_underlying hu]
      simp only [Result.andThen_ok]
      rw [Sem.run_bind, hsize]
      simp only [Result.andThen_ok]
      rw [if_neg (by omega)]
      by_cases h0 : n * sz = 0
      · have := hfill #[] (by rw [if_pos h0])
        simp [h0] at this ⊢
        simp [this, newRow]
      · have := hfill z.cells (by rw [if_neg h0])
        simp [h0, hzero h0, this, newRow]
    show ((do pure (Next.value (← Instr.buildSlice t n (ps.toArray.map fun (p : Nat × Operand) => (p.1, a.eval p.2)))) : Sem Next)).run c.P w = _
    rw [e1, Sem.run_bind, key]
    rfl
  · have hlt : w.heap.size < (w.alloc (.cells cs' e)).heap.size := by simp
    have hnM : ¬ Mut c.A φ st.hp w.heap.size := fun hm => by have := ZaL hc _ hm; omega
    have hll : ls.length = n := by rw [← h1, hn]
    have hnew : (w.alloc (.cells cs' e)).heap[w.heap.size]? = some (.cells cs' e (0, 0)) := heap_alloc_new w _
    have := RelD.sl (P := c.P) (w := w.alloc (.cells cs' e)) (M := Mut c.A φ st.hp) e ls w.heap.size 0 n (fun i j => cs'.getD (i * sz + j) undef) hlt hnM (by rw [hll]; have : n ≤ n * sz := Nat.le_mul_of_pos_right n hn0; omega) (by omega) (by rw [hcs]; exact h2) (fun i j hi' hj' => by
      rw [hcs] at hj'
      rw [Zn hnew, hcs, Nat.zero_add]
      have : i * sz + j < cs'.size := by rw [hsz]; exact Q3 (by omega) hj'
      simp [this]) (fun i j hi' hj' => by
      rw [hcs] at hj'
      have e2 := g4 i j (by rw [hps]; omega) hj'
      rw [Nat.zero_add] at e2
      rw [e2]
      exact (h5 i j (by omega) hj').mono ((Below.refl w.heap.size w).alloc (Nat.le_refl _) _).size (fun b hb _ => ((Below.refl w.heap.size w).alloc (Nat.le_refl _) _).block b hb) (fun _ _ h => h))
    rw [hll] at this
    exact this


def Zfx : AV → AV → Bool
  | .int _ a, .int _ b => decide (a = b)
  | .bool a, .bool b => a == b
  | .str a, .str b => decide (a = b)
  | _, _ => false
def Zcc : List AV → List AV → Bool
  | [], _ => true
  | _, [] => true
  | x :: l, y :: m => Zfx x y && Zcc l m

inductive Kd | i (k : IntKind) | b | s
def Zev (P : Program) (t : Nat) : Option Kd := match P.underlying t with
  | some (.int k) => some (.i k)
  | some .bool => some .b
  | some .string => some .s
  | _ => none
def ZbD : Kd → AV → Bool
  | .i k, .int k' _ => decide (k = k')
  | .b, .bool _ => true
  | .s, .str _ => true
  | _, _ => false

def ZaG (P : Program) : Nat → List Field → List Kd → Bool
  | _, [], [] => true
  | n, f :: fs, k :: ks => (f.name != "_") && Nat.beq f.offset n && tScal P f.type && (match Zev P f.type, k with | some (.i a), .i b => decide (a = b) | some .b, .b => true | some .s, .s => true | _, _ => false) && ZaG P (n + 1) fs ks
  | _, _, _ => false

def Zb9 (P : Program) (t : Nat) (ks : List Kd) : Bool := (match P.underlying t with | some (.struct fs) => ZaG P 0 fs.toList ks | _ => false) && !P.stoodInHeld t && !P.eqGuardType P.depth t

def ZaV : List Kd → List AV → Bool
  | [], [] => true
  | k :: ks, v :: vs => ZbD k v && ZaV ks vs
  | _, _ => false

theorem Zar {P : Program} {w : World} {M : Nat → Prop} {xs ys : Array Value} : ∀ (ks : List Kd) (fs : List Field) (n : Nat) (l m : List AV), ZaG P n fs ks = true → ZaV ks l = true → ZaV ks m = true →
    (∀ i, i < l.length → n + i < xs.size ∧ RelD P w M (l.getD i .any) (xs.getD (n + i) undef)) → (∀ i, i < m.length → n + i < ys.size ∧ RelD P w M (m.getD i .any) (ys.getD (n + i) undef)) →
    ∀ d, (Op.eqFields (d + 1) xs ys fs).run P w = .ok (Zcc l m) w
  | [], [], n, l, m, _, hl, hm, _, _ => fun d => by
    cases l with
    | nil => rfl
    | cons => cases hl
  | [], _ :: _, _, _, _, h, _, _, _, _ => by simp [ZaG] at h
  | _ :: _, [], _, _, _, h, _, _, _, _ => by simp [ZaG] at h
  | k :: ks, f :: fs, n, l, m, h, hl, hm, hx, hy => fun d => by
    cases l with
    | nil => cases hl
    | cons x l =>
      cases m with
      | nil => cases hm
      | cons y m =>
        simp only [ZaG, Bool.and_eq_true, bne_iff_ne] at h
        obtain ⟨⟨⟨⟨h1, h2⟩, h3⟩, h4⟩, h5⟩ := h
        have ho := Nat.eq_of_beq_eq_true h2
        simp only [ZaV, Bool.and_eq_true] at hl hm
        obtain ⟨x1, x2⟩ := hx 0 (by simp)
        obtain ⟨y1, y2⟩ := hy 0 (by simp)
        simp only [Nat.add_zero, List.getD_cons_zero] at x1 x2 y1 y2
        have hagg : (isAgg f.type).run P w = .ok false w := by
          obtain ⟨i, dd, hi, _, hu, hd, _⟩ := tScal.spec h3
          unfold isAgg
          rw [Sem.run_bind, run_underlying hu w]
          cases dd <;> simp_all
        have px : (part f.type xs f.offset).run P w = .ok (xs.getD n undef) w := by
          have : xs[n]? = some (xs.getD n undef) := by rw [Array.getElem?_eq_getElem x1]; simp [x1]
          unfold part
          rw [Sem.run_bind, hagg, ho]
          simp only [Result.andThen_ok, Bool.false_eq_true, if_false]
          generalize xs.getD n undef = v at this
          rw [this]; rfl
        have py : (part f.type ys f.offset).run P w = .ok (ys.getD n undef) w := by
          have : ys[n]? = some (ys.getD n undef) := by rw [Array.getElem?_eq_getElem y1]; simp [y1]
          unfold part
          rw [Sem.run_bind, hagg, ho]
          simp only [Result.andThen_ok, Bool.false_eq_true, if_false]
          generalize ys.getD n undef = v at this
          rw [this]; rfl
        have pe : (Op.equalIn (d + 1) f.type (xs.getD n undef) (ys.getD n undef)).run P w = .ok (Zfx x y) w := by
          generalize xs.getD n undef = vx at x2
          generalize ys.getD n undef = vy at y2
          unfold Zev at h4
          split at h4
          · rename_i a b hk
            split at hk <;> cases hk
            rename_i hu
            have hab : a = b := by simpa using h4
            subst hab
            cases x <;> simp [ZbD] at hl
            cases y <;> simp [ZbD] at hm
            obtain ⟨rfl, _⟩ := hl
            obtain ⟨rfl, _⟩ := hm
            cases x2; cases y2
            rw [run_equalIn_int w d f.type _ _ _ _ hu]
            rfl
          · rename_i hk
            split at hk <;> cases hk
            rename_i hu
            cases x <;> simp [ZbD] at hl
            cases y <;> simp [ZbD] at hm
            cases x2; cases y2
            rw [run_equalIn_bool' w d f.type _ _ hu]
            rfl
          · rename_i hk
            split at hk <;> cases hk
            rename_i hu
            cases x <;> simp [ZbD] at hl
            cases y <;> simp [ZbD] at hm
            cases x2; cases y2
            rw [run_equalIn_string w d f.type _ _ hu]
            simp only [Zfx, ByteArray.toList_eq]
            congr 1
            rw [Bool.eq_iff_iff]; simp
          · cases h4
        have ih := Zar ks fs (n + 1) l m h5 hl.2 hm.2 (fun i hi => by
            have := hx (i + 1) (by simpa using hi)
            simpa [Nat.add_assoc, Nat.add_comm 1 i] using this) (fun i hi => by
            have := hy (i + 1) (by simpa using hi)
            simpa [Nat.add_assoc, Nat.add_comm 1 i] using this) d
        simp only [Op.eqFields, if_pos h1]
        rw [Sem.run_bind, px]
        simp only [Result.andThen_ok]
        rw [Sem.run_bind, py]
        simp only [Result.andThen_ok]
        rw [Sem.run_bind, pe]
        simp only [Result.andThen_ok]
        cases he : Zfx x y
        · simp [Zcc, he]
        · simp only [Bool.not_true, Bool.false_eq_true, if_false, ih]
          simp [Zcc, he]
end ops
end Go.Vx

namespace Go.Vx
open Go Go.RowKit

section ops
variable {c : Ctx} {ops : Array Oper} {st : St} {dst : Option Tmp} {ty : TypeId} {pos : String} {after : Array Edge}

theorem Zcw {P : Program} {w : World} {M : Nat → Prop} {t : Nat} {ks : List Kd} {l m : List AV} {vx vy : Value} (ht : Zb9 P t ks = true) (hl : ZaV ks l = true) (hm : ZaV ks m = true)
    (hx : RelD P w M (.agg l) vx) (hy : RelD P w M (.agg m) vy) (op : BinOp) (x y : Operand) (hop : op = .eql ∨ op = .neq) :
    (do eqGuard op t x y vx vy; binOp op t vx vy : Sem Value).run P w = .ok (.bool (if op matches .eql then Zcc l m else !Zcc l m)) w := by
  unfold Zb9 at ht
  simp only [Bool.and_eq_true, Bool.not_eq_true'] at ht
  obtain ⟨⟨h1, h2⟩, h3⟩ := ht
  split at h1
  · rename_i fs hu
    cases hx with
    | agg _ xs a1 a2 =>
      cases hy with
      | agg _ ys b1 b2 =>
        have hf := Zar (P := P) (w := w) (M := M) (xs := xs) (ys := ys) ks fs.toList 0 l m h1 hl hm (fun i hi => ⟨by omega, by rw [Nat.zero_add]; exact a2 i hi⟩) (fun i hi => ⟨by omega, by rw [Nat.zero_add]; exact b2 i hi⟩) 9998
        have hfs : P.fieldsOf t = fs := by simp [Program.fieldsOf, hu]
        have he : (Op.equal t (.agg xs) (.agg ys)).run P w = .ok (Zcc l m) w := by
          unfold Op.equal Op.maxDepth
          rw [run_equalIn_struct w 9999 t xs ys (by rw [hfs]; exact hu) h2, hfs]
          exact hf
        have hg : (eqGuard op t x y (.agg xs) (.agg ys)).run P w = .ok () w := by
          rcases hop with rfl | rfl <;> simp [eqGuard, h3]
        rw [Sem.run_bind, hg]
        simp only [Result.andThen_ok]
        rcases hop with rfl | rfl
        · simp [binOp, he]
        · simp [binOp, he]
  · cases h1

theorem Zf8 {x y : Operand} {t u : Nat} {ks : List Kd} {l m : List AV} (ht : Zb9 c.P t ks = true) (hx : Opv c st x (.agg l)) (hy : Opv c st y (.agg m)) (dx : Dat c st (.agg l) (.agg l)) (dy : Dat c st (.agg m) (.agg m))
    (hl : ZaV ks l = true) (hm : ZaV ks m = true) : SVal c ops st ⟨dst, .binOp .eql t x y u, ty, pos, after, none⟩ (.bool (Zcc l m)) :=
  .pure rfl fun φ a w hc => by
    have h := Zcw ht hl hm (dx φ a w hc _ (hx φ a w hc)) (dy φ a w hc _ (hy φ a w hc)) .eql x y (.inl rfl)
    refine ⟨.bool (Zcc l m), ?_, Ze (.bool _)⟩
    show ((do pure (Next.value (← (do eqGuard .eql t x y (a.eval x) (a.eval y); binOp .eql t (a.eval x) (a.eval y) : Sem Value))) : Sem Next)).run c.P w = _
    rw [Sem.run_bind, h]
    rfl

end ops

theorem w64 {z : Int} (h1 : -9223372036854775808 ≤ z) (h2 : z ≤ 9223372036854775807) : IntKind.i64.wrap z = z := IntWalk.i64_in z ⟨h1, h2⟩
end Go.Vx

namespace Go.Vx
open Go Go.RowKit

theorem gT {b : Bool} (h : b = true) : (b == true) = true := by rw [h]; rfl
theorem gF {b : Bool} (h : b = false) : (b == false) = true := by rw [h]; rfl
theorem gA {x y : Bool} (h : x = true) (k : y = true) : (x && y) = true := by rw [h, k]; rfl
theorem g1 {x y : Bool} (h : (x && y) = true) : x = true := by cases x <;> simp_all
theorem g2 {x y : Bool} (h : (x && y) = true) : y = true := by cases x <;> simp_all
theorem ExtW.app {wl : List Nat} {hp l : List (Option Own)} : ExtW wl hp (hp ++ l) := ⟨by simp, fun r o h => by
  have : nth (hp ++ l) r = some o := by
    induction hp generalizing r with
    | nil => cases h
    | cons x tl ih => cases r with | zero => exact h | succ r => exact ih r h
  exact ⟨fun _ => this, o, this, rfl, rfl⟩⟩
theorem Ext.app {hp l : List (Option Own)} : Ext hp (hp ++ l) := ⟨by simp, fun r o h => by
  induction hp generalizing r with
  | nil => cases h
  | cons x tl ih => cases r with | zero => exact h | succ r => exact ih r h⟩

section draw
variable {cw : Md} {c : Ctx} {ops : Array Oper} {st : St} {m : Nat} {K : Exit → St → Prop}

theorem ZeQ (i : Nat) {o : Oper} (v : AV) (ho : ops[i]? = some o) (ht : takeAt cw ops m i = true) (hd : dstLt o.dst c.nt = true) (hf : ZaM cw o = true)
    (h : ∀ hp', SVal c ops ⟨restr st.tm (o.looksAt ops), hp'⟩ o v) (k : Dv cw c ops (KE c K) (setBit m i) (st.puto o.dst v)) : Dv cw c ops (KE c K) m st := .take i o v ho ht ⟨hd, .inl ⟨hf, h⟩⟩ k

theorem ZfW (i : Nat) {o : Oper} (v : AV) (ho : ops[i]? = some o) (ht : takeQ cw ops m i = true) (hd : dstLt o.dst c.nt = true) (hn : noWrite cw.cw o.op = true)
    (h : SVal c ops ⟨restr st.tm (o.looksAt ops), st.hp⟩ o v) (k : Dv cw c ops (KE c K) (setBit m i) (st.puto o.dst v)) : Dv cw c ops (KE c K) m st := .take0 i o v ho ht ⟨hd, hn, h⟩ k

def ZdC (ops : Array Oper) (m : Nat) : Bool := (List.range ops.size).all fun i => !readyAt ops m i
theorem Zgd (h : ZdC ops m = true) (k : K .normal st) : Dv cw c ops (KE c K) m st :=
  .done (fun i hi => by have := List.all_eq_true.1 h i (List.mem_range.2 hi); simpa using this) ⟨st, k, .refl⟩

def onlyAt (ops : Array Oper) (m i : Nat) : Bool := readyAt ops m i && Nat.blt i ops.size && (List.range ops.size).all fun j => Nat.beq j i || !readyAt ops m j
theorem onlyAt.spec {i : Nat} (h : onlyAt ops m i = true) : readyAt ops m i = true ∧ i < ops.size ∧ ∀ j, j < ops.size → readyAt ops m j = true → j = i := by
  unfold onlyAt at h
  simp only [Bool.and_eq_true] at h
  obtain ⟨⟨h1, h2⟩, h3⟩ := h
  refine ⟨h1, by simpa using h2, fun j hj hr => ?_⟩
  have := List.all_eq_true.1 h3 j (List.mem_range.2 hj)
  rw [hr] at this
  simp only [Bool.not_true, Bool.or_false] at this
  exact Nat.eq_of_beq_eq_true this

theorem ZgD (i : Nat) {o : Oper} (v : AV) (hp' : List (Option Own)) (ho : ops[i]? = some o) (ht : onlyAt ops m i = true) (hd : dstLt o.dst c.nt = true) (hn : noWrite cw.cw o.op = false)
    (hx : extOp o.op = true → Ext st.hp hp') (hy : cw.fr = true → ExtW cw.wl cw.base hp') (h : WVal c ops ⟨restr st.tm (o.looksAt ops), st.hp⟩ o v hp') (k : Dv cw c ops (KE c K) (setBit m i) (St.puto ⟨st.tm, hp'⟩ o.dst v)) : Dv cw c ops (KE c K) m st := by
  obtain ⟨h1, h2, h3⟩ := onlyAt.spec ht
  refine .branch (fun _ => St.puto ⟨st.tm, hp'⟩ o.dst v) ⟨i, h2, h1⟩ (fun j hj hr => ?_) (fun j hj hr => ?_)
  · rw [h3 j hj hr]; exact .w ho ⟨hd, hn, hx, hy, h⟩
  · rw [h3 j hj hr]; exact k
end draw

theorem ZfL {c : Ctx} {x y : Code} {st : St} {K : Exit → St → Prop} {ι : Type} (C : ι → Prop) (J : ι → St) (h : T c x st (JD (fun st' => ∃ i, C i ∧ Ent c st' (J i)) K)) (k : ∀ i, C i → T c y (J i) K) : T c (.seq x y) st K :=
  Zq (Zef h fun e st' hk => by
    cases e with
    | normal => obtain ⟨i, hi, he⟩ := hk; exact ZaW he (k i hi)
    | exit id => exact hk
    | goto l => exact hk
    | ret => exact hk
    | panic ch => exact hk
    | outgrown => exact hk)
end Go.Vx
namespace Go.Vx
theorem Zc9 {c : Ctx} {ops : Array Oper} {st : St} {dst : Option Tmp} {op : Op} {ty : TypeId} {pos : String} {after : Array Edge} {v : AV} (h : SVal c ops st ⟨dst, op, ty, pos, after, none⟩ v) : WVal c ops st ⟨dst, op, ty, pos, after, none⟩ v st.hp := by
  intro φ a w hc
  refine ⟨Qo rfl, Oper.wp_mono (fun a' w' ⟨u, h1, h2, h3⟩ => ⟨u, φ, h1, hc.hok.below h2, fun av x hr => hr.below h2, h3⟩) ((h φ a w hc).1 (Qo rfl))⟩
end Go.Vx

namespace Go.Vx
open Go Go.RowKit

theorem Zt {c : Ctx} {st : St} {rs : Array ResultVar} {r r' : AV} (e : r' = r) (h : Ret c st rs r') : ZfV c rs r .ret st := by subst e; exact h

theorem pwB {c : Ctx} {st : St} {l : List AV} (h : l.all datB = true) : Pw (View c st) l l := .refl fun x hx => Dat.view (.b (List.all_eq_true.1 h x hx))

theorem ZfB {α : Type} {f : α → List AV} {xs : List α} {i : Nat} {x : α} (h : xs[i]? = some x) : (xs.map f)[i]? = some (f x) := by simp [h]
theorem Zcr {α : Type} (f : α → List AV) (xs : List α) : ((xs.map f).length : Int) = (xs.length : Int) := by simp

theorem ZgI {z : Int} (h1 : 0 ≤ z) (h2 : z < 18446744073709551616) : IntKind.u64.wrap z = z := by
  simp [IntKind.wrap, IntKind.bits, IntKind.signed]; omega
end Go.Vx

namespace Go.Vx
open Go Go.RowKit

section
variable {c : Ctx} {ops : Array Oper} {st : St} {dst : Option Tmp} {ty : TypeId} {pos : String} {after : Array Edge}
end
end Go.Vx

namespace Go.Vx
open Go Go.RowKit

theorem pwD {c : Ctx} {st : St} {l : List AV} (h : l.all datB = true) : Pw (Dat c st) l l := .refl fun x hx => .b (List.all_eq_true.1 h x hx)

theorem ZbB {es : List (List AV)} {i j n : Nat} (h : ∀ row ∈ es, row.length = n ∧ row.all datB = true) (hi : i < es.length) (hj : j < n) : datB (cellAt es i j) = true := by
  have h1 := h _ (List.getElem_mem hi)
  have : cellAt es i j = es[i][j]'(by omega) := by simp [cellAt, List.getD_eq_getElem?_getD, hi, h1.1, hj]
  rw [this]
  exact List.all_eq_true.1 h1.2 _ (List.getElem_mem _)

section draw
variable {cw : Md} {c : Ctx} {ops : Array Oper} {st : St} {m : Nat} {K : Exit → St → Prop}
def ZeB (ops : Array Oper) (m i j : Nat) : Bool := readyAt ops m i && Nat.blt i ops.size && Nat.blt j ops.size && (List.range ops.size).all fun k => Nat.beq k i || Nat.beq k j || !readyAt ops m k

end draw
end Go.Vx

namespace Go.Vx
open Go Go.RowKit Go.ChangeShapes Go.WideShapes


inductive Sh : Type
  | int (k : IntKind)
  | bool
  | str
  | sl (e : TypeId) (fs : List Sh)

inductive Fits : Sh → AV → Prop
  | int {k : IntKind} {n : Int} : (Lit.int k n).wf = true → Fits (.int k) (.int k n)
  | bool (b : Bool) : Fits .bool (.bool b)
  | str {s : List UInt8} : s.length ≤ maxLen → Fits .str (.str s)
  | sl {e : TypeId} {fs : List Sh} {l : List (List AV)} : l.length ≤ maxLen → (∀ row ∈ l, row.length = fs.length) → (∀ i j, i < l.length → j < fs.length → Fits (fs.getD j .bool) (cellAt l i j)) → Fits (.sl e fs) (.sl e l)

def Zaj (ss : List Sh) (l : List AV) : Prop := l.length = ss.length ∧ ∀ j, j < ss.length → Fits (ss.getD j .bool) (l.getD j .any)

def Ze2 (P : Program) (g : TypeId → Option (List Sh)) : Nat → List Field → Option (List Sh)
  | _, [] => some []
  | off, f :: tl => match g f.type with
    | some ss => if Nat.beq f.offset off && Nat.beq (P.cellsOf f.type) ss.length then (match Ze2 P g (off + ss.length) tl with | some r => some (ss ++ r) | none => none) else none
    | none => none

def Zcn (P : Program) : Nat → TypeId → Option (List Sh)
  | 0, _ => none
  | n + 1, t => match P.underlying t with
    | some (.int k) => some [.int k]
    | some .bool => some [.bool]
    | some .string => some [.str]
    | some (.slice e) => match Zcn P n e with
      | some fs => if Nat.beq fs.length (P.cellsOf e) && Nat.blt 0 fs.length then some [.sl e fs] else none
      | none => none
    | some (.struct fs) => match Ze2 P (Zcn P n) 0 fs.toList with
      | some ss => if Nat.beq ss.length (P.cellsOf t) then some ss else none
      | none => none
    | some (.array k e) => match Zcn P n e with
      | some es => if Nat.beq (k * es.length) (P.cellsOf t) && Nat.beq es.length (P.cellsOf e) then some (List.replicate k es).flatten else none
      | none => none
    | _ => none

def No : Nat → Prop := fun _ => False

section
variable {H : Type} {enc : TypeId × Value → H} {P : Program} {w : World} {base : Nat} {spare : Nat → Bool} {held : Bool}

def Ze5 (P : Program) (w : World) (ss : List Sh) (cs : List Value) : Prop := cs.length = ss.length ∧ ∃ l, Zaj ss l ∧ ∀ j, j < ss.length → RelD P w No (l.getD j .any) (cs.getD j undef)

theorem ZdX {s : Sh} {av : AV} (h : Fits s av) : Zaj [s] [av] := ⟨rfl, fun j hj => by simp at hj; subst hj; exact h⟩
theorem X8 {s : Sh} {av : AV} {v : Value} (h : Fits s av) (hr : RelD P w No av v) : Ze5 P w [s] [v] := ⟨rfl, [av], ZdX h, fun j hj => by simp at hj; subst hj; exact hr⟩

theorem ZaY {g : TypeId → Option (List Sh)} {m : Nat} {cs : List Value} (hg : ∀ t ss cs' y, g t = some ss → DataW.trod enc P w base spare held m t cs' = some y → Ze5 P w ss cs') :
    ∀ (fl : List Field) (off : Nat) (ss : List Sh), Ze2 P g off fl = some ss → (∀ f ∈ fl, ∃ y, DataW.trod enc P w base spare held m f.type ((cs.drop f.offset).take (P.cellsOf f.type)) = some y) →
      ∃ l, Zaj ss l ∧ ∀ j, j < ss.length → RelD P w No (l.getD j .any) (cs.getD (off + j) undef)
  | [], off, ss, h, _ => by
    simp only [Ze2] at h; cases h
    exact ⟨[], ⟨rfl, fun j hj => by cases hj⟩, fun j hj => by cases hj⟩
  | f :: tl, off, ss, h, hf => by
    simp only [Ze2] at h
    split at h
    · rename_i s1 hs1
      split at h
      · rename_i hc
        simp only [Bool.and_eq_true] at hc
        obtain ⟨hc1, hc2⟩ := hc
        have hc1 := Nat.eq_of_beq_eq_true hc1
        have hc2 := Nat.eq_of_beq_eq_true hc2
        split at h
        · rename_i r hr
          cases h
          obtain ⟨y, hy⟩ := hf f (by simp)
          obtain ⟨hlen, l1, hl1, hr1⟩ := hg _ _ _ _ hs1 hy
          obtain ⟨l2, hl2, hr2⟩ := ZaY hg tl (off + s1.length) r hr (fun f' hf' => hf f' (by simp [hf']))
          refine ⟨l1 ++ l2, ⟨by simp [hl1.1, hl2.1], fun j hj => ?_⟩, fun j hj => ?_⟩
          · by_cases hj1 : j < s1.length
            · have := hl1.2 j hj1
              simpa [List.getD_eq_getElem?_getD, List.getElem?_append, hj1, hl1.1] using this
            · have := hl2.2 (j - s1.length) (by simp at hj; omega)
              simpa [List.getD_eq_getElem?_getD, List.getElem?_append, hj1, hl1.1] using this
          · by_cases hj1 : j < s1.length
            · have := hr1 j hj1
              rw [hc1, hc2] at this
              simpa [List.getD_eq_getElem?_getD, List.getElem?_append, hj1, hl1.1, List.getElem?_take, List.getElem?_drop] using this
            · have := hr2 (j - s1.length) (by simp at hj; omega)
              rw [show off + s1.length + (j - s1.length) = off + j by omega] at this
              simpa [List.getD_eq_getElem?_getD, List.getElem?_append, hj1, hl1.1] using this
        · cases h
      · cases h
    · cases h

theorem Zbw {es : List Sh} {cs : List Value} : ∀ (k : Nat), (∀ i, i < k → Ze5 P w es ((cs.drop (i * es.length)).take es.length)) →
    ∃ l, Zaj (List.replicate k es).flatten l ∧ ∀ j, j < (List.replicate k es).flatten.length → RelD P w No (l.getD j .any) (cs.getD j undef)
  | 0, _ => ⟨[], ⟨rfl, fun j hj => by cases hj⟩, fun j hj => by cases hj⟩
  | k + 1, h => by
    obtain ⟨l1, hl1, hr1⟩ := Zbw k (fun i hi => h i (by omega))
    obtain ⟨hlen, l2, hl2, hr2⟩ := h k (by omega)
    have hfl : (List.replicate k es).flatten.length = k * es.length := by simp
    have hll : l1.length = k * es.length := by rw [hl1.1, hfl]
    have e : (List.replicate (k + 1) es).flatten = (List.replicate k es).flatten ++ es := by rw [List.replicate_succ']; simp
    rw [e]
    refine ⟨l1 ++ l2, ⟨by simp [hl1.1, hl2.1], fun j hj => ?_⟩, fun j hj => ?_⟩
    · by_cases hj1 : j < k * es.length
      · have := hl1.2 j (by omega)
        simpa [List.getD_eq_getElem?_getD, List.getElem?_append, hj1, hll, hfl] using this
      · have := hl2.2 (j - k * es.length) (by simp at hj; omega)
        simpa [List.getD_eq_getElem?_getD, List.getElem?_append, hj1, hll, hfl] using this
    · by_cases hj1 : j < k * es.length
      · have := hr1 j (by omega)
        simpa [List.getD_eq_getElem?_getD, List.getElem?_append, hj1, hll, hfl] using this
      · have hj2 : j - k * es.length < es.length := by simp at hj; omega
        have := hr2 (j - k * es.length) hj2
        simp only [List.getD_eq_getElem?_getD, List.getElem?_take, List.getElem?_drop, if_pos hj2] at this
        rw [show k * es.length + (j - k * es.length) = j by omega] at this
        simpa [List.getD_eq_getElem?_getD, List.getElem?_append, hj1, hll] using this

theorem Ja : ∀ (n : Nat) (t : TypeId) (ss : List Sh) (fuel : Nat) (cs : List Value) (x : DataW H × List MemPlace), Zcn P n t = some ss → DataW.trod enc P w base spare held fuel t cs = some x → Ze5 P w ss cs
  | 0, _, _, _, _, _, h, _ => by cases h
  | n + 1, t, ss, fuel, cs, x, h, hx => by
    simp only [Zcn] at h
    split at h
    · rename_i k hu
      cases h
      obtain ⟨z, rfl, _, hw⟩ := DataW.trod_int hu hx
      exact X8 (.int hw) (.int _ _)
    · rename_i hu
      cases h
      obtain ⟨b, rfl, _⟩ := DataW.trod_bool hu hx
      exact X8 (.bool b) (.bool _)
    · rename_i hu
      cases h
      obtain ⟨s, rfl, _, hs⟩ := DataW.trod_string hu hx
      refine X8 (av := .str s.data.toList) (.str (by simpa using hs)) ?_
      have : s = ⟨s.data.toList.toArray⟩ := by simp
      exact this ▸ .str s.data.toList
    · rename_i e hu
      split at h
      · rename_i fs hfs
        split at h
        · rename_i hc
          simp only [Bool.and_eq_true] at hc
          have hc1 := Nat.eq_of_beq_eq_true hc.1
          have hc2 : 0 < fs.length := by simpa using hc.2
          cases h
          rcases Go.Deep.open_slice hu hx with ⟨rfl, _⟩ | ⟨a, len, cap, m, q, D, Pl, rfl, _, hl, hm, hmm, _, hi⟩
          · exact X8 (av := .sl e []) (.sl (by simp) (fun row hr => by cases hr) fun i j hi => by cases hi) (.sl0 _ _ _)
          · have hle : len ≤ m := by rw [hmm]; split <;> omega
            have key : ∀ i, i < len → ∃ p : List Value × List AV, p.1.length = fs.length ∧ (∀ j, j < fs.length → w.cell? (a.add (i * P.cellsOf e + j)) = some (p.1.getD j undef)) ∧ Zaj fs p.2 ∧ ∀ j, j < fs.length → RelD P w No (p.2.getD j .any) (p.1.getD j undef) := by
              intro i hil
              obtain ⟨cs', h1, h2⟩ := hi i (by omega)
              obtain ⟨g1, l, g2, g3⟩ := Ja n e fs q cs' _ hfs h2
              obtain ⟨_, _, hat⟩ := World.cells?_some h1
              refine ⟨(cs', l), g1, fun j hj => ?_, g2, g3⟩
              have := hat j (by omega)
              rw [Go.Deep.add_add] at this
              show w.cell? (a.add (i * P.cellsOf e + j)) = some (cs'.getD j undef)
              rw [this, List.getElem?_eq_getElem (by omega), List.getD_eq_getElem?_getD, List.getElem?_eq_getElem (by omega)]; rfl
            obtain ⟨F, hF⟩ := Go.Deep.choose_lt (α := List Value × List AV) key
            by_cases hlen0 : len = 0
            · subst hlen0
              exact X8 (av := .sl e []) (.sl (by simp) (fun row hr => by cases hr) fun i j hi => by cases hi) (.sl0 _ _ _)
            · have hcell0 := (hF 0 (by omega)).2.1 0 hc2
              obtain ⟨b, off, spot⟩ := a
              have hspot : spot = none := World.cell?_spot (a := (Addr.mk b off spot).add (0 * P.cellsOf e + 0)) hcell0 |> fun h => by simpa [Addr.add] using h
              subst hspot
              have hblt := World.block_lt_of_cell? w _ hcell0
              have hL : ((List.range len).map fun i => (F i).2).length = len := by simp
              have hca : ∀ i j, i < len → cellAt ((List.range len).map fun i => (F i).2) i j = (F i).2.getD j .any := fun i j hi' => by
                simp [cellAt, List.getD_eq_getElem?_getD, hi']
              have hrows : ∀ row ∈ (List.range len).map fun i => (F i).2, row.length = fs.length := by
                intro row hr
                obtain ⟨i, hir, rfl⟩ := List.mem_map.1 hr
                exact (hF i (List.mem_range.1 hir)).2.2.1.1
              refine X8 (av := .sl e ((List.range len).map fun i => (F i).2)) (.sl (by rw [hL]; omega) hrows fun i j hi' hj' => ?_) ?_
              · rw [hL] at hi'
                rw [hca i j hi']
                exact (hF i hi').2.2.1.2 j hj'
              · have := RelD.sl (P := P) (w := w) (M := No) e ((List.range len).map fun i => (F i).2) b off cap (fun i j => (F i).1.getD j undef) (by simpa [Addr.add] using hblt) (fun h => h) (by rw [hL]; simp only [maxLen] at hm; omega) (by rw [hL]; omega)
                  (fun row hr => by rw [hrows row hr, hc1]) (fun i j hi' hj' => by
                    rw [hL] at hi'
                    have := (hF i hi').2.1 j (by omega)
                    rw [← this]
                    congr 1
                    simp only [Addr.add]
                    split
                    · rename_i h0; rw [h0]; rfl
                    · rfl) (fun i j hi' hj' => by
                    rw [hL] at hi'
                    rw [hca i j hi']
                    exact (hF i hi').2.2.2 j (by omega))
                rw [hL] at this
                exact this
        · cases h
      · cases h
    · rename_i fs hu
      split at h
      · rename_i s1 hs1
        split at h
        · rename_i hc
          have hc := Nat.eq_of_beq_eq_true hc
          cases h
          obtain ⟨xs, m, _, _, hcl, hxl, hf⟩ := DataW.trod_struct hu hx
          obtain ⟨l, h1, h2⟩ := ZaY (m := m) (cs := cs) (fun t ss cs' y h h' => Ja n t ss m cs' y h h') fs.toList 0 _ hs1 (fun f hfm => by
            obtain ⟨i, hi, rfl⟩ := List.getElem_of_mem hfm
            have hi' : i < fs.size := by simpa using hi
            have := hf i fs[i] (by simp [hi'])
            rw [List.getElem?_eq_getElem (by omega)] at this
            exact ⟨_, by simpa using this⟩)
          exact ⟨by omega, l, h1, fun j hj => by simpa using h2 j hj⟩
        · cases h
      · cases h
    · rename_i k e hu
      split at h
      · rename_i es hes
        split at h
        · rename_i hc
          simp only [Bool.and_eq_true] at hc
          have hc1 := Nat.eq_of_beq_eq_true hc.1
          have hc2 := Nat.eq_of_beq_eq_true hc.2
          cases h
          obtain ⟨xs, m, _, _, hcl, hxl, hi⟩ := DataW.trod_array hu hx
          obtain ⟨l, h1, h2⟩ := Zbw (cs := cs) (es := es) k (fun i hik => by
            have h1 := hi i hik
            rw [List.getElem?_eq_getElem (by omega)] at h1
            have := Ja n e es m _ _ hes h1
            rw [← hc2] at this; exact this)
          exact ⟨by rw [hcl, ← hc1]; simp, l, h1, h2⟩
        · cases h
      · cases h
    · cases h

theorem Zfz {t : TypeId} {fs : Array Field} {ss : List Sh} {v : Value} {d : DataW H} {p : List MemPlace} {r : Reach} {b0 : Nat} (n : Nat) (hs : P.underlying t = some (.struct fs)) (hv : Value.okWide P w r b0 t v)
    (h : DataW.Trod enc P w base spare held t v d p) (hsh : Zcn P n t = some ss) : ∃ l, Zaj ss l ∧ RelD P w No (.agg l) v := by
  obtain ⟨cs, rfl, _⟩ := okWide_struct hs hv
  obtain ⟨fuel, hf⟩ := h
  obtain ⟨h1, l, h2, h3⟩ := Ja n t ss fuel _ _ hsh hf
  simp only [Value.cells] at h1 h3
  exact ⟨l, h2, .agg l cs (by rw [h2.1]; simpa using h1.symm) fun i hi => by
    have := h3 i (by rw [← h2.1]; exact hi)
    simpa [Array.getD_eq_getD_getElem?, List.getD_eq_getElem?_getD] using this⟩

theorem Ze4 {t : TypeId} {s : Sh} {v : Value} {d : DataW H} {p : List MemPlace} (n : Nat) (hc : v.cells = #[v])
    (h : DataW.Trod enc P w base spare held t v d p) (hsh : Zcn P n t = some [s]) : ∃ av, Fits s av ∧ RelD P w No av v := by
  obtain ⟨fuel, hf⟩ := h
  rw [hc] at hf
  obtain ⟨_, l, h2, h3⟩ := Ja n t [s] fuel _ _ hsh hf
  exact ⟨l.getD 0 .any, h2.2 0 (by simp), by simpa using h3 0 (by simp)⟩
end
end Go.Vx

namespace Go.Vx
open Go Go.RowKit
section
variable {c : Ctx} {ops : Array Oper} {st : St} {dst : Option Tmp} {ty : TypeId} {pos : String} {after : Array Edge}

theorem ZeC {t len e sz : Nat} {ps : List (Nat × Operand)} {qs : List (Nat × List AV)} {zs : List Value} {ys : List AV} (ht : tArr c.P t len e sz = true) (hz : Q8 c.P t = some zs)
    (hp : Parts c st ps qs) (hf : Zc1 (fun i => some (i * sz, sz)) (zs.map constAV) qs = some ys) : SVal c ops st ⟨dst, .build t ps.toArray, ty, pos, after, none⟩ (.agg ys) :=
  .pure rfl fun φ a w hc => by
    obtain ⟨hu, ie, hie, hse⟩ := tArr.spec ht
    unfold Q8 at hz
    split at hz
    · rename_i i hi
      simp only [Option.map_eq_some_iff] at hz
      obtain ⟨z, hz, rfl⟩ := hz
      obtain ⟨cs', h1, h2, h3⟩ := ZcV hc (fun i => some (i * sz, sz)) hp z.cells (z.cells.toList.map constAV) ys (by simp) (fun k hk => Ze (by
        have hk' : k < z.cells.size := by simpa using hk
        have e : (z.cells.toList.map constAV).getD k .any = constAV (z.cells.getD k undef) := by simp [List.getD_eq_getElem?_getD, hk']
        rw [e]
        exact Xr _ _ _ _)) hf
      refine ⟨.agg cs', ?_, Je h2.symm h3⟩
      have hzr : (zeroValue t).run c.P w = .ok z w := by simp [zeroValue, typeInfo, hi, hz]
      have hso : (sizeOf e).run c.P w = .ok sz w := by simp [sizeOf, typeInfo, hie, hse]
      have : (Instr.build t (ps.map fun p => (p.1, a.eval p.2)).toArray).run c.P w = .ok (.agg cs') w := by
        unfold Instr.build
        simp only [Sem.run_bind, hzr, Result.andThen_ok, run_underlying hu, hso, h1]
        rfl
      have e : (ps.toArray.map fun (p : Nat × Operand) => (p.1, a.eval p.2)) = (ps.map fun p => (p.1, a.eval p.2)).toArray := by simp
      show ((do pure (Next.value (← Instr.build t (ps.toArray.map fun (p : Nat × Operand) => (p.1, a.eval p.2)))) : Sem Next)).run c.P w = _
      rw [e, Sem.run_bind, this]
      rfl
    · cases hz

theorem Zen {x y : Operand} {t e len m : Nat} {k : IntKind} {z : Int} {l : List AV} {v : AV} (h : Opv c st x (.agg l)) (hy : Opv c st y (.int k z)) (ht : tArr c.P t len e 1 = true) (he : tScal c.P e = true)
    (hz : z = (m : Int)) (hm : m < len) (hv : l[m]? = some v) : SVal c ops st ⟨dst, .index t x y, ty, pos, after, none⟩ v :=
  .pure rfl fun φ a w hc => by
    obtain ⟨hu, ie, hie, hse⟩ := tArr.spec ht
    obtain ⟨i2, d2, hi2, hs2, hu2, hr2, hcs⟩ := tScal.spec he
    obtain ⟨vs, hx, hl, hr⟩ := XO (h φ a w hc)
    have e1 := hy.int hc
    have hml : m < l.length := (List.getElem?_eq_some_iff.1 hv).1
    have hmv : m < vs.size := by omega
    have := hr m hml
    rw [getD_of_get? hv] at this
    refine ⟨vs.getD m undef, ?_, this⟩
    subst hz
    have hpart : (part e vs (m * 1)).run c.P w = .ok (vs.getD m undef) w := by
      have hagg : (isAgg e).run c.P w = .ok false w := by
        unfold isAgg
        rw [Sem.run_bind, run_underlying hu2 w]
        cases d2 <;> simp_all
      unfold part
      simp [hagg, hmv]
    simp [execOp, hx, e1, Instr.index, asIntOf, run_underlying hu, sizeOf, typeInfo, hie, hse, hm]
    rw [Nat.mul_one] at hpart
    rw [hpart]
    simp
end
end Go.Vx

namespace Go.Vx
open Go Go.RowKit
section
variable {c : Ctx} {ops : Array Oper} {st : St} {dst : Option Tmp} {ty : TypeId} {pos : String} {after : Array Edge}
end
end Go.Vx

namespace Go.Vx
open Go Go.RowKit
section
variable {c : Ctx} {ops : Array Oper} {st : St} {dst : Option Tmp} {ty : TypeId} {pos : String} {after : Array Edge}

inductive OpsV (c : Ctx) (st : St) : List Operand → List AV → Prop
  | nil : OpsV c st [] []
  | cons {x : Operand} {av : AV} {xs : List Operand} {l : List AV} : Opv c st x av → OpsV c st xs l → OpsV c st (x :: xs) (av :: l)
theorem OpsV.rel {xs : List Operand} {l : List AV} (h : OpsV c st xs l) {φ : Phi} {a : Act} {w : World} (hc : Conc c φ st a w) :
    xs.length = l.length ∧ ∀ i, i < l.length → RelF c.P w (Mut c.A φ st.hp) st.hp.length φ (l.getD i .any) ((xs.map a.eval).getD i undef) := by
  induction h with
  | nil => exact ⟨rfl, fun i hi => by cases hi⟩
  | cons h1 _ ih =>
    refine ⟨by simp [ih.1], fun i hi => ?_⟩
    cases i with
    | zero => simpa using h1 φ a w hc
    | succ i => simpa using ih.2 i (by simpa using hi)

theorem ZcE {P : Program} {w : World} {M : Nat → Prop} {n : Nat} {φ : Phi} {f : FuncId} {l : List AV} {v : Value} (h : RelF P w M n φ (.fn f l) v) :
    ∃ vs, v = .func (.func f) #[] vs ∧ l.length = vs.size ∧ ∀ i, i < l.length → RelF P w M n φ (l.getD i .any) (vs.getD i undef) := by
  have key : ∀ φ', Rel P w M φ' (.fn f l) v → ∃ vs, v = .func (.func f) #[] vs ∧ l.length = vs.size ∧ ∀ i, i < l.length → Rel P w M φ' (l.getD i .any) (vs.getD i undef) := by
    intro φ' h
    cases h with
    | data h => cases h with | fn _ _ vs h1 h2 => exact ⟨vs, rfl, h1, fun i hi => .data (h2 i hi)⟩
    | fn _ _ vs h1 h2 => exact ⟨vs, rfl, h1, h2⟩
  obtain ⟨vs, rfl, h1, _⟩ := key φ (h φ (fun _ _ => rfl))
  refine ⟨vs, rfl, h1, fun i hi φ' hφ => ?_⟩
  obtain ⟨vs', e, _, h3⟩ := key φ' (h φ' hφ)
  cases e
  exact h3 i hi

theorem View.ptr {r n i j : Nat} {o : Own} {row row' : List AV} (ho : nth st.hp r = some o) (hn : o.es.length = n) (hrow : o.es[i]? = some row) (hv : Pw (View c st) row row') (hns : NS row := by first | exact nsR rfl | exact nsM (fun _ => rfl)) : View c st (.ptr r n i j) (.rp row' j) := by
  intro φ a w hc v hr
  obtain ⟨b, cs, h1, h2, h3, h4, h5, _, _, h6, h7⟩ := QF hc ho hrow (ZP hr (by rw [(hc.hok.obj r o ho).len, hn]))
  obtain ⟨b', hb', hx⟩ := Qb hr (by rw [h2, hn])
  rw [h1] at hb'; cases hb'
  rw [hx, h3]
  have hl := hv.len
  refine .rp row' b (i * row.length) j (fun k => cs.getD (i * row.length + k) undef) (Array.getElem?_eq_some_iff.1 h4).1 (hc.hok.owned r o b ho (.inl h1)).2 (fun k hk => ?_) (fun k hk => hv.get k (by omega) φ a w hc _ (h7 k (by omega) (hns.getD' k)))
  rw [Zn h4, Array.getElem?_eq_getElem (h6 k (by omega))]
  simp [h6 k (by omega)]

theorem View.fn {f : FuncId} {l l' : List AV} (h : Pw (View c st) l l') : View c st (.fn f l) (.fn f l') := by
  intro φ a w hc v hv
  obtain ⟨vs, rfl, h1, h2⟩ := ZcE hv
  exact .fn f l' vs (by rw [← h.len]; exact h1) fun i hi => h.get i (by rw [h.len]; exact hi) φ a w hc _ (h2 i (by rw [h.len]; exact hi))

theorem ZdG {f : FuncId} {t : Tmp} {xs : List Operand} {ts : Array TypeId} {ds caps : List AV} {res : AV} (hf : Opv c st (.tmp t) (.fn f caps)) (hcap : caps.all datB = true) (hs : CSpec c.P c.gl f (ds ++ caps) res) (ha : ArgsD c st xs ds) :
    SVal c ops st ⟨dst, .call { callee := .value (.tmp t), args := xs.toArray, argTypes := ts }, ty, pos, after, none⟩ res := by
  intro φ a w hc
  refine ⟨fun _ => ?_, fun hw => by cases hw⟩
  obtain ⟨hl, hr⟩ := ha.rel hc
  obtain ⟨vs, hfv, hvl, hvr⟩ := ZcE (hf φ a w hc)
  unfold Oper.wp
  have e : (execOp a.eval ⟨dst, .call { callee := .value (.tmp t), args := xs.toArray, argTypes := ts }, ty, pos, after, none⟩).run c.P w = .ok (.enter f ((xs.map a.eval).toArray ++ vs)) w := by
    simp [execOp, resolve, hfv, Deferred.ofValue, invoke, QM hs.call]
  rw [e]
  refine (hs.spec (Mut c.A φ st.hp) w _ (ZaL hc) (X4 hc) (by simp [hl, hvl]) (fun i hi => ?_)).mono ?_
  · by_cases h : i < ds.length
    · have := hr i h
      have hx : i < xs.length := by omega
      simpa [Array.getD_eq_getD_getElem?, List.getD_eq_getElem?_getD, Array.getElem?_append, List.getElem?_append, h, hx] using this
    · have hi' : i - ds.length < caps.length := by simp at hi; omega
      have hd := Dat.b (c := c) (st := st) (av := caps.getD (i - ds.length) .any) (by
        have : caps.getD (i - ds.length) .any = caps[i - ds.length] := by simp [List.getD_eq_getElem?_getD, hi']
        rw [this]; exact List.all_eq_true.1 hcap _ (List.getElem_mem _))
      have := hd φ a w hc _ (hvr (i - ds.length) hi')
      have hx : ¬ i < xs.length := by omega
      have e1 : (ds ++ caps).getD i .any = caps.getD (i - ds.length) .any := by simp [List.getD_eq_getElem?_getD, List.getElem?_append, h]
      have e2 : ((xs.map a.eval).toArray ++ vs).getD i undef = vs.getD (i - ds.length) undef := by
        simp [Array.getD_eq_getD_getElem?, Array.getElem?_append, hl, h]
      rw [e1, e2]; exact this
  · rintro e w' ⟨v, rfl, hb, hv⟩
    exact ⟨v, rfl, hb, Ze hv⟩
end
end Go.Vx

namespace Go.Vx
open Go Go.RowKit
structure ESpec (P : Program) (f : FuncId) (args : List AV) (res : AV) : Prop where
  run : ∀ (M : Nat → Prop) (w : World) (vals : Array Value), vals.size = args.length → (∀ i, i < args.length → RelD P w M (args.getD i .any) (vals.getD i undef)) →
    ∃ v, (callFunc f vals).run P w = .ok (.value v) w ∧ RelD P w M res v
section
variable {c : Ctx} {ops : Array Oper} {st : St} {dst : Option Tmp} {ty : TypeId} {pos : String} {after : Array Edge}
end
end Go.Vx

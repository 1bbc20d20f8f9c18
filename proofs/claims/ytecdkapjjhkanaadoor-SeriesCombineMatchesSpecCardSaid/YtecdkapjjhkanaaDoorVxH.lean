/- A text of the proof: a verified executor of the program form, or the contracts of the functions that the law reaches. -/
import Derived.Test.YtecdkapjjhkanaaDoorVxG
set_option linter.all false
namespace Go.Vx
open Go Go.RowKit

/-! ## States that say less -/

/-- tm' is a part of what st says. -/
inductive Keep (tm : List (Nat × AV)) : List (Nat × AV) → Prop
  | nil : Keep tm []
  | cons {t : Nat} {v v' : AV} {tl : List (Nat × AV)} : look tm t = some v → v = v' → Keep tm tl → Keep tm ((t, v') :: tl)

theorem Keep.look {tm tl : List (Nat × AV)} (h : Keep tm tl) {t : Nat} {v : AV} (hl : look tl t = some v) : look tm t = some v := by
  induction h with
  | nil => cases hl
  | cons h1 h2 _ ih =>
    simp only [Vx.look] at hl
    split at hl
    · rename_i he
      have he := Nat.eq_of_beq_eq_true he
      subst he
      cases hl
      rw [h1, h2]
    · exact ih hl

theorem kn {tm : List (Nat × AV)} : Keep tm [] := .nil
theorem kc {tm : List (Nat × AV)} (t : Nat) {v : AV} {tl : List (Nat × AV)} (h : look tm t = some v) (k : Keep tm tl) : Keep tm ((t, v) :: tl) := .cons h rfl k
theorem ke {tm : List (Nat × AV)} (t : Nat) {v v' : AV} {tl : List (Nat × AV)} (h : look tm t = some v) (e : v = v') (k : Keep tm tl) : Keep tm ((t, v') :: tl) := .cons h e k

theorem Ent.keep {c : Ctx} {tm tm' : List (Nat × AV)} {hp hp' : List (Option Own)} (h : Keep tm tm') (e : hp = hp') : Ent c ⟨tm, hp⟩ ⟨tm', hp'⟩ := by
  subst e
  exact fun φ a w hc => ⟨φ, hc.size, hc.defers, hc.hok, fun t av ht => hc.tm t av (h.look ht)⟩

theorem T_keep {c : Ctx} {code : Code} {st : St} {tm' : List (Nat × AV)} {hp' : List (Option Own)} {K : Exit → St → Prop} (h : Keep st.tm tm') (e : st.hp = hp') (k : T c code ⟨tm', hp'⟩ K) : T c code st K :=
  T_ent (Ent.keep h e) k

/-- An object, by its parts: to write a heap out. -/
theorem hpe {hp hp' : List (Option Own)} (h : hp = hp') : hp = hp' := h

/-- Values that bear no object with a number from n on. -/
inductive Low (n : Nat) : AV → Prop
  | int (k : IntKind) (z : Int) : Low n (.int k z)
  | bool (b : Bool) : Low n (.bool b)
  | str (s : List UInt8) : Low n (.str s)
  | lit (v : Value) : Low n (.lit v)
  | nils : Low n .nils
  | sl (e : TypeId) (l : List (List AV)) : Low n (.sl e l)
  | rp (l : List AV) (o : Nat) : Low n (.rp l o)
  | own (r m : Nat) : r < n → Low n (.own r m)
  | ptr (r m i j : Nat) : r < n → Low n (.ptr r m i j)
  | osl (r m j k : Nat) : r < n → Low n (.osl r m j k)
  | agg (l : List AV) : (∀ x ∈ l, Low n x) → Low n (.agg l)
  | tuple (l : List AV) : (∀ x ∈ l, Low n x) → Low n (.tuple l)
  | fn (f : FuncId) (l : List AV) : (∀ x ∈ l, Low n x) → Low n (.fn f l)
  | any : Low n .any

theorem Low.rel {P : Program} {w : World} {M : Nat → Prop} {n : Nat} {φ φ' : Phi} {av : AV} {v : Value} (h : Rel P w M φ av v) (hl : Low n av) (hφ : Agree n φ φ') : Rel P w M φ' av v := by
  induction h with
  | data h => exact .data h
  | own r m v h0 h1 h2 =>
    cases hl with | own _ _ hr => exact .own r m v h0 (by rw [hφ r hr]; exact h1) (by rw [hφ r hr]; exact h2)
  | ptr r m i j v h0 h1 h2 =>
    cases hl with | ptr _ _ _ _ hr => exact .ptr r m i j v h0 (by rw [hφ r hr]; exact h1) (by rw [hφ r hr]; exact h2)
  | osl r m i j v h0 h1 h2 =>
    cases hl with | osl _ _ _ _ hr => exact .osl r m i j v h0 (by rw [hφ r hr]; exact h1) (by rw [hφ r hr]; exact h2)
  | agg l vs h1 h2 ih => cases hl with | agg _ hl => exact .agg l vs h1 fun i hi => ih i hi (hl _ (by simp [List.getD_eq_getElem?_getD, hi]))
  | tuple l vs h1 h2 ih => cases hl with | tuple _ hl => exact .tuple l vs h1 fun i hi => ih i hi (hl _ (by simp [List.getD_eq_getElem?_getD, hi]))
  | fn f l vs h1 h2 ih => cases hl with | fn _ _ hl => exact .fn f l vs h1 fun i hi => ih i hi (hl _ (by simp [List.getD_eq_getElem?_getD, hi]))
  | when b av v h1 h2 ih => cases hl

theorem nth_prefix {hp tl : List (Option Own)} {r : Nat} {o : Own} (h : nth hp r = some o) : nth (hp ++ tl) r = some o := by
  induction hp generalizing r with
  | nil => simp [nth] at h
  | cons x hp ih => cases r with
    | zero => exact h
    | succ r => exact ih h

/-- Objects at the end of the list are let go; nothing that is kept bears them. -/
theorem Ent.drop {c : Ctx} {tm : List (Nat × AV)} {hp tl : List (Option Own)} (h : ∀ t v, look tm t = some v → Low hp.length v) (h2 : ∀ r o, nth hp r = some o → ∀ row ∈ o.es, ∀ x ∈ row, Low hp.length x) (hn : c.n0 ≤ hp.length) :
    Ent c ⟨tm, hp ++ tl⟩ ⟨tm, hp⟩ := by
  intro φ a w hc
  have hmut : ∀ b, ¬ Mut c.A φ (hp ++ tl) b → ¬ Mut c.A φ hp b := fun b hm hm' => hm (hm'.elim .inl fun ⟨r, o, hr, hb⟩ => .inr ⟨r, o, nth_prefix hr, hb⟩)
  have hrel : ∀ av x, Low hp.length av → RelF c.P w (Mut c.A φ (hp ++ tl)) (hp ++ tl).length φ av x → RelF c.P w (Mut c.A φ hp) hp.length φ av x := by
    intro av x hl hx φ' hφ
    exact ((Low.rel (hx φ (fun _ _ => rfl)) hl hφ)).mono (Nat.le_refl _) (fun _ _ _ => rfl) (fun b _ hm => hmut b hm)
  refine ⟨φ, hc.size, hc.defers, ⟨hc.hok.os, hc.hok.tape, hc.hok.output, hc.hok.heap, hc.hok.frame, fun r o b hr hb => hc.hok.owned r o b (nth_prefix hr) hb,
    fun r r' o o' b hr hr' hb hb' => hc.hok.apart r r' o o' b (nth_prefix hr) (nth_prefix hr') hb hb', fun r o hr => ?_, hc.hok.amb, hc.hok.glob, hn, hc.hok.mono⟩, fun t av ht => hrel av _ (h t av ht) (hc.tm t av ht)⟩
  have hO := hc.hok.obj r o (nth_prefix hr)
  refine ⟨hO.len, hO.sz, hO.rows, hO.room, hO.cap, hO.none, fun b hb => ?_⟩
  obtain ⟨cs, h3, h4, h5⟩ := hO.some b hb
  refine ⟨cs, h3, h4, fun i j hi hj => hrel _ _ ?_ (h5 i j hi hj)⟩
  have hrow : o.es[i]? = some o.es[i] := by simp [hi]
  have hl := hO.rows _ (List.getElem_mem hi)
  have : cellAt o.es i j = o.es[i][j]'(by omega) := by simp [cellAt, List.getD_eq_getElem?_getD, hi, hl, hj]
  rw [this]
  exact h2 r o hr _ (List.getElem_mem hi) _ (List.getElem_mem _)

/-- Every slot's value is low. -/
def LowTm (n : Nat) : List (Nat × AV) → Prop
  | [] => True
  | (_, v) :: tl => Low n v ∧ LowTm n tl
theorem LowTm.look {n : Nat} {tm : List (Nat × AV)} (h : LowTm n tm) : ∀ t v, look tm t = some v → Low n v := by
  induction tm with
  | nil => intro t v hl; cases hl
  | cons x tl ih =>
    intro t v hl
    obtain ⟨s, u⟩ := x
    simp only [Vx.look] at hl
    split at hl
    · cases hl; exact h.1
    · exact ih h.2 t v hl
def LowHp (n : Nat) : List (Option Own) → Prop
  | [] => True
  | none :: tl => LowHp n tl
  | some o :: tl => (∀ row ∈ o.es, ∀ x ∈ row, Low n x) ∧ LowHp n tl
theorem LowHp.nth {n : Nat} {hp : List (Option Own)} (h : LowHp n hp) : ∀ r o, nth hp r = some o → ∀ row ∈ o.es, ∀ x ∈ row, Low n x := by
  induction hp with
  | nil => intro r o hr; simp [Vx.nth] at hr
  | cons x tl ih =>
    intro r o hr
    cases r with
    | zero =>
      simp only [Vx.nth] at hr
      subst hr
      exact h.1
    | succ r =>
      simp only [Vx.nth] at hr
      cases x with
      | none => exact ih h r o hr
      | some y => exact ih h.2 r o hr

/-- At a loop's end: keep these slots, and these objects. -/
theorem Ent.cut {c : Ctx} {st : St} {tm' : List (Nat × AV)} {hp' tl : List (Option Own)} (h : Keep st.tm tm') (e : st.hp = hp' ++ tl) (h1 : LowTm hp'.length tm') (h2 : LowHp hp'.length hp') (hn : Nat.ble c.n0 hp'.length = true := by rfl) : Ent c st ⟨tm', hp'⟩ :=
  Ent.trans (s2 := ⟨tm', hp' ++ tl⟩) (Ent.keep h e) (Ent.drop h1.look h2.nth (Nat.le_of_ble_eq_true hn))

/-- A nil slice is an empty row of our own from now on. -/
theorem Ent.row {c : Ctx} {tm : List (Nat × AV)} {hp : List (Option Own)} (t : Nat) (e : TypeId) (hl : look tm t = some .nils) : Ent c ⟨tm, hp⟩ ⟨(t, .own hp.length 0) :: tm, hp ++ [some ⟨e, []⟩]⟩ := by
  intro φ a w hc
  have hlen : (hp ++ [some (⟨e, []⟩ : Own)]).length = hp.length + 1 := by simp
  have hmut : ∀ b, Mut c.A (fun x => if x = hp.length then ⟨none, 0, 0, c.P.cellsOf e⟩ else φ x) (hp ++ [some ⟨e, []⟩]) b → Mut c.A φ hp b := by
    rintro b (ha | ⟨r, o, hr, hb⟩)
    · exact .inl ha
    · rw [nth_append] at hr
      by_cases h : r = hp.length
      · simp only [if_pos h] at hb; cases hb
      · rw [if_neg h] at hr; simp only [if_neg h] at hb; exact .inr ⟨r, o, hr, hb⟩
  have htr : ∀ av x, RelF c.P w (Mut c.A φ hp) hp.length φ av x → RelF c.P w (Mut c.A (fun x => if x = hp.length then ⟨none, 0, 0, c.P.cellsOf e⟩ else φ x) (hp ++ [some ⟨e, []⟩])) (hp.length + 1)
      (fun x => if x = hp.length then ⟨none, 0, 0, c.P.cellsOf e⟩ else φ x) av x := by
    intro av x hx ψ hψ
    refine (hx ψ fun s hs => ?_).mono (Nat.le_refl _) (fun _ _ _ => rfl) (fun b _ hm hm' => hm (hmut b hm'))
    rw [hψ s (by omega)]
    show (if s = hp.length then _ else φ s) = φ s
    rw [if_neg (by omega)]
  refine ⟨fun x => if x = hp.length then ⟨none, 0, 0, c.P.cellsOf e⟩ else φ x, hc.size, hc.defers, ⟨hc.hok.os, hc.hok.tape, hc.hok.output, hc.hok.heap, hc.hok.frame, ?_, ?_, ?_, hc.hok.amb, hc.hok.glob, by rw [hlen]; exact Nat.le_succ_of_le hc.hok.len, fun s hs => by
    have hh : c.n0 ≤ hp.length := hc.hok.len
    have : ¬ s = hp.length := by omega
    show (if s = hp.length then _ else φ s) = _ ∨ _
    rw [if_neg this]
    exact hc.hok.mono s hs⟩, ?_⟩
  · intro r o b hr hb
    rw [nth_append] at hr
    by_cases h : r = hp.length
    · simp only [if_pos h] at hb; cases hb
    · rw [if_neg h] at hr; simp only [if_neg h] at hb; exact hc.hok.owned r o b hr hb
  · intro r r' o o' b hr hr' hb hb'
    rw [nth_append] at hr hr'
    by_cases h : r = hp.length
    · simp only [if_pos h] at hb; cases hb
    · by_cases h' : r' = hp.length
      · simp only [if_pos h'] at hb'; cases hb'
      · rw [if_neg h] at hr; simp only [if_neg h] at hb
        rw [if_neg h'] at hr'; simp only [if_neg h'] at hb'
        exact hc.hok.apart r r' o o' b hr hr' hb hb'
  · intro r o hr
    rw [hlen]
    rw [nth_append] at hr
    by_cases h : r = hp.length
    · rw [if_pos h] at hr
      cases hr
      refine ⟨by simp [h], by simp [h], by simp, by simp, by simp [h], by simp [h], fun b hb => by simp [h] at hb⟩
    · rw [if_neg h] at hr
      have hO := hc.hok.obj r o hr
      refine ⟨by simp only [if_neg h]; exact hO.len, by simp only [if_neg h]; exact hO.sz, hO.rows, by simp only [if_neg h]; exact hO.room, by simp only [if_neg h]; exact hO.cap, by simp only [if_neg h]; exact hO.none, fun b hb => ?_⟩
      simp only [if_neg h] at hb
      obtain ⟨cs, h3, h4, h5⟩ := hO.some b hb
      exact ⟨cs, h3, by simp only [if_neg h]; exact h4, fun i j hi hj => htr _ _ (h5 i j hi hj)⟩
  · intro s av hs
    rw [hlen]
    simp only [look] at hs
    split at hs
    · rename_i he
      have he := Nat.eq_of_beq_eq_true he
      subst he
      cases hs
      have hv := hc.tm t _ hl φ (fun _ _ => rfl)
      have hv : a.tmps.getD t undef = .slice none 0 0 := by
        generalize a.tmps.getD t undef = x at hv
        cases hv with | data h => cases h; rfl
      intro ψ hψ
      have e1 : ψ hp.length = ⟨none, 0, 0, c.P.cellsOf e⟩ := by
        have := hψ hp.length (by omega)
        simpa using this
      rw [hv]
      exact .own _ 0 _ rfl (by rw [e1]; exact Nat.le_refl _) fun _ => by rw [e1]; rfl
    · exact htr _ _ (hc.tm s av hs)

/-! ## Values that leave -/

/-- av, in this state, is data dv as far as own objects are not looked at any more. -/
def View (c : Ctx) (st : St) (av dv : AV) : Prop := ∀ φ a w, Conc c φ st a w → ∀ v, RelF c.P w (Mut c.A φ st.hp) st.hp.length φ av v → RelD c.P w c.A dv v

/-- .. and while they stay ours. -/
def Dat (c : Ctx) (st : St) (av dv : AV) : Prop := ∀ φ a w, Conc c φ st a w → ∀ v, RelF c.P w (Mut c.A φ st.hp) st.hp.length φ av v → RelD c.P w (Mut c.A φ st.hp) dv v

def datB : AV → Bool
  | .int _ _ | .bool _ | .str _ | .nils | .sl _ _ | .rp _ _ | .lit _ => true
  | _ => false

section view
variable {c : Ctx} {st : St}
theorem Dat.b {av : AV} (h : datB av = true) : Dat c st av av := by
  intro φ a w hc v hv
  have hv := hv φ (fun _ _ => rfl)
  cases hv with
  | data h => exact h
  | own => cases h
  | ptr => cases h
  | osl => cases h
  | agg => cases h
  | tuple => cases h
  | fn => cases h
  | when => cases h

theorem Dat.view {av dv : AV} (h : Dat c st av dv) : View c st av dv := fun φ a w hc v hv =>
  (h φ a w hc v hv).mono (Nat.le_refl _) (fun _ _ _ => rfl) (fun _ _ hm ha => hm (.inl ha))

theorem Dat.agg {l l' : List AV} (hl : l.length = l'.length) (h : ∀ i, i < l.length → Dat c st (l.getD i .any) (l'.getD i .any)) : Dat c st (.agg l) (.agg l') := by
  intro φ a w hc v hv
  obtain ⟨vs, rfl, h1, h2⟩ := relF_agg hv
  exact .agg l' vs (by omega) fun i hi => h i (by omega) φ a w hc _ (h2 i (by omega))

theorem View.agg {l l' : List AV} (hl : l.length = l'.length) (h : ∀ i, i < l.length → View c st (l.getD i .any) (l'.getD i .any)) : View c st (.agg l) (.agg l') := by
  intro φ a w hc v hv
  obtain ⟨vs, rfl, h1, h2⟩ := relF_agg hv
  exact .agg l' vs (by omega) fun i hi => h i (by omega) φ a w hc _ (h2 i (by omega))

/-- Lists of values, one by one. -/
inductive Pw (R : AV → AV → Prop) : List AV → List AV → Prop
  | nil : Pw R [] []
  | cons {x y : AV} {l m : List AV} : R x y → Pw R l m → Pw R (x :: l) (y :: m)

theorem Pw.len {R : AV → AV → Prop} {l m : List AV} (h : Pw R l m) : l.length = m.length := by induction h with | nil => rfl | cons _ _ ih => simp [ih]
theorem Pw.get {R : AV → AV → Prop} {l m : List AV} (h : Pw R l m) : ∀ i, i < l.length → R (l.getD i .any) (m.getD i .any) := by
  induction h with
  | nil => intro i hi; cases hi
  | cons h1 _ ih =>
    intro i hi
    cases i with
    | zero => simpa using h1
    | succ i => simpa using ih i (by simpa using hi)
theorem Pw.refl {R : AV → AV → Prop} {l : List AV} (h : ∀ x ∈ l, R x x) : Pw R l l := by
  induction l with
  | nil => exact .nil
  | cons x l ih => exact .cons (h x (by simp)) (ih fun y hy => h y (by simp [hy]))

theorem Dat.aggL {l l' : List AV} (h : Pw (Dat c st) l l') : Dat c st (.agg l) (.agg l') := .agg h.len h.get
theorem View.aggL {l l' : List AV} (h : Pw (View c st) l l') : View c st (.agg l) (.agg l') := .agg h.len h.get
theorem Dat.aggB {l : List AV} (h : l.all datB = true) : Dat c st (.agg l) (.agg l) := .aggL (.refl fun x hx => .b (List.all_eq_true.1 h x hx))

theorem View.own {r n : Nat} {o : Own} {es : List (List AV)} (ho : nth st.hp r = some o) (hn : o.es.length = n) (hes : es.length = n) (hrows : ∀ row ∈ es, row.length = c.P.cellsOf o.elem)
    (h : ∀ i j, i < n → j < c.P.cellsOf o.elem → View c st (cellAt o.es i j) (cellAt es i j)) : View c st (.own r n) (.sl o.elem es) := by
  intro φ a w hc v hv
  have hO := hc.hok.obj r o ho
  have hx := relF_own hv (by rw [hO.len, hn])
  rw [hx]
  have h63 : n < 2 ^ 63 := by have := hO.room; have := hO.cap; omega
  cases hb : (φ r).blk with
  | none =>
    have := (hO.none hb).1
    rw [this] at hn
    simp at hn
    subst hn
    have : es = [] := List.eq_nil_of_length_eq_zero hes
    subst this
    exact .sl0 _ _ _
  | some b =>
    obtain ⟨cs, h3, h4, h5⟩ := hO.some b hb
    have hlt : b < w.heap.size := (Array.getElem?_eq_some_iff.1 h3).1
    have hcells : ∀ i j, i < es.length → j < c.P.cellsOf o.elem → w.cell? ⟨b, 0 + (i * c.P.cellsOf o.elem + j), none⟩ = some (cs.getD (i * c.P.cellsOf o.elem + j) undef) := fun i j hi hj => by
      rw [cell_of_cells h3]
      have hroom := hO.room
      have : i * c.P.cellsOf o.elem + j < cs.size := by rw [h4]; exact ix_lt (by omega) hj
      simp [this]
    have := RelD.sl (P := c.P) (w := w) (M := c.A) o.elem es b 0 (φ r).cap (fun i j => cs.getD (i * c.P.cellsOf o.elem + j) undef) hlt (hc.hok.owned r o b ho hb).2 (by omega) (by have := hO.room; omega) hrows hcells
      (fun i j hi hj => h i j (by omega) hj φ a w hc _ (h5 i j (by omega) hj))
    rw [hes] at this
    exact this

/-- .. whose cells are plain data. -/
theorem View.ownB {r n : Nat} {o : Own} (ho : nth st.hp r = some o) (hn : o.es.length = n) (h : ∀ row ∈ o.es, row.length = c.P.cellsOf o.elem ∧ row.all datB = true) : View c st (.own r n) (.sl o.elem o.es) := by
  refine .own ho hn hn (fun row hr => (h row hr).1) fun i j hi hj => ?_
  have hi' : i < o.es.length := by omega
  have hrow := h _ (List.getElem_mem hi')
  have : cellAt o.es i j = o.es[i][j]'(by omega) := by simp [cellAt, List.getD_eq_getElem?_getD, hi', hrow.1, hj]
  rw [this]
  exact (Dat.b (List.all_eq_true.1 hrow.2 _ (List.getElem_mem _))).view
end view

/-! ## Functions -/

theorem glob_now {c : Ctx} {φ : Phi} {st : St} {a : Act} {w : World} (hc : Conc c φ st a w) : GlOK c.gl w (Mut c.A φ st.hp) [] := by
  have hg := hc.hok.glob
  refine ⟨Nat.le_trans hg.len hc.hok.heap, (fun b hb => by cases hb), fun p hp => ?_⟩
  obtain ⟨h1, ⟨e, fr, h2⟩, h3⟩ := hg.tab p hp
  have hlt := (Array.getElem?_eq_some_iff.1 h2).1
  have hW : p.1 ∉ c.W := fun hw => by have := hg.W p.1 hw; omega
  refine ⟨h1, ⟨e, fr, (hc.hok.frame p.1 hlt hW).trans h2⟩, ?_⟩
  rintro (ha | ⟨r, o, hr, hb⟩)
  · exact h3 ha
  · rcases (hc.hok.owned r o p.1 hr hb).1 with hw | hw
    · exact hW hw
    · omega

/-- Function f, called with data: it returns data, and turns nothing that was there. -/
def Spec (P : Program) (gl : Gl) (f : FuncId) (args : List AV) (res : AV) : Prop := ∀ (A : Nat → Prop) (w : World) (vals : Array Value), (∀ b, A b → b < w.heap.size) → GlOK gl w A [] → vals.size = args.length →
  (∀ i, i < args.length → RelD P w A (args.getD i .any) (vals.getD i undef)) → Calls P f vals w fun e w' => ∃ v, e = .returned v ∧ Below w.heap.size w w' ∧ RelD P w' A res v

/-- The result variables hold this. -/
inductive RetV (c : Ctx) (st : St) : ResultVar → AV → Prop
  | tmp {t : Nat} {av dv : AV} : look st.tm t = some av → View c st av dv → RetV c st (.tmp t) dv
  | agg {t ty r n i j sz : Nat} {o : Own} {row l l' : List AV} : look st.tm t = some (.ptr r n i j) → nth st.hp r = some o → o.es.length = n → o.es[i]? = some row → tAgg c.P ty sz = true → (row.drop j).take sz = l → l.length = sz →
      Pw (View c st) l l' → RetV c st (.cell t ty) (.agg l')
  | scal {t ty r n i j : Nat} {o : Own} {row : List AV} {v v' : AV} : look st.tm t = some (.ptr r n i j) → nth st.hp r = some o → o.es.length = n → o.es[i]? = some row → tScal c.P ty = true → row[j]? = some v →
      View c st v v' → RetV c st (.cell t ty) v'

def rvRun (tmps : Array Value) : ResultVar → Sem Value
  | .tmp t => pure (tmps.getD t undef)
  | .cell t ty => do loadVar ty (← asAddr (tmps.getD t undef))

theorem RetV.sound {c : Ctx} {st : St} {rv : ResultVar} {dv : AV} (h : RetV c st rv dv) {φ : Phi} {a : Act} {w : World} (hc : Conc c φ st a w) :
    ∃ v, (rvRun a.tmps rv).run c.P w = .ok v w ∧ RelD c.P w c.A dv v := by
  unfold rvRun
  cases h with
  | tmp hl hv => exact ⟨_, rfl, hv φ a w hc _ (hc.tm _ _ hl)⟩
  | @agg t ty r n i j sz o row l l' hl ho hn hrow ht hl' hlen hv =>
    have hld := v_loadA (c := c) (ops := #[]) (st := st) (dst := none) (ty := 0) (pos := "") (after := #[]) (x := .tmp t) (ov hl) ho hn hrow ht hl' hlen φ a w hc
    obtain ⟨hw, _⟩ := hld
    have hw := hw rfl
    obtain ⟨b, cs, h1, h2, h3, h4, h5, _, _, h6, h7⟩ := live_cells hc ho hrow
    obtain ⟨b', hb', hx⟩ := relF_ptr (hc.tm t _ hl) (by rw [h2, hn])
    unfold Oper.wp at hw
    simp only [execOp, Act.eval, hx, Sem.run_bind] at hw
    simp only [hx]
    have e : (do loadVar ty (← asAddr (.pointer (some ⟨b', i * (φ r).sz + j, none⟩))) : Sem Value).run c.P w = (Instr.loadAt ty (.pointer (some ⟨b', i * (φ r).sz + j, none⟩))).run c.P w := rfl
    rw [e]
    cases hr : (Instr.loadAt ty (.pointer (some ⟨b', i * (φ r).sz + j, none⟩))).run c.P w with
    | halt hh w'' => rw [hr] at hw; cases hh <;> exact hw.elim
    | ok v w'' =>
      rw [hr] at hw
      obtain ⟨u, hu1, hu2, hu3⟩ := hw
      -- the load leaves the world alone
      obtain ⟨inf, d, hi, hs, hu, hd, _, hsz0⟩ := tAgg.spec ht
      have hjl : j + sz ≤ row.length := by rw [← hl'] at hlen; simp at hlen; omega
      have hw2 : (Instr.loadAt ty (.pointer (some ⟨b', i * (φ r).sz + j, none⟩))).run c.P w = .ok (.agg ((cs.toList.drop (i * row.length + j)).take sz).toArray) w := by
        rw [h1] at hb'; cases hb'
        rw [h3]
        refine run_loadAt_agg w b (i * row.length + j) ty sz _ ht ?_ ?_
        · simp
          have := h6 (j + sz - 1) (by omega)
          omega
        · intro k hk
          rw [cell_of_cells h4]
          have := h6 (j + k) (by omega)
          simp [List.getD_eq_getElem?_getD, hk, List.getElem?_drop]
          have e : i * row.length + j + k = i * row.length + (j + k) := by omega
          rw [e, Array.getElem?_eq_getElem (by omega)]
          simp
      rw [hw2] at hr
      cases hr
      refine ⟨_, rfl, ?_⟩
      refine .agg l' _ (by rw [← hv.len, hlen]; simp; have := h6 (j + sz - 1) (by omega); omega) fun k hk => ?_
      have hk' : k < sz := by rw [← hv.len, hlen] at hk; exact hk
      refine hv.get k (by rw [hlen]; exact hk') φ a w hc _ ?_
      have h8 := h7 (j + k) (by omega)
      have e1 : l.getD k .any = row.getD (j + k) .any := by
        rw [← hl']; simp [List.getD_eq_getElem?_getD, List.getElem?_drop, show k < sz by omega]
      have e2 : ((cs.toList.drop (i * row.length + j)).take sz).toArray.getD k undef = cs.getD (i * row.length + (j + k)) undef := by
        simp [Array.getD_eq_getD_getElem?, List.getElem?_drop, show k < sz by omega, Nat.add_assoc]
      rw [e1, e2]; exact h8
  | @scal t ty r n i j o row v v' hl ho hn hrow ht hv hvv =>
    obtain ⟨b, cs, h1, h2, h3, h4, h5, _, _, h6, h7⟩ := live_cells hc ho hrow
    obtain ⟨b', hb', hx⟩ := relF_ptr (hc.tm t _ hl) (by rw [h2, hn])
    rw [h1] at hb'; cases hb'
    have hj : j < row.length := (List.getElem?_eq_some_iff.1 hv).1
    have h6' := h6 j hj
    refine ⟨cs.getD (i * row.length + j) undef, ?_, ?_⟩
    · simp only [hx, h3]
      have e : (do loadVar ty (← asAddr (.pointer (some ⟨b, i * row.length + j, none⟩))) : Sem Value).run c.P w = (Instr.loadAt ty (.pointer (some ⟨b, i * row.length + j, none⟩))).run c.P w := rfl
      rw [e, run_loadAt_scal w b (i * row.length + j) ty _ ht]
      rw [cell_of_cells h4, Array.getElem?_eq_getElem h6']; simp [h6']
    · have := h7 j hj
      rw [getD_of_get? hv] at this
      exact hvv φ a w hc _ this
end Go.Vx

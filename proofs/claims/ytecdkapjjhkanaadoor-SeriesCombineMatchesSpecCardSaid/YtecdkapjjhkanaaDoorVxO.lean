/- A text of the proof: a verified executor of the program form, or the contracts of the functions that the law reaches. -/
import Derived.Test.YtecdkapjjhkanaaDoorVxN
set_option linter.all false
namespace Go.Vx
open Go Go.RowKit

theorem pwD {c : Ctx} {st : St} {l : List AV} (h : l.all datB = true) : Pw (Dat c st) l l := .refl fun x hx => .b (List.all_eq_true.1 h x hx)

/-! ## Other numbers for our own objects -/

inductive Ren (p : Nat → Nat) : AV → AV → Prop
  | own (r n : Nat) : Ren p (.own r n) (.own (p r) n)
  | ptr (r n i j : Nat) : Ren p (.ptr r n i j) (.ptr (p r) n i j)
  | dat {av : AV} : datB av = true → Ren p av av
  | agg {l l' : List AV} : l.length = l'.length → (∀ i, i < l.length → Ren p (l.getD i .any) (l'.getD i .any)) → Ren p (.agg l) (.agg l')
  | tuple {l l' : List AV} : l.length = l'.length → (∀ i, i < l.length → Ren p (l.getD i .any) (l'.getD i .any)) → Ren p (.tuple l) (.tuple l')

theorem Ren.rel {P : Program} {w : World} {M : Nat → Prop} {p : Nat → Nat} {φ ψ : Phi} {av av' : AV} {v : Value} (hn : Ren p av av') (hp : ∀ r, ψ (p r) = φ r) (h : Rel P w M φ av v) : Rel P w M ψ av' v := by
  induction hn generalizing v with
  | own r n =>
    cases h with
    | data h => cases h
    | own _ _ _ h0 h1 h2 => exact .own _ _ _ h0 (by rw [hp]; exact h1) (by rw [hp]; exact h2)
  | ptr r n i j =>
    cases h with
    | data h => cases h
    | ptr _ _ _ _ _ h0 h1 h2 => exact .ptr _ _ _ _ _ h0 (by rw [hp]; exact h1) (by rw [hp]; exact h2)
  | dat hb =>
    cases h with
    | data h => exact .data h
    | own => cases hb
    | ptr => cases hb
    | osl => cases hb
    | agg => cases hb
    | tuple => cases hb
    | fn => cases hb
    | when => cases hb
  | agg h1 h2 ih =>
    cases h with
    | data h => cases h with | agg _ vs h3 h4 => exact .agg _ vs (by omega) fun i hi => ih i (by omega) (.data (h4 i (by omega)))
    | agg _ vs h3 h4 => exact .agg _ vs (by omega) fun i hi => ih i (by omega) (h4 i (by omega))
  | tuple h1 h2 ih =>
    cases h with
    | data h => cases h with | tuple _ vs h3 h4 => exact .tuple _ vs (by omega) fun i hi => ih i (by omega) (.data (h4 i (by omega)))
    | tuple _ vs h3 h4 => exact .tuple _ vs (by omega) fun i hi => ih i (by omega) (h4 i (by omega))

theorem Ent.ren {c : Ctx} {tm tm' : List (Nat × AV)} {hp hp' : List (Option Own)} (p : Nat → Nat) (hpp : ∀ r, p (p r) = r) (hlt : ∀ r, r < hp.length → p r < hp.length) (hlen : hp'.length = hp.length)
    (htm : ∀ t av', look tm' t = some av' → ∃ av, look tm t = some av ∧ Ren p av av')
    (hhp : ∀ r o', nth hp' r = some o' → ∃ o, nth hp (p r) = some o ∧ o.elem = o'.elem ∧ o.es.length = o'.es.length ∧ (∀ row ∈ o'.es, row.length = c.P.cellsOf o'.elem) ∧ ∀ i j, i < o.es.length → j < c.P.cellsOf o'.elem → Ren p (cellAt o.es i j) (cellAt o'.es i j)) (hn0 : ∀ r, r < c.n0 → p r = r) :
    Ent c ⟨tm, hp⟩ ⟨tm', hp'⟩ := by
  intro φ a w hc
  have hmut : ∀ b, Mut c.A (fun r => φ (p r)) hp' b → Mut c.A φ hp b := by
    rintro b (ha | ⟨r, o', hr, hb⟩)
    · exact .inl ha
    · obtain ⟨o, h1, _⟩ := hhp r o' hr
      exact .inr ⟨p r, o, h1, hb⟩
  have htr : ∀ av av' x, Ren p av av' → RelF c.P w (Mut c.A φ hp) hp.length φ av x → RelF c.P w (Mut c.A (fun r => φ (p r)) hp') hp'.length (fun r => φ (p r)) av' x := by
    intro av av' x hren hx ψ hψ
    refine Rel.mono (w := w) (M := Mut c.A φ hp) ?_ (Nat.le_refl _) (fun _ _ _ => rfl) (fun b _ hm hm' => hm (hmut b hm'))
    refine hren.rel (φ := fun r => ψ (p r)) (fun r => rfl) (hx (fun r => ψ (p r)) fun r hr => ?_)
    have := hψ (p r) (by rw [hlen]; exact hlt r hr)
    show ψ (p r) = φ r
    rw [this]
    show φ (p (p r)) = φ r
    rw [hpp]
  refine ⟨fun r => φ (p r), hc.size, hc.defers, ⟨hc.hok.os, hc.hok.tape, hc.hok.output, hc.hok.heap, hc.hok.frame, ?_, ?_, ?_, hc.hok.amb, hc.hok.glob, by rw [hlen]; exact hc.hok.len, fun s hs => by rw [hn0 s hs]; exact hc.hok.mono s hs⟩, ?_⟩
  · intro r o' b hr hb
    obtain ⟨o, h1, _⟩ := hhp r o' hr
    exact hc.hok.owned (p r) o b h1 hb
  · intro r r' o o' b hr hr' hb hb'
    obtain ⟨q, h1, _⟩ := hhp r o hr
    obtain ⟨q', h1', _⟩ := hhp r' o' hr'
    have := hc.hok.apart (p r) (p r') q q' b h1 h1' hb hb'
    rw [← hpp r, ← hpp r', this]
  · intro r o' hr
    obtain ⟨o, h1, h2, h3, h4, h5⟩ := hhp r o' hr
    have hO := hc.hok.obj (p r) o h1
    refine ⟨by rw [← h3]; exact hO.len, by rw [← h2]; exact hO.sz, h4, by rw [← h3]; exact hO.room, hO.cap, fun h => ?_, fun b hb => ?_⟩
    · obtain ⟨e1, e2⟩ := hO.none h
      refine ⟨List.eq_nil_of_length_eq_zero (by rw [← h3, e1]; rfl), e2⟩
    · obtain ⟨cs, e1, e2, e3⟩ := hO.some b hb
      refine ⟨cs, by rw [← h2]; exact e1, by rw [← h2]; exact e2, fun i j hi hj => ?_⟩
      have := e3 i j (by omega) (by rw [h2]; exact hj)
      rw [h2] at this
      exact htr _ _ _ (h5 i j (by omega) hj) this
  · intro t av' ht
    obtain ⟨av, h1, h2⟩ := htm t av' ht
    exact htr _ _ _ h2 (hc.tm t av h1)

/-- Objects n and n + 1 trade places. -/
def swp (n : Nat) (r : Nat) : Nat := if r = n then n + 1 else if r = n + 1 then n else r
theorem swp_swp (n r : Nat) : swp n (swp n r) = r := by unfold swp; split <;> split <;> (try split) <;> omega
theorem swp_lt {n m r : Nat} (h : n + 1 < m) (hr : r < m) : swp n r < m := by unfold swp; split <;> (try split) <;> omega

/-- Renaming by looking: for slots. -/
inductive RenTm (p : Nat → Nat) (tm : List (Nat × AV)) : List (Nat × AV) → Prop
  | nil : RenTm p tm []
  | cons {t : Nat} {v v' : AV} {tl : List (Nat × AV)} : look tm t = some v → Ren p v v' → RenTm p tm tl → RenTm p tm ((t, v') :: tl)
theorem RenTm.look {p : Nat → Nat} {tm tl : List (Nat × AV)} (h : RenTm p tm tl) : ∀ t av', Vx.look tl t = some av' → ∃ av, Vx.look tm t = some av ∧ Ren p av av' := by
  induction h with
  | nil => intro t av' h; cases h
  | cons h1 h2 _ ih =>
    intro s av' hl
    simp only [Vx.look] at hl
    split at hl
    · rename_i he
      have he := Nat.eq_of_beq_eq_true he
      subst he
      cases hl
      exact ⟨_, h1, h2⟩
    · exact ih s av' hl

def renL (p : Nat → Nat) (l l' : List AV) : Prop := l.length = l'.length ∧ ∀ i, i < l.length → Ren p (l.getD i .any) (l'.getD i .any)
theorem renL_nil {p : Nat → Nat} : renL p [] [] := ⟨rfl, fun i h => by cases h⟩
theorem renL_cons {p : Nat → Nat} {x y : AV} {l m : List AV} (h : Ren p x y) (k : renL p l m) : renL p (x :: l) (y :: m) := ⟨by simp [k.1], fun i hi => by
  cases i with
  | zero => simpa using h
  | succ i => simpa using k.2 i (by simpa using hi)⟩
theorem renL_dat {p : Nat → Nat} {l : List AV} (h : l.all datB = true) : renL p l l := ⟨rfl, fun i hi => .dat (by
  have : l.getD i .any = l[i] := by simp [List.getD_eq_getElem?_getD, hi]
  rw [this]; exact List.all_eq_true.1 h _ (List.getElem_mem hi))⟩

/-- One object of ours under another name. -/
def RenO (P : Program) (p : Nat → Nat) (o o' : Own) : Prop := o.elem = o'.elem ∧ o.es.length = o'.es.length ∧ (∀ row ∈ o'.es, row.length = P.cellsOf o'.elem) ∧ ∀ i j, i < o.es.length → j < P.cellsOf o'.elem → Ren p (cellAt o.es i j) (cellAt o'.es i j)

theorem cellAt_dat {es : List (List AV)} {i j n : Nat} (h : ∀ row ∈ es, row.length = n ∧ row.all datB = true) (hi : i < es.length) (hj : j < n) : datB (cellAt es i j) = true := by
  have h1 := h _ (List.getElem_mem hi)
  have : cellAt es i j = es[i][j]'(by omega) := by simp [cellAt, List.getD_eq_getElem?_getD, hi, h1.1, hj]
  rw [this]
  exact List.all_eq_true.1 h1.2 _ (List.getElem_mem _)

theorem renO_dat {P : Program} {p : Nat → Nat} {o : Own} (h : ∀ row ∈ o.es, row.length = P.cellsOf o.elem ∧ row.all datB = true) : RenO P p o o :=
  ⟨rfl, rfl, fun row hr => (h row hr).1, fun i j hi hj => .dat (cellAt_dat h hi hj)⟩
theorem renO_one {P : Program} {p : Nat → Nat} {e : TypeId} {l l' : List AV} (hl : l'.length = P.cellsOf e) (h : renL p l l') : RenO P p ⟨e, [l]⟩ ⟨e, [l']⟩ :=
  ⟨rfl, rfl, by simpa using hl, fun i j hi hj => by
    simp at hi; subst hi
    simpa [cellAt] using h.2 j (by rw [h.1, hl]; exact hj)⟩

/-- The last two objects trade places. -/
theorem Ent.swap2 {c : Ctx} {tm tm' : List (Nat × AV)} {hp : List (Option Own)} {o1 o2 o1' o2' : Own} {n : Nat} (hn : hp.length = n)
    (htm : RenTm (swp n) tm tm') (h1 : RenO c.P (swp n) o1 o1') (h2 : RenO c.P (swp n) o2 o2')
    (hd : ∀ r o, nth hp r = some o → RenO c.P (swp n) o o) (h0 : Nat.ble c.n0 n = true := by rfl) : Ent c ⟨tm, hp ++ [some o1, some o2]⟩ ⟨tm', hp ++ [some o2', some o1']⟩ := by
  subst hn
  have e : ∀ (a b : Option Own) (r : Nat), nth (hp ++ [a, b]) r = if r = hp.length then a else if r = hp.length + 1 then b else nth hp r := by
    intro a b r
    have : hp ++ [a, b] = (hp ++ [a]) ++ [b] := by simp
    rw [this, nth_append, nth_append]
    simp only [List.length_append, List.length_singleton]
    by_cases h1 : r = hp.length + 1
    · simp [h1]
    · by_cases h2 : r = hp.length
      · simp [h2]
      · simp [h1, h2]
  refine Ent.ren (swp hp.length) (swp_swp _) (fun r hr => swp_lt (by simp) hr) (by simp) htm.look ?_ (fun r hr => by have := Nat.le_of_ble_eq_true h0; unfold swp; rw [if_neg (by omega), if_neg (by omega)])
  intro r o' hr
  rw [e] at hr
  rw [e]
  by_cases hr1 : r = hp.length
  · rw [if_pos hr1] at hr; cases hr
    refine ⟨o2, by simp [swp, hr1], h2⟩
  · rw [if_neg hr1] at hr
    by_cases hr2 : r = hp.length + 1
    · rw [if_pos hr2] at hr; cases hr
      refine ⟨o1, by simp [swp, hr2], h1⟩
    · rw [if_neg hr2] at hr
      have e2 : swp hp.length r = r := by simp [swp, hr1, hr2]
      exact ⟨o', by rw [e2, if_neg hr1, if_neg hr2]; exact hr, hd r o' hr⟩

section draw
variable {cw : Md} {c : Ctx} {ops : Array Oper} {st : St} {m : Nat} {K : Exit → St → Prop}
/-- Operations i and j may come up, in either order. -/
def twoAt (ops : Array Oper) (m i j : Nat) : Bool := readyAt ops m i && Nat.blt i ops.size && Nat.blt j ops.size && (List.range ops.size).all fun k => Nat.beq k i || Nat.beq k j || !readyAt ops m k

theorem D_two (i j : Nat) {o o' : Oper} {v v' : AV} {hp1 hp2 : List (Option Own)} (ho : ops[i]? = some o) (ho' : ops[j]? = some o') (ht : twoAt ops m i j = true) (hd : dstLt o.dst c.nt = true) (hd' : dstLt o'.dst c.nt = true) (hn : noWrite cw.cw o.op = false) (hn' : noWrite cw.cw o'.op = false)
    (hx : extOp o.op = true → Ext st.hp hp1) (hx' : extOp o'.op = true → Ext st.hp hp2) (hy : cw.fr = true → ExtW cw.wl cw.base hp1) (hy' : cw.fr = true → ExtW cw.wl cw.base hp2)
    (h : WVal c ops ⟨restr st.tm (o.looksAt ops), st.hp⟩ o v hp1) (h' : WVal c ops ⟨restr st.tm (o'.looksAt ops), st.hp⟩ o' v' hp2)
    (k : Dv cw c ops (KE K) (setBit m i) (St.puto ⟨st.tm, hp1⟩ o.dst v)) (k' : Dv cw c ops (KE K) (setBit m j) (St.puto ⟨st.tm, hp2⟩ o'.dst v')) : Dv cw c ops (KE K) m st := by
  unfold twoAt at ht
  simp only [Bool.and_eq_true] at ht
  obtain ⟨⟨⟨h1, h2⟩, h3⟩, h4⟩ := ht
  have only : ∀ k, k < ops.size → readyAt ops m k = true → k = i ∨ k = j := fun k hk hr => by
    have := List.all_eq_true.1 h4 k (List.mem_range.2 hk)
    rw [hr] at this
    simp only [Bool.not_true, Bool.or_false, Bool.or_eq_true] at this
    rcases this with h | h
    · exact .inl (Nat.eq_of_beq_eq_true h)
    · exact .inr (Nat.eq_of_beq_eq_true h)
  refine .branch (fun k => if k = i then St.puto ⟨st.tm, hp1⟩ o.dst v else St.puto ⟨st.tm, hp2⟩ o'.dst v') ⟨i, by simpa using h2, h1⟩ (fun q hq hr => ?_) (fun q hq hr => ?_)
  · by_cases hqi : q = i
    · subst hqi; rw [if_pos rfl]; exact .w ho ⟨hd, hn, hx, hy, h⟩
    · rcases only q hq hr with rfl | rfl
      · exact absurd rfl hqi
      · rw [if_neg hqi]; exact .w ho' ⟨hd', hn', hx', hy', h'⟩
  · by_cases hqi : q = i
    · subst hqi; rw [if_pos rfl]; exact k
    · rcases only q hq hr with rfl | rfl
      · exact absurd rfl hqi
      · rw [if_neg hqi]; exact k'
end draw
end Go.Vx

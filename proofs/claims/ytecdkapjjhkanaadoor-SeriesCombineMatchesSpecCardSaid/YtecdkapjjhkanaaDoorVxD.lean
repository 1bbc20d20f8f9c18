/- A text of the proof: a verified executor of the program form, or the contracts of the functions that the law reaches. -/
import Derived.Test.YtecdkapjjhkanaaDoorVxC
import Derived.Laws.NewBlocks
set_option linter.all false
namespace Go.Vx
open Go Go.RowKit

/-! ## Memory of our own -/

def setO : List (Option Own) → Nat → Option Own → List (Option Own)
  | [], _, _ => []
  | _ :: tl, 0, o => o :: tl
  | x :: tl, r + 1, o => x :: setO tl r o

theorem nth_setO {hp : List (Option Own)} {r : Nat} {o : Own} (h : nth hp r = some o) (o' : Option Own) (s : Nat) : nth (setO hp r o') s = if s = r then o' else nth hp s := by
  induction hp generalizing r s with
  | nil => simp [nth] at h
  | cons x tl ih =>
    cases r with
    | zero => cases s <;> simp [setO, nth]
    | succ r =>
      cases s with
      | zero => simp [setO, nth]
      | succ s => simp only [nth] at h; simp only [setO, nth, ih h]; simp

theorem setO_length (hp : List (Option Own)) (r : Nat) (o : Option Own) : (setO hp r o).length = hp.length := by
  induction hp generalizing r with
  | nil => rfl
  | cons x tl ih => cases r <;> simp [setO, ih]

theorem nth_append (hp : List (Option Own)) (o : Option Own) (s : Nat) : nth (hp ++ [o]) s = if s = hp.length then o else nth hp s := by
  induction hp generalizing s with
  | nil => cases s <;> simp [nth]
  | cons x tl ih => cases s <;> simp [nth, ih]

/-- Object r has been turned: it lies where it lay, or in a new block, and either its place, length and all are as before, or it has grown. -/
theorem own_update {c : Ctx} {φ : Phi} {hp : List (Option Own)} {w w' : World} {r : Nat} {o o' : Own} {L : Loc} (h : HeapOK c φ hp w) (hr : nth hp r = some o)
    (hos : w'.os = w.os) (htp : w'.tape = w.tape) (hou : w'.output = w.output) (hsz : w.heap.size ≤ w'.heap.size)
    (hb : ∀ b, b < w.heap.size → (φ r).blk ≠ some b → w'.heap[b]? = w.heap[b]?)
    (hblk : L.blk = (φ r).blk ∨ ∀ b, L.blk = some b → w.heap.size ≤ b)
    (hn : L = φ r ∨ (φ r).n < L.n)
    (hnew : (∀ av x, RelF c.P w (Mut c.A φ hp) hp.length φ av x → RelF c.P w' (Mut c.A (fun x => if x = r then L else φ x) (setO hp r (some o'))) hp.length (fun x => if x = r then L else φ x) av x) →
      HRel c.P w' (Mut c.A (fun x => if x = r then L else φ x) (setO hp r (some o'))) hp.length (fun x => if x = r then L else φ x) r o') :
    HeapOK c (fun x => if x = r then L else φ x) (setO hp r (some o')) w' ∧
    (∀ av x, RelF c.P w (Mut c.A φ hp) hp.length φ av x → RelF c.P w' (Mut c.A (fun x => if x = r then L else φ x) (setO hp r (some o'))) (setO hp r (some o')).length (fun x => if x = r then L else φ x) av x) := by
  have hlen := setO_length hp r (some o')
  have hrl : r < hp.length := nth_lt hr
  -- blocks that data may be read from are as they were, and stay so
  have hbm : ∀ b, b < w.heap.size → ¬ Mut c.A φ hp b → w'.heap[b]? = w.heap[b]? := fun b hlt hm => hb b hlt fun e => hm (.inr ⟨r, o, hr, e⟩)
  have hmm : ∀ b, b < w.heap.size → ¬ Mut c.A φ hp b → ¬ Mut c.A (fun x => if x = r then L else φ x) (setO hp r (some o')) b := by
    intro b hlt hm hm'
    rcases hm' with ha | ⟨s, os, hs, hbs⟩
    · exact hm (.inl ha)
    · rw [nth_setO hr] at hs
      by_cases hsr : s = r
      · subst hsr
        simp only [if_true] at hbs
        rcases hblk with e | e
        · exact hm (.inr ⟨s, o, hr, e ▸ hbs⟩)
        · have := e b hbs; omega
      · rw [if_neg hsr] at hs
        simp only [if_neg hsr] at hbs
        exact hm (.inr ⟨s, os, hs, hbs⟩)
  have hrel : ∀ (ψ : Phi) av x, (∀ s, s < hp.length → ψ s = if s = r then L else φ s) → Rel c.P w (Mut c.A φ hp) (fun s => if s < hp.length then φ s else ψ s) av x →
      Rel c.P w' (Mut c.A (fun x => if x = r then L else φ x) (setO hp r (some o'))) ψ av x := by
    intro ψ av x hψ hx
    induction hx with
    | data h => exact .data (h.mono hsz hbm hmm)
    | own s n v h0 h1 h2 =>
      by_cases hsr : s = r
      · subst hsr
        have e := hψ s hrl
        rw [if_pos rfl] at e
        rw [if_pos hrl] at h1 h2
        rcases hn with hn | hn
        · exact .own s n v h0 (by rw [e, hn]; exact h1) (by rw [e, hn]; exact h2)
        · exact .own s n v h0 (by rw [e]; omega) (by rw [e]; intro h; omega)
      · by_cases hsl : s < hp.length
        · have e := hψ s hsl
          rw [if_neg hsr] at e
          rw [if_pos hsl] at h1 h2
          exact .own s n v h0 (by rw [e]; exact h1) (by rw [e]; exact h2)
        · rw [if_neg hsl] at h1 h2
          exact .own s n v h0 h1 h2
    | ptr s n i j v h0 h1 h2 =>
      by_cases hsr : s = r
      · subst hsr
        have e := hψ s hrl
        rw [if_pos rfl] at e
        rw [if_pos hrl] at h1 h2
        rcases hn with hn | hn
        · exact .ptr s n i j v h0 (by rw [e, hn]; exact h1) (by rw [e, hn]; exact h2)
        · exact .ptr s n i j v h0 (by rw [e]; omega) (by rw [e]; intro h; omega)
      · by_cases hsl : s < hp.length
        · have e := hψ s hsl
          rw [if_neg hsr] at e
          rw [if_pos hsl] at h1 h2
          exact .ptr s n i j v h0 (by rw [e]; exact h1) (by rw [e]; exact h2)
        · rw [if_neg hsl] at h1 h2
          exact .ptr s n i j v h0 h1 h2
    | osl s n i j v h0 h1 h2 =>
      by_cases hsr : s = r
      · subst hsr
        have e := hψ s hrl
        rw [if_pos rfl] at e
        rw [if_pos hrl] at h1 h2
        rcases hn with hn | hn
        · exact .osl s n i j v h0 (by rw [e, hn]; exact h1) (by rw [e, hn]; exact h2)
        · exact .osl s n i j v h0 (by rw [e]; omega) (by rw [e]; intro h; omega)
      · by_cases hsl : s < hp.length
        · have e := hψ s hsl
          rw [if_neg hsr] at e
          rw [if_pos hsl] at h1 h2
          exact .osl s n i j v h0 (by rw [e]; exact h1) (by rw [e]; exact h2)
        · rw [if_neg hsl] at h1 h2
          exact .osl s n i j v h0 h1 h2
    | agg l vs h1 h2 ih => exact .agg l vs h1 ih
    | tuple l vs h1 h2 ih => exact .tuple l vs h1 ih
    | fn f l vs h1 h2 ih => exact .fn f l vs h1 ih
    | when b av v h1 h2 ih => exact .when b av v ih h2
  have htr : ∀ av x, RelF c.P w (Mut c.A φ hp) hp.length φ av x → RelF c.P w' (Mut c.A (fun x => if x = r then L else φ x) (setO hp r (some o'))) hp.length (fun x => if x = r then L else φ x) av x := by
    intro av x hx ψ hψ
    refine hrel ψ av x (fun s hs => hψ s hs) (hx _ fun s hs => ?_)
    simp only [if_pos hs]
  refine ⟨⟨hos.trans h.os, htp.trans h.tape, hou.trans h.output, Nat.le_trans h.heap hsz, ?_, ?_, ?_, ?_, h.amb, h.glob, by rw [hlen]; exact h.len, fun s hs => ?_⟩, by rw [hlen]; exact htr⟩
  rotate_left 4
  · by_cases hsr : s = r
    · subst hsr
      simp only [if_true]
      rcases h.mono s hs with h1 | h1
      · rcases hn with h2 | h2
        · exact .inl (h2.trans h1)
        · exact .inr (by rw [← h1]; exact h2)
      · rcases hn with h2 | h2
        · exact .inr (by rw [h2]; exact h1)
        · exact .inr (Nat.lt_trans h1 h2)
    · simp only [if_neg hsr]; exact h.mono s hs
  · intro b hlt hnW
    rw [hb b (Nat.lt_of_lt_of_le hlt h.heap) fun e => ?_]
    · exact h.frame b hlt hnW
    · rcases (h.owned r o b hr e).1 with hw | hw
      · exact hnW hw
      · omega
  · intro s os b hs hbs
    rw [nth_setO hr] at hs
    by_cases hsr : s = r
    · subst hsr
      simp only [if_true] at hbs
      rcases hblk with e | e
      · exact h.owned s o b hr (e ▸ hbs)
      · have h1 := e b hbs
        have h2 := h.heap
        exact ⟨.inr (by omega), fun ha => by have := (h.amb b ha).1; omega⟩
    · rw [if_neg hsr] at hs
      simp only [if_neg hsr] at hbs
      exact h.owned s os b hs hbs
  · intro s s' os os' b hs hs' hbs hbs'
    rw [nth_setO hr] at hs hs'
    have hold : ∀ x ox, nth hp x = some ox → (φ x).blk = some b → b < w.heap.size := fun x ox hx hbx => by
      obtain ⟨cs, h1, _⟩ := (h.obj x ox hx).some b hbx
      exact (Array.getElem?_eq_some_iff.1 h1).1
    by_cases hsr : s = r
    · by_cases hsr' : s' = r
      · rw [hsr, hsr']
      · rw [if_neg hsr'] at hs'
        simp only [if_neg hsr'] at hbs'
        simp only [hsr, if_true] at hbs
        rcases hblk with e | e
        · rw [hsr]; exact h.apart r s' o os' b hr hs' (e ▸ hbs) hbs'
        · have := e b hbs; have := hold s' os' hs' hbs'; omega
    · rw [if_neg hsr] at hs
      simp only [if_neg hsr] at hbs
      by_cases hsr' : s' = r
      · simp only [hsr', if_true] at hbs'
        rcases hblk with e | e
        · rw [hsr']; exact h.apart s r os o b hs hr hbs (e ▸ hbs')
        · have := e b hbs'; have := hold s os hs hbs; omega
      · rw [if_neg hsr'] at hs'
        simp only [if_neg hsr'] at hbs'
        exact h.apart s s' os os' b hs hs' hbs hbs'
  · intro s os hs
    rw [nth_setO hr] at hs
    rw [hlen]
    by_cases hsr : s = r
    · subst hsr
      rw [if_pos rfl] at hs
      cases hs
      exact hnew htr
    · rw [if_neg hsr] at hs
      have hO := h.obj s os hs
      refine ⟨by simp only [if_neg hsr]; exact hO.len, by simp only [if_neg hsr]; exact hO.sz, hO.rows, by simp only [if_neg hsr]; exact hO.room, by simp only [if_neg hsr]; exact hO.cap,
        by simp only [if_neg hsr]; exact hO.none, ?_⟩
      intro b hbk
      simp only [if_neg hsr] at hbk
      obtain ⟨cs, h1, h2, h3⟩ := hO.some b hbk
      have hlt : b < w.heap.size := (Array.getElem?_eq_some_iff.1 h1).1
      refine ⟨cs, ?_, by simp only [if_neg hsr]; exact h2, fun i j hi hj => htr _ _ (h3 i j hi hj)⟩
      rw [hb b hlt fun e => hsr (h.apart s r os o b hs hr hbk e)]
      exact h1

/-- A new object. -/
theorem own_new {c : Ctx} {φ : Phi} {hp : List (Option Own)} {w : World} {o : Own} {cs : Array Value} {cap : Nat} (h : HeapOK c φ hp w)
    (hcs : cs.size = cap * c.P.cellsOf o.elem) (hcap : cap < 2 ^ 63) (hlen : o.es.length ≤ cap) (hrows : ∀ row ∈ o.es, row.length = c.P.cellsOf o.elem)
    (hv : ∀ i j, i < o.es.length → j < c.P.cellsOf o.elem → RelF c.P w (Mut c.A φ hp) hp.length φ (cellAt o.es i j) (cs.getD (i * c.P.cellsOf o.elem + j) undef)) :
    HeapOK c (fun x => if x = hp.length then ⟨some w.heap.size, cap, o.es.length, c.P.cellsOf o.elem⟩ else φ x) (hp ++ [some o]) (w.alloc (.cells cs o.elem)) ∧
    (∀ av x, RelF c.P w (Mut c.A φ hp) hp.length φ av x → RelF c.P (w.alloc (.cells cs o.elem)) (Mut c.A (fun x => if x = hp.length then ⟨some w.heap.size, cap, o.es.length, c.P.cellsOf o.elem⟩ else φ x) (hp ++ [some o]))
      (hp ++ [some o]).length (fun x => if x = hp.length then ⟨some w.heap.size, cap, o.es.length, c.P.cellsOf o.elem⟩ else φ x) av x) := by
  generalize hL : (⟨some w.heap.size, cap, o.es.length, c.P.cellsOf o.elem⟩ : Loc) = L
  have hBl : Below w.heap.size w (w.alloc (.cells cs o.elem)) := (Below.refl _ _).alloc (Nat.le_refl _) _
  have hlenA : (hp ++ [some o]).length = hp.length + 1 := by simp
  have hmm : ∀ b, b < w.heap.size → ¬ Mut c.A φ hp b → ¬ Mut c.A (fun x => if x = hp.length then L else φ x) (hp ++ [some o]) b := by
    intro b hlt hm hm'
    rcases hm' with ha | ⟨s, os, hs, hbs⟩
    · exact hm (.inl ha)
    · rw [nth_append] at hs
      by_cases hsr : s = hp.length
      · simp only [hsr, if_true, ← hL] at hbs; cases hbs; omega
      · rw [if_neg hsr] at hs
        simp only [if_neg hsr] at hbs
        exact hm (.inr ⟨s, os, hs, hbs⟩)
  have htr : ∀ av x, RelF c.P w (Mut c.A φ hp) hp.length φ av x → RelF c.P (w.alloc (.cells cs o.elem)) (Mut c.A (fun x => if x = hp.length then L else φ x) (hp ++ [some o])) (hp.length + 1) (fun x => if x = hp.length then L else φ x) av x := by
    intro av x hx ψ hψ
    refine (hx ψ fun s hs => ?_).mono hBl.size (fun b hb _ => hBl.block b hb) hmm
    rw [hψ s (by omega)]
    show (if s = hp.length then L else φ s) = φ s
    rw [if_neg (by omega)]
  refine ⟨⟨h.os, h.tape, h.output, Nat.le_trans h.heap hBl.size, fun b hb hn => (hBl.block b (Nat.lt_of_lt_of_le hb h.heap)).trans (h.frame b hb hn), ?_, ?_, ?_, h.amb, h.glob, by rw [hlenA]; exact Nat.le_succ_of_le h.len, fun s hs => by
    have := h.len
    simp only [if_neg (show ¬ s = hp.length by omega)]; exact h.mono s hs⟩, by rw [hlenA]; exact htr⟩
  · intro s os b hs hbs
    rw [nth_append] at hs
    by_cases hsr : s = hp.length
    · simp only [hsr, if_true, ← hL] at hbs
      cases hbs
      have h2 := h.heap
      exact ⟨.inr h2, fun ha => by have := (h.amb _ ha).1; omega⟩
    · rw [if_neg hsr] at hs
      simp only [if_neg hsr] at hbs
      exact h.owned s os b hs hbs
  · intro s s' os os' b hs hs' hbs hbs'
    rw [nth_append] at hs hs'
    have hold : ∀ x ox, nth hp x = some ox → (φ x).blk = some b → b < w.heap.size := fun x ox hx hbx => by
      obtain ⟨cs, h1, _⟩ := (h.obj x ox hx).some b hbx
      exact (Array.getElem?_eq_some_iff.1 h1).1
    by_cases hsr : s = hp.length
    · by_cases hsr' : s' = hp.length
      · rw [hsr, hsr']
      · rw [if_neg hsr'] at hs'
        simp only [if_neg hsr'] at hbs'
        simp only [hsr, if_true, ← hL] at hbs
        cases hbs
        have := hold s' os' hs' hbs'; omega
    · rw [if_neg hsr] at hs
      simp only [if_neg hsr] at hbs
      by_cases hsr' : s' = hp.length
      · simp only [hsr', if_true, ← hL] at hbs'
        cases hbs'
        have := hold s os hs hbs; omega
      · rw [if_neg hsr'] at hs'
        simp only [if_neg hsr'] at hbs'
        exact h.apart s s' os os' b hs hs' hbs hbs'
  · intro s os hs
    rw [hlenA]
    rw [nth_append] at hs
    by_cases hsr : s = hp.length
    · rw [if_pos hsr] at hs
      cases hs
      refine ⟨by simp [hsr, ← hL], by simp [hsr, ← hL], hrows, by simp [hsr, ← hL, hlen], by simp [hsr, ← hL]; omega, by simp [hsr, ← hL], ?_⟩
      intro b hb
      simp only [hsr, if_true, ← hL] at hb
      cases hb
      refine ⟨cs, ?_, by simp [hsr, ← hL, hcs], fun i j hi hj => htr _ _ (hv i j hi hj)⟩
      show (w.heap.push _)[w.heap.size]? = _
      simp
    · rw [if_neg hsr] at hs
      have hO := h.obj s os hs
      refine ⟨by simp only [if_neg hsr]; exact hO.len, by simp only [if_neg hsr]; exact hO.sz, hO.rows, by simp only [if_neg hsr]; exact hO.room, by simp only [if_neg hsr]; exact hO.cap,
        by simp only [if_neg hsr]; exact hO.none, ?_⟩
      intro b hbk
      simp only [if_neg hsr] at hbk
      obtain ⟨cs', h1, h2, h3⟩ := hO.some b hbk
      have hlt : b < w.heap.size := (Array.getElem?_eq_some_iff.1 h1).1
      exact ⟨cs', (hBl.block b hlt).trans h1, by simp only [if_neg hsr]; exact h2, fun i j hi hj => htr _ _ (h3 i j hi hj)⟩
end Go.Vx

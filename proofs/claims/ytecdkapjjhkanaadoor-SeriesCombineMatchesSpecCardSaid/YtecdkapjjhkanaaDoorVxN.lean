/- A text of the proof: a verified executor of the program form, or the contracts of the functions that the law reaches. -/
import Derived.Test.YtecdkapjjhkanaaDoorVxM
set_option linter.all false
namespace Go.Vx
open Go Go.RowKit

theorem own_nil {c : Ctx} {φ : Phi} {hp : List (Option Own)} {w : World} (e : TypeId) (hok : HeapOK c φ hp w) :
    HeapOK c (fun x => if x = hp.length then ⟨none, 0, 0, c.P.cellsOf e⟩ else φ x) (hp ++ [some ⟨e, []⟩]) w ∧
    (∀ av x, RelF c.P w (Mut c.A φ hp) hp.length φ av x → RelF c.P w (Mut c.A (fun x => if x = hp.length then ⟨none, 0, 0, c.P.cellsOf e⟩ else φ x) (hp ++ [some ⟨e, []⟩])) (hp ++ [some (⟨e, []⟩ : Own)]).length
      (fun x => if x = hp.length then ⟨none, 0, 0, c.P.cellsOf e⟩ else φ x) av x) := by
  have hlen : (hp ++ [some (⟨e, []⟩ : Own)]).length = hp.length + 1 := by simp
  have hmut : ∀ b, Mut c.A (fun x => if x = hp.length then ⟨none, 0, 0, c.P.cellsOf e⟩ else φ x) (hp ++ [some ⟨e, []⟩]) b → Mut c.A φ hp b := by
    rintro b (ha | ⟨r, o, hr, hb⟩)
    · exact .inl ha
    · rw [nth_append] at hr
      by_cases h : r = hp.length
      · simp only [if_pos h] at hb; cases hb
      · rw [if_neg h] at hr; simp only [if_neg h] at hb; exact .inr ⟨r, o, hr, hb⟩
  have htr : ∀ av x, RelF c.P w (Mut c.A φ hp) hp.length φ av x → RelF c.P w (Mut c.A (fun x => if x = hp.length then ⟨none, 0, 0, c.P.cellsOf e⟩ else φ x) (hp ++ [some ⟨e, []⟩])) (hp.length + 1)
      (fun x => if x = hp.length then ⟨none, 0, 0, c.P.cellsOf e⟩ else φ x) av x := by
    intro av x hx ψ hψ
    refine (hx ψ fun s hs => ?_).mono (Nat.le_refl _) (fun _ _ _ => rfl) (fun b _ hm hm' => hm (hmut b hm'))
    rw [hψ s (by omega)]
    show (if s = hp.length then _ else φ s) = φ s
    rw [if_neg (by omega)]
  refine ⟨⟨hok.os, hok.tape, hok.output, hok.heap, hok.frame, ?_, ?_, ?_, hok.amb, hok.glob, by rw [hlen]; exact Nat.le_succ_of_le hok.len, fun s hs => by
    have := hok.len
    simp only [if_neg (show ¬ s = hp.length by omega)]; exact hok.mono s hs⟩, by rw [hlen]; exact htr⟩
  · intro r o b hr hb
    rw [nth_append] at hr
    by_cases h : r = hp.length
    · simp only [if_pos h] at hb; cases hb
    · rw [if_neg h] at hr; simp only [if_neg h] at hb; exact hok.owned r o b hr hb
  · intro r r' o o' b hr hr' hb hb'
    rw [nth_append] at hr hr'
    by_cases h : r = hp.length
    · simp only [if_pos h] at hb; cases hb
    · by_cases h' : r' = hp.length
      · simp only [if_pos h'] at hb'; cases hb'
      · rw [if_neg h] at hr; simp only [if_neg h] at hb
        rw [if_neg h'] at hr'; simp only [if_neg h'] at hb'
        exact hok.apart r r' o o' b hr hr' hb hb'
  · intro r o hr
    rw [hlen]
    rw [nth_append] at hr
    by_cases h : r = hp.length
    · rw [if_pos h] at hr
      cases hr
      refine ⟨by simp [h], by simp [h], by simp, by simp, by simp [h], by simp [h], fun b hb => by simp [h] at hb⟩
    · rw [if_neg h] at hr
      have hO := hok.obj r o hr
      refine ⟨by simp only [if_neg h]; exact hO.len, by simp only [if_neg h]; exact hO.sz, hO.rows, by simp only [if_neg h]; exact hO.room, by simp only [if_neg h]; exact hO.cap, by simp only [if_neg h]; exact hO.none, fun b hb => ?_⟩
      simp only [if_neg h] at hb
      obtain ⟨cs, h3, h4, h5⟩ := hO.some b hb
      exact ⟨cs, h3, by simp only [if_neg h]; exact h4, fun i j hi hj => htr _ _ (h5 i j hi hj)⟩

section
variable {c : Ctx} {ops : Array Oper} {st : St} {dst : Option Tmp} {ty : TypeId} {pos : String} {after : Array Edge}
/-- append(nil, ys...), a row of our own. -/
theorem w_append0 {x y : Operand} {t e sz by_ m r : Nat} {ys : List (List AV)} (hr : st.hp.length = r) (h : Opv c st x .nils) (hy : SlV c st y sz ys) (ht : tSl c.P t e sz by_ = true)
    (hm : ys.length = m) (hb : m * by_ ≤ 140737488355328) :
    WVal c ops st ⟨dst, .call { callee := .builtin .append, args := #[x, y], argTypes := #[t, t] }, ty, pos, after, none⟩ (.own r m) (st.hp ++ [some ⟨e, ys⟩]) := by
  subst hr
  refine .run rfl fun φ a w hc => ?_
  obtain ⟨hu, inf, z, hi, hs, hby, hn0, hz, hzs, hcs⟩ := tSl.spec ht
  have hxv : a.eval x = .slice none 0 0 := by
    have hv := h φ a w hc φ (fun _ _ => rfl)
    generalize a.eval x = v at hv
    cases hv with | data h => cases h; rfl
  obtain ⟨base, cap, hyv, hlt63, hyr, hyc⟩ := hy φ a w hc
  by_cases hm0 : m = 0
  · subst hm0
    have hyn : ys = [] := List.eq_nil_of_length_eq_zero hm
    subst hyn
    obtain ⟨g1, g2⟩ := own_nil e hc.hok
    refine ⟨.slice none 0 0, w, _, ?_, g1, g2, fun φ' hφ => ?_⟩
    · have hf : (Builtin.firstCells sz 0 (.slice base 0 cap)).run c.P w = .ok #[] w := by
        cases base <;> simp [Builtin.firstCells, loadCells, loadCellsFrom]
      simp [execOp, resolve, invoke, builtin, hxv, hyv, Builtin.append_, run_underlying hu, sizeOf, typeInfo, hi, hs, Builtin.lenOf, hf]
    · have e1 : φ' st.hp.length = ⟨none, 0, 0, c.P.cellsOf e⟩ := by
        have := hφ st.hp.length (by simp)
        simpa using this
      exact .own _ 0 _ rfl (by rw [e1]; exact Nat.le_refl _) fun _ => by rw [e1]; rfl
  · have hyne : ys ≠ [] := fun e => by rw [e] at hm; simp at hm; omega
    obtain ⟨b, off, us, rfl, hc1, hc2⟩ := hyc hyne
    obtain ⟨news, hnl, hn1, hn2⟩ := news_of hc hc1 hn0
    rw [hm] at hnl hyv
    have hr := run_append_nil (P := c.P) w t ty e inf z hu hi hz ⟨b, off, none⟩ m cap news (by rw [hnl, hs]) hn1 (by omega) (by omega) (by rw [hby]; omega)
    have hge := grownCap_ge w m 0 e
    have hdr : Below w.heap.size w w.drew := (Below.refl _ _).drew
    have hmax : m ≤ maxLen := by
      have h8 : 0 < by_ ∨ by_ = 0 := by omega
      simp only [maxLen]; omega
    have hcap := grownCap_le_maxLen w m 0 e hmax
    simp only [maxLen] at hcap
    obtain ⟨g1, g2⟩ := own_new (o := ⟨e, ys⟩) (cs := news.toArray ++ Builtin.zeroCells z.cells (grownCap w m 0 e - m)) (cap := grownCap w m 0 e) (hc.hok.below hdr)
      (by simp only [Array.size_append, List.size_toArray, size_zeroCells, hzs, hnl, ← Nat.add_mul, hcs]
          congr 1; omega) (by omega) (by simp only [hm]; omega) (fun row hrow => by rw [hcs]; exact hyr row hrow) (fun i j hi' hj' => by
        simp only [hcs] at hj' ⊢
        have h7 : i * sz + j < news.length := by rw [hnl, ← hm]; exact ix_lt hi' hj'
        have : (news.toArray ++ Builtin.zeroCells z.cells (grownCap w m 0 e - m)).getD (i * sz + j) undef = us i j := by
          rw [← hn2 i j hi' hj']
          simp [Array.getD_eq_getD_getElem?, Array.getElem?_append, h7, List.getD_eq_getElem?_getD]
        rw [this]
        exact (hc2 i j hi' hj').below hdr)
    refine ⟨_, _, _, by simp [execOp, resolve, invoke, builtin, hxv, hyv, hr]; rfl, g1, fun av x hx => g2 av x (hx.below hdr), fun φ' hφ => ?_⟩
    have e1 : φ' st.hp.length = ⟨some w.drew.heap.size, grownCap w m 0 e, ys.length, c.P.cellsOf e⟩ := by
      have := hφ st.hp.length (by simp)
      simpa using this
    exact .own _ m _ rfl (by rw [e1]; simp only [hm]; exact Nat.le_refl _) fun _ => by rw [e1]; rfl
end
end Go.Vx

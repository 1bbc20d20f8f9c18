/- A text of the proof: a verified executor of the program form, or the contracts of the functions that the law reaches. -/
import Derived.Test.YtecdkapjjhkanaaDoorVxE
import Derived.Laws.CopyRow
import Derived.Laws.Append
set_option linter.all false
namespace Go.Vx
open Go Go.RowKit

/-! ## Values of one cell -/

def c1B : AV → Bool
  | .int _ _ | .bool _ | .str _ | .nils | .sl _ _ | .rp _ _ | .fn _ _ | .own _ _ | .ptr _ _ _ _ | .osl _ _ _ _ => true
  | .lit v => v.oneCell'
  | _ => false

theorem relF_dataB {P : Program} {w : World} {M : Nat → Prop} {n : Nat} {φ : Phi} {av : AV} {v : Value} (h : RelF P w M n φ av v) (hb : c1B av = true) : v.oneCell' = true := by
  have h := h φ (fun _ _ => rfl)
  cases h with
  | data h => cases h <;> first | rfl | exact hb | cases hb
  | own _ _ _ h0 => exact h0
  | ptr _ _ _ _ _ h0 => exact h0
  | osl _ _ _ _ _ h0 => exact h0
  | agg => cases hb
  | tuple => cases hb
  | fn => rfl
  | when => cases hb

def Cell1 (c : Ctx) (st : St) (av : AV) : Prop := ∀ φ a w, Conc c φ st a w → ∀ u, RelF c.P w (Mut c.A φ st.hp) st.hp.length φ av u → u.oneCell' = true

section cell1
variable {c : Ctx} {st : St}
theorem cell1_b {av : AV} (h : c1B av = true) : Cell1 c st av := fun _ _ _ _ _ hu => relF_dataB hu h
theorem cell1_own {r n : Nat} {o : Own} (ho : nth st.hp r = some o) (hn : o.es.length = n) : Cell1 c st (.own r n) := fun φ a w hc u hu => by
  rw [relF_own hu (by rw [(hc.hok.obj r o ho).len, hn])]; rfl
theorem cell1_ptr {r n i j : Nat} {o : Own} (ho : nth st.hp r = some o) (hn : o.es.length = n) : Cell1 c st (.ptr r n i j) := fun φ a w hc u hu => by
  obtain ⟨b, _, e⟩ := relF_ptr hu (by rw [(hc.hok.obj r o ho).len, hn])
  rw [e]; rfl
theorem cell1_all {l : List AV} (h : l.all c1B = true) : ∀ x ∈ l, Cell1 c st x := fun x hx => cell1_b (List.all_eq_true.1 h x hx)
end cell1

theorem cells_one {v : Value} (h : v.oneCell' = true) : v.cells = #[v] := by cases v <;> first | rfl | cases h

section ops
variable {c : Ctx} {ops : Array Oper} {st : St} {dst : Option Tmp} {ty : TypeId} {pos : String} {after : Array Edge}

theorem WVal.run {o : Oper} {v : AV} {hp' : List (Option Own)} (hg : o.guard = none)
    (h : ∀ φ a w, Conc c φ st a w → ∃ u w' φ', (execOp a.eval o).run c.P w = .ok (.value u) w' ∧ HeapOK c φ' hp' w' ∧
      (∀ av x, RelF c.P w (Mut c.A φ st.hp) st.hp.length φ av x → RelF c.P w' (Mut c.A φ' hp') hp'.length φ' av x) ∧ RelF c.P w' (Mut c.A φ' hp') hp'.length φ' v u) : WVal c ops st o v hp' := by
  intro φ a w hc
  refine ⟨wanted_none hg, ?_⟩
  obtain ⟨u, w', φ', h1, h2, h3, h4⟩ := h φ a w hc
  unfold Oper.wp
  rw [h1]
  exact ⟨u, φ', rfl, h2, h3, h4⟩

theorem relF_newptr {P : Program} {w : World} {M : Nat → Prop} {hp : List (Option Own)} {φ : Phi} {o : Own} {L : Loc} {b : Nat} (hb : L.blk = some b) (hn : L.n = 1) :
    RelF P w M (hp ++ [some o]).length (fun x => if x = hp.length then L else φ x) (.ptr hp.length 1 0 0) (.pointer (some ⟨b, 0, none⟩)) := by
  intro φ' hφ
  have e : φ' hp.length = L := by
    have := hφ hp.length (by simp)
    simpa using this
  exact .ptr _ _ _ _ _ rfl (by rw [e, hn]; exact Nat.le_refl _) fun _ => ⟨b, by rw [e]; exact hb, by simp⟩

theorem w_new {o : Oper} {t sz r : Nat} {l : List AV} (hr : st.hp.length = r) (hg : o.guard = none) (hl : l.length = sz) (hsz : c.P.cellsOf t = sz)
    (h : ∀ φ a w, Conc c φ st a w → ∃ cs, (execOp a.eval o).run c.P w = .ok (.value (.pointer (some ⟨w.heap.size, 0, none⟩))) (w.alloc (.cells cs t)) ∧ cs.size = sz ∧
      ∀ j, j < sz → RelF c.P w (Mut c.A φ st.hp) st.hp.length φ (l.getD j .any) (cs.getD j undef)) :
    WVal c ops st o (.ptr r 1 0 0) (st.hp ++ [some ⟨t, [l]⟩]) := by
  subst hr
  refine .run hg fun φ a w hc => ?_
  obtain ⟨cs, h1, h2, h3⟩ := h φ a w hc
  have hn := own_new (o := ⟨t, [l]⟩) (cs := cs) (cap := 1) hc.hok (by simp [h2, hsz]) (by decide) (by simp) (by simp [hl, hsz]) (fun i j hi hj => by
    simp at hi
    subst hi
    have := h3 j (by simpa [hsz] using hj)
    simpa [cellAt] using this)
  exact ⟨_, _, _, h1, hn.1, hn.2, relF_newptr rfl (by simp)⟩

theorem w_box {x : Operand} {t n : Nat} {l : List AV} (r : Nat) (hr : st.hp.length = r) (h : Opv c st x (.agg l)) (ht : tAgg c.P t n = true) (hl : l.length = n) :
    WVal c ops st ⟨dst, .box t x, ty, pos, after, none⟩ (.ptr r 1 0 0) (st.hp ++ [some ⟨t, [l]⟩]) := by
  obtain ⟨i, d, hi, hs, hu, hd, hc', _⟩ := tAgg.spec ht
  refine w_new hr rfl hl hc' fun φ a w hc => ?_
  obtain ⟨vs, hx, hvs, h2⟩ := relF_agg (h φ a w hc)
  refine ⟨vs, ?_, by omega, fun j hj => h2 j (by omega)⟩
  simp only [execOp, hx, Instr.box, newVar, newRow, Value.cells]
  rfl

theorem w_boxS {x : Operand} {t : Nat} {v : AV} (r : Nat) (hr : st.hp.length = r) (h : Opv c st x v) (ht : tScal c.P t = true) (h1 : Cell1 c st v) :
    WVal c ops st ⟨dst, .box t x, ty, pos, after, none⟩ (.ptr r 1 0 0) (st.hp ++ [some ⟨t, [[v]]⟩]) := by
  obtain ⟨i, d, hi, hs, hu, hd, hc'⟩ := tScal.spec ht
  refine w_new hr rfl rfl hc' fun φ a w hc => ?_
  have hx := h φ a w hc
  refine ⟨#[a.eval x], ?_, by simp, fun j hj => ?_⟩
  · simp only [execOp, Instr.box, newVar, newRow, cells_one (h1 φ a w hc _ hx)]
    rfl
  · have : j = 0 := by simp at hj; omega
    subst this
    simpa using hx

theorem w_alloc {t : Nat} {zs : List Value} {row : List AV} (r : Nat) (hr : st.hp.length = r) (hz : zeroOf c.P t = some zs) (hrow : zs.map constAV = row) (hl : c.P.cellsOf t = row.length) :
    WVal c ops st ⟨dst, .alloc t, ty, pos, after, none⟩ (.ptr r 1 0 0) (st.hp ++ [some ⟨t, [row]⟩]) := by
  refine w_new hr rfl rfl hl fun φ a w hc => ?_
  unfold zeroOf at hz
  split at hz
  · rename_i i hi
    simp only [Option.map_eq_some_iff] at hz
    obtain ⟨z, hz, hzs⟩ := hz
    have hsz : z.cells.size = row.length := by rw [← hrow, ← hzs]; simp
    refine ⟨z.cells, ?_, hsz, fun j hj => ?_⟩
    · simp [execOp, Instr.alloc, zeroValue, typeInfo, hi, hz, newVar, newRow]
    · refine relF_data ?_
      have e : row.getD j .any = constAV (z.cells.getD j undef) := by
        rw [← hrow, ← hzs]
        have hj' : j < z.cells.size := by omega
        simp [List.getD_eq_getElem?_getD, hj']
      rw [e]
      exact constAV_rel _ _ _ _
  · cases hz

/-! ## Stores -/

theorem splice_getD {α : Type} (xs l : List α) (j k : Nat) (d : α) (h : j + l.length ≤ xs.length) :
    (xs.take j ++ (l ++ xs.drop (j + l.length))).getD k d = if k < j then xs.getD k d else if k < j + l.length then l.getD (k - j) d else xs.getD k d := by
  have hm : min j xs.length = j := by omega
  simp only [List.getD_eq_getElem?_getD]
  by_cases h1 : k < j
  · rw [if_pos h1, List.getElem?_append_left (by rw [List.length_take]; omega), List.getElem?_take, if_pos h1]
  · rw [if_neg h1, List.getElem?_append_right (by rw [List.length_take]; omega), List.length_take, hm]
    by_cases h2 : k < j + l.length
    · rw [if_pos h2, List.getElem?_append_left (by omega)]
    · rw [if_neg h2, List.getElem?_append_right (by omega), List.getElem?_drop]
      congr 2
      omega

theorem splice_getDA (cs : Array Value) (vs : List Value) (o k : Nat) (h : o + vs.length ≤ cs.size) :
    (cs.toList.take o ++ vs ++ cs.toList.drop (o + vs.length)).toArray.getD k undef = if k < o then cs.getD k undef else if k < o + vs.length then vs.getD (k - o) undef else cs.getD k undef := by
  have e : ∀ (l : List Value) i, l.toArray.getD i undef = l.getD i undef := fun l i => by simp [Array.getD_eq_getD_getElem?, List.getD_eq_getElem?_getD]
  have e' : ∀ i, cs.getD i undef = cs.toList.getD i undef := fun i => by simp [Array.getD_eq_getD_getElem?, List.getD_eq_getElem?_getD]
  rw [e, List.append_assoc, splice_getD _ _ _ _ _ (by simpa using h), e']


theorem store_core {φ : Phi} {a : Act} {w : World} (hc : Conc c φ st a w) {r n i j : Nat} {o : Own} {row l row' : List AV} {vs : List Value} (ho : nth st.hp r = some o) (hn : o.es.length = n) (hrow : o.es[i]? = some row)
    (hlen : j + l.length ≤ row.length) (hvl : vs.length = l.length) (hvs : ∀ k, k < l.length → RelF c.P w (Mut c.A φ st.hp) st.hp.length φ (l.getD k .any) (vs.getD k undef)) (h1 : ∀ v ∈ vs, v.oneCell' = true)
    (hrow' : row.take j ++ (l ++ row.drop (j + l.length)) = row') {b : Nat} (hb : (φ r).blk = some b) :
    ∃ w', (storeCells ⟨b, i * (φ r).sz + j, none⟩ vs).run c.P w = .ok () w' ∧ HeapOK c φ (setO st.hp r (some ⟨o.elem, o.es.set i row'⟩)) w' ∧
      (∀ av x, RelF c.P w (Mut c.A φ st.hp) st.hp.length φ av x → RelF c.P w' (Mut c.A φ (setO st.hp r (some ⟨o.elem, o.es.set i row'⟩))) (setO st.hp r (some ⟨o.elem, o.es.set i row'⟩)).length φ av x) := by
  obtain ⟨b', cs, hb', h2, h3, h4, h5, h6, h7, h8, h9⟩ := live_cells hc ho hrow
  rw [hb] at hb'; cases hb'
  have hO := hc.hok.obj r o ho
  have hi : i < o.es.length := (List.getElem?_eq_some_iff.1 hrow).1
  have hcap := hO.room
  have hbound : i * row.length + row.length ≤ cs.size := by
    rw [h6]
    have : (i + 1) * row.length ≤ (φ r).cap * row.length := Nat.mul_le_mul_right _ (by omega)
    rw [Nat.add_mul, Nat.one_mul] at this
    exact this
  have hst := run_storeCells_at c.P b (i * row.length + j) o.elem vs 0 cs w h4 (by omega) h1
  simp only [Nat.add_zero] at hst
  rw [h3]
  have hrl' : row'.length = row.length := by rw [← hrow']; simp; omega
  have hφ : (fun x => if x = r then φ r else φ x) = φ := by funext x; split; subst_vars; rfl; rfl
  have hu := own_update (L := φ r) (o' := ⟨o.elem, o.es.set i row'⟩) (w' := w.setRow b (cs.toList.take (i * row.length + j) ++ vs ++ cs.toList.drop (i * row.length + j + vs.length)).toArray) hc.hok ho rfl rfl rfl (by simp)
    (fun b' hlt hne => setRow_other w b b' _ (fun e => hne (by rw [hb, e]))) (.inl rfl) (.inl rfl) (fun htr => by
      simp only [hφ] at htr ⊢
      refine ⟨by rw [hO.len]; simp, hO.sz, ?_, by simpa using hO.room, hO.cap, (fun h => by rw [hb] at h; cases h), fun b' hb' => ?_⟩
      · intro x hx
        rcases List.mem_or_eq_of_mem_set hx with hx | rfl
        · exact hO.rows x hx
        · rw [hrl', h5]
      · rw [hb] at hb'; cases hb'
        refine ⟨_, setRow_heap w b cs _ o.elem _ h4, ?_, fun i' j' hi' hj' => ?_⟩
        · simp; rw [← h5]; rw [h6] at hbound ⊢; omega
        · simp only [List.length_set] at hi'
          rw [← h5] at hj' ⊢
          have hii : i' * row.length + j' < cs.size := by rw [h6]; exact ix_lt (by omega) hj'
          obtain ⟨cs2, g1, g2, g3⟩ := hO.some b hb
          rw [h4] at g1; cases g1
          have gold := fun hj => g3 i' j' hi' hj
          rw [← h5] at gold
          have gold := gold hj'
          by_cases hii' : i' = i
          · subst hii'
            have ec : cellAt (o.es.set i' row') i' j' = (row.take j ++ (l ++ row.drop (j + l.length))).getD j' .any := by rw [hrow']; simp [cellAt, hi]
            have er : cellAt o.es i' j' = row.getD j' .any := by simp [cellAt, List.getD_eq_getElem?_getD, hrow]
            rw [er] at gold
            rw [ec]
            rw [splice_getD row l j j' .any hlen, splice_getDA cs vs _ _ (by omega)]
            by_cases hj1 : j' < j
            · rw [if_pos hj1, if_pos (by omega)]; exact htr _ _ gold
            · by_cases hj2 : j' < j + l.length
              · rw [if_neg hj1, if_pos hj2, if_neg (show ¬ i' * row.length + j' < i' * row.length + j by omega), if_pos (by omega), show i' * row.length + j' - (i' * row.length + j) = j' - j by omega]
                exact htr _ _ (hvs _ (by omega))
              · rw [if_neg hj1, if_neg hj2, if_neg (show ¬ i' * row.length + j' < i' * row.length + j by omega), if_neg (by omega)]; exact htr _ _ gold
          · have ec : cellAt (o.es.set i row') i' j' = cellAt o.es i' j' := by simp [cellAt, List.getD_eq_getElem?_getD, List.getElem?_set_ne (Ne.symm hii')]
            rw [ec, splice_getDA cs vs _ _ (by omega)]
            rcases Nat.lt_or_ge i' i with hlt | hge
            · have : i' * row.length + j' < i * row.length := ix_lt hlt hj'
              rw [if_pos (by omega)]; exact htr _ _ gold
            · have : (i + 1) * row.length ≤ i' * row.length := Nat.mul_le_mul_right _ (by omega)
              rw [Nat.add_mul, Nat.one_mul] at this
              rw [if_neg (by omega), if_neg (by omega)]; exact htr _ _ gold)
  simp only [hφ] at hu
  exact ⟨_, hst, hu.1, hu.2⟩
end ops
end Go.Vx

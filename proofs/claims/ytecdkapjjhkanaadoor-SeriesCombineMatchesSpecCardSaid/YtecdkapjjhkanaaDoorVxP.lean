/- A text of the proof: a verified executor of the program form, or the contracts of the functions that the law reaches. -/
import Derived.Test.YtecdkapjjhkanaaDoorVxO
import Derived.Deep.Slices
import Derived.WideShapes
set_option linter.all false
namespace Go.Vx
open Go Go.RowKit Go.ChangeShapes Go.WideShapes

/-! ## What is handed in, as data -/

inductive Sh : Type
  | int (k : IntKind)
  | bool
  | str
  | sl (e : TypeId) (fs : List Sh)

inductive Fits : Sh → AV → Prop
  | int {k : IntKind} {n : Int} : (Lit.int k n).wf = true → Fits (.int k) (.int k n)
  | bool (b : Bool) : Fits .bool (.bool b)
  | str {s : List UInt8} : s.length ≤ maxLen → Fits .str (.str s)
  | sl {e : TypeId} {fs : List Sh} {l : List (List AV)} : l.length ≤ maxLen → (∀ row ∈ l, row.length = fs.length) → (∀ i j, i < l.length → j < fs.length → Fits (fs.getD j .bool) (cellAt l i j)) → Fits (.sl e fs) (.sl e l)

def FitsL (ss : List Sh) (l : List AV) : Prop := l.length = ss.length ∧ ∀ j, j < ss.length → Fits (ss.getD j .bool) (l.getD j .any)

def shFs (P : Program) (g : TypeId → Option (List Sh)) : Nat → List Field → Option (List Sh)
  | _, [] => some []
  | off, f :: tl => match g f.type with
    | some ss => if Nat.beq f.offset off && Nat.beq (P.cellsOf f.type) ss.length then (match shFs P g (off + ss.length) tl with | some r => some (ss ++ r) | none => none) else none
    | none => none

def shOf (P : Program) : Nat → TypeId → Option (List Sh)
  | 0, _ => none
  | n + 1, t => match P.underlying t with
    | some (.int k) => some [.int k]
    | some .bool => some [.bool]
    | some .string => some [.str]
    | some (.slice e) => match shOf P n e with
      | some fs => if Nat.beq fs.length (P.cellsOf e) && Nat.blt 0 fs.length then some [.sl e fs] else none
      | none => none
    | some (.struct fs) => match shFs P (shOf P n) 0 fs.toList with
      | some ss => if Nat.beq ss.length (P.cellsOf t) then some ss else none
      | none => none
    | _ => none

def No : Nat → Prop := fun _ => False

section
variable {H : Type} {enc : TypeId × Value → H} {P : Program} {w : World} {base : Nat} {spare : Nat → Bool} {held : Bool}

def Good (P : Program) (w : World) (ss : List Sh) (cs : List Value) : Prop := cs.length = ss.length ∧ ∃ l, FitsL ss l ∧ ∀ j, j < ss.length → RelD P w No (l.getD j .any) (cs.getD j undef)

theorem fitsL_one {s : Sh} {av : AV} (h : Fits s av) : FitsL [s] [av] := ⟨rfl, fun j hj => by simp at hj; subst hj; exact h⟩
theorem good_one {s : Sh} {av : AV} {v : Value} (h : Fits s av) (hr : RelD P w No av v) : Good P w [s] [v] := ⟨rfl, [av], fitsL_one h, fun j hj => by simp at hj; subst hj; exact hr⟩

theorem fields_good {g : TypeId → Option (List Sh)} {m : Nat} {cs : List Value} (hg : ∀ t ss cs' y, g t = some ss → DataW.trod enc P w base spare held m t cs' = some y → Good P w ss cs') :
    ∀ (fl : List Field) (off : Nat) (ss : List Sh), shFs P g off fl = some ss → (∀ f ∈ fl, ∃ y, DataW.trod enc P w base spare held m f.type ((cs.drop f.offset).take (P.cellsOf f.type)) = some y) →
      ∃ l, FitsL ss l ∧ ∀ j, j < ss.length → RelD P w No (l.getD j .any) (cs.getD (off + j) undef)
  | [], off, ss, h, _ => by
    simp only [shFs] at h; cases h
    exact ⟨[], ⟨rfl, fun j hj => by cases hj⟩, fun j hj => by cases hj⟩
  | f :: tl, off, ss, h, hf => by
    simp only [shFs] at h
    split at h
    · rename_i s1 hs1
      split at h
      · rename_i hc
        simp only [Bool.and_eq_true] at hc
        obtain ⟨hc1, hc2⟩ := hc
        have hc1 := Nat.eq_of_beq_eq_true hc1
        have hc2 := Nat.eq_of_beq_eq_true hc2
        split at h
        · rename_i r hr
          cases h
          obtain ⟨y, hy⟩ := hf f (by simp)
          obtain ⟨hlen, l1, hl1, hr1⟩ := hg _ _ _ _ hs1 hy
          obtain ⟨l2, hl2, hr2⟩ := fields_good hg tl (off + s1.length) r hr (fun f' hf' => hf f' (by simp [hf']))
          refine ⟨l1 ++ l2, ⟨by simp [hl1.1, hl2.1], fun j hj => ?_⟩, fun j hj => ?_⟩
          · by_cases hj1 : j < s1.length
            · have := hl1.2 j hj1
              simpa [List.getD_eq_getElem?_getD, List.getElem?_append, hj1, hl1.1] using this
            · have := hl2.2 (j - s1.length) (by simp at hj; omega)
              simpa [List.getD_eq_getElem?_getD, List.getElem?_append, hj1, hl1.1] using this
          · by_cases hj1 : j < s1.length
            · have := hr1 j hj1
              rw [hc1, hc2] at this
              simpa [List.getD_eq_getElem?_getD, List.getElem?_append, hj1, hl1.1, List.getElem?_take, List.getElem?_drop] using this
            · have := hr2 (j - s1.length) (by simp at hj; omega)
              rw [show off + s1.length + (j - s1.length) = off + j by omega] at this
              simpa [List.getD_eq_getElem?_getD, List.getElem?_append, hj1, hl1.1] using this
        · cases h
      · cases h
    · cases h

theorem trod_good : ∀ (n : Nat) (t : TypeId) (ss : List Sh) (fuel : Nat) (cs : List Value) (x : DataW H × List MemPlace), shOf P n t = some ss → DataW.trod enc P w base spare held fuel t cs = some x → Good P w ss cs
  | 0, _, _, _, _, _, h, _ => by cases h
  | n + 1, t, ss, fuel, cs, x, h, hx => by
    simp only [shOf] at h
    split at h
    · rename_i k hu
      cases h
      obtain ⟨z, rfl, _, hw⟩ := DataW.trod_int hu hx
      exact good_one (.int hw) (.int _ _)
    · rename_i hu
      cases h
      obtain ⟨b, rfl, _⟩ := DataW.trod_bool hu hx
      exact good_one (.bool b) (.bool _)
    · rename_i hu
      cases h
      obtain ⟨s, rfl, _, hs⟩ := DataW.trod_string hu hx
      refine good_one (av := .str s.data.toList) (.str (by simpa using hs)) ?_
      have : s = ⟨s.data.toList.toArray⟩ := by simp
      exact this ▸ .str s.data.toList
    · rename_i e hu
      split at h
      · rename_i fs hfs
        split at h
        · rename_i hc
          simp only [Bool.and_eq_true] at hc
          have hc1 := Nat.eq_of_beq_eq_true hc.1
          have hc2 : 0 < fs.length := by simpa using hc.2
          cases h
          rcases Go.Deep.open_slice hu hx with ⟨rfl, _⟩ | ⟨a, len, cap, m, q, D, Pl, rfl, _, hl, hm, hmm, _, hi⟩
          · exact good_one (av := .sl e []) (.sl (by simp) (fun row hr => by cases hr) fun i j hi => by cases hi) (.sl0 _ _ _)
          · have hle : len ≤ m := by rw [hmm]; split <;> omega
            have key : ∀ i, i < len → ∃ p : List Value × List AV, p.1.length = fs.length ∧ (∀ j, j < fs.length → w.cell? (a.add (i * P.cellsOf e + j)) = some (p.1.getD j undef)) ∧ FitsL fs p.2 ∧ ∀ j, j < fs.length → RelD P w No (p.2.getD j .any) (p.1.getD j undef) := by
              intro i hil
              obtain ⟨cs', h1, h2⟩ := hi i (by omega)
              obtain ⟨g1, l, g2, g3⟩ := trod_good n e fs q cs' _ hfs h2
              obtain ⟨_, _, hat⟩ := World.cells?_some h1
              refine ⟨(cs', l), g1, fun j hj => ?_, g2, g3⟩
              have := hat j (by omega)
              rw [Go.Deep.add_add] at this
              show w.cell? (a.add (i * P.cellsOf e + j)) = some (cs'.getD j undef)
              rw [this, List.getElem?_eq_getElem (by omega), List.getD_eq_getElem?_getD, List.getElem?_eq_getElem (by omega)]; rfl
            obtain ⟨F, hF⟩ := Go.Deep.choose_lt (α := List Value × List AV) key
            by_cases hlen0 : len = 0
            · subst hlen0
              exact good_one (av := .sl e []) (.sl (by simp) (fun row hr => by cases hr) fun i j hi => by cases hi) (.sl0 _ _ _)
            · have hcell0 := (hF 0 (by omega)).2.1 0 hc2
              obtain ⟨b, off, spot⟩ := a
              have hspot : spot = none := World.cell?_spot (a := (Addr.mk b off spot).add (0 * P.cellsOf e + 0)) hcell0 |> fun h => by simpa [Addr.add] using h
              subst hspot
              have hblt := World.block_lt_of_cell? w _ hcell0
              have hL : ((List.range len).map fun i => (F i).2).length = len := by simp
              have hca : ∀ i j, i < len → cellAt ((List.range len).map fun i => (F i).2) i j = (F i).2.getD j .any := fun i j hi' => by
                simp [cellAt, List.getD_eq_getElem?_getD, hi']
              have hrows : ∀ row ∈ (List.range len).map fun i => (F i).2, row.length = fs.length := by
                intro row hr
                obtain ⟨i, hir, rfl⟩ := List.mem_map.1 hr
                exact (hF i (List.mem_range.1 hir)).2.2.1.1
              refine good_one (av := .sl e ((List.range len).map fun i => (F i).2)) (.sl (by rw [hL]; omega) hrows fun i j hi' hj' => ?_) ?_
              · rw [hL] at hi'
                rw [hca i j hi']
                exact (hF i hi').2.2.1.2 j hj'
              · have := RelD.sl (P := P) (w := w) (M := No) e ((List.range len).map fun i => (F i).2) b off cap (fun i j => (F i).1.getD j undef) (by simpa [Addr.add] using hblt) (fun h => h) (by rw [hL]; simp only [maxLen] at hm; omega) (by rw [hL]; omega)
                  (fun row hr => by rw [hrows row hr, hc1]) (fun i j hi' hj' => by
                    rw [hL] at hi'
                    have := (hF i hi').2.1 j (by omega)
                    rw [← this]
                    congr 1
                    simp only [Addr.add]
                    split
                    · rename_i h0; rw [h0]; rfl
                    · rfl) (fun i j hi' hj' => by
                    rw [hL] at hi'
                    rw [hca i j hi']
                    exact (hF i hi').2.2.2 j (by omega))
                rw [hL] at this
                exact this
        · cases h
      · cases h
    · rename_i fs hu
      split at h
      · rename_i s1 hs1
        split at h
        · rename_i hc
          have hc := Nat.eq_of_beq_eq_true hc
          cases h
          obtain ⟨xs, m, _, _, hcl, hxl, hf⟩ := DataW.trod_struct hu hx
          obtain ⟨l, h1, h2⟩ := fields_good (m := m) (cs := cs) (fun t ss cs' y h h' => trod_good n t ss m cs' y h h') fs.toList 0 _ hs1 (fun f hfm => by
            obtain ⟨i, hi, rfl⟩ := List.getElem_of_mem hfm
            have hi' : i < fs.size := by simpa using hi
            have := hf i fs[i] (by simp [hi'])
            rw [List.getElem?_eq_getElem (by omega)] at this
            exact ⟨_, by simpa using this⟩)
          exact ⟨by omega, l, h1, fun j hj => by simpa using h2 j hj⟩
        · cases h
      · cases h
    · cases h

theorem arg_agg {t : TypeId} {fs : Array Field} {ss : List Sh} {v : Value} {d : DataW H} {p : List MemPlace} {r : Reach} {b0 : Nat} (n : Nat) (hs : P.underlying t = some (.struct fs)) (hv : Value.okWide P w r b0 t v)
    (h : DataW.Trod enc P w base spare held t v d p) (hsh : shOf P n t = some ss) : ∃ l, FitsL ss l ∧ RelD P w No (.agg l) v := by
  obtain ⟨cs, rfl, _⟩ := okWide_struct hs hv
  obtain ⟨fuel, hf⟩ := h
  obtain ⟨h1, l, h2, h3⟩ := trod_good n t ss fuel _ _ hsh hf
  simp only [Value.cells] at h1 h3
  exact ⟨l, h2, .agg l cs (by rw [h2.1]; simpa using h1.symm) fun i hi => by
    have := h3 i (by rw [← h2.1]; exact hi)
    simpa [Array.getD_eq_getD_getElem?, List.getD_eq_getElem?_getD] using this⟩

theorem arg_one {t : TypeId} {s : Sh} {v : Value} {d : DataW H} {p : List MemPlace} (n : Nat) (hc : v.cells = #[v])
    (h : DataW.Trod enc P w base spare held t v d p) (hsh : shOf P n t = some [s]) : ∃ av, Fits s av ∧ RelD P w No av v := by
  obtain ⟨fuel, hf⟩ := h
  rw [hc] at hf
  obtain ⟨_, l, h2, h3⟩ := trod_good n t [s] fuel _ _ hsh hf
  exact ⟨l.getD 0 .any, h2.2 0 (by simp), by simpa using h3 0 (by simp)⟩
end
end Go.Vx

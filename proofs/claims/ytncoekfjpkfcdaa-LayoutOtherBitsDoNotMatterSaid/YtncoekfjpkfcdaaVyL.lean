/- A text of the proof: a verified executor of the program form, or the contracts of the functions that the law reaches. -/
import Derived.Test.YtncoekfjpkfcdaaVD
import Derived.OpenShut
set_option linter.all false
namespace Go.Vx
open Go Go.RowKit
def wfI (k : IntKind) (n : Int) : Prop := (Lit.int k n).wf = true
def wfS (s : Str) : Prop := s.length ≤ 9223372036854775807
def wfL {α : Type} (p : α → Prop) (l : List α) : Prop := l.length ≤ 9223372036854775807 ∧ ∀ x ∈ l, p x
theorem rows_ofW {α : Type} {f : α → List AV} {p : α → Prop} : ∀ {l : List (List AV)}, (∀ i, i < l.length → ∃ x, p x ∧ l.getD i [] = f x) → ∃ xs : List α, (∀ x ∈ xs, p x) ∧ l = xs.map f
  | [], _ => ⟨[], (fun _ h => by cases h), rfl⟩
  | a :: l, h => by
    obtain ⟨x, hp, hx⟩ := h 0 (by simp)
    obtain ⟨xs, hps, hxs⟩ := rows_ofW (l := l) (fun i hi => by simpa using h (i + 1) (by simpa using hi))
    refine ⟨x :: xs, fun y hy => ?_, by simp at hx; simp [hx, hxs]⟩
    rcases List.mem_cons.1 hy with rfl | hy
    · exact hp
    · exact hps y hy
theorem int_ofW {k : IntKind} {av : AV} (h : Fits (.int k) av) : ∃ n, wfI k n ∧ av = .int k n := by
  cases h with
  | int hw => exact ⟨_, hw, rfl⟩
theorem str_ofW {av : AV} (h : Fits .str av) : ∃ n : Str, wfS n ∧ av = .str n := by
  cases h with
  | str hl => exact ⟨_, by simpa [maxLen, wfS] using hl, rfl⟩
theorem sl_ofW {α : Type} {f : α → List AV} {p : α → Prop} {e : TypeId} {ss : List Sh} {av : AV} (H : ∀ l, FitsL ss l → ∃ x, p x ∧ l = f x) (h : Fits (.sl e ss) av) : ∃ xs : List α, wfL p xs ∧ av = .sl e (xs.map f) := by
  cases h with
  | @sl _ _ l hl h1 h2 =>
    obtain ⟨xs, hp, rfl⟩ := rows_ofW (f := f) (p := p) (l := l) fun i hi => H _ ⟨by rw [List.getD_eq_getElem?_getD, List.getElem?_eq_getElem hi]; exact h1 _ (List.getElem_mem _), fun j hj => h2 i j hi hj⟩
    exact ⟨xs, ⟨by simpa [maxLen] using hl, hp⟩, rfl⟩
end Go.Vx

namespace Go.Vx
open Go Go.RowKit Go.ChangeShapes Go.WideShapes
section
variable {H : Type} {enc : TypeId × Value → H} {P : Program} {w : World} {base : Nat} {spare : Nat → Bool} {held : Bool}
theorem okWide_arr {t e : TypeId} {n : Nat} {r : Reach} {b0 : Nat} {v : Value} (ht : P.underlying t = some (.array n e)) (h : Value.okWide P w r b0 t v) : ∃ cs, v = .agg cs ∧ cs.size = P.cellsOf t := by
  simp only [Value.okWide, ht] at h
  obtain ⟨cs, h1, h2, _⟩ := h
  exact ⟨cs, h1, h2⟩
theorem arg_arr {t e : TypeId} {k : Nat} {s : Sh} {v : Value} {d : DataW H} {p : List MemPlace} {r : Reach} {b0 : Nat} (n : Nat) (hs : P.underlying t = some (.array k e)) (hce : P.cellsOf e = 1) (hct : P.cellsOf t = k) (hv : Value.okWide P w r b0 t v)
    (h : DataW.Trod enc P w base spare held t v d p) (hsh : shOf P n e = some [s]) : ∃ l, FitsL (List.replicate k s) l ∧ RelD P w No (.agg l) v := by
  obtain ⟨cs, rfl, hsz⟩ := okWide_arr hs hv
  obtain ⟨fuel, hf⟩ := h
  obtain ⟨xs, m, _, _, hl, hxl, hi⟩ := DataW.trod_array hs hf
  have key : ∀ i, i < k → ∃ av : AV, Fits s av ∧ RelD P w No av (cs.getD i undef) := by
    intro i hik
    have h1 := hi i hik
    rw [hce, List.getElem?_eq_getElem (by omega)] at h1
    obtain ⟨g1, l, g2, g3⟩ := trod_good n e [s] m _ _ hsh h1
    refine ⟨l.getD 0 .any, g2.2 0 (by simp), ?_⟩
    have := g3 0 (by simp)
    simp only [Value.cells] at this
    have e1 : (List.take 1 (List.drop (i * 1) cs.toList)).getD 0 undef = cs.getD i undef := by
      simp [List.getD_eq_getElem?_getD, Array.getD_eq_getD_getElem?, List.getElem?_take, List.getElem?_drop]
    rw [e1] at this
    exact this
  haveI : Inhabited AV := ⟨.any⟩
  obtain ⟨F, hF⟩ := Go.Deep.choose_lt (α := AV) key
  have hg : ∀ i, i < k → ((List.range k).map F).getD i .any = F i := fun i hik => by simp [List.getD_eq_getElem?_getD, hik]
  refine ⟨(List.range k).map F, ⟨by simp, fun j hj => ?_⟩, .agg _ cs (by simp; omega) fun i hik => ?_⟩
  · have hj' : j < k := by simpa using hj
    rw [hg j hj']
    have : (List.replicate k s).getD j .bool = s := by simp [List.getD_eq_getElem?_getD, List.getElem?_replicate, hj']
    rw [this]
    exact (hF j hj').1
  · have hik' : i < k := by simpa using hik
    rw [hg i hik']
    exact (hF i hik').2
end
def wfV {α : Type} {n : Nat} (p : α → Prop) (v : Vector α n) : Prop := ∀ x ∈ v.toList, p x
theorem vec_ofW {α : Type} {n : Nat} {s : Sh} {f : α → AV} {p : α → Prop} (H : ∀ av, Fits s av → ∃ x, p x ∧ av = f x) {l : List AV} (h : FitsL (List.replicate n s) l) : ∃ v : Vector α n, wfV p v ∧ l = v.toList.map f := by
  obtain ⟨h1, h2⟩ := h
  rw [List.length_replicate] at h1 h2
  have key : ∀ i, i < n → ∃ x, p x ∧ l.getD i .any = f x := fun i hi => by
    have := h2 i hi
    have e : (List.replicate n s).getD i .bool = s := by simp [List.getD_eq_getElem?_getD, List.getElem?_replicate, hi]
    rw [e] at this
    exact H _ this
  have : ∀ (l : List AV), (∀ i, i < l.length → ∃ x, p x ∧ l.getD i .any = f x) → ∃ xs : List α, (∀ x ∈ xs, p x) ∧ l = xs.map f := by
    intro l
    induction l with
    | nil => exact fun _ => ⟨[], (fun _ h => by cases h), rfl⟩
    | cons a l ih =>
      intro h
      obtain ⟨x, hp, hx⟩ := h 0 (by simp)
      obtain ⟨xs, hps, hxs⟩ := ih (fun i hi => by simpa using h (i + 1) (by simpa using hi))
      refine ⟨x :: xs, fun y hy => ?_, by simp at hx; simp [hx, hxs]⟩
      rcases List.mem_cons.1 hy with rfl | hy
      · exact hp
      · exact hps y hy
  obtain ⟨xs, hp, hx⟩ := this l (fun i hi => key i (by omega))
  have hn : xs.length = n := by rw [hx] at h1; simpa using h1
  refine ⟨⟨xs.toArray, by simpa using hn⟩, fun x hx => hp x (by simpa using hx), by simpa using hx⟩
end Go.Vx

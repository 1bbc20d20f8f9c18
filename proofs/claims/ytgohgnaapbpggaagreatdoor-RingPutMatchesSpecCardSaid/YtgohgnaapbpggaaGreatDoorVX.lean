/- A text of the proof: a verified executor of the program form, or the contracts of the functions that the law reaches. -/
import Derived.Test.YtgohgnaapbpggaaGreatDoorVC
import Derived.SizedLaws
set_option linter.all false
namespace Go.Vx
open Go Go.RowKit
section
variable {H : Type} {enc : TypeId × Value → H} {P : Program} {w : World} {base : Nat} {spare : Nat → Bool} {held : Bool}
theorem Zkv {t e e' : TypeId} {v : Value} {d : DataW H} {p : List MemPlace} {l : List (List AV)} (hu : P.underlying t = some (.slice e)) (hc : v.cells = #[v])
    (h : DataW.Trod enc P w base spare held t v d p) (hr : RelD P w No (.sl e' l) v)
    (hz : ∀ elems rest, d = .slice elems rest → (elems.length + rest.length) * P.bytesOf e ≤ reachBytes) (hb : Nat.ble 1 (P.bytesOf e) = true) : l.length ≤ 140737488355328 := by
  obtain ⟨fuel, hf⟩ := h
  rw [hc] at hf
  have hb := Nat.le_of_ble_eq_true hb
  have key : ∀ n, l.length = n → (∃ a c, v = .slice a n c) → l.length ≤ 140737488355328 := by
    rintro n hn ⟨a, c, rfl⟩
    rcases Go.Deep.open_slice hu hf with ⟨h1, _⟩ | ⟨a', len, cap, m, q, D, Pl, h1, _, _, _, _, hd, _⟩
    · cases h1
      omega
    · cases h1
      have := hz _ _ (congrArg Prod.fst hd)
      rw [List.length_map, List.length_range] at this
      have h2 : n ≤ (n + ((List.range (m - n)).map fun j => D (n + j)).length) * P.bytesOf e := Nat.le_trans (Nat.le_add_right _ _) (Nat.le_mul_of_pos_right _ hb)
      have h3 : reachBytes ≤ 140737488355328 := by decide
      omega
  cases hr with
  | sl0 _ a c => simp
  | sl _ _ b off c us _ _ _ _ _ _ _ => exact key l.length rfl ⟨_, _, rfl⟩
end
end Go.Vx

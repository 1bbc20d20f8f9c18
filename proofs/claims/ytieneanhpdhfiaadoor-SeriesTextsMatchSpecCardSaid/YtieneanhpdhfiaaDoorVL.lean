/- A text of the proof: a verified executor of the program form, or the contracts of the functions that the law reaches. -/
import Derived.Test.YtieneanhpdhfiaaDoorVK
import Derived.Shelf.Strconv.Itoa3
set_option linter.all false
namespace Go.Vx
open Go Go.RowKit Go.Lib Go.Sort
def itoa (z : Int) : Option Str := if -9223372036854775808 ≤ z ∧ z ≤ 9223372036854775807 then some (Lib.itoa z) else none
theorem ZeU {P : Program} {gl : Gl} {f g : Nat} {z : Int} {r : Str} {nm : String} (hc : callable P f = true) (hg : P.globalNamed nm = some g) (ht : (g, (pow10Tab.map fun z => Value.int .u64 z).toArray) ∈ gl.tabs)
    (C : ∀ (n : Int), -9223372036854775808 ≤ n → n ≤ 9223372036854775807 → ∀ (w : World), TabIs P w nm .u64 pow10Tab → Calls P f #[.int .i64 n] w fun e w' => e = .returned (.string ⟨(Lib.itoa n).toArray⟩) ∧ ∃ k os, w' = grow (w.drewN k) os)
    (h : itoa z = some r) : CSpec P gl f [.int .i64 z] (.str r) := by
  refine ⟨hc, fun A w vals hA hgl hsz hv => ?_⟩
  unfold itoa at h
  split at h
  · rename_i hb
    cases h
    have e0 := Zee (hv 0 (by simp))
    rw [Zf6 hsz, e0]
    obtain ⟨h1, ⟨e, fr, h2⟩, h3⟩ := hgl.tab _ ht
    refine (C z hb.1 hb.2 w (by simp [TabIs, World.var?, hg, h2])).mono ?_
    rintro e w' ⟨rfl, k, os, rfl⟩
    refine ⟨_, rfl, ⟨rfl, rfl, rfl, ?_, fun b hb => ?_⟩, .str _⟩
    · show w.heap.size ≤ (w.heap ++ os).size
      simp
    · show (w.heap ++ os)[b]? = w.heap[b]?
      rw [Array.getElem?_append_left hb]
  · cases h
end Go.Vx

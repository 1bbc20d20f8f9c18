/- A text of the proof: a verified executor of the program form, or the contracts of the functions that the law reaches. -/
import Derived.Test.YtjjlfkjacmhcmaaVI
import Derived.ChangeKeysEq
set_option linter.all false
namespace Go.Vx
open Go Go.RowKit
def tIntA (P : Program) (t n e : Nat) (k : IntKind) : Bool := (match P.underlying t with | some (.array l e') => Nat.beq l n && Nat.beq e' e | _ => false) && (match P.info? e with | some i => Nat.beq i.size 1 | none => false) &&
  (match P.underlying e with | some (.int k') => decide (k' = k) | _ => false) && Nat.beq (P.cellsOf e) 1 && !P.eqGuardType P.depth t
theorem tIntA.spec {P : Program} {t n e : Nat} {k : IntKind} (h : tIntA P t n e k = true) : P.underlying t = some (.array n e) ∧ (∃ i, P.info? e = some i) ∧ P.underlying e = some (.int k) ∧ P.cellsOf e = 1 ∧ P.eqGuardType P.depth t = false := by
  unfold tIntA at h
  simp only [Bool.and_eq_true, Bool.not_eq_true'] at h
  obtain ⟨⟨⟨⟨h1, h2⟩, h3⟩, h4⟩, h5⟩ := h
  refine ⟨?_, ?_, ?_, Nat.eq_of_beq_eq_true h4, h5⟩
  · split at h1
    · rename_i heq
      simp only [Bool.and_eq_true] at h1
      rw [heq, Nat.eq_of_beq_eq_true h1.1, Nat.eq_of_beq_eq_true h1.2]
    · cases h1
  · split at h2
    · rename_i i heq; exact ⟨i, heq⟩
    · cases h2
  · split at h3
    · rename_i heq
      simp only [decide_eq_true_iff] at h3
      rw [heq, h3]
    · cases h3
theorem ZhW {P : Program} {w : World} {e : Nat} {k : IntKind} (he : P.underlying e = some (.int k)) {xs ys : Array Value} {vs ws : List Int} (hx : ∀ i, i < vs.length → xs[i]? = some (.int k (vs.getD i 0))) (hy : ∀ i, i < vs.length → ys[i]? = some (.int k (ws.getD i 0))) :
    ∀ (is : List Nat), (∀ i ∈ is, i < vs.length) → ∀ d, (Op.eqItems (d + 1) e 1 xs ys is).run P w = .ok (is.all fun i => decide (vs.getD i 0 = ws.getD i 0)) w := by
  intro is
  induction is with
  | nil => intro _ d; rfl
  | cons i is ih =>
    intro h d
    have hi := h i (by simp)
    have hagg : (isAgg e).run P w = .ok false w := by
      unfold isAgg
      rw [Sem.run_bind, run_underlying he w]
      rfl
    have px : ∀ (zs : Array Value) (z : Int), zs[i]? = some (.int k z) → (part e zs (i * 1)).run P w = .ok (.int k z) w := by
      intro zs z hz
      unfold part
      rw [Sem.run_bind, hagg, Nat.mul_one]
      simp only [Result.andThen_ok, Bool.false_eq_true, if_false]
      rw [hz]; rfl
    have heq : (Op.equalIn (d + 1) e (.int k (vs.getD i 0)) (.int k (ws.getD i 0))).run P w = .ok (decide (vs.getD i 0 = ws.getD i 0)) w := by
      simp only [Op.equalIn, Sem.run_bind, run_underlying he, Result.andThen_ok]
      simp
      first | rfl | (by_cases hh : vs.getD i 0 = ws.getD i 0 <;> simp [hh])
    unfold Op.eqItems
    rw [Sem.run_bind, px xs _ (hx i hi)]
    simp only [Result.andThen_ok]
    rw [Sem.run_bind, px ys _ (hy i hi)]
    simp only [Result.andThen_ok]
    rw [Sem.run_bind, heq]
    simp only [Result.andThen_ok]
    by_cases hd : vs.getD i 0 = ws.getD i 0
    · rw [decide_eq_true hd]
      simp only [Bool.not_true, Bool.false_eq_true, if_false]
      rw [ih (fun j hj => h j (by simp [hj])) d, List.all_cons, decide_eq_true hd]
      rfl
    · rw [decide_eq_false hd, List.all_cons, decide_eq_false hd]
      rfl
theorem Zi9 {n : Nat} (v u : Vector Int n) : ((List.range n).all fun i => decide (v.toList.getD i 0 = u.toList.getD i 0)) = decide (v = u) := by
  rw [Bool.eq_iff_iff, List.all_eq_true]
  simp only [List.mem_range, decide_eq_true_iff]
  constructor
  · intro h
    apply Vector.ext
    intro i hi
    have := h i hi
    simpa [List.getD_eq_getElem?_getD, hi] using this
  · intro h i _
    rw [h]
section ops
variable {c : Ctx} {ops : Array Oper} {st : St} {dst : Option Tmp} {ty : TypeId} {pos : String} {after : Array Edge}
theorem ZdN {P : Program} {w : World} {M : Nat → Prop} {n : Nat} {k : IntKind} {v : Vector Int n} {f : Int → AV} (hf : ∀ z, f z = .int k z) {x : Value} (h : RelD P w M (.agg (v.toList.map f)) x) :
    ∃ xs, x = .agg xs ∧ ∀ i, i < v.toList.length → xs[i]? = some (.int k (v.toList.getD i 0)) := by
  cases h with
  | agg _ xs h1 h2 =>
    refine ⟨xs, rfl, fun i hi => ?_⟩
    simp only [List.length_map] at h1 h2
    have h3 := h2 i hi
    have e : (v.toList.map f).getD i .any = .int k (v.toList.getD i 0) := by simp only [Vector.length_toList] at hi; simp [List.getD_eq_getElem?_getD, hi, hf]
    rw [e] at h3
    have hs : i < xs.size := by omega
    generalize hz : xs.getD i undef = z at h3
    cases h3
    rw [← hz]
    simp [hs]
end ops
end Go.Vx

/- A text of the proof: a verified executor of the program form, or the contracts of the functions that the law reaches. -/
import Derived.Test.YtieneanhpdhfiaaDoorVV
import Derived.Test.YtieneanhpdhfiaaDoorVL
import Derived.Lib.SplitLaws
import Derived.Lib.AtoiAll
import Derived.Lib.AtoiErrMem
set_option linter.all false
namespace Go.Vx
open Go Go.RowKit
theorem ZeR {P : Program} {w : World} {t : TypeId} {ms} (ht : P.underlying t = some (.interface ms)) : (Op.equal t .nilIface .nilIface).run P w = .ok true w := by
  unfold Op.equal Op.maxDepth Op.equalIn
  rw [Sem.run_bind, run_underlying ht]
  rfl
theorem ZeL {P : Program} {w : World} {t t' : TypeId} {v : Value} {ms} (ht : P.underlying t = some (.interface ms)) : (Op.equal t (.iface t' v) .nilIface).run P w = .ok false w := by
  unfold Op.equal Op.maxDepth Op.equalIn
  rw [Sem.run_bind, run_underlying ht]
  rfl
def tIfc (P : Program) (t : TypeId) : Bool := match P.underlying t with | some (.interface _) => true | _ => false
theorem tIfc.spec {P : Program} {t : TypeId} (h : tIfc P t = true) : ∃ ms, P.underlying t = some (.interface ms) := by
  unfold tIfc at h
  split at h
  · rename_i e he; exact ⟨e, he⟩
  · cases h
section ops
variable {c : Ctx} {ops : Array Oper} {st : St} {dst : Option Tmp} {ty : TypeId} {pos : String} {after : Array Edge} {x y : Operand} {t u : Nat}
theorem Zfv {b : Bool} {φ : Phi} {a : Act} {w : World} (h : Opv c st x (.ifc b)) (hc : Conc c φ st a w) : (b = false → a.eval x = .nilIface) ∧ (b = true → ∃ t p, a.eval x = .iface t p) := by
  have := h φ a w hc φ (fun _ _ => rfl)
  generalize a.eval x = z at this ⊢
  cases this with
  | data h => cases h with | ifc _ _ h1 h2 => exact ⟨h1, h2⟩
theorem ZfS {b : Bool} (ht : tIfc c.P t = true) (hx : Opv c st x (.ifc b)) : SVal c ops st ⟨dst, .binOp .eql t x (.const .nilIface) u, ty, pos, after, none⟩ (.bool (!b)) :=
  .pure rfl fun φ a w hc => by
    obtain ⟨ms, hm⟩ := tIfc.spec ht
    refine ⟨.bool (!b), ?_, Ze (.bool _)⟩
    show ((do pure (Next.value (← (do eqGuard .eql t x (.const .nilIface) (a.eval x) .nilIface; binOp .eql t (a.eval x) .nilIface : Sem Value))) : Sem Next)).run c.P w = _
    obtain ⟨h1, h2⟩ := Zfv hx hc
    cases b with
    | false =>
      rw [h1 rfl, Sem.run_bind, Sem.run_bind]
      simp [eqGuard, binOp, ZeR hm]
    | true =>
      obtain ⟨t', p, hp⟩ := h2 rfl
      rw [hp, Sem.run_bind, Sem.run_bind]
      simp [eqGuard, binOp, ZeL hm]
theorem ogS {g n : Nat} {v : Vector Str n} {f : Str → AV} (hm : (g, (v.toList.map fun z => Value.string ⟨z.toArray⟩).toArray) ∈ c.gl.tabs) (hf : ∀ z, f z = .str z) : Opv c st (.global g) (.rp (v.toList.map f) 0) := fun φ a w hc => by
  have hg := (X4 hc).tab _ hm
  obtain ⟨h1, ⟨e, fr, h2⟩, h3⟩ := hg
  simp only at h1 h2 h3
  have hlt : g < w.heap.size := (Array.getElem?_eq_some_iff.1 h2).1
  show RelF _ _ _ _ _ _ (.pointer (some ⟨g, 0 + 0, none⟩))
  refine Ze (.rp _ g 0 0 (fun j => (v.toList.map fun z => Value.string ⟨z.toArray⟩).getD j undef) hlt h3 (fun j hj => ?_) fun j hj => ?_)
  · rw [Zn h2]
    have hj' : j < n := by simpa using hj
    simp [hj']
  · have hj' : j < n := by simpa using hj
    have e1 : (v.toList.map f).getD j .any = .str (v.toList.getD j []) := by simp [List.getD_eq_getElem?_getD, hj', hf]
    have e2 : (v.toList.map fun z => Value.string ⟨z.toArray⟩).getD j undef = .string ⟨(v.toList.getD j []).toArray⟩ := by simp [List.getD_eq_getElem?_getD, hj']
    rw [e1, e2]
    exact .str _
end ops
theorem ZfU {P : Program} {w : World} {M : Nat → Prop} {a b : AV} {v u : Value} (h1 : RelD P w M a v) (h2 : RelD P w M b u) : RelD P w M (.tuple [a, b]) (.tuple #[v, u]) :=
  .tuple _ _ rfl fun i hi => by
    match i, hi with
    | 0, _ => exact h1
    | 1, _ => exact h2
theorem ZgN {P : Program} {w : World} {M : Nat → Prop} {a b d : AV} {v u z : Value} (h1 : RelD P w M a v) (h2 : RelD P w M b u) (h3 : RelD P w M d z) : RelD P w M (.tuple [a, b, d]) (.tuple #[v, u, z]) :=
  .tuple _ _ rfl fun i hi => by
    match i, hi with
    | 0, _ => exact h1
    | 1, _ => exact h2
    | 2, _ => exact h3
theorem Zab {P : Program} {w : World} {M : Nat → Prop} {s : Str} {v : Value} (h : RelD P w M (.str s) v) : v = .string ⟨s.toArray⟩ := by cases h; rfl
structure GX where
  ml : Array Value
  m : Int
  hml : ml[0]? = some (.int .i64 m)
  es : Array Value
  ts : TypeId
  ps : Value
  hes : es[0]? = some (.iface ts ps)
  er : Array Value
  tr : TypeId
  pr : Value
  her : er[0]? = some (.iface tr pr)
def Zd4 (s sep : Str) : Option (Str × Str × Bool) := if s.length < 4294967281 then some (Lib.cut s sep) else none
theorem Zfc {P : Program} {gl : Gl} {f g : Nat} {m : Int} {s sep : Str} {r : Str × Str × Bool} (hc : callable P f = true) {cs : Array Value} (hcs : cs[0]? = some (Value.int .i64 m)) (ht : (g, cs) ∈ gl.tabs)
    (C : ∀ (s sep : ByteArray) (m : Int) (w : World), s.size < 4294967281 → w.cell? ⟨g, 0, none⟩ = some (.int .i64 m) →
      Calls P f #[.string s, .string sep] w fun e w' => e = .returned (.tuple #[.string ⟨(Lib.cut s.data.toList sep.data.toList).1.toArray⟩, .string ⟨(Lib.cut s.data.toList sep.data.toList).2.1.toArray⟩, .bool (Lib.cut s.data.toList sep.data.toList).2.2]) ∧ ∃ n, w' = w.drewN n)
    (h : Zd4 s sep = some r) : CSpec P gl f [.str s, .str sep] (.tuple [.str r.1, .str r.2.1, .bool r.2.2]) := by
  refine ⟨hc, fun A w vals hA hgl hsz hv => ?_⟩
  unfold Zd4 at h
  split at h
  · rename_i hb
    cases h
    have e0 := Zab (hv 0 (by simp))
    have e1 := Zab (hv 1 (by simp))
    rw [Zgn hsz, e0, e1]
    obtain ⟨h1, ⟨e, fr, h2⟩, h3⟩ := hgl.tab _ ht
    refine (C ⟨s.toArray⟩ ⟨sep.toArray⟩ m w (by simpa [ByteArray.size] using hb) (by rw [Lib.cell_of_heap h2]; exact hcs)).mono ?_
    rintro e w' ⟨rfl, n, rfl⟩
    exact ⟨_, rfl, ⟨rfl, rfl, rfl, Nat.le_refl _, fun _ _ => rfl⟩, ZgN (.str _) (.str _) (.bool _)⟩
  · cases h
def ZaE (s sep : Str) : Option (List Str) := if s.length < 4294967281 ∧ 1 ≤ sep.length then some (Lib.split s sep) else none
theorem ZdU {P : Program} {gl : Gl} {f g : Nat} {e T : TypeId} {m : Int} {s sep : Str} {r : List Str} (hc : callable P f = true) (he : P.cellsOf e = 1) {cs : Array Value} (hcs : cs[0]? = some (Value.int .i64 m)) (ht : (g, cs) ∈ gl.tabs)
    (C : ∀ (s sep : ByteArray) (m : Int) (w : World), s.size < 4294967281 → w.cell? ⟨g, 0, none⟩ = some (.int .i64 m) → 1 ≤ sep.size →
      Calls P f #[.string s, .string sep] w fun e w' => e = .returned (.slice (some ⟨w.heap.size, 0, none⟩) (Lib.countB s sep + 1) (Lib.countB s sep + 1)) ∧ w' = w.alloc (.cells ((Lib.splitB sep 0 (Lib.countB s sep) s).map Value.string).toArray T))
    (h : ZaE s sep = some r) : CSpec P gl f [.str s, .str sep] (.sl e (r.map fun s => [AV.str s])) := by
  refine ⟨hc, fun A w vals hA hgl hsz hv => ?_⟩
  unfold ZaE at h
  split at h
  · rename_i hb
    cases h
    have e0 := Zab (hv 0 (by simp))
    have e1 := Zab (hv 1 (by simp))
    rw [Zgn hsz, e0, e1]
    obtain ⟨h1, ⟨e', fr, h2⟩, h3⟩ := hgl.tab _ ht
    have hsep : 1 ≤ ByteArray.size ⟨sep.toArray⟩ := by simpa [ByteArray.size] using hb.2
    refine (C ⟨s.toArray⟩ ⟨sep.toArray⟩ m w (by simpa [ByteArray.size] using hb.1) (by rw [Lib.cell_of_heap h2]; exact hcs) hsep).mono ?_
    rintro e2 w' ⟨rfl, rfl⟩
    have hlen : (Lib.splitB ⟨sep.toArray⟩ 0 (Lib.countB ⟨s.toArray⟩ ⟨sep.toArray⟩) ⟨s.toArray⟩).length = Lib.countB ⟨s.toArray⟩ ⟨sep.toArray⟩ + 1 := Lib.splitB_all _ hsep 0 _ _ rfl
    have hmap : (Lib.splitB ⟨sep.toArray⟩ 0 (Lib.countB ⟨s.toArray⟩ ⟨sep.toArray⟩) ⟨s.toArray⟩).map (·.data.toList) = Lib.split s sep := by
      rw [Lib.splitB_data]; rfl
    have hcn := Lib.countB_le ⟨sep.toArray⟩ hsep s.length ⟨s.toArray⟩ (by simp [ByteArray.size])
    have hsz2 : ByteArray.size ⟨s.toArray⟩ = s.length := by simp [ByteArray.size]
    generalize hL : Lib.splitB ⟨sep.toArray⟩ 0 (Lib.countB ⟨s.toArray⟩ ⟨sep.toArray⟩) ⟨s.toArray⟩ = L at hlen hmap ⊢
    generalize Lib.countB ⟨s.toArray⟩ ⟨sep.toArray⟩ = N at hlen hL hcn ⊢
    have hll : (Lib.split s sep).length = N + 1 := by rw [← hmap, List.length_map, hlen]
    have hN : N + 1 < 2 ^ 63 := by omega
    have hcell : ∀ (i : Nat) (x : Str), (Lib.split s sep)[i]? = some x → (w.alloc (.cells (L.map Value.string).toArray T)).cell? ⟨w.heap.size, 0 + (i * 1 + 0), none⟩ = some (.string ⟨x.toArray⟩) := by
      intro i x hx
      have hb : (w.alloc (.cells (L.map Value.string).toArray T)).heap[w.heap.size]? = some (.cells (L.map Value.string).toArray T (0, 0)) := by
        show (w.heap.push _)[w.heap.size]? = _
        exact Array.getElem?_push_size
      rw [Lib.cell_of_heap hb]
      rw [← hmap, List.getElem?_map] at hx
      simp only [Nat.mul_one, Nat.add_zero, Nat.zero_add, List.getElem?_toArray, List.getElem?_map]
      cases hy : L[i]? with
      | none => rw [hy] at hx; cases hx
      | some y =>
        rw [hy] at hx
        cases hx
        simp
    refine ⟨_, rfl, ⟨rfl, rfl, rfl, ?_, fun b hb => ?_⟩, ?_⟩
    · show w.heap.size ≤ (w.heap.push _).size
      simp
    · show (w.heap.push _)[b]? = w.heap[b]?
      rw [Array.getElem?_push_lt hb, Array.getElem?_eq_getElem hb]
    · have hmk := RelD.sl (P := P) (w := w.alloc (.cells (L.map Value.string).toArray T)) (M := A) e ((Lib.split s sep).map fun s => [AV.str s]) w.heap.size 0 (N + 1) (fun i _ => .string ⟨((Lib.split s sep).getD i []).toArray⟩)
        (by show w.heap.size < (w.heap.push _).size; simp) (fun hA' => Nat.lt_irrefl _ (hA _ hA')) (by rw [List.length_map, hll]; exact hN) (by rw [List.length_map, hll]; exact Nat.le_refl _)
        (fun row hr => by obtain ⟨x, _, rfl⟩ := List.mem_map.1 hr; rw [he]; rfl)
        (fun i j hi hj => by
          rw [he] at hj ⊢
          have : j = 0 := by omega
          subst this
          rw [List.length_map] at hi
          have hx := List.getElem?_eq_getElem hi
          rw [List.getD_eq_getElem?_getD, hx]
          exact hcell i _ hx)
        (fun i j hi hj => by
          rw [he] at hj
          have : j = 0 := by omega
          subst this
          rw [List.length_map] at hi
          have hx := List.getElem?_eq_getElem hi
          have hx2 : cellAt ((Lib.split s sep).map fun s => [AV.str s]) i 0 = .str ((Lib.split s sep).getD i []) := by
            unfold cellAt
            rw [List.getD_eq_getElem?_getD, List.getD_eq_getElem?_getD, List.getElem?_map, List.getD_eq_getElem?_getD, hx]; rfl
          rw [hx2]
          exact .str _)
      rw [List.length_map, hll] at hmk
      exact hmk
  · cases h
def ZcC (s : Str) : Option (Int × Bool) :=
  if s.length ≤ 281474976710656 then some (match Lib.atoiAll s with | .ok v => (v, false) | .syntax => (0, true) | .range => (Lib.atoiSat s, true)) else none
theorem Ze3 {P : Program} {gl : Gl} {f gs gr : Nat} {T T' te : TypeId} {t1 t2 : TypeId} {p1 p2 : Value} {s : Str} {r : Int × Bool} (hc : callable P f = true) {cs cr : Array Value} (hcs : cs[0]? = some (Value.iface t1 p1)) (hcr : cr[0]? = some (Value.iface t2 p2)) (hts : (gs, cs) ∈ gl.tabs) (htr : (gr, cr) ∈ gl.tabs)
    (C1 : ∀ (s : ByteArray), s.size ≤ 9223372036854775806 → ∀ (v : Int), Lib.atoiAll s.data.toList = .ok v → ∀ (w : World),
      Calls P f #[.string s] w fun e w' => e = .returned (.tuple #[.int .i64 v, .nilIface]) ∧ (w' = w ∨ ∃ t, w' = Lib.bytesWorld w T t))
    (C2 : ∀ (s : ByteArray), s.size ≤ 281474976710656 → Lib.atoiAll s.data.toList = .syntax → ∀ (ev : Value) (w : World), w.cell? ⟨gs, 0, none⟩ = some ev → (ev = .nilIface ∨ ∃ te pe, ev = .iface te pe) →
      Calls P f #[.string s] w fun e w' => ∃ N, e = .returned (.tuple #[.int .i64 0, .iface te (.pointer (some ⟨N, 0, none⟩))]) ∧ w.heap.size ≤ N ∧ w'.heap[N]? = some (.cells #[.string ⟨#[65, 116, 111, 105]⟩, .string s, ev] T' (0, 0)) ∧ Below w.heap.size w w')
    (C3 : ∀ (s : ByteArray), s.size ≤ 281474976710656 → Lib.atoiAll s.data.toList = .range → ∀ (ev : Value) (w : World), w.cell? ⟨gr, 0, none⟩ = some ev → (ev = .nilIface ∨ ∃ te pe, ev = .iface te pe) →
      Calls P f #[.string s] w fun e w' => ∃ N, e = .returned (.tuple #[.int .i64 (Lib.atoiSat s.data.toList), .iface te (.pointer (some ⟨N, 0, none⟩))]) ∧ w.heap.size ≤ N ∧ w'.heap[N]? = some (.cells #[.string ⟨#[65, 116, 111, 105]⟩, .string s, ev] T' (0, 0)) ∧ Below w.heap.size w w')
    (h : ZcC s = some r) : CSpec P gl f [.str s] (.tuple [.int .i64 r.1, .ifc r.2]) := by
  refine ⟨hc, fun A w vals hA hgl hsz hv => ?_⟩
  unfold ZcC at h
  split at h
  · rename_i hb
    have e0 := Zab (hv 0 (by simp))
    rw [Zf6 hsz, e0]
    have hz : ByteArray.size ⟨s.toArray⟩ = s.length := by simp [ByteArray.size]
    cases hm : Lib.atoiAll s with
    | ok v =>
      rw [hm] at h; cases h
      refine (C1 ⟨s.toArray⟩ (by omega) v hm w).mono ?_
      rintro e w' ⟨rfl, hw⟩
      refine ⟨_, rfl, ?_, ZfU (.int _ _) (.ifc _ _ (fun _ => rfl) (fun h => by cases h))⟩
      rcases hw with rfl | ⟨t, rfl⟩
      · exact Below.refl _ _
      · exact Lib.bytesWorld_below _ _ _
    | «syntax» =>
      rw [hm] at h; cases h
      obtain ⟨h1, ⟨e', fr, h2⟩, h3⟩ := hgl.tab _ hts
      refine (C2 ⟨s.toArray⟩ (by omega) hm _ w (by rw [Lib.cell_of_heap h2]; exact hcs) (.inr ⟨_, _, rfl⟩)).mono ?_
      rintro e w' ⟨N, rfl, _, _, hB⟩
      exact ⟨_, rfl, hB, ZfU (.int _ _) (.ifc _ _ (fun h => by cases h) (fun _ => ⟨_, _, rfl⟩))⟩
    | range =>
      rw [hm] at h; cases h
      obtain ⟨h1, ⟨e', fr, h2⟩, h3⟩ := hgl.tab _ htr
      refine (C3 ⟨s.toArray⟩ (by omega) hm _ w (by rw [Lib.cell_of_heap h2]; exact hcr) (.inr ⟨_, _, rfl⟩)).mono ?_
      rintro e w' ⟨N, rfl, _, _, hB⟩
      exact ⟨_, rfl, hB, ZfU (.int _ _) (.ifc _ _ (fun h => by cases h) (fun _ => ⟨_, _, rfl⟩))⟩
  · cases h
end Go.Vx

/- A text of the proof: a verified executor of the program form, or the contracts of the functions that the law reaches. -/
import Derived.Test.YtieneanhpdhfiaaDoorVG
import Derived.Shelf.Strconv.Itoa1
import Derived.Laws.BytesString
import Derived.Laws.Cells
import Derived.Test.YtieneanhpdhfiaaDoorVC
set_option linter.all false
namespace Go.Vx
open Go Go.RowKit Go.Lib
def Jc (u : Int) : Option Int := if 1 ≤ u ∧ u < 18446744073709551616 then some (nDigits u.toNat : Int) else none
theorem Zf6 {vals : Array Value} (h : vals.size = 1) : vals = #[vals.getD 0 undef] := by
  obtain ⟨l⟩ := vals
  match l, h with
  | [a], _ => rfl
theorem Zgn {vals : Array Value} (h : vals.size = 2) : vals = #[vals.getD 0 undef, vals.getD 1 undef] := by
  obtain ⟨l⟩ := vals
  match l, h with
  | [a, b], _ => rfl
theorem Zee {P : Program} {w : World} {M : Nat → Prop} {k : IntKind} {z : Int} {v : Value} (h : RelD P w M (.int k z) v) : v = .int k z := by cases h; rfl
theorem ZbK {P : Program} {gl : Gl} {f g : Nat} {u r : Int} {nm : String} (hc : callable P f = true) (hg : P.globalNamed nm = some g) (ht : (g, (pow10Tab.map fun z => Value.int .u64 z).toArray) ∈ gl.tabs)
    (C : ∀ (u : Nat), 1 ≤ u → u < 18446744073709551616 → ∀ (w : World), TabIs P w nm .u64 pow10Tab → Calls P f #[.int .u64 u] w fun e w' => e = .returned (.int .i64 (nDigits u)) ∧ w' = w)
    (h : Jc u = some r) : CSpec P gl f [.int .u64 u] (.int .i64 r) := by
  refine ⟨hc, fun A w vals hA hgl hsz hv => ?_⟩
  unfold Jc at h
  split at h
  · rename_i hb
    cases h
    have e0 := Zee (hv 0 (by simp))
    rw [Zf6 hsz, e0]
    obtain ⟨h1, ⟨e, fr, h2⟩, h3⟩ := hgl.tab _ ht
    have := C u.toNat (by omega) (by omega) w (by simp [TabIs, World.var?, hg, h2])
    rw [Int.toNat_of_nonneg (by omega)] at this
    refine this.mono ?_
    rintro e w' ⟨rfl, rfl⟩
    exact ⟨_, rfl, ⟨rfl, rfl, rfl, Nat.le_refl _, fun _ _ => rfl⟩, .int _ _⟩
  · cases h
section ops
variable {c : Ctx} {ops : Array Oper} {st : St} {dst : Option Tmp} {ty : TypeId} {pos : String} {after : Array Edge}
theorem XC {f : Int → List AV} {x y : Operand} {t u e by_ r n : Nat} {xs zs : List Int} {s : Str} (h : Opv c st x (.own r n)) (hy : Opv c st y (.str s)) (hut : tStr c.P u = true) (ht : tSl c.P t e 1 by_ = true)
    (ho : nth st.hp r = some ⟨e, xs.map f⟩) (hn : xs.length = n) (hf : ∀ z, f z = [.int .u8 z]) (hby : Nat.ble by_ 32768 = true) (hz : app xs (bytes s) = some zs) :
    WVal c ops st ⟨dst, .call { callee := .builtin .append, args := #[x, y], argTypes := #[t, u] }, ty, pos, after, none⟩ (.own r zs.length) (ZF st.hp r (some ⟨e, zs.map f⟩)) := by
  have hff : f = fun z => [.int .u8 z] := funext hf
  subst hff
  unfold app apz at hz
  split at hz
  · rename_i hle
    cases hz
    have hby := Nat.le_of_ble_eq_true hby
    have hbl : (bytes s).length = s.length := by simp [bytes]
    have hmul : (n + s.length) * by_ ≤ 4294967296 * 32768 := Nat.mul_le_mul (by rw [← hn, ← hbl]; omega) hby
    cases s with
    | nil =>
      have hset : ZF st.hp r (some (⟨e, (xs ++ bytes []).map fun z => [.int .u8 z]⟩ : Own)) = st.hp := by
        simp only [bytes, List.map_nil, List.append_nil]
        generalize st.hp = hp at ho
        clear h hy
        induction hp generalizing r with
        | nil => cases ho
        | cons o hp ih =>
          cases r with
          | zero => simp only [nth] at ho; simp [ZF, ho]
          | succ r => simp only [nth] at ho; simp only [ZF]; rw [ih ho]
      rw [hset]
      simp only [bytes, List.map_nil, List.append_nil]
      refine .run rfl fun φ a w hc => ?_
      obtain ⟨hu, inf, z, hi, hs, hby, hn0, hz, hzs, hcs⟩ := tSl.spec ht
      have hO := hc.hok.obj r _ ho
      have hx := QO (h φ a w hc) (by rw [hO.len]; simpa using hn)
      have huu := tStr.spec hut
      have hyv := hy.str hc
      have hroom : n ≤ (φ r).cap := by have := hO.room; simpa [hn] using this
      refine ⟨_, w, φ, ?_, hc.hok, fun _ _ h => h, by rw [hn]; exact h φ a w hc⟩
      have : (Builtin.append_ #[t, u] ty #[a.eval x, a.eval y]).run c.P w = .ok (a.eval x) w := by
        rw [hx, hyv]
        cases hb : (φ r).blk with
        | none => simp [Builtin.append_, run_underlying hu, run_underlying huu, sizeOf, typeInfo, hi, Builtin.lenOf, hroom, Builtin.firstCells, ByteArray.size]
        | some b => simp [Builtin.append_, run_underlying hu, run_underlying huu, sizeOf, typeInfo, hi, Builtin.lenOf, hroom, Builtin.firstCells, storeCells, ByteArray.size]
      simp only [execOp, resolve, invoke, builtin]
      simp [this]
    | cons b s =>
      have := Zcz (c := c) (ops := ops) (dst := dst) (ty := ty) (pos := pos) (after := after) (sz := 1) (m := (b :: s).length) (ys := (bytes (b :: s)).map fun z => [.int .u8 z]) h hy hut rfl (by simp [bytes]) ht ho (by simpa using hn) rfl (by simp [bytes]) (by simp) (Nat.le_trans hmul (by decide)) (by rw [← hn]; simp only [bytes, List.length_map, List.length_append, List.length_cons] at hle ⊢; omega)
      rw [← hn, show (b :: s).length = (bytes (b :: s)).length by rw [hbl], ← List.length_append] at this
      simpa [List.map_append] using this
  · cases hz
end ops
end Go.Vx
namespace Go.Vx
open Go Go.RowKit Go.Lib
section ops
variable {c : Ctx} {ops : Array Oper} {st : St} {dst : Option Tmp} {ty : TypeId} {pos : String} {after : Array Edge}
theorem Zdr (ns : List Int) (s : ByteArray) : ns.foldl (fun r n => r.push (UInt8.ofNat n.toNat)) s = ⟨s.data ++ (ZI ns).toArray⟩ := by
  induction ns generalizing s with
  | nil => simp [ZI]
  | cons n ns ih =>
    rw [List.foldl_cons, ih]
    simp [ZI, ByteArray.push]
def tU8 (P : Program) (e : Nat) : Bool := match P.underlying e with | some (.int .u8) => true | _ => false
theorem ZdR {f : Int → List AV} {x : Operand} {s t e by_ : Nat} {ys : List Int} (h : SlV c st x 1 (ys.map f)) (hf : ∀ z, f z = [.int .u8 z]) (hs : tSl c.P s e 1 by_ = true) (ht : tStr c.P t = true) (he : tU8 c.P e = true) :
    SVal c ops st ⟨dst, .convert s t x, ty, pos, after, none⟩ (.str (ZI ys)) :=
  .pure rfl fun φ a w hc => by
    obtain ⟨base, cap, hx, hl, hrow, hcells⟩ := h φ a w hc
    have hu := (tSl.spec hs).1
    have hst := tStr.spec ht
    have hue : c.P.underlying e = some (.int .u8) := by
      unfold tU8 at he
      split at he
      · assumption
      · cases he
    refine ⟨.string ⟨(ZI ys).toArray⟩, ?_, Ze (.str _)⟩
    have hb : (Conv.bytesToString (a.eval x)).run c.P w = .ok (.string ⟨(ZI ys).toArray⟩) w := by
      rw [hx]
      cases base with
      | none =>
        have hne : ys = [] := by
          by_cases hne : ys = []
          · exact hne
          · obtain ⟨b, off, us, hh, _⟩ := hcells (by simpa using hne)
            cases hh
        subst hne
        rfl
      | some b =>
        have hlc : (loadCells b (ys.map f).length).run c.P w = .ok (ys.map (Value.int .u8)).toArray w := by
          have := run_loadCells_list (P := c.P) (w := w) b (ys.map (Value.int .u8)) (fun i v hv => by
            have hi : i < ys.length := by have := (List.getElem?_eq_some_iff.1 hv).1; simpa using this
            have hi' : i < (ys.map f).length := by simpa using hi
            obtain ⟨b', off, us, hh, h1, h2⟩ := hcells (by intro e; rw [e] at hi'; cases hi')
            cases hh
            have g1 := h1 i 0 hi' (by decide)
            have g2 := h2 i 0 hi' (by decide)
            have e1 : cellAt (ys.map f) i 0 = .int .u8 (ys.getD i 0) := by simp [cellAt, List.getD_eq_getElem?_getD, hf, hi]
            rw [e1] at g2
            rw [Nat.mul_one, Nat.add_zero] at g1
            rw [Xm, g1, X2 g2]
            rw [← hv]
            simp [List.getD_eq_getElem?_getD, hi])
          simpa using this
        rw [run_bytesToString (P := c.P) w b (ys.map f).length cap ys hlc]
        rw [Zdr]
        simp
    have : (convert s t (a.eval x)).run c.P w = .ok (.string ⟨(ZI ys).toArray⟩) w := by
      rw [hx] at hb ⊢
      rw [run_convert_bytes_string w s t e _ _ _ hu hue hst, hb]
    simp [execOp, this]
end ops
end Go.Vx

namespace Go.Vx
open Go Go.RowKit
theorem Zaa {P : Program} {w : World} {name : String} {g : Nat} {cs : Array Value} (hg : P.globalNamed name = some g) (hv : w.var? P name = some cs) : ∃ e fr, w.heap[g]? = some (.cells cs e fr) := by
  unfold World.var? at hv
  rw [hg] at hv
  simp only [Option.bind_some] at hv
  split at hv
  · rename_i h; cases hv; exact ⟨_, _, h⟩
  · cases hv
theorem Zfd {w : World} {g : Nat} {o : Obj} (h : w.heap[g]? = some o) : g < w.heap.size := (Array.getElem?_eq_some_iff.1 h).1
end Go.Vx

namespace Go.Vx
open Go Go.RowKit
def wfI (k : IntKind) (n : Int) : Prop := (Lit.int k n).wf = true
def wfS (s : Str) : Prop := s.length ≤ 9223372036854775807
def wfL {α : Type} (p : α → Prop) (l : List α) : Prop := l.length ≤ 9223372036854775807 ∧ ∀ x ∈ l, p x
theorem ZcO {α : Type} {f : α → List AV} {p : α → Prop} : ∀ {l : List (List AV)}, (∀ i, i < l.length → ∃ x, p x ∧ l.getD i [] = f x) → ∃ xs : List α, (∀ x ∈ xs, p x) ∧ l = xs.map f
  | [], _ => ⟨[], (fun _ h => by cases h), rfl⟩
  | a :: l, h => by
    obtain ⟨x, hp, hx⟩ := h 0 (by simp)
    obtain ⟨xs, hps, hxs⟩ := ZcO (l := l) (fun i hi => by simpa using h (i + 1) (by simpa using hi))
    refine ⟨x :: xs, fun y hy => ?_, by simp at hx; simp [hx, hxs]⟩
    rcases List.mem_cons.1 hy with rfl | hy
    · exact hp
    · exact hps y hy
theorem Za5 {k : IntKind} {av : AV} (h : Fits (.int k) av) : ∃ n, wfI k n ∧ av = .int k n := by
  cases h with
  | int hw => exact ⟨_, hw, rfl⟩
theorem ZfA {av : AV} (h : Fits .str av) : ∃ n : Str, wfS n ∧ av = .str n := by
  cases h with
  | str hl => exact ⟨_, by simpa [maxLen, wfS] using hl, rfl⟩
theorem Zgf {α : Type} {f : α → List AV} {p : α → Prop} {e : TypeId} {ss : List Sh} {av : AV} (H : ∀ l, Zaj ss l → ∃ x, p x ∧ l = f x) (h : Fits (.sl e ss) av) : ∃ xs : List α, wfL p xs ∧ av = .sl e (xs.map f) := by
  cases h with
  | @sl _ _ l hl h1 h2 =>
    obtain ⟨xs, hp, rfl⟩ := ZcO (f := f) (p := p) (l := l) fun i hi => H _ ⟨by rw [List.getD_eq_getElem?_getD, List.getElem?_eq_getElem hi]; exact h1 _ (List.getElem_mem _), fun j hj => h2 i j hi hj⟩
    exact ⟨xs, ⟨by simpa [maxLen] using hl, hp⟩, rfl⟩
end Go.Vx

namespace Go.Vx
open Go Go.RowKit Go.Lib
section ops
variable {c : Ctx} {ops : Array Oper} {st : St} {dst : Option Tmp} {ty : TypeId} {pos : String} {after : Array Edge}
end ops
end Go.Vx

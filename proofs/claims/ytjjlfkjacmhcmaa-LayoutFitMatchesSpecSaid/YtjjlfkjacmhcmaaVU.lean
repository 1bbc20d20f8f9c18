/- A text of the proof: a verified executor of the program form, or the contracts of the functions that the law reaches. -/
import Derived.Test.YtjjlfkjacmhcmaaVT
import Derived.Lib.AppendZerosOnto
import Derived.Lib.Overlaps
import Derived.Shelf.Spec.SlicesInsert
set_option linter.all false
namespace Go.Vx
open Go Go.RowKit Go.Lib
structure InsK (P : Program) (f ov : FuncId) (t tn : TypeId) (sz : Nat) : Prop where
  fin0 : ∀ (vb voff vc : Nat) (v' : Value) (w w' : World),
    (Builtin.append_ #[t, t] t #[.slice none 0 0, .slice (some ⟨vb, voff, none⟩) 1 vc]).run P w = .ok v' w' →
    Calls P f #[.slice none 0 0, .int .i64 (0 : Nat), .slice (some ⟨vb, voff, none⟩) 1 vc] w fun e W => e = .returned v' ∧ W = w'
  fin : ∀ (b n c vb voff vc : Nat) (v' : Value) (w w' : World), n ≤ c → c ≤ 9223372036854775807 →
    (Builtin.append_ #[t, t] t #[.slice (some ⟨b, 0, none⟩) n c, .slice (some ⟨vb, voff, none⟩) 1 vc]).run P w = .ok v' w' →
    Calls P f #[.slice (some ⟨b, 0, none⟩) n c, .int .i64 n, .slice (some ⟨vb, voff, none⟩) 1 vc] w fun e W => e = .returned v' ∧ W = w'
  room : ∀ (b n c i vb voff vc : Nat) (w w1 w2 : World), i < n → n + 1 ≤ c → c ≤ 9223372036854775807 →
    (∀ lb cb, (callFunc ov #[.slice (some ⟨vb, voff, none⟩) 1 vc, .slice (some ⟨b, (i + 1) * sz, none⟩) lb cb]).run P w = .ok (.value (.bool false)) w) →
    (∀ ty dc sc, (Builtin.copy_ #[t, t] ty #[.slice (some ⟨b, (i + 1) * sz, none⟩) (n - i) dc, .slice (some ⟨b, i * sz, none⟩) (n + 1 - i) sc]).run P w.drew = .ok (goInt (n - i : Nat)) w1) →
    (∀ ty dc, (Builtin.copy_ #[t, t] ty #[.slice (some ⟨b, i * sz, none⟩) (n + 1 - i) dc, .slice (some ⟨vb, voff, none⟩) 1 vc]).run P w1 = .ok (goInt 1) w2) →
    Calls P f #[.slice (some ⟨b, 0, none⟩) n c, .int .i64 i, .slice (some ⟨vb, voff, none⟩) 1 vc] w fun e W => e = .returned (.slice (some ⟨b, 0, none⟩) (n + 1) c) ∧ W = w2
  grow : ∀ (b n c i vb voff vc g c' : Nat) (w w1 w2 w3 : World), i < n → n ≤ c → c < n + 1 → c ≤ 9223372036854775806 → n + 1 ≤ c' → c' ≤ 9223372036854775807 →
    (∀ ty, (Builtin.append_ #[t, tn] ty #[.slice (some ⟨b, 0, none⟩) i c, .int .i64 ((n + 1 - i : Nat) : Int)]).run P w = .ok (.slice (some ⟨g, 0, none⟩) (n + 1) c') w1) →
    (∀ ty dc, (Builtin.copy_ #[t, t] ty #[.slice (some ⟨g, i * sz, none⟩) (n + 1 - i) dc, .slice (some ⟨vb, voff, none⟩) 1 vc]).run P w1 = .ok (goInt 1) w2) →
    (∀ ty dc sc, (Builtin.copy_ #[t, t] ty #[.slice (some ⟨g, (i + 1) * sz, none⟩) (n - i) dc, .slice (some ⟨b, i * sz, none⟩) (n - i) sc]).run P w2.drew = .ok (goInt (n - i : Nat)) w3) →
    Calls P f #[.slice (some ⟨b, 0, none⟩) n c, .int .i64 i, .slice (some ⟨vb, voff, none⟩) 1 vc] w fun e W => e = .returned (.slice (some ⟨g, 0, none⟩) (n + 1) c') ∧ W = w3
def ins {α : Type} (xs : List α) (i : Int) (vs : List α) : Option (List α) :=
  if 0 ≤ i ∧ i ≤ xs.length ∧ xs.length + 1 ≤ 4294967296 ∧ vs.length = 1 then some (xs.take i.toNat ++ vs ++ xs.drop i.toNat) else none
section ins
variable {c : Ctx} {ops : Array Oper} {st : St} {dst : Option Tmp} {ty : TypeId} {pos : String} {after : Array Edge}
end ins
end Go.Vx

namespace Go.Vx
open Go Go.RowKit
def t13 {α0 α1 α2 α3 α4 α5 α6 α7 α8 α9 α10 α11 α12 ι : Type} (f : α0 → α1 → α2 → α3 → α4 → α5 → α6 → α7 → α8 → α9 → α10 → α11 → α12 → ι) (p : α0 × α1 × α2 × α3 × α4 × α5 × α6 × α7 × α8 × α9 × α10 × α11 × α12) : ι := f p.1 p.2.1 p.2.2.1 p.2.2.2.1 p.2.2.2.2.1 p.2.2.2.2.2.1 p.2.2.2.2.2.2.1 p.2.2.2.2.2.2.2.1 p.2.2.2.2.2.2.2.2.1 p.2.2.2.2.2.2.2.2.2.1 p.2.2.2.2.2.2.2.2.2.2.1 p.2.2.2.2.2.2.2.2.2.2.2.1 p.2.2.2.2.2.2.2.2.2.2.2.2
@[simp] theorem Znc {α0 α1 α2 α3 α4 α5 α6 α7 α8 α9 α10 α11 α12 ι : Type} (f : α0 → α1 → α2 → α3 → α4 → α5 → α6 → α7 → α8 → α9 → α10 → α11 → α12 → ι) (a0 : α0) (a1 : α1) (a2 : α2) (a3 : α3) (a4 : α4) (a5 : α5) (a6 : α6) (a7 : α7) (a8 : α8) (a9 : α9) (a10 : α10) (a11 : α11) (a12 : α12) : t13 f (a0, a1, a2, a3, a4, a5, a6, a7, a8, a9, a10, a11, a12) = f a0 a1 a2 a3 a4 a5 a6 a7 a8 a9 a10 a11 a12 := rfl
def t18 {α0 α1 α2 α3 α4 α5 α6 α7 α8 α9 α10 α11 α12 α13 α14 α15 α16 α17 ι : Type} (f : α0 → α1 → α2 → α3 → α4 → α5 → α6 → α7 → α8 → α9 → α10 → α11 → α12 → α13 → α14 → α15 → α16 → α17 → ι) (p : α0 × α1 × α2 × α3 × α4 × α5 × α6 × α7 × α8 × α9 × α10 × α11 × α12 × α13 × α14 × α15 × α16 × α17) : ι := f p.1 p.2.1 p.2.2.1 p.2.2.2.1 p.2.2.2.2.1 p.2.2.2.2.2.1 p.2.2.2.2.2.2.1 p.2.2.2.2.2.2.2.1 p.2.2.2.2.2.2.2.2.1 p.2.2.2.2.2.2.2.2.2.1 p.2.2.2.2.2.2.2.2.2.2.1 p.2.2.2.2.2.2.2.2.2.2.2.1 p.2.2.2.2.2.2.2.2.2.2.2.2.1 p.2.2.2.2.2.2.2.2.2.2.2.2.2.1 p.2.2.2.2.2.2.2.2.2.2.2.2.2.2.1 p.2.2.2.2.2.2.2.2.2.2.2.2.2.2.2.1 p.2.2.2.2.2.2.2.2.2.2.2.2.2.2.2.2.1 p.2.2.2.2.2.2.2.2.2.2.2.2.2.2.2.2.2
@[simp] theorem Zne {α0 α1 α2 α3 α4 α5 α6 α7 α8 α9 α10 α11 α12 α13 α14 α15 α16 α17 ι : Type} (f : α0 → α1 → α2 → α3 → α4 → α5 → α6 → α7 → α8 → α9 → α10 → α11 → α12 → α13 → α14 → α15 → α16 → α17 → ι) (a0 : α0) (a1 : α1) (a2 : α2) (a3 : α3) (a4 : α4) (a5 : α5) (a6 : α6) (a7 : α7) (a8 : α8) (a9 : α9) (a10 : α10) (a11 : α11) (a12 : α12) (a13 : α13) (a14 : α14) (a15 : α15) (a16 : α16) (a17 : α17) : t18 f (a0, a1, a2, a3, a4, a5, a6, a7, a8, a9, a10, a11, a12, a13, a14, a15, a16, a17) = f a0 a1 a2 a3 a4 a5 a6 a7 a8 a9 a10 a11 a12 a13 a14 a15 a16 a17 := rfl
end Go.Vx

namespace Go.Vx
open Go Go.RowKit


def MX (c : Ctx) (st : St) (φ : Phi) (ρ : List Nat) : Nat → Prop := fun b => c.A b ∨ ∃ r o, ρ.contains r = true ∧ nth st.hp r = some o ∧ (φ r).has b
def ViewX (c : Ctx) (st : St) (ρ : List Nat) (av dv : AV) : Prop := ∀ φ a w, Conc c φ st a w → ∀ v, RelF c.P w (Mut c.A φ st.hp) st.hp.length φ av v → RelD c.P w (MX c st φ ρ) dv v
theorem Dat.viewX {c : Ctx} {st : St} {ρ : List Nat} {av dv : AV} (h : Dat c st av dv) : ViewX c st ρ av dv := fun φ a w hc v hv =>
  (h φ a w hc v hv).mono (Nat.le_refl _) (fun _ _ _ => rfl) (fun _ _ hm ha => hm (ha.elim .inl fun ⟨r, o, _, h1, h2⟩ => .inr ⟨r, o, h1, h2⟩))
theorem ViewX.agg {c : Ctx} {st : St} {ρ : List Nat} {l l' : List AV} (hl : l.length = l'.length) (h : ∀ i, i < l.length → ViewX c st ρ (l.getD i .any) (l'.getD i .any)) : ViewX c st ρ (.agg l) (.agg l') := by
  intro φ a w hc v hv
  obtain ⟨vs, rfl, h1, h2⟩ := Zb5 hv
  exact .agg l' vs (by omega) fun i hi => h i (by omega) φ a w hc _ (h2 i (by omega))
theorem ViewX.aggL {c : Ctx} {st : St} {ρ : List Nat} {l l' : List AV} (h : Pw (ViewX c st ρ) l l') : ViewX c st ρ (.agg l) (.agg l') := .agg h.len h.get
theorem ViewX.nils {c : Ctx} {st : St} {ρ : List Nat} (e : TypeId) : ViewX c st ρ .nils (.sl e []) := (Dat.nils e).viewX
theorem ViewX.own {c : Ctx} {st : St} {ρ : List Nat} {r n : Nat} {o : Own} {es : List (List AV)} (ho : nth st.hp r = some o) (hn : o.es.length = n) (hes : es.length = n) (hrows : ∀ row ∈ es, row.length = c.P.cellsOf o.elem)
    (h : ∀ i j, i < n → j < c.P.cellsOf o.elem → ViewX c st ρ (cellAt o.es i j) (cellAt es i j)) (hns : ∀ row ∈ o.es, NS row) (hρ : ρ.contains r = false) : ViewX c st ρ (.own r n) (.sl o.elem es) := by
  intro φ a w hc v hv
  have hO := hc.hok.obj r o ho
  have hx := Zb0 hv (by rw [hO.len, hn])
  rw [hx]
  have h63 : n < 2 ^ 63 := by have := hO.room; have := hO.cap; omega
  cases hb : (φ r).blk with
  | none =>
    have := (hO.none hb).1
    rw [this] at hn
    simp at hn
    subst hn
    have : es = [] := List.eq_nil_of_length_eq_zero hes
    subst this
    exact .sl0 _ _ _
  | some b =>
    obtain ⟨cs, h3, h4, h5⟩ := hO.some b hb
    have h3 := h3.cells (Za0 hv (by rw [hO.len, hn]))
    have hnM : ¬ MX c st φ ρ b := by
      rintro (h | ⟨r', o', e1, e2, e3⟩)
      · exact (hc.hok.owned r o b ho (.inl hb)).2 h
      · have := hc.hok.apart r r' o o' b ho e2 (.inl hb) e3
        subst this
        rw [hρ] at e1; cases e1
    have hlt : b < w.heap.size := (Array.getElem?_eq_some_iff.1 h3).1
    have hcells : ∀ i j, i < es.length → j < c.P.cellsOf o.elem → w.cell? ⟨b, 0 + (i * c.P.cellsOf o.elem + j), none⟩ = some (cs.getD (i * c.P.cellsOf o.elem + j) undef) := fun i j hi hj => by
      rw [ZQ h3]
      have hroom := hO.room
      have : i * c.P.cellsOf o.elem + j < cs.size := by rw [h4]; exact ZcC (by omega) hj
      simp [this]
    have := RelD.sl (P := c.P) (w := w) (M := MX c st φ ρ) o.elem es b 0 (φ r).cap (fun i j => cs.getD (i * c.P.cellsOf o.elem + j) undef) hlt hnM (by omega) (by have := hO.room; omega) hrows hcells
      (fun i j hi hj => h i j (by omega) hj φ a w hc _ (h5.plain (by omega) hj (Zjd hns i j)))
    rw [hes] at this
    exact this

theorem ViewX.ownB {c : Ctx} {st : St} {ρ : List Nat} {r n : Nat} {o : Own} (ho : nth st.hp r = some o) (hn : o.es.length = n) (h : ∀ row ∈ o.es, row.length = c.P.cellsOf o.elem ∧ row.all datB = true) (hρ : ρ.contains r = false) : ViewX c st ρ (.own r n) (.sl o.elem o.es) := by
  refine .own ho hn hn (fun row hr => (h row hr).1) (fun i j hi hj => ?_) (fun row hr => ZjC (h row hr).2) hρ
  have hi' : i < o.es.length := by omega
  have hrow := h _ (List.getElem_mem hi')
  have : cellAt o.es i j = o.es[i][j]'(by omega) := by simp [cellAt, List.getD_eq_getElem?_getD, hi', hrow.1, hj]
  rw [this]
  exact (Dat.b (List.all_eq_true.1 hrow.2 _ (List.getElem_mem _))).viewX
theorem ViewX.ownM {c : Ctx} {st : St} {ρ : List Nat} {α : Type} {f : α → List AV} {r n : Nat} {e : TypeId} {xs : List α} (hρ : ρ.contains r = false) (ho : nth st.hp r = some ⟨e, xs.map f⟩) (hn : xs.length = n) (h : ∀ x, (f x).length = c.P.cellsOf e ∧ (f x).all datB = true) : ViewX c st ρ (.own r n) (.sl e (xs.map f)) :=
  ViewX.ownB (o := ⟨e, xs.map f⟩) ho (by simpa using hn) (fun row hr => by obtain ⟨x, _, rfl⟩ := List.mem_map.1 hr; exact h x) hρ

def FreM (P : Program) (av : AV) : Prop := FreC P av ∨ ∃ l, av = .mcon l ∧ ∀ i, ZeM (cellAt l i 0) = true ∧ FreC P (cellAt l i 1)
theorem FreM.trel {P : Program} {w : World} {M M' : Nat → Prop} {n : Nat} {φ : Phi} {S : Nat → Prop} {av : AV} {v : Value} (hf : FreM P av) (h : TRel P w M n φ S av v) : TRel P w M' n φ S av v := by
  rcases hf with hf | ⟨l, rfl, hf⟩
  · exact hf.trel h
  · cases h with
    | leaf h => have := Zcx h; cases this
    | mcon _ ks vs es T h1 h2 h3 h4 h5 h6 => exact .mcon l ks vs es T h1 h2 h3 h4 (fun i hi ψ hψ => ZjJ (hf i).1 (h5 i hi ψ hψ)) fun i hi => (hf i).2.trel (h6 i hi)
inductive FreMs (P : Program) : List (Option Own) → Prop
  | nil : FreMs P []
  | none {tl : List (Option Own)} : FreMs P tl → FreMs P (none :: tl)
  | cons {o : Own} {tl : List (Option Own)} : (∀ i j, i < o.es.length → j < P.cellsOf o.elem → FreM P (cellAt o.es i j)) → FreMs P tl → FreMs P (some o :: tl)
theorem FreMs.get {P : Program} {os : List (Option Own)} (h : FreMs P os) : ∀ i o, nth os i = some o → ∀ i' j, i' < o.es.length → j < P.cellsOf o.elem → FreM P (cellAt o.es i' j) := by
  induction h with
  | nil => intro i o h; cases h
  | none _ ih =>
    intro i o h
    cases i with
    | zero => cases h
    | succ i => exact ih i o h
  | cons h1 _ ih =>
    intro i o h
    cases i with
    | zero => cases h; exact h1
    | succ i => exact ih i o h
theorem Zmv {P : Program} {K V : Type} {t : TypeId} {fk : K → AV} {fv : V → AV} {m : List (K × V)} (hk : ∀ k, ZeM (fk k) = true) (hv : ∀ v, ZeM (fv v) = true) :
    ∀ i j, i < (⟨t, [[.mcon (m.map (ZZ fk fv))]]⟩ : Own).es.length → j < P.cellsOf t → FreM P (cellAt (⟨t, [[.mcon (m.map (ZZ fk fv))]]⟩ : Own).es i j) := fun i j hi _ => by
  simp only [List.length_singleton] at hi
  obtain rfl : i = 0 := by omega
  by_cases hj : j = 0
  · subst hj
    refine .inr ⟨_, rfl, fun i => ?_⟩
    have hr : (m.map (ZZ fk fv)).getD i [] = [] ∨ ∃ p, (m.map (ZZ fk fv)).getD i [] = ZZ fk fv p := by
      by_cases h : i < m.length
      · exact .inr ⟨m[i], by simp [List.getD_eq_getElem?_getD, h]⟩
      · exact .inl (by simp [List.getD_eq_getElem?_getD, List.getElem?_eq_none (Nat.le_of_not_lt h)])
    unfold cellAt
    rcases hr with h | ⟨p, h⟩
    · rw [h]; exact ⟨rfl, .inr rfl⟩
    · rw [h]; exact ⟨hk _, .inr (hv _)⟩
  · refine .inl (.inr ?_)
    unfold cellAt
    show ZeM ([AV.mcon (m.map (ZZ fk fv))].getD j .any) = true
    rw [List.getD_eq_getElem?_getD, List.getElem?_eq_none (by simp; omega)]; rfl

inductive ArgsX (c : Ctx) (st : St) (ρ : List Nat) : List Operand → List AV → Prop
  | nil : ArgsX c st ρ [] []
  | cons {x : Operand} {av d : AV} {xs : List Operand} {ds : List AV} : Opv c st x av → RenR (rwR fun r i => ρ[i]? = some r) av d → ArgsX c st ρ xs ds → ArgsX c st ρ (x :: xs) (d :: ds)
  | view {x : Operand} {av d : AV} {xs : List Operand} {ds : List AV} : Opv c st x av → ViewX c st ρ av d → ArgsX c st ρ xs ds → ArgsX c st ρ (x :: xs) (d :: ds)
theorem ArgsX.rel {c : Ctx} {st : St} {ρ : List Nat} {xs : List Operand} {ds : List AV} (h : ArgsX c st ρ xs ds) {φ : Phi} {a : Act} {w : World} (hc : Conc c φ st a w) :
    xs.length = ds.length ∧ ∀ i, i < ds.length → (∃ av, RenR (rwR fun r i => ρ[i]? = some r) av (ds.getD i .any) ∧ RelF c.P w (Mut c.A φ st.hp) st.hp.length φ av ((xs.map a.eval).getD i undef)) ∨ RelD c.P w (MX c st φ ρ) (ds.getD i .any) ((xs.map a.eval).getD i undef) := by
  induction h with
  | nil => exact ⟨rfl, fun i hi => by cases hi⟩
  | @cons x av d xs ds h1 h2 _ ih =>
    refine ⟨by simp [ih.1], fun i hi => ?_⟩
    cases i with
    | zero => exact .inl ⟨av, by simpa using h2, by simpa using h1 φ a w hc⟩
    | succ i => simpa using ih.2 i (by simpa using hi)
  | @view x av d xs ds h1 h2 _ ih =>
    refine ⟨by simp [ih.1], fun i hi => ?_⟩
    cases i with
    | zero => exact .inr (by simpa using h2 φ a w hc _ (h1 φ a w hc))
    | succ i => simpa using ih.2 i (by simpa using hi)

section
variable {c : Ctx} {ops : Array Oper} {st : St} {dst : Option Tmp} {ty : TypeId} {pos : String} {after : Array Edge}
theorem ZiL {φ : Phi} {a : Act} {w : World} (hc : Conc c φ st a w) {f : FuncId} {ds : List AV} {os os' hp' : List (Option Own)} {res res' : AV} {vals : Array Value} (ρ : List Nat) (hs : GSpec c.P c.gl f ds os res os')
    (hvs : vals.size = ds.length) (ha : ∀ i, i < ds.length → (∃ av, RenR (rwR fun r i => ρ[i]? = some r) av (ds.getD i .any) ∧ RelF c.P w (Mut c.A φ st.hp) st.hp.length φ av (vals.getD i undef)) ∨ RelD c.P w (MX c st φ ρ) (ds.getD i .any) (vals.getD i undef))
    (hl : Lend c.P ρ st.hp ρ os) (hnd : Zd9 ρ = true) (hb : Back c.P ρ st.hp.length st.hp os' 0 hp') (hlen : st.hp.length + (os'.length - ρ.length) = hp'.length) (hr : RenR (rwR (callR ρ st.hp.length)) res res')
    (hin : os'.length ≥ ρ.length) (hfr : ZlD res = true) (hfo : FreMs c.P os') :
    Calls c.P f vals w fun e w' => ∃ v φ', e = .returned v ∧ HeapOK c φ' hp' w' ∧
      (∀ av x, RelF c.P w (Mut c.A φ st.hp) st.hp.length φ av x → RelF c.P w' (Mut c.A φ' hp') hp'.length φ' av x) ∧ RelF c.P w' (Mut c.A φ' hp') hp'.length φ' res' v := by
  have hos := hl.len
  have hok := hc.hok
  unfold MX at ha
  generalize hhp : st.hp = hp at *
  -- the callee's view
  let W' : List Nat := open Classical in (List.range w.heap.size).filter fun b => decide (∃ (i r : Nat), ρ[i]? = some r ∧ (φ r).has b)
  have hW' : ∀ (b : Nat), b ∈ W' ↔ ∃ (i r : Nat), ρ[i]? = some r ∧ (φ r).has b := fun b => by
    simp only [W', List.mem_filter, List.mem_range, decide_eq_true_eq]
    constructor
    · exact fun h => h.2
    · rintro ⟨i, r, h1, h2⟩
      obtain ⟨o, o1, h3, h4, h5⟩ := hl.get i r h1
      exact ⟨(hok.obj r o1 h4).has_lt h2, i, r, h1, h2⟩
  let A' : Nat → Prop := c.A
  let φc : Phi := fun i => match ρ[i]? with | some r => φ r | none => φz i
  have hφc : ∀ i r, ρ[i]? = some r → φc i = φ r := fun i r h => by simp only [φc, h]
  have hlentMut : ∀ b, b ∈ W' → ∃ r o, ρ.contains r = true ∧ nth hp r = some o ∧ (φ r).has b := fun b hb => by
    obtain ⟨i, r, h1, h2⟩ := (hW' b).1 hb
    obtain ⟨o, o1, h3, h4, h5⟩ := hl.get i r h1
    exact ⟨r, o1, by simpa using List.mem_of_getElem? h1, h4, h2⟩
  have hAW : ∀ b, c.A b → b ∉ W' := fun b hb hw => by
    obtain ⟨r, o, _, h5, h6⟩ := hlentMut b hw
    exact (hok.owned r o b h5 h6).2 hb
  have hmutlt : ∀ b, Mut c.A φ hp b → b < w.heap.size := fun b hb => ZeZ hc b (by rw [hhp]; exact hb)
  have hMsub : ∀ b, Mut A' φc os b → Mut c.A φ hp b := by
    rintro b (ha | ⟨i, o, hi, hbk⟩)
    · exact .inl ha
    · have hlt := Qo hi
      obtain ⟨r, hr⟩ : ∃ r, ρ[i]? = some r := ⟨ρ[i]'(by omega), by simp [show i < ρ.length by omega]⟩
      obtain ⟨o', o1, h3, h4, h5⟩ := hl.get i r hr
      rw [hφc i r hr] at hbk
      exact .inr ⟨r, o1, h4, hbk⟩
  have hRin : ∀ x y, (fun r i => ρ[i]? = some r) x y → y < os.length ∧ φc y = φ x := fun x y h => ⟨by rw [hos]; exact (List.getElem?_eq_some_iff.1 h).1, hφc y x h⟩
  have hgl := Zd2 hc
  rw [hhp] at hgl
  have hok' : HeapOK ⟨c.P, 0, w, A', W', c.gl, os.length, φc⟩ φc os w := by
    refine ⟨rfl, rfl, rfl, Nat.le_refl _, fun _ _ _ => rfl, ?_, ?_, ?_, fun b hb => ⟨hmutlt b (.inl hb), hAW b hb⟩, ?_, Nat.le_refl _, fun r _ => .inl (.refl _)⟩
    · intro i o b hi hbk
      have hlt := Qo hi
      obtain ⟨r, hr⟩ : ∃ r, ρ[i]? = some r := ⟨ρ[i]'(by omega), by simp [show i < ρ.length by omega]⟩
      rw [hφc i r hr] at hbk
      have : b ∈ W' := (hW' b).2 ⟨i, r, hr, hbk⟩
      exact ⟨.inl this, fun h => hAW b h this⟩
    · intro i i' o o' b hi hi' hbk hbk'
      have hlt := Qo hi
      have hlt' := Qo hi'
      obtain ⟨r, hr⟩ : ∃ r, ρ[i]? = some r := ⟨ρ[i]'(by omega), by simp [show i < ρ.length by omega]⟩
      obtain ⟨r', hr'⟩ : ∃ r, ρ[i']? = some r := ⟨ρ[i']'(by omega), by simp [show i' < ρ.length by omega]⟩
      rw [hφc i r hr] at hbk
      rw [hφc i' r' hr'] at hbk'
      obtain ⟨_, o1, _, h4, _⟩ := hl.get i r hr
      obtain ⟨_, o1', _, h4', _⟩ := hl.get i' r' hr'
      have := hok.apart r r' o1 o1' b h4 h4' hbk hbk'
      subst this
      exact ZfI hnd i i' r hr hr'
    · intro i o hi
      have hlt := Qo hi
      obtain ⟨r, hr⟩ : ∃ r, ρ[i]? = some r := ⟨ρ[i]'(by omega), by simp [show i < ρ.length by omega]⟩
      obtain ⟨o', o1, h3, h4, h5⟩ := hl.get i r hr
      rw [hi] at h3; cases h3
      exact (hok.obj r o1 h4).ren (hφc i r hr) h5 fun ψ hψ => ZeV (fun x y hxy => (hψ y (hRin x y hxy).1).trans (hRin x y hxy).2) (fun b _ hm hm' => hm (hMsub b hm'))
    · refine ⟨hgl.len, fun b hw => ?_, fun p hp => ?_⟩
      · obtain ⟨r, o, _, h5, h6⟩ := hlentMut b hw
        rcases (hok.owned r o b h5 h6).1 with h7 | h7
        · exact hok.glob.W b h7
        · exact Nat.le_trans hok.glob.len h7
      · obtain ⟨h1, h2, h3⟩ := hgl.tab p hp
        exact ⟨h1, h2, fun ha => h3 (.inl ha)⟩
  refine (hs.spec A' W' w φc vals hok' hvs (fun i hi => ?_)).mono ?_
  · rcases ha i hi with ⟨av, h1, h2⟩ | h1
    · exact h2.ren h1 fun ψ hψ => ZeV (fun x y hxy => (hψ y (hRin x y hxy).1).trans (hRin x y hxy).2) (fun b _ hm hm' => hm (hMsub b hm'))
    · refine Zu (h1.mono (Nat.le_refl _) (fun _ _ _ => rfl) fun b _ hm hm' => hm ?_)
      rcases hm' with h2 | ⟨i', o, hi', hbk⟩
      · exact .inl h2
      · have hlt := Qo hi'
        obtain ⟨r, hr⟩ : ∃ r, ρ[i']? = some r := ⟨ρ[i']'(by omega), by simp [show i' < ρ.length by omega]⟩
        obtain ⟨_, o1, _, h4, _⟩ := hl.get i' r hr
        rw [hφc i' r hr] at hbk
        exact .inr ⟨r, o1, by simpa using List.mem_of_getElem? hr, h4, hbk⟩
  rintro e w' ⟨v, φ', rfl, hq, hv⟩
  -- back at the caller
  let φ'' : Phi := fun r => if r < hp.length then (match ρ.findIdx? (· == r) with | some i => φ' i | none => φ r) else φ' (ρ.length + (r - hp.length))
  have hlt_of : ∀ i r, ρ[i]? = some r → r < hp.length := fun i r h => by
    obtain ⟨_, o1, _, h4, _⟩ := hl.get i r h
    exact Qo h4
  have hφR : ∀ i r, callR ρ hp.length i r → φ'' r = φ' i := by
    rintro i r (h | ⟨h1, rfl⟩)
    · have hlt := hlt_of i r h
      have hfi : ρ.findIdx? (· == r) = some i := by
        rw [List.findIdx?_eq_some_iff_getElem]
        obtain ⟨hi, he⟩ := List.getElem?_eq_some_iff.1 h
        refine ⟨hi, by simp [he], fun j hj => ?_⟩
        simp only [beq_iff_eq]
        intro hje
        have : j = i := ZfI hnd j i r (by rw [List.getElem?_eq_getElem (by omega)]; exact congrArg some hje) h
        omega
      simp only [φ'', if_pos hlt, hfi]
    · simp only [φ'', if_neg (show ¬ hp.length + (i - ρ.length) < hp.length by omega)]
      congr 1; omega
  have hφK : ∀ r, r < hp.length → ρ.contains r = false → φ'' r = φ r := fun r h1 h2 => by
    have : ρ.findIdx? (· == r) = none := by
      rw [List.findIdx?_eq_none_iff]
      intro x hx
      cases hxr : x == r
      · rfl
      · rw [beq_iff_eq] at hxr
        subst hxr
        rw [List.contains_eq_mem] at h2
        simp [hx] at h2
    simp only [φ'', if_pos h1, this]
  have hgrow : ∀ r, r < hp.length → (φ'' r).same (φ r) ∨ (φ r).n < (φ'' r).n := fun r h => by
    cases hcr : ρ.contains r with
    | false => exact .inl (hφK r h hcr ▸ .refl _)
    | true =>
      obtain ⟨i, hi⟩ := List.mem_iff_getElem?.1 (show r ∈ ρ by simpa using hcr)
      rw [hφR i r (.inl hi), ← hφc i r hi]
      exact hq.mono i (by show i < os.length; rw [hos]; exact (List.getElem?_eq_some_iff.1 hi).1)
  have hback : ∀ r o2, nth hp' r = some o2 → (∃ i o, callR ρ hp.length i r ∧ nth os' i = some o ∧ RenOO c.P (rwR (callR ρ hp.length)) o o2) ∨ (nth hp r = some o2 ∧ ρ.contains r = false) := fun r o2 h => by
    have := hb.get r o2 h
    rwa [Nat.zero_add] at this
  -- blocks of the callee's objects: lent ones, or new
  have hcb : ∀ i o b, nth os' i = some o → (φ' i).has b → (b ∈ W' ∨ w.heap.size ≤ b) ∧ ¬ A' b := fun i o b h1 h2 => hq.owned i o b h1 h2
  have hframe : ∀ b, b < w.heap.size → b ∉ W' → w'.heap[b]? = w.heap[b]? := fun b h1 h2 => hq.frame b h1 h2
  have hnMut : ∀ b, b < w.heap.size → ¬ Mut c.A φ hp b → w'.heap[b]? = w.heap[b]? := fun b h1 h2 => hframe b h1 fun hw => by
    obtain ⟨r, o, _, h5, h6⟩ := hlentMut b hw
    exact h2 (.inr ⟨r, o, h5, h6⟩)
  have hmm : ∀ b, b < w.heap.size → ¬ Mut c.A φ hp b → ¬ Mut c.A φ'' hp' b := by
    rintro b hlt hm (ha | ⟨r, o2, hr2, hbk⟩)
    · exact hm (.inl ha)
    · rcases hback r o2 hr2 with ⟨i, o, h1, h2, _⟩ | ⟨h1, h2⟩
      · rw [hφR i r h1] at hbk
        rcases (hcb i o b h2 hbk).1 with h | h
        · obtain ⟨r', o', _, h5, h6⟩ := hlentMut b h
          exact hm (.inr ⟨r', o', h5, h6⟩)
        · omega
      · rw [hφK r (Qo h1) h2] at hbk
        exact hm (.inr ⟨r, o2, h1, hbk⟩)
  have hn'' : hp.length ≤ hp'.length := by omega
  have hrel : ∀ (ψ : Phi) av x, (∀ s, s < hp.length → ψ s = φ'' s) → Rel c.P w (Mut c.A φ hp) (fun s => if s < hp.length then φ s else ψ s) av x → Rel c.P w' (Mut c.A φ'' hp') ψ av x := by
    intro ψ av x hψ hx
    refine (hx.mono hq.heap hnMut hmm).loc fun s => ?_
    by_cases hsl : s < hp.length
    · rw [hψ s hsl, if_pos hsl]; exact hgrow s hsl
    · rw [if_neg hsl]; exact .inl (.refl _)
  have htr : ∀ av x, RelF c.P w (Mut c.A φ hp) hp.length φ av x → RelF c.P w' (Mut c.A φ'' hp') hp'.length φ'' av x := by
    intro av x hx ψ hψ
    refine hrel ψ av x (fun s hs => hψ s (by omega)) (hx _ fun s hs => ?_)
    simp only [if_pos hs]
  have hRout : ∀ x y, callR ρ hp.length x y ∧ x < os'.length → y < hp'.length ∧ φ'' y = φ' x := by
    rintro x y ⟨h, hx⟩
    refine ⟨?_, hφR x y h⟩
    rcases h with h | ⟨h1, rfl⟩
    · have := hlt_of x y h; omega
    · omega
  -- numbers of callee's objects that its values bear lie below os'.length, or nothing is known of them
  have hren0 : ∀ ψ, ZdC hp'.length φ'' ψ → ∃ χ, ZdC os'.length φ' χ ∧ RwOK (rwR (callR ρ hp.length)) c.P w' (Mut c.A φ'' hp') (Mut c.A φ'' hp') χ ψ := by
    intro ψ hψ
    let χ : Phi := fun i => if i < os'.length then φ' i else match ρ[i]? with | some r => ψ r | none => ψ (hp.length + (i - ρ.length))
    refine ⟨χ, fun i hi => by simp only [χ, if_pos hi], ZeV (fun i r hir => ?_) (fun _ _ h => h)⟩
    by_cases hi : i < os'.length
    · obtain ⟨e1, e2⟩ := hRout i r ⟨hir, hi⟩
      simp only [χ, if_pos hi]
      rw [hψ r e1, e2]
    · simp only [χ, if_neg hi]
      rcases hir with h | ⟨h5, rfl⟩
      · rw [h]
      · rw [List.getElem?_eq_none (by omega)]
  have hren : ∀ (av av' : AV) (x : Value), ZlD av = true → RenR (rwR (callR ρ hp.length)) av av' → RelF c.P w' (Mut A' φ' os') os'.length φ' av x → RelF c.P w' (Mut c.A φ'' hp') hp'.length φ'' av' x := by
    intro av av' x hf h1 h2 ψ hψ
    obtain ⟨χ, hχ, hok2⟩ := hren0 ψ hψ
    exact h1.rel hok2 (Zm8 hf (h2 χ hχ))
  refine ⟨v, φ'', rfl, ⟨hq.os.trans hok.os, hq.tape.trans hok.tape, hq.output.trans hok.output, Nat.le_trans hok.heap hq.heap, ?_, ?_, ?_, ?_, hok.amb, hok.glob, Nat.le_trans (by have := hok.len; exact this) hn'', ?_⟩, htr, hren _ _ _ hfr hr hv⟩
  · intro b hlt hnW
    rw [hframe b (Nat.lt_of_lt_of_le hlt hok.heap) fun hw => ?_]
    · exact hok.frame b hlt hnW
    · obtain ⟨r, o, _, h5, h6⟩ := hlentMut b hw
      rcases (hok.owned r o b h5 h6).1 with h | h
      · exact hnW h
      · omega
  · intro r o2 b hr2 hbk
    rcases hback r o2 hr2 with ⟨i, o, h1, h2, _⟩ | ⟨h1, h2⟩
    · rw [hφR i r h1] at hbk
      rcases (hcb i o b h2 hbk).1 with h | h
      · obtain ⟨r', o', _, h5, h6⟩ := hlentMut b h
        exact hok.owned r' o' b h5 h6
      · have := hok.heap
        exact ⟨.inr (by omega), fun ha => by have := (hok.amb b ha).1; omega⟩
    · rw [hφK r (Qo h1) h2] at hbk
      exact hok.owned r o2 b h1 hbk
  · intro r r' o o' b hr1 hr1' hbk hbk'
    have mix : ∀ i x o y q, callR ρ hp.length i x → nth os' i = some o → (φ' i).has b → nth hp y = some q → ρ.contains y = false → (φ y).has b → False := by
      intro i x o y q h1 h2 h3 h4 h5 h6
      rcases (hcb i o b h2 h3).1 with h | h
      · obtain ⟨r', o', e4, e5, e6⟩ := hlentMut b h
        have := hok.apart y r' q o' b h4 e5 h6 e6
        subst this
        rw [h5] at e4; cases e4
      · have := hmutlt b (.inr ⟨y, q, h4, h6⟩); omega
    rcases hback r o hr1 with ⟨i, oi, h1, h2, _⟩ | ⟨h1, h2⟩
    · rw [hφR i r h1] at hbk
      rcases hback r' o' hr1' with ⟨i', oi', h1', h2', _⟩ | ⟨h1', h2'⟩
      · rw [hφR i' r' h1'] at hbk'
        have := hq.apart i i' oi oi' b h2 h2' hbk hbk'
        subst this
        rcases h1 with h1 | ⟨h1, rfl⟩
        · rcases h1' with h1' | ⟨h1', rfl⟩
          · rw [h1] at h1'; cases h1'; rfl
          · have := (List.getElem?_eq_some_iff.1 h1).1; omega
        · rcases h1' with h1' | ⟨h1', rfl⟩
          · have := (List.getElem?_eq_some_iff.1 h1').1; omega
          · rfl
      · rw [hφK r' (Qo h1') h2'] at hbk'
        exact (mix i r oi r' o' h1 h2 hbk h1' h2' hbk').elim
    · rw [hφK r (Qo h1) h2] at hbk
      rcases hback r' o' hr1' with ⟨i', oi', h1', h2', _⟩ | ⟨h1', h2'⟩
      · rw [hφR i' r' h1'] at hbk'
        exact (mix i' r' oi' r o h1' h2' hbk' h1 h2 hbk).elim
      · rw [hφK r' (Qo h1') h2'] at hbk'
        exact hok.apart r r' o o' b h1 h1' hbk hbk'
  · intro r o2 hr2
    rcases hback r o2 hr2 with ⟨i, o, h1, h2, h3⟩ | ⟨h1, h2⟩
    · have hO := hq.obj i o h2
      obtain ⟨g1, g2, g4, g5⟩ := h3
      have he := hφR i r h1
      refine ⟨by rw [he, ← g2]; exact hO.len, by rw [he, ← g1]; exact hO.sz, g4, by rw [he, ← g2]; exact hO.room, by rw [he]; exact hO.cap, fun hb => ?_, by rw [he]; exact hO.subl, by rw [he]; exact hO.subn, fun b hb => ?_⟩
      · rw [he] at hb ⊢
        obtain ⟨e1, e2⟩ := hO.none hb
        exact ⟨List.eq_nil_of_length_eq_zero (by rw [← g2, e1]; rfl), e2⟩
      · rw [he] at hb ⊢
        obtain ⟨cs, e1, e2, T, t1, t2, e3⟩ := hO.some b hb
        refine ⟨cs, by rw [← g1]; exact e1, by rw [← g1]; exact e2, T, t1, t2, fun i' j' hi' hj' => ?_⟩
        rw [← g1] at hj' ⊢
        have hi'' : i' < o.es.length := by rw [g2]; exact hi'
        exact (g5 i' j' hi'' hj').relX (fun ψ hψ => hren0 ψ hψ) ((hfo.get i o h2 i' j' hi'' hj').trel (e3 i' j' hi'' hj'))
    · have hO := hok.obj r o2 h1
      have he := hφK r (Qo h1) h2
      have hsame : ∀ b, (φ r).has b → w'.heap[b]? = w.heap[b]? := fun b hb => hframe b (hO.has_lt hb) fun hw => by
        obtain ⟨r', o', e4, e5, e6⟩ := hlentMut b hw
        have := hok.apart r r' o2 o' b h1 e5 hb e6
        subst this
        rw [h2] at e4; cases e4
      refine ⟨by rw [he]; exact hO.len, by rw [he]; exact hO.sz, hO.rows, by rw [he]; exact hO.room, by rw [he]; exact hO.cap, by rw [he]; exact hO.none, by rw [he]; exact fun b hb => Nat.lt_of_lt_of_le (hO.subl b hb) hq.heap, by rw [he]; exact hO.subn, fun b hb => ?_⟩
      rw [he] at hb ⊢
      obtain ⟨cs, e1, e2, e3⟩ := hO.some b hb
      exact ⟨cs, e1.congr (hsame b (.inl hb)), e2, e3.tr (fun x hx => hsame x (.inr hx)) htr⟩
  · intro r hr0
    have hl0 : c.n0 ≤ hp.length := hok.len
    rcases hok.mono r hr0 with h1 | h1
    · rcases hgrow r (by omega) with h2 | h2
      · exact .inl (h2.trans h1)
      · exact .inr (by rw [← h1.2.2.1]; exact h2)
    · rcases hgrow r (by omega) with h2 | h2
      · exact .inr (by rw [h2.2.2.1]; exact h1)
      · exact .inr (Nat.lt_trans h1 h2)

theorem Zlx {f : FuncId} {xs : List Operand} {ts : Array TypeId} {ds : List AV} {os os' hp' : List (Option Own)} {res res' : AV} (ρ : List Nat) (hs : GSpec c.P c.gl f ds os res os') (ha : ArgsX c st ρ xs ds)
    (hl : Lend c.P ρ st.hp ρ os) (hnd : Zd9 ρ = true) (hb : Back c.P ρ st.hp.length st.hp os' 0 hp') (hlen : st.hp.length + (os'.length - ρ.length) = hp'.length) (hin : Nat.ble ρ.length os'.length = true)
    (hr : RenR (rwR (callR ρ st.hp.length)) res res') (hfr : ZlD res = true) (hfo : FreMs c.P os') :
    WVal c ops st ⟨dst, .call { callee := .value (.func f), args := xs.toArray, argTypes := ts }, ty, pos, after, none⟩ res' hp' := by
  intro φ a w hc
  refine ⟨rfl, ?_⟩
  obtain ⟨h1, h2⟩ := ha.rel hc
  unfold Oper.wp
  have e : (execOp a.eval ⟨dst, .call { callee := .value (.func f), args := xs.toArray, argTypes := ts }, ty, pos, after, none⟩).run c.P w = .ok (.enter f (xs.map a.eval).toArray) w := by
    simp [execOp, resolve, Act.eval, Deferred.ofValue, invoke, Zaa hs.call]
  rw [e]
  refine (ZiL hc ρ hs (vals := (xs.map a.eval).toArray) (by simpa using h1) (fun i hi => ?_) hl hnd hb hlen hr (Nat.le_of_ble_eq_true hin) hfr hfo).mono ?_
  · have e2 := h2 i hi
    have e3 : (xs.map a.eval).toArray.getD i undef = (xs.map a.eval).getD i undef := by simp [Array.getD_eq_getD_getElem?, List.getD_eq_getElem?_getD]
    rw [e3]; exact e2
  rintro e w' ⟨v, φ', rfl, g1, g2, g3⟩
  exact ⟨v, φ', rfl, g1, g2, g3⟩
end
end Go.Vx

/- A text of the proof: a verified executor of the program form, or the contracts of the functions that the law reaches. -/
import Derived.Test.YtjfoenlooacoiabGreatDoorVR
import Derived.Shelf.Slices.In.SortNone
import Derived.Test.YtjfoenlooacoiabGreatDoorVP
import Derived.Test.YtjfoenlooacoiabGreatDoorVM
import Derived.Test.YtjfoenlooacoiabGreatDoorVH
import Derived.Test.YtjfoenlooacoiabGreatDoorVK
set_option linter.all false
namespace Go.Vx
open Go Go.RowKit Go.Lib Go.Sort
def Zgp (xs : List Int) : Option (List Int) := if xs.length < 4611686018427387904 then some (xs.mergeSort fun x y => decide (x ≤ y)) else none
theorem Zhx {xs r : List Int} (h : Zgp xs = some r) : r.length = xs.length := by
  unfold Zgp at h
  split at h
  · cases h; simp
  · cases h
theorem Zli {P : Program} {gl : Gl} {f e : Nat} {xs r : List Int} {g : Int → List AV} (hg : ∀ z, g z = [.int .i64 z]) (hc : callable P f = true) (he : P.cellsOf e = 1)
    (C : ∀ (blk off cap : Nat) (zs : List Int) (w : World), Holds (Value.int .i64) w blk off zs.toArray → blk < w.heap.size → zs.length < 4611686018427387904 →
      Calls P f #[.slice (some ⟨blk, off, none⟩) zs.length cap] w fun e w' => e = .returned (.tuple #[]) ∧ ∃ n os, w' = grow (putRow (Value.int .i64) (Sort.ahead w n) blk off (zs.mergeSort fun x y => decide (x ≤ y)).toArray) os)
    (C0 : ∀ (p : Option Addr) (cap : Nat) (w : World), Calls P f #[.slice p 0 cap] w fun e w' => e = .returned (.tuple #[]) ∧ w' = w)
    (h : Zgp xs = some r) : GSpec P gl f [.own 0 xs.length] [some ⟨e, xs.map g⟩] (.tuple []) [some ⟨e, r.map g⟩] := by
  by_cases hne : xs = []
  · subst hne
    obtain rfl : r = [] := by
      have := Zhx h
      exact List.eq_nil_of_length_eq_zero this
    refine ⟨hc, fun A W w φ vals hok hsz hr => ?_⟩
    have hO := hok.obj 0 _ rfl
    have h0 := hr 0 (by simp)
    have hx := JH h0 (by rw [hO.len]; simp)
    have hvals : vals = #[.slice ((φ 0).blk.map fun b => ⟨b, 0, none⟩) 0 (φ 0).cap] := by
      obtain ⟨l⟩ := vals
      match l, hsz with
      | [x], _ =>
        have e1 : x = .slice ((φ 0).blk.map fun b => ⟨b, 0, none⟩) 0 (φ 0).cap := hx
        rw [e1]
    rw [hvals]
    refine (C0 _ _ w).mono ?_
    rintro e' w' ⟨rfl, rfl⟩
    exact ⟨.tuple #[], φ, rfl, hok, Zp (.tuple [] #[] rfl fun i hi => by cases hi)⟩
  · refine Zll hg hc he C ?_
    unfold Zgp at h
    unfold ZiS
    split at h
    · rename_i hl
      rw [if_pos ⟨hne, hl⟩]; exact h
    · cases h
end Go.Vx

namespace Go.Vx
open Go Go.RowKit
end Go.Vx

namespace Go.Vx
open Go Go.RowKit

def flB : AV → Bool
  | .int _ _ | .bool _ | .str _ | .lit _ | .nils | .any => true
  | _ => false
theorem Zkt {av : AV} (h : flB av = true) : datB av = true := by cases av <;> first | rfl | cases h
inductive DeepC (P : Program) : AV → Prop
  | flat {av : AV} : flB av = true → DeepC P av
  | sub {e : TypeId} {l : List (List AV)} : (∀ row ∈ l, row.length = P.cellsOf e) → (∀ i j, DeepC P (cellAt l i j)) → DeepC P (.osub e l)
theorem DeepC.renC {P : Program} {q : Rw} {av : AV} (h : DeepC P av) : RenC q av av := by
  induction h with
  | flat hb => exact .ren (.dat (Zkt hb))
  | sub _ _ ih => exact .sub ih
def Zcj (P : Program) (l : List AV) : Prop := ∀ j, DeepC P (l.getD j .any)
theorem dlN {P : Program} : Zcj P [] := fun _ => .flat rfl
theorem dlC {P : Program} {x : AV} {l : List AV} (h : DeepC P x) (k : Zcj P l) : Zcj P (x :: l) := fun j => by
  cases j with
  | zero => simpa using h
  | succ j => simpa using k j
theorem dlF {P : Program} {l : List AV} (h : l.all flB = true) : Zcj P l := fun j => by
  by_cases hj : j < l.length
  · have e : l.getD j .any = l[j] := by simp [List.getD_eq_getElem?_getD, hj]
    rw [e]; exact .flat (List.all_eq_true.1 h _ (List.getElem_mem _))
  · rw [List.getD_eq_getElem?_getD, List.getElem?_eq_none (by omega)]; exact .flat rfl
section rows
variable {P : Program} {α : Type} {f g : α → List AV} {e : TypeId} {xs : List α}
theorem dcS (h : ∀ x, (f x).length = P.cellsOf e ∧ Zcj P (f x)) : DeepC P (.osub e (xs.map f)) := by
  refine .sub (fun row hr => by obtain ⟨x, _, rfl⟩ := List.mem_map.1 hr; exact (h x).1) fun i j => ?_
  unfold cellAt
  by_cases hi : i < xs.length
  · have : (xs.map f).getD i [] = f xs[i] := by simp [List.getD_eq_getElem?_getD, hi]
    rw [this]; exact (h _).2 j
  · have : (xs.map f).getD i [] = [] := by rw [List.getD_eq_getElem?_getD, List.getElem?_eq_none (by simp; omega)]; rfl
    rw [this]; exact .flat rfl
theorem Zbb {i j : Nat} (hi : i < xs.length) : cellAt (xs.map f) i j = (f xs[i]).getD j .any := by
  unfold cellAt; congr 1; simp [List.getD_eq_getElem?_getD, hi]
theorem roO {q : Rw} (h : ∀ x, (f x).length = P.cellsOf e ∧ Zcj P (f x)) : RenOO P q ⟨e, xs.map f⟩ ⟨e, xs.map f⟩ :=
  ⟨rfl, rfl, fun row hr => by obtain ⟨x, _, rfl⟩ := List.mem_map.1 hr; exact (h x).1, fun i j hi hj => by
    simp only [List.length_map] at hi
    rw [Zbb hi]; exact ((h _).2 j).renC⟩
theorem Zh3 {hp : List (Option Own)} {r : Nat} {o : Own} (h : nth hp r = some o) : QP hp r (some o) = hp := by
  induction hp generalizing r with
  | nil => cases h
  | cons x hp ih =>
    cases r with
    | zero => simp only [nth] at h; simp [QP, h]
    | succ r => simp only [nth] at h; simp only [QP]; rw [ih h]
end rows

section ent
variable {c : Ctx} {tm : List (Nat × AV)} {hp : List (Option Own)} {α β : Type} {f : α → List AV} {e e' : TypeId} {xs : List α} {r i j q n : Nat} {x y : α} {row : List AV} {l : List (List AV)}
theorem Ent.of_eq {st st' : St} (h : st = st') : Ent c st st' := h ▸ Ent.refl
theorem Ent.focusH {ys : List β} {g : β → List AV} (ho : nth hp r = some ⟨e, xs.map f⟩) (hx : xs[i]? = some x) (hc : (f x)[j]? = some (.osub e' (ys.map g))) (hl : ∀ y, (g y).length = c.P.cellsOf e' ∧ Zcj c.P (g y)) :
    Ent c ⟨tm, hp⟩ ⟨tm, QP hp r (some ⟨e, (xs.map f).set i ((f x).set j (.own hp.length ys.length))⟩) ++ [some ⟨e', ys.map g⟩]⟩ := by
  have := Ent.focus (c := c) (tm := tm) (i := i) (j := j) (row := f x) ho (by simp [hx]) hc (fun r hr => by obtain ⟨y, _, rfl⟩ := List.mem_map.1 hr; exact (hl y).1)
  simpa using this
theorem Ent.focusI {ys : List β} {g : β → List AV} (ho : nth hp r = some ⟨e, (xs.map f).set i row⟩) (hx : xs[i]? = some x) (hc : row[j]? = some (.osub e' (ys.map g))) (hl : ∀ y, (g y).length = c.P.cellsOf e' ∧ Zcj c.P (g y)) :
    Ent c ⟨tm, hp⟩ ⟨tm, QP hp r (some ⟨e, (xs.map f).set i (row.set j (.own hp.length ys.length))⟩) ++ [some ⟨e', ys.map g⟩]⟩ := by
  have hi : i < xs.length := (List.getElem?_eq_some_iff.1 hx).1
  have := Ent.focus (c := c) (tm := tm) (i := i) (j := j) (row := row) ho (by simp [hi]) hc (fun r hr => by obtain ⟨y, _, rfl⟩ := List.mem_map.1 hr; exact (hl y).1)
  simpa [List.set_set] using this
theorem Ent.absorbH (ho : nth hp r = some ⟨e, (xs.map f).set i row⟩) (hx : xs[i]? = some x) (hc : row[j]? = some (.own q n)) (hq : nth hp q = some ⟨e', l⟩) (hn : l.length = n) (hqr : Nat.beq q r = false) :
    Ent c ⟨tm, hp⟩ ⟨tm, QP (QP hp r (some ⟨e, (xs.map f).set i (row.set j (.osub e' l))⟩)) q none⟩ := by
  have hi : i < xs.length := (List.getElem?_eq_some_iff.1 hx).1
  have := Ent.absorb (c := c) (tm := tm) (i := i) (j := j) (n := n) (row := row) ho (by simp [hi]) hc hq hn hqr
  simpa [List.set_set] using this
theorem Ent.closeH (ho : nth hp r = some ⟨e, (xs.map f).set i row⟩) (hr : row = f y) : Ent c ⟨tm, hp⟩ ⟨tm, QP hp r (some ⟨e, (xs.set i y).map f⟩)⟩ := by
  subst hr
  refine Ent.of_eq ?_
  rw [List.map_set, Zh3 ho]
theorem Ent.closeS (ho : nth hp r = some ⟨e, (xs.map f).set i row⟩) (hx : xs[i]? = some y) (hr : row = f y) : Ent c ⟨tm, hp⟩ ⟨tm, QP hp r (some ⟨e, xs.map f⟩)⟩ := by
  subst hr
  have e1 : (xs.map f).set i (f y) = xs.map f := by
    rw [← List.map_set]; congr 1
    obtain ⟨hi, rfl⟩ := List.getElem?_eq_some_iff.1 hx
    simp
  rw [e1] at ho
  refine Ent.of_eq ?_
  rw [Zh3 ho]
theorem Ent.meltO {g : α → List AV} (ho : nth hp r = some ⟨e, xs.map f⟩) (hf : ∀ x, (f x).length = c.P.cellsOf e ∧ Zcj c.P (f x)) (hg : ∀ x, (g x).length = c.P.cellsOf e) (hm : ∀ x, Pw (MeltC c.P) (f x) (g x)) :
    Ent c ⟨tm, hp⟩ ⟨tm, QP hp r (some ⟨e, xs.map g⟩)⟩ := by
  refine Ent.melt ho (by simp) (fun row hr => by obtain ⟨x, _, rfl⟩ := List.mem_map.1 hr; exact hg x) fun i j hi hj => ?_
  simp only [List.length_map] at hi
  rw [Zbb hi, Zbb hi]
  exact (hm _).get j (by rw [(hf _).1]; exact hj)
theorem ZaR {s : Nat} {xs zs : List α} {x : α} (h : apz s xs [x] = some zs) : zs[xs.length]? = some x := by
  unfold apz at h; split at h
  · cases h; simp
  · cases h
end ent

section melt
variable {P : Program} {α : Type} {f g : α → List AV} {e : TypeId} {xs : List α}
theorem mcS (hf : ∀ x, (f x).length = P.cellsOf e ∧ Zcj P (f x)) (hg : ∀ x, (g x).length = P.cellsOf e) (h : ∀ x, Pw (MeltC P) (f x) (g x)) : MeltC P (.osub e (xs.map f)) (.sl e (xs.map g)) := by
  refine .sub (by simp) (fun row hr => by obtain ⟨x, _, rfl⟩ := List.mem_map.1 hr; exact hg x) fun i j hi hj => ?_
  simp only [List.length_map] at hi
  rw [Zbb hi, Zbb hi]
  exact (h _).get j (by rw [(hf _).1]; exact hj)
theorem mcF {l : List AV} (h : l.all flB = true) : Pw (MeltC P) l l := .refl fun x hx => .dat (Zkt (List.all_eq_true.1 h x hx))
end melt

section view
variable {c : Ctx} {st : St} {α : Type} {f g : α → List AV} {e : TypeId} {xs : List α} {r n : Nat}
theorem View.ownO (ho : nth st.hp r = some ⟨e, xs.map f⟩) (hn : xs.length = n) (hf : ∀ x, (f x).length = c.P.cellsOf e ∧ Zcj c.P (f x)) (hg : ∀ x, (g x).length = c.P.cellsOf e) (hm : ∀ x, Pw (MeltC c.P) (f x) (g x)) :
    View c st (.own r n) (.sl e (xs.map g)) := by
  intro φ a w hc v hv
  have hO := hc.hok.obj r _ ho
  have hx := JH hv (by rw [hO.len]; simpa using hn)
  rw [hx]
  have hroom := hO.room
  have hcap := hO.cap
  simp only [List.length_map] at hroom
  cases hb : (φ r).blk with
  | none =>
    have := (hO.none hb).1
    simp at this
    subst this
    simp at hn
    subst hn
    exact .sl0 _ _ _
  | some b =>
    obtain ⟨cs, h3, h4, T, t1, t2, h5⟩ := hO.some b hb
    have h3 := h3.cells (X3 hv (by rw [hO.len]; simpa using hn))
    have hlt : b < w.heap.size := (Array.getElem?_eq_some_iff.1 h3).1
    have hcells : ∀ i j, i < (xs.map g).length → j < c.P.cellsOf e → w.cell? ⟨b, 0 + (i * c.P.cellsOf e + j), none⟩ = some (cs.getD (i * c.P.cellsOf e + j) undef) := fun i j hi hj => by
      rw [ZL h3]
      simp only [List.length_map] at hi
      have : i * c.P.cellsOf e + j < cs.size := by rw [h4]; exact Zav (by omega) hj
      simp [this]
    have hA : ∀ b', (φ r).sub b' → ¬ c.A b' := fun b' hb' => (hc.hok.owned r _ b' ho (.inr hb')).2
    have := RelD.sl (P := c.P) (w := w) (M := c.A) e (xs.map g) b 0 (φ r).cap (fun i j => cs.getD (i * c.P.cellsOf e + j) undef) hlt (hc.hok.owned r _ b ho (.inl hb)).2 (by simp; omega) (by simpa using hroom)
      (fun row hr => by obtain ⟨x, _, rfl⟩ := List.mem_map.1 hr; exact hg x) hcells
      (fun i j hi hj => by
        simp only [List.length_map] at hi
        have h6 := h5 i j (by simpa using hi) hj
        rw [Zbb hi] at h6
        rw [Zbb hi]
        exact ((hm _).get j (by rw [(hf _).1]; exact hj)).rel h6 (fun b' hb' => hA b' (t1 i j b' hb')) (fun _ _ hm ha => hm (.inl ha)))
    simp only [List.length_map] at this
    rw [hn] at this
    exact this
theorem View.ptrS {i j k : Nat} {o : Own} {row sub : List AV} (ho : nth st.hp r = some o) (hn : o.es.length = n) (hrow : o.es[i]? = some row) (hk : j + k ≤ row.length) (hv : Pw (View c st) ((row.drop j).take k) sub) (hns : NS row := by first | exact nsR rfl | exact nsM (fun _ => rfl)) : View c st (.ptr r n i j) (.rp sub 0) := by
  intro φ a w hc v hv0
  obtain ⟨b, cs, h1, h2, h3, h4, h5, h6, h7, h8, h9⟩ := JD hc ho hrow (Xs hv0 (by rw [(hc.hok.obj r o ho).len, hn]))
  obtain ⟨b', hb', hx⟩ := JM hv0 (by rw [h2, hn])
  rw [h1] at hb'; cases hb'
  rw [hx, h3]
  have hl := hv.len
  have hlen : sub.length = k := by rw [← hl]; simp; omega
  have := RelD.rp (P := c.P) (w := w) (M := c.A) sub b (i * row.length + j) 0 (fun q => cs.getD (i * row.length + (j + q)) undef) (Array.getElem?_eq_some_iff.1 h4).1 (hc.hok.owned r o b ho (.inl h1)).2
    (fun q hq => by
      rw [Nat.add_assoc, ZL h4]
      have := h8 (j + q) (by omega)
      simp [this]) (fun q hq => by
      have g1 := hv.get q (by rw [hl]; exact hq) φ a w hc (cs.getD (i * row.length + (j + q)) undef)
      have e1 : ((row.drop j).take k).getD q .any = row.getD (j + q) .any := by
        simp [List.getD_eq_getElem?_getD, List.getElem?_drop, show q < k by omega]
      rw [e1] at g1
      exact g1 (h9 (j + q) (by omega) (hns.getD' _)))
  simpa using this
end view

section ops
variable {c : Ctx} {ops : Array Oper} {st : St} {dst : Option Tmp} {ty : TypeId} {pos : String} {after : Array Edge} {α : Type} {f : α → List AV} {e : TypeId} {xs : List α} {r n : Nat}
theorem Zb0 {x : Operand} {i j t : Nat} {u : α} {row : List AV} {v : AV} (h : Opv c st x (.ptr r n i j)) (ho : nth st.hp r = some ⟨e, (xs.map f).set i row⟩) (hn : xs.length = n) (hx : xs[i]? = some u)
    (ht : tScal c.P t = true) (hv : row[j]? = some v) (hns : noSub v = true := by rfl) : SVal c ops st ⟨dst, .load t x, ty, pos, after, none⟩ v :=
  ZV h ho (by simpa using hn) (by have := (List.getElem?_eq_some_iff.1 hx).1; simp [this]) ht hv hns
theorem ZlQ {x : Operand} {i j t sz : Nat} {u : α} {row l : List AV} (h : Opv c st x (.ptr r n i j)) (ho : nth st.hp r = some ⟨e, (xs.map f).set i row⟩) (hn : xs.length = n) (hx : xs[i]? = some u)
    (ht : tAgg c.P t sz = true) (hl : (row.drop j).take sz = l) (hlen : l.length = sz) (hns : NS l := by first | exact nsR rfl | exact nsM (fun _ => rfl)) : SVal c ops st ⟨dst, .load t x, ty, pos, after, none⟩ (.agg l) :=
  QS h ho (by simpa using hn) (by have := (List.getElem?_eq_some_iff.1 hx).1; simp [this]) ht hl hlen hns
theorem Zj0 {x y : Operand} {t sz by_ i : Nat} {k : IntKind} {z : Int} {u : α} {row : List AV} (h : Opv c st x (.own r n)) (hy : Opv c st y (.int k z)) (ht : tSl c.P t e sz by_ = true)
    (ho : nth st.hp r = some ⟨e, (xs.map f).set i row⟩) (hn : xs.length = n) (hx : idx xs z = some u) : SVal c ops st ⟨dst, .indexAddr t x y, ty, pos, after, none⟩ (.ptr r n z.toNat 0) := by
  obtain ⟨h1, h2⟩ := ZB hx
  obtain ⟨_, _, _, _, _, _, _, _, _, hcs⟩ := tSl.spec ht
  exact ZnH h hy ht ho (by simpa using hn) hcs h1 (by have := (List.getElem?_eq_some_iff.1 h2).1; omega)
theorem ZhV {x : Operand} {i i' j s f' off : Nat} {row : List AV} (h : Opv c st x (.ptr r n i' j)) (ho : nth st.hp r = some ⟨e, (xs.map f).set i row⟩) (hn : xs.length = n) (ht : tFld c.P s f' off = true) :
    SVal c ops st ⟨dst, .fieldAddr s x f', ty, pos, after, none⟩ (.ptr r n i' (j + off)) := Zr h ho (by simpa using hn) ht
inductive ElemsO (c : Ctx) (st : St) (sz : Nat) : List (Nat × Operand) → Nat → List (List AV) → Prop
  | nil {k : Nat} : ElemsO c st sz [] k []
  | cons {k : Nat} {x : Operand} {l : List AV} {ps : List (Nat × Operand)} {ls : List (List AV)} : CellV c st x l → l.length = sz → ElemsO c st sz ps (k + 1) ls → ElemsO c st sz ((k, x) :: ps) k (l :: ls)
theorem ElemsO.spec {sz : Nat} {ps : List (Nat × Operand)} {k : Nat} {ls : List (List AV)} (h : ElemsO c st sz ps k ls) {φ : Phi} {a : Act} {w : World} (hc : Conc c φ st a w) :
    ps.length = ls.length ∧ (∀ row ∈ ls, row.length = sz) ∧ (∀ q, q < ps.length → ((ps.map fun p => (p.1, a.eval p.2)).getD q (0, undef)).1 = k + q) ∧ (∀ p ∈ ps.map (fun p => (p.1, a.eval p.2)), p.2.cells.size = sz) ∧
      ∀ q j, q < ps.length → j < sz → RelF c.P w (Mut c.A φ st.hp) st.hp.length φ (cellAt ls q j) ((((ps.map fun p => (p.1, a.eval p.2)).getD q (0, undef)).2.cells).getD j undef) := by
  induction h with
  | nil => exact ⟨rfl, by simp, (fun q hq => by cases hq), by simp, (fun q j hq => by cases hq)⟩
  | @cons k x l ps ls hx hl _ ih =>
    obtain ⟨h1, h2, h3, h4, h5⟩ := ih
    obtain ⟨c1, c2⟩ := hx φ a w hc
    refine ⟨by simp [h1], ?_, fun q hq => ?_, ?_, fun q j hq hj => ?_⟩
    · intro row hrow
      rcases List.mem_cons.1 hrow with rfl | hrow
      · exact hl
      · exact h2 row hrow
    · cases q with
      | zero => simp
      | succ q =>
        have := h3 q (by simpa using hq)
        simp at this ⊢
        omega
    · intro p hp
      rcases List.mem_cons.1 hp with rfl | hp
      · exact c1.trans hl
      · exact h4 p hp
    · cases q with
      | zero =>
        have := c2 j (by omega)
        simpa [cellAt] using this
      | succ q =>
        have := h5 q j (by simpa using hq) hj
        simpa [cellAt] using this
theorem ZjX {t sz by_ n r : Nat} {ps : List (Nat × Operand)} {ls : List (List AV)} (hr : st.hp.length = r) (ht : tSl c.P t e sz by_ = true) (hp : ElemsO c st sz ps 0 ls) (hn : ps.length = n) (hbig : Nat.ble (n * sz) (2 ^ 24) = true) :
    WVal c ops st ⟨dst, .buildSlice t n ps.toArray, ty, pos, after, none⟩ (.own r n) (st.hp ++ [some ⟨e, ls⟩]) := by
  subst hr
  obtain ⟨hu, inf, z, hi, hs, hby, hn0, hz, hzs, hcs⟩ := tSl.spec ht
  refine .run rfl fun φ a w hc => ?_
  obtain ⟨h1, h2, h3, h4, h5⟩ := hp.spec hc
  have hbig : n * sz ≤ 2 ^ 24 := by simpa using hbig
  have hps : (ps.map fun p => (p.1, a.eval p.2)).length = n := by simpa using hn
  obtain ⟨cs', g1, g2, _, g4⟩ := ZeB (size := sz) (ps.map fun p => (p.1, a.eval p.2)) 0 ((Array.range (n * sz)).map (z.cells[· % z.cells.size]!)) (fun q hq => by have := h3 q (by simpa using hq); simpa using this) h4 (by simp [hn])
  have hsz : cs'.size = n * sz := by rw [g2]; simp
  have hzero : n * sz ≠ 0 → (zeroValue e).run c.P w = .ok z w := fun _ => by simp [zeroValue, typeInfo, hi, hz]
  have hll : ls.length = n := by rw [← h1, hn]
  have hle : n ≤ n * sz := Nat.le_mul_of_pos_right n hn0
  obtain ⟨k1, k2⟩ := Zfz (o := ⟨e, ls⟩) (cs := cs') (cap := n) hc.hok (by simp [hsz, hcs]) (by omega) (by simp only [hll]; exact Nat.le_refl _) (by simpa [hcs] using h2) (fun i j hi' hj' => by
    simp only [hcs] at hj' ⊢
    have e2 := g4 i j (by rw [hps]; simp only [hll] at hi'; exact hi') hj'
    rw [Nat.zero_add] at e2
    rw [e2]
    exact (h5 i j (by rw [hn]; simp only [hll] at hi'; exact hi') hj'))
  refine ⟨.slice (some ⟨w.heap.size, 0, none⟩) n n, _, _, ?_, k1, k2, fun φ' hφ => ?_⟩
  · have e1 : (ps.toArray.map fun (p : Nat × Operand) => (p.1, a.eval p.2)) = (ps.map fun p => (p.1, a.eval p.2)).toArray := by simp
    have hsize : (sizeOf e).run c.P w = .ok sz w := by simp [sizeOf, typeInfo, hi, hs]
    have hfill : ∀ zero : Array Value, (if n * sz = 0 then zero = #[] else zero = z.cells) → Instr.fill (fun i => some (i * sz, sz)) ((Array.range (n * sz)).map (zero[· % zero.size]!)) (ps.map fun p => (p.1, a.eval p.2)) = some cs' := by
      intro zero hzr
      by_cases h0 : n * sz = 0
      · rw [if_pos h0] at hzr
        rw [← g1]
        congr 1
        simp [h0]
      · rw [if_neg h0] at hzr
        rw [hzr]; exact g1
    have key : (Instr.buildSlice t n (ps.map fun p => (p.1, a.eval p.2)).toArray).run c.P w = .ok (.slice (some ⟨w.heap.size, 0, none⟩) n n) (w.alloc (.cells cs' e)) := by
      unfold Instr.buildSlice
      rw [Sem.run_bind, run_underlying hu]
      simp only [Result.andThen_ok]
      rw [Sem.run_bind, hsize]
      simp only [Result.andThen_ok]
      rw [if_neg (by omega)]
      by_cases h0 : n * sz = 0
      · have := hfill #[] (by rw [if_pos h0])
        simp [h0] at this ⊢
        simp [this, newRow]
      · have := hfill z.cells (by rw [if_neg h0])
        simp [h0, hzero h0, this, newRow]
    show ((do pure (Next.value (← Instr.buildSlice t n (ps.toArray.map fun (p : Nat × Operand) => (p.1, a.eval p.2)))) : Sem Next)).run c.P w = _
    rw [e1, Sem.run_bind, key]
    rfl
  · have e1 : φ' st.hp.length = ⟨some w.heap.size, n, ls.length, c.P.cellsOf e, false, fun _ => False⟩ := by
      have := hφ st.hp.length (by simp)
      simpa using this
    exact .own _ n _ rfl (by rw [e1]; simp only [hll]; exact Nat.le_refl _) fun _ => by rw [e1]; exact ⟨rfl, rfl⟩
theorem ZfG {x y : Operand} {t sz by_ s : Nat} {row : List AV} {x' : α} {zs : List α} (h : Opv c st x (.own r n)) (hy : SlV c st y sz [row]) (ht : tSl c.P t e sz by_ = true) (ho : nth st.hp r = some ⟨e, xs.map f⟩) (hn : xs.length = n)
    (h1 : ∀ u ∈ row, Zd7 c st u) (hby : Nat.ble by_ s = true) (hz : apz s xs [x'] = some zs) :
    WVal c ops st ⟨dst, .call { callee := .builtin .append, args := #[x, y], argTypes := #[t, t] }, ty, pos, after, none⟩ (.own r zs.length) (QP st.hp r (some ⟨e, (zs.map f).set xs.length row⟩)) := by
  unfold apz at hz
  split at hz
  · rename_i hle
    cases hz
    simp only [List.length_singleton] at hle
    have hby := Nat.le_of_ble_eq_true hby
    have hle2 : n + 1 ≤ 140737488355328 / s := hn ▸ hle
    have hmul : (n + 1) * by_ ≤ 140737488355328 := Zhf hle2 hby
    have := Zi3 (c := c) (ops := ops) (dst := dst) (ty := ty) (pos := pos) (after := after) (m := 1) h hy ht ho (by simpa using hn) rfl rfl (by omega) (fun q hq u hu => by cases List.mem_singleton.1 hq; exact h1 u hu) hmul (Zhi hle2)
    have e1 : ((xs ++ [x']).map f).set xs.length row = xs.map f ++ [row] := by
      rw [List.map_append, List.set_append, if_neg (by simp)]; simp
    rw [e1]
    rw [show (xs ++ [x']).length = n + 1 by simp [hn]]
    exact this
  · cases hz
end ops

def ZnN : AV → Bool
  | .own _ _ | .ptr _ _ _ _ | .mref _ _ => true
  | av => flB av
def Zpv : AV → Bool
  | .agg l => l.all ZnN
  | av => ZnN av
def FreC (P : Program) (av : AV) : Prop := DeepC P av ∨ Zpv av = true
inductive FreOs (P : Program) : List (Option Own) → Prop
  | nil : FreOs P []
  | none {tl : List (Option Own)} : FreOs P tl → FreOs P (none :: tl)
  | cons {o : Own} {tl : List (Option Own)} : (∀ i j, i < o.es.length → j < P.cellsOf o.elem → FreC P (cellAt o.es i j)) → FreOs P tl → FreOs P (some o :: tl)
theorem FreOs.get {P : Program} {os : List (Option Own)} (h : FreOs P os) : ∀ i o, nth os i = some o → ∀ i' j, i' < o.es.length → j < P.cellsOf o.elem → FreC P (cellAt o.es i' j) := by
  induction h with
  | nil => intro i o h; cases h
  | none _ ih =>
    intro i o h
    cases i with
    | zero => cases h
    | succ i => exact ih i o h
  | cons h1 _ ih =>
    intro i o h
    cases i with
    | zero => cases h; exact h1
    | succ i => exact ih i o h
section callV
variable {c : Ctx} {ops : Array Oper} {st : St} {dst : Option Tmp} {ty : TypeId} {pos : String} {after : Array Edge}
end callV
end Go.Vx

namespace Go.Vx
open Go Go.RowKit
section
variable {c : Ctx} {ops : Array Oper} {st : St} {dst : Option Tmp} {ty : TypeId} {pos : String} {after : Array Edge} {α : Type} {f : α → List AV}
theorem Zln {P : Program} {w : World} {M : Nat → Prop} {m : Nat} {φ : Phi} {e : TypeId} {l : List (List AV)} {v : Value} (h : RelF P w M m φ (.slf e l) v) : RelD P w M (.sl e l) v ∧ ∃ a n, v = .slice a n n := by
  have := h φ (fun _ _ => rfl)
  cases this with | data h => cases h with | slf _ _ _ h hc => exact ⟨h, hc⟩
theorem ZkP {t e n by_ : Nat} {x y y2 : Operand} {k k2 : IntKind} {xs ys : List α} {q : Int} (h : Opv c st x (.sl e (xs.map f))) (ht : tSl c.P t e n by_ = true)
    (hy : Opv c st y (.int k q)) (hy2 : Opv c st y2 (.int k2 q)) (hz : slc xs 0 q = some ys) : SVal c ops st ⟨dst, .slice t x none (some y) (some y2), ty, pos, after, none⟩ (.slf e (ys.map f)) :=
  .pure rfl fun φ a w hc => by
    unfold slc at hz
    split at hz
    · rename_i hb
      cases hz
      obtain ⟨h0, h1, h2⟩ := hb
      obtain ⟨hu, inf, z, hi', hs, hby, hn0, hz, hzs, hcs⟩ := tSl.spec ht
      have hr := ZeA (h φ a w hc)
      have hyv := hy.int hc
      have hyv2 := hy2.int hc
      generalize hx : a.eval x = ax at hr
      have hsz : (sizeOf e).run c.P w = .ok n w := by simp [sizeOf, typeInfo, hi', hs]
      have run : ∀ (ad : Option Addr) (cap : Nat), xs.length ≤ cap → ax = .slice ad xs.length cap → (execOp a.eval ⟨dst, .slice t x none (some y) (some y2), ty, pos, after, none⟩).run c.P w = .ok (.value (.slice ad q.toNat q.toNat)) w := by
        intro ad cap hcap hax
        have b1 : (Instr.sliceBounds true xs.length cap none (some (a.eval y)) (some (a.eval y2))).run c.P w = .ok (0, q.toNat, q.toNat) w := by
          have c1 := fun code => ZfZ (P := c.P) (w := w) (k := k2) (y := cap) (code := code) h1 (by omega)
          have c2 := fun code => ZfZ (P := c.P) (w := w) (k := k) (y := q.toNat) (code := code) h1 (by omega)
          rw [hyv, hyv2]
          simp [Instr.sliceBounds, c1, c2]
        show ((do pure (Next.value (← Instr.sliceAt t (a.eval x) none (some (a.eval y)) (some (a.eval y2)))) : Sem Next)).run c.P w = _
        rw [hx, hax, Sem.run_bind]
        have e1 : (if q.toNat = 0 then ad else ad.map (·.add (0 * n))) = ad := by
          split
          · rfl
          · cases ad with
            | none => rfl
            | some b => simp [Addr.add]
        have e : (Instr.sliceAt t (.slice ad xs.length cap) none (some (a.eval y)) (some (a.eval y2))).run c.P w = .ok (.slice ad q.toNat q.toNat) w := by
          unfold Instr.sliceAt
          rw [Sem.run_bind, run_underlying hu]
          simp only [Result.andThen_ok]
          unfold Instr.slice
          rw [Sem.run_bind, run_underlying hu]
          simp only [Result.andThen_ok]
          rw [Sem.run_bind, b1]
          simp only [Result.andThen_ok]
          rw [Sem.run_bind, hsz]
          simp only [Result.andThen_ok, Nat.sub_zero]
          rw [e1]
          rfl
        rw [e]
        rfl
      have hlen : (xs.take q.toNat).length = q.toNat := by simp; omega
      generalize hL : xs.map f = L at hr
      cases hr with
      | sl0 _ ad cp =>
        have hx0 : xs = [] := by simpa using hL
        subst hx0
        simp only [List.length_nil] at h2
        have hq : q.toNat = 0 := by omega
        refine ⟨_, run ad cp (Nat.zero_le _) rfl, Zp ?_⟩
        rw [hq]
        exact .slf _ _ _ (.sl0 _ _ _) ⟨_, _, rfl⟩
      | sl _ _ b off cp us g0 g1 g2 g2' g3 g4 g5 =>
        subst hL
        simp only [List.length_map] at g2' run g2 g4 g5
        refine ⟨_, run (some ⟨b, off, none⟩) cp g2' (by simp), Zp ?_⟩
        refine .slf _ _ _ ?_ ⟨_, _, rfl⟩
        have hcell : ∀ i j, i < q.toNat → cellAt ((xs.take q.toNat).map f) i j = cellAt (xs.map f) i j := fun i j hi => by
          unfold cellAt
          simp only [List.getD_eq_getElem?_getD, List.getElem?_map, List.getElem?_take, if_pos hi]
        have hL2 : ((xs.take q.toNat).map f).length = q.toNat := by rw [List.length_map]; exact hlen
        have := RelD.sl (P := c.P) (w := w) (M := Mut c.A φ st.hp) e ((xs.take q.toNat).map f) b off q.toNat us g0 g1 (by omega) (by omega)
          (fun row hr => by
            obtain ⟨z', hz', rfl⟩ := List.mem_map.1 hr
            exact g3 _ (List.mem_map_of_mem (List.mem_of_mem_take hz')))
          (fun i j hi hj => g4 i j (by omega) hj) (fun i j hi hj => by
            rw [hcell i j (by omega)]; exact g5 i j (by omega) hj)
        rw [hL2] at this
        simpa using this
    · cases hz
end
end Go.Vx

namespace Go.Vx
open Go Go.RowKit
theorem X7 {α : Type} {xs : List α} {z : Int} {x y : α} (h : idx xs z = some x) : idx (xs.set z.toNat y) z = some y := by
  obtain ⟨h1, h2⟩ := ZB h
  have hl := (List.getElem?_eq_some_iff.1 h2).1
  unfold idx at h ⊢
  split at h
  · rename_i h0
    rw [if_pos h0, List.getElem?_set_self hl]
  · cases h
theorem Zqa {q : Rw} {r r' n n' j k : Nat} (h : n = n') (hr : q.R r r') : RenR q (.osl r n j k) (.osl r' n' j k) := h ▸ .osl n j k hr
theorem QZ {c : Ctx} {code : Code} {st : St} {K : Exit → St → Prop} (hp : List (Option Own)) (h : st.hp = hp) (k : T c code ⟨st.tm, hp⟩ K) : T c code st K := by
  subst h; exact k
theorem Zd4 {c : Ctx} {ops : Array Oper} {rest : List Oper} {st : St} {K : Exit → St → Prop} (hp : List (Option Own)) (h : st.hp = hp) (k : R c ops rest ⟨st.tm, hp⟩ K) : R c ops rest st K := by
  subst h; exact k
theorem XV {σ ρ : Type} {body : σ → Option (σ ⊕ ρ)} (I : σ → Prop) (Q : ρ → Prop) (h1 : ∀ s s', I s → body s = some (.inl s') → I s') (h2 : ∀ s r, I s → body s = some (.inr r) → Q r) {s : σ} {r : ρ} (hs : I s) (h : loop body s = some r) : Q r := by
  obtain ⟨n, hn⟩ := ZbT h
  induction n generalizing s with
  | zero => cases hn
  | succ n ih =>
    simp only [Zat] at hn
    cases hb : body s with
    | none => rw [hb] at hn; cases hn
    | some o =>
      rw [hb] at hn
      cases o with
      | inl s' =>
        have hn' : Zat body n s' = some r := hn
        exact ih (h1 s s' hs hb) (Zdw hn') hn'
      | inr r' => cases hn; exact h2 s _ hs hb
section t9
variable {α β γ δ ε ζ η θ μ ι κ ρ : Type}
def t9 (f : α → β → γ → δ → ε → ζ → η → θ → μ → ι) (p : α × β × γ × δ × ε × ζ × η × θ × μ) : ι := f p.1 p.2.1 p.2.2.1 p.2.2.2.1 p.2.2.2.2.1 p.2.2.2.2.2.1 p.2.2.2.2.2.2.1 p.2.2.2.2.2.2.2.1 p.2.2.2.2.2.2.2.2
@[simp] theorem Zqh (f : α → β → γ → δ → ε → ζ → η → θ → μ → ι) (a : α) (b : β) (c : γ) (d : δ) (e : ε) (g : ζ) (h : η) (i : θ) (j : μ) : t9 f (a, b, c, d, e, g, h, i, j) = f a b c d e g h i j := rfl
end t9
section
variable {c : Ctx} {ops : Array Oper} {st : St} {dst : Option Tmp} {ty : TypeId} {pos : String} {after : Array Edge} {α : Type} {f : α → List AV}
theorem ZlI {y : Operand} {t e sz by_ r n j len : Nat} {o : Own} (h : Opv c st y (.osl r n j len)) (ho : nth st.hp r = some o) (hn : o.es.length = n) (ht : tSl c.P t e sz by_ = true) :
    SVal c ops st ⟨dst, .call { callee := .builtin .len, args := #[y], argTypes := #[t] }, ty, pos, after, none⟩ (.int .i64 (len : Int)) :=
  .pure rfl fun φ a w hc => by
    have hO := hc.hok.obj r _ ho
    obtain ⟨b, j', cap, _, _, _, hx⟩ := Zg1 (h φ a w hc) (by rw [hO.len]; exact hn)
    obtain ⟨hu, _⟩ := tSl.spec ht
    refine ⟨.int .i64 (len : Int), ?_, Zp (.int _ _)⟩
    simp [execOp, resolve, invoke, builtin, hx, Builtin.len_, run_underlying hu, goInt]
theorem ZlP {x y : Operand} {t e by_ r n len : Nat} {k : IntKind} {p z : Int} {xs : List α} {u : α} {u' : Unit} (h : Opv c st x (.osl r n p.toNat len)) (hy : Opv c st y (.int k z)) (ht : tSl c.P t e 1 by_ = true)
    (ho : nth st.hp r = some ⟨e, xs.map f⟩) (hn : xs.length = n) (hp : 0 ≤ p) (hz : ck (decide (0 ≤ z) && decide (z < (len : Int))) = some u') (hx : idx xs (p + z) = some u) :
    SVal c ops st ⟨dst, .indexAddr t x y, ty, pos, after, none⟩ (.ptr r n (p + z).toNat 0) :=
  .pure rfl fun φ a w hc => by
    have hz' := Zkh hz
    simp only [Bool.and_eq_true, decide_eq_true_eq] at hz'
    obtain ⟨z1, z2⟩ := hz'
    obtain ⟨zn, rfl⟩ := Int.eq_ofNat_of_zero_le z1
    have hO := hc.hok.obj r _ ho
    have hnn : (φ r).n = n := by rw [hO.len]; simpa using hn
    obtain ⟨b, j', cap, hb, _, hj, hxx⟩ := Zg1 (h φ a w hc) hnn
    have hmp := Zjw (h φ a w hc) hnn
    have hj' := hj (by omega)
    subst hj'
    have e1 := hy.int hc
    obtain ⟨hu, i, zz, hi, hs, hby, hn0, _, _, hcs⟩ := tSl.spec ht
    refine ⟨.pointer (some ⟨b, p.toNat + zn * 1, none⟩), ?_, fun φ' hφ => ?_⟩
    · simp [execOp, hxx, e1, Instr.indexAt, asIntOf, run_underlying hu, sizeOf, typeInfo, hi, hs, ZaI]; intro h'; omega
    · have e : φ' r = φ r := hφ r (Xy ho)
      refine .ptr r n _ 0 _ rfl (by rw [e, hnn]; exact Nat.le_refl _) fun _ => ⟨by rw [e]; exact hmp, b, by rw [e]; exact hb, ?_⟩
      have hsz : (φ r).sz = 1 := by rw [hO.sz]; exact hcs
      rw [e, hsz]
      congr 3
      omega
theorem Zoj {rest : List Oper} {K : Exit → St → Prop} {x y : Operand} {t e sz by_ r n m tp p len : Nat} {o : Own} {ys : List (List AV)} (hd : dstLt dst c.nt = true) (h : Opv c st x (.own r n)) (hy : SlV c st y sz ys) (ht : tSl c.P t e sz by_ = true)
    (ho : nth st.hp r = some o) (hn : o.es.length = n) (he : o.elem = e) (hm : ys.length = m) (hpos : 0 < m) (h1 : ∀ row ∈ ys, ∀ u ∈ row, Zd7 c st u) (hb : (n + m) * by_ ≤ 140737488355328) (h63 : n + m < 2 ^ 63) (hns : ∀ row ∈ o.es, NS row)
    (htp : look st.tm tp = some (.osl r n p len))
    (hA : R c ops rest (St.puto ⟨(tp, .osl r (n + m) p len) :: st.tm, QP st.hp r (some ⟨e, o.es ++ ys⟩)⟩ dst (.own r (n + m))) K)
    (hB : R c ops rest (St.puto ⟨st.tm, st.hp ++ [some ⟨e, o.es ++ ys⟩]⟩ dst (.own st.hp.length (n + m))) K) :
    R c ops (⟨dst, .call { callee := .builtin .append, args := #[x, y], argTypes := #[t, t] }, ty, pos, after, none⟩ :: rest) st K := by
  subst he
  intro φ a w hc
  obtain ⟨hu, inf, z, hi, hs, hby, hn0, hz, hzs, hcs⟩ := tSl.spec ht
  have hO := hc.hok.obj r o ho
  have hnn : (φ r).n = n := by rw [hO.len, hn]
  have hx := JH (h φ a w hc) hnn
  obtain ⟨base, cap, hyv, _, hyr, hyc⟩ := hy φ a w hc
  have hyne : ys ≠ [] := fun e => by rw [e] at hm; simp at hm; omega
  obtain ⟨b, off, us, rfl, hc1, hc2⟩ := hyc hyne
  obtain ⟨news, hnl, hn1, hn2⟩ := ZgA hc hc1 hn0
  rw [hm] at hnl hyv
  have hone : ∀ u ∈ news, u.oneCell' = true := by
    intro u hu'
    obtain ⟨k, hk, rfl⟩ := List.getElem_of_mem hu'
    have hk' : k < ys.length * sz := by rw [hm]; omega
    have hdi : k / sz < ys.length := Nat.div_lt_of_lt_mul (by rw [Nat.mul_comm]; exact hk')
    have hmo : k % sz < sz := Nat.mod_lt _ hn0
    have e1 : k / sz * sz + k % sz = k := by rw [Nat.mul_comm]; exact Nat.div_add_mod k sz
    have e2 := hn2 (k / sz) (k % sz) hdi hmo
    rw [e1] at e2
    have e3 : news[k] = us (k / sz) (k % sz) := by rw [← e2]; simp [List.getD_eq_getElem?_getD, hk]
    rw [e3]
    have hrow : ys[k / sz] ∈ ys := List.getElem_mem hdi
    refine h1 _ hrow (cellAt ys (k / sz) (k % sz)) ?_ φ a w hc _ (hc2 _ _ hdi hmo)
    have hl := hyr _ hrow
    have : cellAt ys (k / sz) (k % sz) = ys[k / sz][k % sz]'(by omega) := by simp [cellAt, List.getD_eq_getElem?_getD, hdi, hl, hmo]
    rw [this]
    exact List.getElem_mem _
  have hmp := X3 (h φ a w hc) hnn
  have h2n : (o.es ++ ys).length = n + m := by simp [hn, hm]
  have hrl : r < st.hp.length := Xy ho
  have hml : n + m ≤ maxLen := by simp only [maxLen]; omega
  obtain ⟨g, jp, capp, hbk, hcapp, hjp, hxp⟩ := Zg1 (hc.tm tp _ htp) hnn
  obtain ⟨cs, h4, h5, T, tt1, tt2, h6⟩ := hO.some g hbk
  have h4 := h4.cells hmp
  rw [hcs] at h5
  have hroom := hO.room
  have hcap63 := hO.cap
  rw [hbk] at hx
  simp only [Option.map_some] at hx
  have hwant : Region.wanted ⟨dst, .call { callee := .builtin .append, args := #[x, y], argTypes := #[t, t] }, ty, pos, after, none⟩ (yielded ops a.tmps) = true := rfl
  unfold wpList
  rw [if_pos hwant]
  have hold : ∀ i j, i < n → j < sz → RelF c.P w (Mut c.A φ st.hp) st.hp.length φ (cellAt o.es i j) (cs.getD (i * sz + j) undef) := fun i j hi' hj' => by
    have := (h6 i j (by rw [hn]; exact hi') (by rw [hcs]; exact hj')).plain (ZjW hns i j)
    rwa [hcs] at this
  by_cases hfit : n + m ≤ (φ r).cap
  · have hbnd : n * sz + news.length ≤ cs.size := by
      rw [hnl, h5, ← Nat.add_mul]; exact Nat.mul_le_mul_right _ hfit
    have hr := run_append_room (P := c.P) w t ty o.elem inf hu hi g n (φ r).cap cs h4 ⟨b, off, none⟩ m cap news (by rw [hnl, hs]) hn1 hone hfit (by rw [hs]; exact hbnd)
    rw [hs] at hr
    have hL : ∃ L : Loc, L = ⟨some g, (φ r).cap, n + m, sz, false, (φ r).sub⟩ := ⟨_, rfl⟩
    obtain ⟨L, hLe⟩ := hL
    have hgsub : ¬ (φ r).sub g := hO.subn g hbk
    have hupd := ZcO (L := L) (o' := ⟨o.elem, o.es ++ ys⟩) (w' := w.setRow g (cs.toList.take (n * sz) ++ news ++ cs.toList.drop (n * sz + news.length)).toArray) hc.hok ho rfl rfl rfl (by simp)
      (fun b' _ hne => setRow_other w g b' _ (fun e => hne (by rw [hbk, e]))) (.inl (by rw [hLe, hbk])) (.inr (by rw [hLe]; show (φ r).n < n + m; omega)) (fun htr => by
      refine ⟨by simp only [if_true, hLe, h2n], by simp [hLe, hcs], ?_, by simp [hLe, hn, hm]; exact hfit, by simp [hLe]; exact hcap63, (fun h => by simp [hLe] at h), (by simp only [if_true, hLe]; exact fun b hb => Nat.lt_of_lt_of_le (hO.subl b hb) (by simp)), (by simp only [if_true, hLe]; rintro b hb; cases hb; exact hgsub), fun b' hb' => ?_⟩
      · intro row hrow
        rcases List.mem_append.1 hrow with hrow | hrow
        · exact hO.rows row hrow
        · rw [hcs]; exact hyr row hrow
      · simp only [if_true, hLe] at hb'
        cases hb'
        refine ⟨_, (by simp only [if_true, hLe]; exact setRow_heap w g cs _ o.elem _ h4), by simp [hLe, hcs]; omega, fun _ _ _ => False, (fun _ _ _ h => h.elim), (fun _ _ _ _ _ h => h.elim), fun i j hi' hj' => ?_⟩
        simp only [hcs] at hj' ⊢
        by_cases hin : i < n
        · rw [Jv (by rw [hn]; exact hin)]
          have e3 : i * sz + j < n * sz := Zav hin hj'
          rw [Zaq cs news _ _ hbnd, if_pos e3]
          exact .leaf (htr _ _ (hold i j hin hj'))
        · rw [Jg (by rw [hn]; omega), hn]
          have hlt : i - n < m := by simp [hn, hm] at hi'; omega
          have h7 : (i - n) * sz + j < news.length := by rw [hnl]; exact Zav hlt hj'
          have e9 : i * sz + j = n * sz + ((i - n) * sz + j) := by rw [← Nat.add_assoc, ← Nat.add_mul, show n + (i - n) = i by omega]
          rw [e9, Zaq cs news _ _ hbnd, if_neg (by omega), if_pos (by omega), show n * sz + ((i - n) * sz + j) - n * sz = (i - n) * sz + j by omega, hn2 (i - n) j (by rw [hm]; exact hlt) hj']
          exact .leaf (htr _ _ (hc2 (i - n) j (by rw [hm]; exact hlt) hj'))) (by rw [hLe])
    obtain ⟨g1, g2⟩ := hupd
    refine .inl ?_
    have hrun : (execOp a.eval ⟨dst, .call { callee := .builtin .append, args := #[x, y], argTypes := #[t, t] }, ty, pos, after, none⟩).run c.P w = .ok (.value (.slice (some ⟨g, 0, none⟩) (n + m) (φ r).cap)) (w.setRow g (cs.toList.take (n * sz) ++ news ++ cs.toList.drop (n * sz + news.length)).toArray) := by
      simp [execOp, resolve, invoke, builtin, hx, hyv, hr]
    unfold Oper.wp
    rw [hrun, Oper.upon_value]
    have hlen : (QP st.hp r (some ⟨o.elem, o.es ++ ys⟩)).length = st.hp.length := Zae ..
    have eL : ∀ φ', ZdZ (QP st.hp r (some ⟨o.elem, o.es ++ ys⟩)).length (fun x => if x = r then L else φ x) φ' → φ' r = L := fun φ' hφ => by
      have := hφ r (by rw [hlen]; exact hrl)
      simpa using this
    refine hA _ _ _ (Conc.puto (st := ⟨(tp, .osl r (n + m) p len) :: st.tm, QP st.hp r (some ⟨o.elem, o.es ++ ys⟩)⟩) ⟨hc.size, hc.defers, g1, fun t' av ht' => ?_⟩ hd fun φ' hφ => ?_)
    · show RelF _ _ _ _ _ _ _
      unfold look at ht'
      cases hb' : Nat.beq tp t' with
      | true =>
        rw [hb'] at ht'
        cases ht'
        obtain rfl : tp = t' := Nat.eq_of_beq_eq_true hb'
        rw [hxp]
        refine fun φ' hφ => ?_
        have e := eL φ' hφ
        exact .osl r (n + m) p len _ rfl (by rw [e, hLe]; exact Nat.le_refl _) fun _ => by rw [e, hLe]; exact ⟨rfl, g, jp, capp, rfl, hcapp, hjp, rfl⟩
      | false =>
        rw [hb'] at ht'
        exact g2 _ _ (hc.tm t' av ht')
    · have e := eL φ' hφ
      exact .own r (n + m) _ rfl (by rw [e, hLe]; exact Nat.le_refl _) fun _ => by rw [e, hLe]; exact ⟨rfl, rfl⟩
  · obtain ⟨olds, holdl, holds, holdv⟩ : ∃ olds : List Value, olds.length = n * sz ∧ (∀ j u, olds[j]? = some u → w.cell? ((⟨g, 0, none⟩ : Addr).add j) = some u) ∧ (∀ k, k < n * sz → olds.getD k undef = cs.getD k undef) := by
      refine ⟨cs.toList.take (n * sz), ?_, fun j u hu' => ?_, fun k hk => ?_⟩
      · have : n * sz ≤ cs.size := by rw [h5]; exact Nat.mul_le_mul_right _ (by omega)
        simp; omega
      · rw [ZaI, Nat.zero_add, ZL h4]
        rw [List.getElem?_take] at hu'
        split at hu'
        · simpa using hu'
        · cases hu'
      · rw [List.getD_eq_getElem?_getD, List.getElem?_take, if_pos hk]
        simp [Array.getD_eq_getD_getElem?]
    have hr := run_append_grow (P := c.P) w t ty o.elem inf z hu hi hz ⟨g, 0, none⟩ n (φ r).cap olds (by rw [holdl, hs]) holds ⟨b, off, none⟩ m cap news (by rw [hnl, hs]) hn1 (by omega) (by omega) (growslice_fits (by omega) (by rw [hby]; exact hb))
    have hBl : Below w.heap.size w w.drew := ⟨rfl, rfl, rfl, Nat.le_refl _, fun _ _ => rfl⟩
    have hcapB : grownCap w (n + m) (φ r).cap o.elem < 2 ^ 63 := by have := grownCap_le_maxLen w (n + m) (φ r).cap o.elem hml; simp only [maxLen] at this; omega
    have hge := grownCap_ge w (n + m) (φ r).cap o.elem
    obtain ⟨g1, g2⟩ := Zfz (o := ⟨o.elem, o.es ++ ys⟩) (cs := olds.toArray ++ news.toArray ++ Builtin.zeroCells z.cells (grownCap w (n + m) (φ r).cap o.elem - (n + m))) (cap := grownCap w (n + m) (φ r).cap o.elem) (hc.hok.below hBl)
      (by
        simp only [hcs]
        rw [Array.size_append, Array.size_append, List.size_toArray, List.size_toArray, size_zeroCells, hzs, hnl, holdl, ← Nat.add_mul, ← Nat.add_mul, Nat.add_sub_cancel' hge]) hcapB (by simp only [h2n]; exact hge) (fun row hrow => by
        rcases List.mem_append.1 hrow with hrow | hrow
        · exact hO.rows row hrow
        · simp only [hcs]; exact hyr row hrow) (fun i j hi' hj' => by
        simp only [hcs] at hj' ⊢
        simp only [h2n] at hi'
        refine RelF.below ?_ hBl
        by_cases hin : i < n
        · have h8 : i * sz + j < n * sz := Zav hin hj'
          rw [Zea, holdl, if_pos h8, holdv _ h8, Jv (by rw [hn]; exact hin)]
          exact hold i j hin hj'
        · have hlt : i - n < m := by omega
          have h7 : (i - n) * sz + j < news.length := by rw [hnl]; exact Zav hlt hj'
          have e9 : i * sz + j = n * sz + ((i - n) * sz + j) := by rw [← Nat.add_assoc, ← Nat.add_mul, show n + (i - n) = i by omega]
          rw [e9, Zea, holdl, if_neg (by omega), if_pos (by omega), show n * sz + ((i - n) * sz + j) - n * sz = (i - n) * sz + j by omega, hn2 (i - n) j (by rw [hm]; exact hlt) hj', Jg (by rw [hn]; omega), hn]
          exact hc2 (i - n) j (by rw [hm]; exact hlt) hj')
    refine .inl ?_
    have hrun : (execOp a.eval ⟨dst, .call { callee := .builtin .append, args := #[x, y], argTypes := #[t, t] }, ty, pos, after, none⟩).run c.P w = .ok (.value (.slice (some ⟨w.heap.size, 0, none⟩) (n + m) (grownCap w (n + m) (φ r).cap o.elem))) (w.drew.alloc (.cells (olds.toArray ++ news.toArray ++ Builtin.zeroCells z.cells (grownCap w (n + m) (φ r).cap o.elem - (n + m))) o.elem)) := by
      simp [execOp, resolve, invoke, builtin, hx, hyv, hr]
    unfold Oper.wp
    rw [hrun, Oper.upon_value]
    refine hB _ _ _ (Conc.puto (st := ⟨st.tm, st.hp ++ [some ⟨o.elem, o.es ++ ys⟩]⟩) ⟨hc.size, hc.defers, g1, fun t' av ht' => g2 _ _ ((hc.tm t' av ht').below hBl)⟩ hd fun φ' hφ => ?_)
    have e := hφ st.hp.length (by simp)
    simp only [if_true] at e
    exact .own _ (n + m) _ rfl (by rw [e, h2n]; exact Nat.le_refl _) fun _ => by rw [e]; exact ⟨rfl, rfl⟩
theorem ZmP {rest : List Oper} {K : Exit → St → Prop} {x y : Operand} {t e sz by_ r n tp p len s : Nat} {xs ys zs : List α} (hd : dstLt dst c.nt = true) (h : Opv c st x (.own r n)) (hy : SlV c st y sz (ys.map f)) (ht : tSl c.P t e sz by_ = true)
    (ho : nth st.hp r = some ⟨e, xs.map f⟩) (hn : xs.length = n) (hpos : Nat.blt 0 ys.length = true) (h1 : ∀ u, ∀ q ∈ f u, Zd7 c st q) (hby : Nat.ble by_ s = true) (hns : ∀ u, NS (f u)) (hz : apz s xs ys = some zs)
    (htp : look st.tm tp = some (.osl r n p len))
    (hA : R c ops rest (St.puto ⟨(tp, .osl r zs.length p len) :: st.tm, QP st.hp r (some ⟨e, zs.map f⟩)⟩ dst (.own r zs.length)) K)
    (hB : R c ops rest (St.puto ⟨st.tm, st.hp ++ [some ⟨e, zs.map f⟩]⟩ dst (.own st.hp.length zs.length)) K) :
    R c ops (⟨dst, .call { callee := .builtin .append, args := #[x, y], argTypes := #[t, t] }, ty, pos, after, none⟩ :: rest) st K := by
  unfold apz at hz
  split at hz
  case isFalse => cases hz
  rename_i hle
  cases hz
  have hby := Nat.le_of_ble_eq_true hby
  have hpos : 0 < ys.length := by simpa using hpos
  have hle2 : n + ys.length ≤ 140737488355328 / s := hn ▸ hle
  have hmul : (n + ys.length) * by_ ≤ 140737488355328 := Zhf hle2 hby
  have el : (xs ++ ys).length = n + ys.length := by rw [List.length_append, hn]
  have em : (xs ++ ys).map f = xs.map f ++ ys.map f := List.map_append ..
  rw [el, em] at hA hB
  exact Zoj (m := ys.length) hd h hy ht ho (by simpa using hn) rfl (by simp) hpos (fun row hr q hq => by
    obtain ⟨u, _, rfl⟩ := List.mem_map.1 hr
    exact h1 u q hq) hmul (Zhi hle2) (fun row hr => by
    obtain ⟨u, _, rfl⟩ := List.mem_map.1 hr
    exact hns u) htp hA hB
theorem ZkB {xs ys : List α} {z : Int} {x : α} (hp : ∃ tl, ys = xs ++ tl) (h : idx xs z = some x) : idx ys z = some x := by
  obtain ⟨tl, rfl⟩ := hp
  obtain ⟨h1, h2⟩ := ZB h
  have hl := (List.getElem?_eq_some_iff.1 h2).1
  unfold idx at h ⊢
  split at h
  · rename_i h0
    rw [if_pos h0, List.getElem?_append_left hl]; exact h2
  · cases h
theorem Znu {s : Nat} {xs ys zs ws : List α} (hp : ∃ tl, ys = xs ++ tl) (h : apz s ys zs = some ws) : ∃ tl, ws = xs ++ tl := by
  obtain ⟨tl, rfl⟩ := hp
  unfold apz at h
  split at h
  · cases h; exact ⟨tl ++ zs, by rw [List.append_assoc]⟩
  · cases h
theorem ZlX {xs : List α} : ∃ tl, xs = xs ++ tl := ⟨[], (List.append_nil _).symm⟩
theorem Zm6 {τ σ ρ : Type} {code : Code} {K : Exit → St → Prop} (body : σ → Option (σ ⊕ ρ)) (I : τ → σ → St) (C : τ → σ → Prop) (b0 : τ) (s0 : σ) {r : ρ} (h : loop body s0 = some r) (hC0 : C b0 s0) (h0 : Ent c st (I b0 s0))
    (hr : ∀ b n s, C b s → (body s).bind (Sum.elim (Zat body n) some) = some r → T c code (I b s) (Zc6 (fun st' => ∃ b' s', C b' s' ∧ Zat body n s' = some r ∧ Ent c st' (I b' s')) K)) : T c (.loop code) st K := by
  obtain ⟨N, hN⟩ := ZbT h
  refine Zlr (ι := τ × Nat × σ) (fun p => C p.1 p.2.2 ∧ Zat body p.2.1 p.2.2 = some r) (fun p => I p.1 p.2.2) (fun p => p.2.1) (b0, N, s0) ⟨hC0, hN⟩ h0 ?_
  rintro ⟨b, n, s⟩ ⟨hCs, hC⟩
  cases n with
  | zero => cases hC
  | succ n =>
    refine ZjZ (hr b n s hCs hC) ?_
    intro e st' hk
    cases e with
    | normal =>
      obtain ⟨b', s', h0, h1, h2⟩ := hk
      exact ⟨(b', n, s'), ⟨h0, h1⟩, Nat.lt_succ_self n, h2⟩
    | exit id => exact hk
    | goto l => exact hk
    | ret => exact hk
    | panic => exact hk
    | outgrown => exact hk
theorem ZkQ {x y : Operand} {t e sz by_ s : Nat} {xs ys zs : List α} (h : Opv c st x (.slf e (xs.map f))) (hy : SlV c st y sz (ys.map f)) (ht : tSl c.P t e sz by_ = true)
    (hpos : Nat.blt 0 ys.length = true) (hby : Nat.ble by_ s = true) (hd : ∀ u, (f u).all datB = true) (hz : apz s xs ys = some zs) :
    SVal c ops st ⟨dst, .call { callee := .builtin .append, args := #[x, y], argTypes := #[t, t] }, ty, pos, after, none⟩ (.sl e (zs.map f)) := by
  unfold apz at hz
  split at hz
  case isFalse => cases hz
  rename_i hle
  cases hz
  have hby := Nat.le_of_ble_eq_true hby
  have hpos : 0 < ys.length := by simpa using hpos
  have hb : (xs.length + ys.length) * by_ ≤ 140737488355328 := Zhf hle hby
  have h63 := Zhi hle
  refine SVal.run rfl fun φ a w hc => ?_
  obtain ⟨hu, inf, z, hi, hs, hby', hn0, hz, hzs, hcs⟩ := tSl.spec ht
  obtain ⟨hrel, ad0, n0, hxv⟩ := Zln (h φ a w hc)
  obtain ⟨base, cap, hyv, hlt63, hyr, hyc⟩ := hy φ a w hc
  have hyne : ys.map f ≠ [] := fun e => by simp at e; rw [e] at hpos; simp at hpos
  obtain ⟨b, off, us, rfl, hc1, hc2⟩ := hyc hyne
  obtain ⟨news, hnl, hn1, hn2⟩ := ZgA hc hc1 hn0
  simp only [List.length_map] at hnl hyv hc2 hn2
  -- what is there
  have old : ∃ (ad : Option Addr) (olds : List Value), a.eval x = .slice ad xs.length xs.length ∧ olds.length = xs.length * sz ∧ (ad = none → xs = []) ∧ (∀ b0, ad = some b0 → ∀ j u, olds[j]? = some u → w.cell? (b0.add j) = some u) ∧
      (∀ i j, i < xs.length → j < sz → RelF c.P w (Mut c.A φ st.hp) st.hp.length φ (cellAt (xs.map f) i j) (olds.getD (i * sz + j) undef)) ∧ ∀ row ∈ xs.map f, row.length = sz := by
    generalize hx : a.eval x = ax at hrel hxv
    subst hcs
    generalize hL : xs.map f = L at hrel
    cases hrel with
    | sl0 _ ad cp =>
      have hx0 : xs = [] := by simpa using hL
      subst hx0
      cases hxv
      exact ⟨_, [], rfl, (by simp), (fun _ => rfl), (fun b0 _ j u h => by simp at h), (fun i j hi => by simp at hi), (by simp)⟩
    | sl _ _ b' off' cp us' g0 g1 g2 g2' g3 g4 g5 =>
      subst hL
      cases hxv
      simp only [List.length_map] at *
      obtain ⟨olds, k1, k2, k3⟩ := ZgA (ys := xs.map f) (us := us') hc (by simpa using g4) hn0
      simp only [List.length_map] at k1 k3
      exact ⟨_, olds, rfl, k1, (fun h => by cases h), (fun b0 h j u hj => by cases h; exact k2 j u hj), (fun i j hi hj => by rw [k3 i j hi hj]; exact Zp (g5 i j hi hj)), g3⟩
  obtain ⟨ad, olds, hxe, hol, hnil, hoc, hov, hor⟩ := old
  have hml : xs.length + ys.length ≤ maxLen := by simp only [maxLen]; omega
  have hcap := grownCap_le_maxLen w (xs.length + ys.length) xs.length e hml
  have hge := grownCap_ge w (xs.length + ys.length) xs.length e
  simp only [maxLen] at hcap
  have hdr : Below w.heap.size w w.drew := (Below.refl _ _).drew
  have hrun : (Builtin.append_ #[t, t] ty #[.slice ad xs.length xs.length, .slice (some ⟨b, off, none⟩) ys.length cap]).run c.P w =
      .ok (.slice (some ⟨w.heap.size, 0, none⟩) (xs.length + ys.length) (grownCap w (xs.length + ys.length) xs.length e)) (w.drew.alloc (.cells (olds.toArray ++ news.toArray ++ Builtin.zeroCells z.cells (grownCap w (xs.length + ys.length) xs.length e - (xs.length + ys.length))) e)) := by
    cases ad with
    | none =>
      have hx0 := hnil rfl
      subst hx0
      have ho0 : olds = [] := List.eq_nil_of_length_eq_zero (by simpa using hol)
      subst ho0
      have := run_append_nil (P := c.P) w t ty e inf z hu hi hz ⟨b, off, none⟩ ys.length cap news (by rw [hnl, hs]) hn1 hpos (by omega) (by rw [hby']; simp at hb; omega)
      simpa using this
    | some b0 => exact run_append_grow (P := c.P) w t ty e inf z hu hi hz b0 xs.length xs.length olds (by rw [hol, hs]) (hoc b0 rfl) ⟨b, off, none⟩ ys.length cap news (by rw [hnl, hs]) hn1 (by omega) (by omega) (growslice_fits (by omega) (by rw [hby']; exact hb))
  have hdat : ∀ (us : List α) (i j : Nat), i < us.length → j < sz → (∀ row ∈ us.map f, row.length = sz) → datB (cellAt (us.map f) i j) = true := fun us i j hi' hj' hr' => by
    have hl := hr' (f us[i]) (List.mem_map_of_mem (List.getElem_mem _))
    have e1 : cellAt (us.map f) i j = (f us[i])[j]'(by omega) := by simp [cellAt, List.getD_eq_getElem?_getD, hi', hl, hj']
    rw [e1]
    exact List.all_eq_true.1 (hd _) _ (List.getElem_mem _)
  have hBl : Below w.heap.size w (w.drew.alloc (.cells (olds.toArray ++ news.toArray ++ Builtin.zeroCells z.cells (grownCap w (xs.length + ys.length) xs.length e - (xs.length + ys.length))) e)) := hdr.alloc (Nat.le_refl _) _
  have hnew := heap_alloc_new w.drew (.cells (olds.toArray ++ news.toArray ++ Builtin.zeroCells z.cells (grownCap w (xs.length + ys.length) xs.length e - (xs.length + ys.length))) e)
  have hnM : ¬ Mut c.A φ st.hp w.heap.size := fun hmm => by have := Ze3 hc _ hmm; omega
  have hcsz : (olds.toArray ++ news.toArray ++ Builtin.zeroCells z.cells (grownCap w (xs.length + ys.length) xs.length e - (xs.length + ys.length))).size = grownCap w (xs.length + ys.length) xs.length e * sz := by
    rw [Array.size_append, Array.size_append, List.size_toArray, List.size_toArray, size_zeroCells, hzs, hnl, hol, ← Nat.add_mul, ← Nat.add_mul, Nat.add_sub_cancel' hge]
  refine ⟨.slice (some ⟨w.heap.size, 0, none⟩) (xs.length + ys.length) (grownCap w (xs.length + ys.length) xs.length e), w.drew.alloc (.cells (olds.toArray ++ news.toArray ++ Builtin.zeroCells z.cells (grownCap w (xs.length + ys.length) xs.length e - (xs.length + ys.length))) e), by simp [execOp, resolve, invoke, builtin, hxe, hyv, hrun], hBl, Zp ?_⟩
  have hcell : ∀ i j, i < xs.length + ys.length → j < sz → RelD c.P (w.drew.alloc (.cells (olds.toArray ++ news.toArray ++ Builtin.zeroCells z.cells (grownCap w (xs.length + ys.length) xs.length e - (xs.length + ys.length))) e)) (Mut c.A φ st.hp) (cellAt ((xs ++ ys).map f) i j) ((olds.toArray ++ news.toArray ++ Builtin.zeroCells z.cells (grownCap w (xs.length + ys.length) xs.length e - (xs.length + ys.length))).getD (i * sz + j) undef) := by
    intro i j hi' hj'
    rw [List.map_append, Zea, hol]
    by_cases hin : i < xs.length
    · have h8 : i * sz + j < xs.length * sz := Zav hin hj'
      rw [if_pos h8, Jv (by simpa using hin)]
      exact Zeq (((hov i j hin hj').below hBl) φ (fun _ _ => rfl)) (hdat xs i j hin hj' hor)
    · have h8 : ¬ (i * sz + j < xs.length * sz) := by
        have : xs.length * sz ≤ i * sz := Nat.mul_le_mul_right _ (by omega)
        omega
      have h9 : i * sz + j - xs.length * sz = (i - xs.length) * sz + j := by
        have e1 : i = xs.length + (i - xs.length) := by omega
        have : i * sz = xs.length * sz + (i - xs.length) * sz := by rw [← Nat.add_mul]; congr 1
        omega
      have h7 : (i - xs.length) * sz + j < news.length := by rw [hnl]; exact Zav (by omega) hj'
      rw [if_neg h8, h9, if_pos (by omega), hn2 _ _ (by omega) hj', Jg (by simp; omega)]
      simp only [List.length_map]
      exact Zeq (((hc2 _ _ (by omega) hj').below hBl) φ (fun _ _ => rfl)) (hdat ys _ j (by omega) hj' hyr)
  have := RelD.sl (P := c.P) (w := w.drew.alloc (.cells (olds.toArray ++ news.toArray ++ Builtin.zeroCells z.cells (grownCap w (xs.length + ys.length) xs.length e - (xs.length + ys.length))) e)) (M := Mut c.A φ st.hp) e ((xs ++ ys).map f) w.heap.size 0 (grownCap w (xs.length + ys.length) xs.length e) (fun i j => (olds.toArray ++ news.toArray ++ Builtin.zeroCells z.cells (grownCap w (xs.length + ys.length) xs.length e - (xs.length + ys.length))).getD (i * sz + j) undef)
    (by simp) hnM (by simp; omega) (by simp; omega) (fun row hrow => by
      simp only [List.map_append, List.mem_append] at hrow
      rw [hcs]
      rcases hrow with hrow | hrow
      · exact hor row hrow
      · exact hyr row hrow) (fun i j hi' hj' => by
      simp only [List.length_map, List.length_append] at hi'
      rw [hcs] at hj' ⊢
      have hnew' : (w.drew.alloc (.cells (olds.toArray ++ news.toArray ++ Builtin.zeroCells z.cells (grownCap w (xs.length + ys.length) xs.length e - (xs.length + ys.length))) e)).heap[w.heap.size]? = some (.cells (olds.toArray ++ news.toArray ++ Builtin.zeroCells z.cells (grownCap w (xs.length + ys.length) xs.length e - (xs.length + ys.length))) e (0, 0)) := hnew
      rw [ZL hnew', Nat.zero_add]
      have : i * sz + j < (olds.toArray ++ news.toArray ++ Builtin.zeroCells z.cells (grownCap w (xs.length + ys.length) xs.length e - (xs.length + ys.length))).size := by
        rw [hcsz]; exact Zav (by omega) hj'
      generalize olds.toArray ++ news.toArray ++ Builtin.zeroCells z.cells (grownCap w (xs.length + ys.length) xs.length e - (xs.length + ys.length)) = CS at this
      simp [this]) (fun i j hi' hj' => by
      simp only [List.length_map, List.length_append] at hi'
      rw [hcs] at hj'
      exact hcell i j hi' hj')
  have el : ((xs ++ ys).map f).length = xs.length + ys.length := by simp
  rw [el] at this
  exact this
end
end Go.Vx

namespace Go.Vx
open Go Go.RowKit
section t10
variable {α β γ δ ε ζ η θ μ ν ι κ ρ : Type}
def t10 (f : α → β → γ → δ → ε → ζ → η → θ → μ → ν → ι) (p : α × β × γ × δ × ε × ζ × η × θ × μ × ν) : ι := f p.1 p.2.1 p.2.2.1 p.2.2.2.1 p.2.2.2.2.1 p.2.2.2.2.2.1 p.2.2.2.2.2.2.1 p.2.2.2.2.2.2.2.1 p.2.2.2.2.2.2.2.2.1 p.2.2.2.2.2.2.2.2.2
@[simp] theorem Zqe (f : α → β → γ → δ → ε → ζ → η → θ → μ → ν → ι) (a : α) (b : β) (c : γ) (d : δ) (e : ε) (g : ζ) (h : η) (i : θ) (j : μ) (l : ν) : t10 f (a, b, c, d, e, g, h, i, j, l) = f a b c d e g h i j l := rfl
theorem Zp7 {f : α → β → γ → δ → ε → ζ → η → θ → μ → ν → Option κ} {k : κ → Option ρ} {r : ρ} {a : α} {b : β} {c : γ} {d : δ} {e : ε} {g : ζ} {i : η} {j : θ} {l : μ} {m : ν} (h : (t10 f (a, b, c, d, e, g, i, j, l, m)).bind k = some r) : (f a b c d e g i j l m).bind k = some r := h
theorem Zqc {cx : Ctx} {code : Code} {K : Exit → St → Prop} {f : α → β → γ → δ → ε → ζ → η → θ → μ → ν → St} {a' : α} {b' : β} {c' : γ} {d' : δ} {e' : ε} {f' : ζ} {g' : η} {h' : θ} {i' : μ} {j' : ν} (h : T cx code (f a' b' c' d' e' f' g' h' i' j') K) : T cx code (t10 f (a', b', c', d', e', f', g', h', i', j')) K := h
end t10
section ops
variable {c : Ctx} {ops : Array Oper} {st : St} {dst : Option Tmp} {ty : TypeId} {pos : String} {after : Array Edge}
variable {α : Type} {f : α → List AV}
end ops
end Go.Vx

namespace Go.Vx
open Go Go.RowKit
theorem Y {α : Sort _} {a : α} : a = a := rfl
class SzD (P : Program) (e : TypeId) (n : outParam Nat) : Prop where
  h : P.cellsOf e = n
class RowD (P : Program) {α : Type} (e : TypeId) (f : α → List AV) : Prop where
  h : ∀ x, (f x).length = P.cellsOf e ∧ (f x).all datB = true
section
variable {c : Ctx} {ops : Array Oper} {st : St} {K : Exit → St → Prop} {dst : Option Tmp} {x y : Operand} {ty : TypeId} {pos : String} {after : Array Edge} {rest : List Oper} {o : Oper} {v P Q : AV}
theorem Rq (hd : dstLt o.dst c.nt = true) (hv : SVal c ops st o v) (h : R c ops rest (st.puto o.dst v) K) : R c ops (o :: rest) st K := R_q v hd hv h
theorem Rx {hp' : List (Option Own)} (hd : dstLt o.dst c.nt = true) (hv : WVal c ops st o v hp') (h : R c ops rest (St.puto ⟨st.tm, hp'⟩ o.dst v) K) : R c ops (o :: rest) st K := R_w v hp' hd hv h
theorem Rm (e : (dstLt dst c.nt, opv st.tm x) = (true, some v)) (k : R c ops rest (st.puto dst v) K) : R c ops (⟨dst, .move x, ty, pos, after, none⟩ :: rest) st K := R_q v (congrArg Prod.fst e) (Zb (ov (congrArg Prod.snd e))) k
theorem Ra (e : (dstLt dst c.nt, opv st.tm x) = (true, some v)) (k : R c ops rest (st.puto dst v) K) : R c ops (⟨dst, .assign x, ty, pos, after, none⟩ :: rest) st K := R_q v (congrArg Prod.fst e) (Q1 (ov (congrArg Prod.snd e))) k
theorem R1 (L : Opv c st x P → SVal c ops st o v) (e : (dstLt o.dst c.nt, opv st.tm x) = (true, some P)) (k : R c ops rest (st.puto o.dst v) K) : R c ops (o :: rest) st K := R_q v (congrArg Prod.fst e) (L (ov (congrArg Prod.snd e))) k
theorem R2 (L : Opv c st x P → Opv c st y Q → SVal c ops st o v) (e : (dstLt o.dst c.nt, opv st.tm x, opv st.tm y) = (true, some P, some Q)) (k : R c ops rest (st.puto o.dst v) K) : R c ops (o :: rest) st K :=
  R_q v (congrArg Prod.fst e) (L (ov (congrArg (·.2.1) e)) (ov (congrArg (·.2.2) e))) k
theorem Rl {α : Type} {f : α → List AV} {xs : List α} {t e sz by_ : Nat} (hsz : c.P.cellsOf e = sz) (ht : tSl c.P t e sz by_ = true) (e' : (dstLt dst c.nt, opv st.tm y) = (true, some (.sl e (xs.map f))))
    (k : R c ops rest (st.puto dst (.int .i64 (xs.length : Int))) K) : R c ops (⟨dst, .call { callee := .builtin .len, args := #[y], argTypes := #[t] }, ty, pos, after, none⟩ :: rest) st K :=
  R_q _ (congrArg Prod.fst e') (ZgU (QX (ov (congrArg Prod.snd e')) hsz) ht (Zdu _ _)) k
theorem Tr {id : Nat} {l : List Oper} {y : Code} (h : R c l.toArray l st (Zc6 (fun st' => T c y st' K) K)) : T c (.seq (.region id l.toArray false) y) st K := Zg (Zk h)
theorem If {β γ : Type} {X Y : Option β} {k : β → Option γ} {r : γ} {t : Nat} {b : Bool} {x y : Code} (h : (if b = true then X else Y).bind k = some r) (hl : look st.tm t = some (.bool b))
    (h1 : X.bind k = some r → T c x st K) (h2 : Y.bind k = some r → T c y st K) : T c (.cond (.tmp t) x y) st K := Zp6 h hl (fun _ => h1) fun _ => h2
theorem bE {α β γ : Type} {k : β → Option γ} {r : γ} {G : Prop} {o : Option α} {f : α → Option β} (h : (o.bind f).bind k = some r) (g : ∀ x, o = some x → (f x).bind k = some r → G) : G := let ⟨x, h1, h2⟩ := bnd h; g x h1 h2
theorem ZN {k : IntKind} {m n : Int} {t u : TypeId} (h : Opv c st x (.int k m)) (h' : Opv c st y (.int k n)) : SVal c ops st ⟨dst, .binOp .add t x y u, ty, pos, after, none⟩ (.int k (k.wrap (m + n))) := ZhS h h' rfl
theorem ZaF {k : IntKind} {m n : Int} {t u : TypeId} (h : Opv c st x (.int k m)) (h' : Opv c st y (.int k n)) : SVal c ops st ⟨dst, .binOp .sub t x y u, ty, pos, after, none⟩ (.int k (k.wrap (m - n))) := Zkn h h' rfl
theorem Zft {k : IntKind} {m n : Int} {t u : TypeId} (h : Opv c st x (.int k m)) (h' : Opv c st y (.int k n)) : SVal c ops st ⟨dst, .binOp .mul t x y u, ty, pos, after, none⟩ (.int k (k.wrap (m * n))) := ZnQ h h' rfl
theorem rb {t : Nat} (e : (look st.tm t, datB v) = (some v, true)) : RetV c st (.tmp t) v := .tmp (congrArg Prod.fst e) (Dat.view (.b (congrArg Prod.snd e)))
end
theorem So {P : Program} {gl : Gl} {f : FuncId} {fn : Func} {code : Code} {args : List AV} {res : AV} (hf : P.funcs[f]? = some fn) (e : (fn.body, Nat.ble args.length fn.ntmps) = (some code, true))
    (hT : ∀ w0 A, T ⟨P, fn.ntmps, w0, A, [], gl, 0, φz⟩ code ⟨Zgk 0 args, []⟩ (ZoC ⟨P, fn.ntmps, w0, A, [], gl, 0, φz⟩ fn.results res)) (hc : callable P f = true := by kernel_rfl) : CSpec P gl f args res := ZmQ hc hf (congrArg Prod.fst e) (congrArg Prod.snd e) hT

theorem K1 {c : Ctx} {code : Code} {st : St} {K : Exit → St → Prop} {a0 : AV} (i0 : Nat) (e : look st.tm i0 = some a0) (k : T c code ⟨[(i0, a0)], st.hp⟩ K) : T c code st K := X9 (.cons (e) rfl (.nil)) rfl k
theorem K2 {c : Ctx} {code : Code} {st : St} {K : Exit → St → Prop} {a0 a1 : AV} (i0 i1 : Nat) (e : (look st.tm i0, look st.tm i1) = (some a0, some a1)) (k : T c code ⟨[(i0, a0), (i1, a1)], st.hp⟩ K) : T c code st K := X9 (.cons (congrArg (·.1) e) rfl (.cons (congrArg (·.2) e) rfl (.nil))) rfl k
theorem K3 {c : Ctx} {code : Code} {st : St} {K : Exit → St → Prop} {a0 a1 a2 : AV} (i0 i1 i2 : Nat) (e : (look st.tm i0, look st.tm i1, look st.tm i2) = (some a0, some a1, some a2)) (k : T c code ⟨[(i0, a0), (i1, a1), (i2, a2)], st.hp⟩ K) : T c code st K := X9 (.cons (congrArg (·.1) e) rfl (.cons (congrArg (·.2.1) e) rfl (.cons (congrArg (·.2.2) e) rfl (.nil)))) rfl k
theorem K4 {c : Ctx} {code : Code} {st : St} {K : Exit → St → Prop} {a0 a1 a2 a3 : AV} (i0 i1 i2 i3 : Nat) (e : (look st.tm i0, look st.tm i1, look st.tm i2, look st.tm i3) = (some a0, some a1, some a2, some a3)) (k : T c code ⟨[(i0, a0), (i1, a1), (i2, a2), (i3, a3)], st.hp⟩ K) : T c code st K := X9 (.cons (congrArg (·.1) e) rfl (.cons (congrArg (·.2.1) e) rfl (.cons (congrArg (·.2.2.1) e) rfl (.cons (congrArg (·.2.2.2) e) rfl (.nil))))) rfl k
theorem K5 {c : Ctx} {code : Code} {st : St} {K : Exit → St → Prop} {a0 a1 a2 a3 a4 : AV} (i0 i1 i2 i3 i4 : Nat) (e : (look st.tm i0, look st.tm i1, look st.tm i2, look st.tm i3, look st.tm i4) = (some a0, some a1, some a2, some a3, some a4)) (k : T c code ⟨[(i0, a0), (i1, a1), (i2, a2), (i3, a3), (i4, a4)], st.hp⟩ K) : T c code st K := X9 (.cons (congrArg (·.1) e) rfl (.cons (congrArg (·.2.1) e) rfl (.cons (congrArg (·.2.2.1) e) rfl (.cons (congrArg (·.2.2.2.1) e) rfl (.cons (congrArg (·.2.2.2.2) e) rfl (.nil)))))) rfl k
theorem K6 {c : Ctx} {code : Code} {st : St} {K : Exit → St → Prop} {a0 a1 a2 a3 a4 a5 : AV} (i0 i1 i2 i3 i4 i5 : Nat) (e : (look st.tm i0, look st.tm i1, look st.tm i2, look st.tm i3, look st.tm i4, look st.tm i5) = (some a0, some a1, some a2, some a3, some a4, some a5)) (k : T c code ⟨[(i0, a0), (i1, a1), (i2, a2), (i3, a3), (i4, a4), (i5, a5)], st.hp⟩ K) : T c code st K := X9 (.cons (congrArg (·.1) e) rfl (.cons (congrArg (·.2.1) e) rfl (.cons (congrArg (·.2.2.1) e) rfl (.cons (congrArg (·.2.2.2.1) e) rfl (.cons (congrArg (·.2.2.2.2.1) e) rfl (.cons (congrArg (·.2.2.2.2.2) e) rfl (.nil))))))) rfl k
theorem K7 {c : Ctx} {code : Code} {st : St} {K : Exit → St → Prop} {a0 a1 a2 a3 a4 a5 a6 : AV} (i0 i1 i2 i3 i4 i5 i6 : Nat) (e : (look st.tm i0, look st.tm i1, look st.tm i2, look st.tm i3, look st.tm i4, look st.tm i5, look st.tm i6) = (some a0, some a1, some a2, some a3, some a4, some a5, some a6)) (k : T c code ⟨[(i0, a0), (i1, a1), (i2, a2), (i3, a3), (i4, a4), (i5, a5), (i6, a6)], st.hp⟩ K) : T c code st K := X9 (.cons (congrArg (·.1) e) rfl (.cons (congrArg (·.2.1) e) rfl (.cons (congrArg (·.2.2.1) e) rfl (.cons (congrArg (·.2.2.2.1) e) rfl (.cons (congrArg (·.2.2.2.2.1) e) rfl (.cons (congrArg (·.2.2.2.2.2.1) e) rfl (.cons (congrArg (·.2.2.2.2.2.2) e) rfl (.nil)))))))) rfl k
theorem K8 {c : Ctx} {code : Code} {st : St} {K : Exit → St → Prop} {a0 a1 a2 a3 a4 a5 a6 a7 : AV} (i0 i1 i2 i3 i4 i5 i6 i7 : Nat) (e : (look st.tm i0, look st.tm i1, look st.tm i2, look st.tm i3, look st.tm i4, look st.tm i5, look st.tm i6, look st.tm i7) = (some a0, some a1, some a2, some a3, some a4, some a5, some a6, some a7)) (k : T c code ⟨[(i0, a0), (i1, a1), (i2, a2), (i3, a3), (i4, a4), (i5, a5), (i6, a6), (i7, a7)], st.hp⟩ K) : T c code st K := X9 (.cons (congrArg (·.1) e) rfl (.cons (congrArg (·.2.1) e) rfl (.cons (congrArg (·.2.2.1) e) rfl (.cons (congrArg (·.2.2.2.1) e) rfl (.cons (congrArg (·.2.2.2.2.1) e) rfl (.cons (congrArg (·.2.2.2.2.2.1) e) rfl (.cons (congrArg (·.2.2.2.2.2.2.1) e) rfl (.cons (congrArg (·.2.2.2.2.2.2.2) e) rfl (.nil))))))))) rfl k
theorem K9 {c : Ctx} {code : Code} {st : St} {K : Exit → St → Prop} {a0 a1 a2 a3 a4 a5 a6 a7 a8 : AV} (i0 i1 i2 i3 i4 i5 i6 i7 i8 : Nat) (e : (look st.tm i0, look st.tm i1, look st.tm i2, look st.tm i3, look st.tm i4, look st.tm i5, look st.tm i6, look st.tm i7, look st.tm i8) = (some a0, some a1, some a2, some a3, some a4, some a5, some a6, some a7, some a8)) (k : T c code ⟨[(i0, a0), (i1, a1), (i2, a2), (i3, a3), (i4, a4), (i5, a5), (i6, a6), (i7, a7), (i8, a8)], st.hp⟩ K) : T c code st K := X9 (.cons (congrArg (·.1) e) rfl (.cons (congrArg (·.2.1) e) rfl (.cons (congrArg (·.2.2.1) e) rfl (.cons (congrArg (·.2.2.2.1) e) rfl (.cons (congrArg (·.2.2.2.2.1) e) rfl (.cons (congrArg (·.2.2.2.2.2.1) e) rfl (.cons (congrArg (·.2.2.2.2.2.2.1) e) rfl (.cons (congrArg (·.2.2.2.2.2.2.2.1) e) rfl (.cons (congrArg (·.2.2.2.2.2.2.2.2) e) rfl (.nil)))))))))) rfl k
theorem K10 {c : Ctx} {code : Code} {st : St} {K : Exit → St → Prop} {a0 a1 a2 a3 a4 a5 a6 a7 a8 a9 : AV} (i0 i1 i2 i3 i4 i5 i6 i7 i8 i9 : Nat) (e : (look st.tm i0, look st.tm i1, look st.tm i2, look st.tm i3, look st.tm i4, look st.tm i5, look st.tm i6, look st.tm i7, look st.tm i8, look st.tm i9) = (some a0, some a1, some a2, some a3, some a4, some a5, some a6, some a7, some a8, some a9)) (k : T c code ⟨[(i0, a0), (i1, a1), (i2, a2), (i3, a3), (i4, a4), (i5, a5), (i6, a6), (i7, a7), (i8, a8), (i9, a9)], st.hp⟩ K) : T c code st K := X9 (.cons (congrArg (·.1) e) rfl (.cons (congrArg (·.2.1) e) rfl (.cons (congrArg (·.2.2.1) e) rfl (.cons (congrArg (·.2.2.2.1) e) rfl (.cons (congrArg (·.2.2.2.2.1) e) rfl (.cons (congrArg (·.2.2.2.2.2.1) e) rfl (.cons (congrArg (·.2.2.2.2.2.2.1) e) rfl (.cons (congrArg (·.2.2.2.2.2.2.2.1) e) rfl (.cons (congrArg (·.2.2.2.2.2.2.2.2.1) e) rfl (.cons (congrArg (·.2.2.2.2.2.2.2.2.2) e) rfl (.nil))))))))))) rfl k
theorem K11 {c : Ctx} {code : Code} {st : St} {K : Exit → St → Prop} {a0 a1 a2 a3 a4 a5 a6 a7 a8 a9 a10 : AV} (i0 i1 i2 i3 i4 i5 i6 i7 i8 i9 i10 : Nat) (e : (look st.tm i0, look st.tm i1, look st.tm i2, look st.tm i3, look st.tm i4, look st.tm i5, look st.tm i6, look st.tm i7, look st.tm i8, look st.tm i9, look st.tm i10) = (some a0, some a1, some a2, some a3, some a4, some a5, some a6, some a7, some a8, some a9, some a10)) (k : T c code ⟨[(i0, a0), (i1, a1), (i2, a2), (i3, a3), (i4, a4), (i5, a5), (i6, a6), (i7, a7), (i8, a8), (i9, a9), (i10, a10)], st.hp⟩ K) : T c code st K := X9 (.cons (congrArg (·.1) e) rfl (.cons (congrArg (·.2.1) e) rfl (.cons (congrArg (·.2.2.1) e) rfl (.cons (congrArg (·.2.2.2.1) e) rfl (.cons (congrArg (·.2.2.2.2.1) e) rfl (.cons (congrArg (·.2.2.2.2.2.1) e) rfl (.cons (congrArg (·.2.2.2.2.2.2.1) e) rfl (.cons (congrArg (·.2.2.2.2.2.2.2.1) e) rfl (.cons (congrArg (·.2.2.2.2.2.2.2.2.1) e) rfl (.cons (congrArg (·.2.2.2.2.2.2.2.2.2.1) e) rfl (.cons (congrArg (·.2.2.2.2.2.2.2.2.2.2) e) rfl (.nil)))))))))))) rfl k
theorem K12 {c : Ctx} {code : Code} {st : St} {K : Exit → St → Prop} {a0 a1 a2 a3 a4 a5 a6 a7 a8 a9 a10 a11 : AV} (i0 i1 i2 i3 i4 i5 i6 i7 i8 i9 i10 i11 : Nat) (e : (look st.tm i0, look st.tm i1, look st.tm i2, look st.tm i3, look st.tm i4, look st.tm i5, look st.tm i6, look st.tm i7, look st.tm i8, look st.tm i9, look st.tm i10, look st.tm i11) = (some a0, some a1, some a2, some a3, some a4, some a5, some a6, some a7, some a8, some a9, some a10, some a11)) (k : T c code ⟨[(i0, a0), (i1, a1), (i2, a2), (i3, a3), (i4, a4), (i5, a5), (i6, a6), (i7, a7), (i8, a8), (i9, a9), (i10, a10), (i11, a11)], st.hp⟩ K) : T c code st K := X9 (.cons (congrArg (·.1) e) rfl (.cons (congrArg (·.2.1) e) rfl (.cons (congrArg (·.2.2.1) e) rfl (.cons (congrArg (·.2.2.2.1) e) rfl (.cons (congrArg (·.2.2.2.2.1) e) rfl (.cons (congrArg (·.2.2.2.2.2.1) e) rfl (.cons (congrArg (·.2.2.2.2.2.2.1) e) rfl (.cons (congrArg (·.2.2.2.2.2.2.2.1) e) rfl (.cons (congrArg (·.2.2.2.2.2.2.2.2.1) e) rfl (.cons (congrArg (·.2.2.2.2.2.2.2.2.2.1) e) rfl (.cons (congrArg (·.2.2.2.2.2.2.2.2.2.2.1) e) rfl (.cons (congrArg (·.2.2.2.2.2.2.2.2.2.2.2) e) rfl (.nil))))))))))))) rfl k
theorem K0 {c : Ctx} {code : Code} {st : St} {K : Exit → St → Prop} (k : T c code ⟨[], st.hp⟩ K) : T c code st K := X9 .nil rfl k
theorem L0 {ρ : Type} {c : Ctx} {code : Code} {st : St} {K : Exit → St → Prop} {body : (Unit) → Option ((Unit) ⊕ ρ)} (I : St) {s0 : Unit} {r : ρ} (h : loop body s0 = some r) (h0 : Ent c st (t0 I s0))
    (hr : ∀ (n : Nat), (body ()).bind (Sum.elim (Zat body n) some) = some r → T c code (I) (Zc6 (fun st' => ∃ s', Zat body n s' = some r ∧ Ent c st' (t0 I s')) K)) : T c (.loop code) st K :=
  Zeu body (t0 I) s0 h h0 fun n s h => hr n h
theorem J0 {τ β γ : Type} {c : Ctx} {st : St} {K : Exit → St → Prop} {k : β → Option γ} {r : γ} {G : τ → Option β} {X : Option τ} {x y : Code} (inj : (Unit) → τ) (J : St) (h : (X.bind G).bind k = some r)
    (hx : X.bind (fun o => (G o).bind k) = some r → T c x st (Zc6 (fun st' => ∃ i, (G (inj i)).bind k = some r ∧ Ent c st' (t0 J i)) K))
    (ky : (G (inj ())).bind k = some r → T c y (J) K) : T c (.seq x y) st K :=
  Zcp inj (t0 J) h hx fun i h => ky h
theorem I0 {β γ : Type} {c : Ctx} {st : St} {K : Exit → St → Prop} {k : β → Option γ} {r : γ} {g : Option β} {X : Option (Unit)} {x y : Code} (J : St) (h : (X.bind (t0 g)).bind k = some r)
    (hx : X.bind (fun o => (t0 g o).bind k) = some r → T c x st (Zc6 (fun st' => ∃ i, (t0 g i).bind k = some r ∧ Ent c st' (t0 J i)) K))
    (ky : (g).bind k = some r → T c y (J) K) : T c (.seq x y) st K :=
  Zcp (G := t0 g) id (t0 J) h hx fun i h => ky h
theorem L1 {ρ : Type} {α0 : Type} {c : Ctx} {code : Code} {st : St} {K : Exit → St → Prop} {body : (α0) → Option ((α0) ⊕ ρ)} (I : α0 → St) {s0 : α0} {r : ρ} (h : loop body s0 = some r) (h0 : Ent c st (t1 I s0))
    (hr : ∀ (n : Nat) (a0 : α0), (body a0).bind (Sum.elim (Zat body n) some) = some r → T c code (I a0) (Zc6 (fun st' => ∃ s', Zat body n s' = some r ∧ Ent c st' (t1 I s')) K)) : T c (.loop code) st K :=
  Zeu body (t1 I) s0 h h0 fun n s h => hr n s h
theorem J1 {τ β γ : Type} {α0 : Type} {c : Ctx} {st : St} {K : Exit → St → Prop} {k : β → Option γ} {r : γ} {G : τ → Option β} {X : Option τ} {x y : Code} (inj : (α0) → τ) (J : α0 → St) (h : (X.bind G).bind k = some r)
    (hx : X.bind (fun o => (G o).bind k) = some r → T c x st (Zc6 (fun st' => ∃ i, (G (inj i)).bind k = some r ∧ Ent c st' (t1 J i)) K))
    (ky : ∀ (a0 : α0), (G (inj a0)).bind k = some r → T c y (J a0) K) : T c (.seq x y) st K :=
  Zcp inj (t1 J) h hx fun i h => ky i h
theorem I1 {β γ : Type} {α0 : Type} {c : Ctx} {st : St} {K : Exit → St → Prop} {k : β → Option γ} {r : γ} {g : α0 → Option β} {X : Option (α0)} {x y : Code} (J : α0 → St) (h : (X.bind (t1 g)).bind k = some r)
    (hx : X.bind (fun o => (t1 g o).bind k) = some r → T c x st (Zc6 (fun st' => ∃ i, (t1 g i).bind k = some r ∧ Ent c st' (t1 J i)) K))
    (ky : ∀ (a0 : α0), (g a0).bind k = some r → T c y (J a0) K) : T c (.seq x y) st K :=
  Zcp (G := t1 g) id (t1 J) h hx fun i h => ky i h
theorem L2 {ρ : Type} {α0 α1 : Type} {c : Ctx} {code : Code} {st : St} {K : Exit → St → Prop} {body : (α0 × α1) → Option ((α0 × α1) ⊕ ρ)} (I : α0 → α1 → St) {s0 : α0 × α1} {r : ρ} (h : loop body s0 = some r) (h0 : Ent c st (t2 I s0))
    (hr : ∀ (n : Nat) (a0 : α0) (a1 : α1), (body (a0, a1)).bind (Sum.elim (Zat body n) some) = some r → T c code (I a0 a1) (Zc6 (fun st' => ∃ s', Zat body n s' = some r ∧ Ent c st' (t2 I s')) K)) : T c (.loop code) st K :=
  Zeu body (t2 I) s0 h h0 fun n s h => hr n (s.1) (s.2) h
theorem J2 {τ β γ : Type} {α0 α1 : Type} {c : Ctx} {st : St} {K : Exit → St → Prop} {k : β → Option γ} {r : γ} {G : τ → Option β} {X : Option τ} {x y : Code} (inj : (α0 × α1) → τ) (J : α0 → α1 → St) (h : (X.bind G).bind k = some r)
    (hx : X.bind (fun o => (G o).bind k) = some r → T c x st (Zc6 (fun st' => ∃ i, (G (inj i)).bind k = some r ∧ Ent c st' (t2 J i)) K))
    (ky : ∀ (a0 : α0) (a1 : α1), (G (inj (a0, a1))).bind k = some r → T c y (J a0 a1) K) : T c (.seq x y) st K :=
  Zcp inj (t2 J) h hx fun i h => ky (i.1) (i.2) h
theorem I2 {β γ : Type} {α0 α1 : Type} {c : Ctx} {st : St} {K : Exit → St → Prop} {k : β → Option γ} {r : γ} {g : α0 → α1 → Option β} {X : Option (α0 × α1)} {x y : Code} (J : α0 → α1 → St) (h : (X.bind (t2 g)).bind k = some r)
    (hx : X.bind (fun o => (t2 g o).bind k) = some r → T c x st (Zc6 (fun st' => ∃ i, (t2 g i).bind k = some r ∧ Ent c st' (t2 J i)) K))
    (ky : ∀ (a0 : α0) (a1 : α1), (g a0 a1).bind k = some r → T c y (J a0 a1) K) : T c (.seq x y) st K :=
  Zcp (G := t2 g) id (t2 J) h hx fun i h => ky (i.1) (i.2) h
theorem L3 {ρ : Type} {α0 α1 α2 : Type} {c : Ctx} {code : Code} {st : St} {K : Exit → St → Prop} {body : (α0 × α1 × α2) → Option ((α0 × α1 × α2) ⊕ ρ)} (I : α0 → α1 → α2 → St) {s0 : α0 × α1 × α2} {r : ρ} (h : loop body s0 = some r) (h0 : Ent c st (t3 I s0))
    (hr : ∀ (n : Nat) (a0 : α0) (a1 : α1) (a2 : α2), (body (a0, a1, a2)).bind (Sum.elim (Zat body n) some) = some r → T c code (I a0 a1 a2) (Zc6 (fun st' => ∃ s', Zat body n s' = some r ∧ Ent c st' (t3 I s')) K)) : T c (.loop code) st K :=
  Zeu body (t3 I) s0 h h0 fun n s h => hr n (s.1) (s.2.1) (s.2.2) h
theorem I4 {β γ : Type} {α0 α1 α2 α3 : Type} {c : Ctx} {st : St} {K : Exit → St → Prop} {k : β → Option γ} {r : γ} {g : α0 → α1 → α2 → α3 → Option β} {X : Option (α0 × α1 × α2 × α3)} {x y : Code} (J : α0 → α1 → α2 → α3 → St) (h : (X.bind (t4 g)).bind k = some r)
    (hx : X.bind (fun o => (t4 g o).bind k) = some r → T c x st (Zc6 (fun st' => ∃ i, (t4 g i).bind k = some r ∧ Ent c st' (t4 J i)) K))
    (ky : ∀ (a0 : α0) (a1 : α1) (a2 : α2) (a3 : α3), (g a0 a1 a2 a3).bind k = some r → T c y (J a0 a1 a2 a3) K) : T c (.seq x y) st K :=
  Zcp (G := t4 g) id (t4 J) h hx fun i h => ky (i.1) (i.2.1) (i.2.2.1) (i.2.2.2) h
theorem J8 {τ β γ : Type} {α0 α1 α2 α3 α4 α5 α6 α7 : Type} {c : Ctx} {st : St} {K : Exit → St → Prop} {k : β → Option γ} {r : γ} {G : τ → Option β} {X : Option τ} {x y : Code} (inj : (α0 × α1 × α2 × α3 × α4 × α5 × α6 × α7) → τ) (J : α0 → α1 → α2 → α3 → α4 → α5 → α6 → α7 → St) (h : (X.bind G).bind k = some r)
    (hx : X.bind (fun o => (G o).bind k) = some r → T c x st (Zc6 (fun st' => ∃ i, (G (inj i)).bind k = some r ∧ Ent c st' (t8 J i)) K))
    (ky : ∀ (a0 : α0) (a1 : α1) (a2 : α2) (a3 : α3) (a4 : α4) (a5 : α5) (a6 : α6) (a7 : α7), (G (inj (a0, a1, a2, a3, a4, a5, a6, a7))).bind k = some r → T c y (J a0 a1 a2 a3 a4 a5 a6 a7) K) : T c (.seq x y) st K :=
  Zcp inj (t8 J) h hx fun i h => ky (i.1) (i.2.1) (i.2.2.1) (i.2.2.2.1) (i.2.2.2.2.1) (i.2.2.2.2.2.1) (i.2.2.2.2.2.2.1) (i.2.2.2.2.2.2.2) h
theorem I8 {β γ : Type} {α0 α1 α2 α3 α4 α5 α6 α7 : Type} {c : Ctx} {st : St} {K : Exit → St → Prop} {k : β → Option γ} {r : γ} {g : α0 → α1 → α2 → α3 → α4 → α5 → α6 → α7 → Option β} {X : Option (α0 × α1 × α2 × α3 × α4 × α5 × α6 × α7)} {x y : Code} (J : α0 → α1 → α2 → α3 → α4 → α5 → α6 → α7 → St) (h : (X.bind (t8 g)).bind k = some r)
    (hx : X.bind (fun o => (t8 g o).bind k) = some r → T c x st (Zc6 (fun st' => ∃ i, (t8 g i).bind k = some r ∧ Ent c st' (t8 J i)) K))
    (ky : ∀ (a0 : α0) (a1 : α1) (a2 : α2) (a3 : α3) (a4 : α4) (a5 : α5) (a6 : α6) (a7 : α7), (g a0 a1 a2 a3 a4 a5 a6 a7).bind k = some r → T c y (J a0 a1 a2 a3 a4 a5 a6 a7) K) : T c (.seq x y) st K :=
  Zcp (G := t8 g) id (t8 J) h hx fun i h => ky (i.1) (i.2.1) (i.2.2.1) (i.2.2.2.1) (i.2.2.2.2.1) (i.2.2.2.2.2.1) (i.2.2.2.2.2.2.1) (i.2.2.2.2.2.2.2) h
theorem L9 {ρ : Type} {α0 α1 α2 α3 α4 α5 α6 α7 α8 : Type} {c : Ctx} {code : Code} {st : St} {K : Exit → St → Prop} {body : (α0 × α1 × α2 × α3 × α4 × α5 × α6 × α7 × α8) → Option ((α0 × α1 × α2 × α3 × α4 × α5 × α6 × α7 × α8) ⊕ ρ)} (I : α0 → α1 → α2 → α3 → α4 → α5 → α6 → α7 → α8 → St) {s0 : α0 × α1 × α2 × α3 × α4 × α5 × α6 × α7 × α8} {r : ρ} (h : loop body s0 = some r) (h0 : Ent c st (t9 I s0))
    (hr : ∀ (n : Nat) (a0 : α0) (a1 : α1) (a2 : α2) (a3 : α3) (a4 : α4) (a5 : α5) (a6 : α6) (a7 : α7) (a8 : α8), (body (a0, a1, a2, a3, a4, a5, a6, a7, a8)).bind (Sum.elim (Zat body n) some) = some r → T c code (I a0 a1 a2 a3 a4 a5 a6 a7 a8) (Zc6 (fun st' => ∃ s', Zat body n s' = some r ∧ Ent c st' (t9 I s')) K)) : T c (.loop code) st K :=
  Zeu body (t9 I) s0 h h0 fun n s h => hr n (s.1) (s.2.1) (s.2.2.1) (s.2.2.2.1) (s.2.2.2.2.1) (s.2.2.2.2.2.1) (s.2.2.2.2.2.2.1) (s.2.2.2.2.2.2.2.1) (s.2.2.2.2.2.2.2.2) h
section
variable {cw : Md} {c : Ctx} {ops : Array Oper} {m : Nat} {st : St} {K : Exit → St → Prop} {dst : Option Tmp} {x y : Operand} {ty : TypeId} {pos : String} {after : Array Edge} {o o' : Oper} {v v' P Q : AV} {hp' : List (Option Own)}
theorem Dq (i : Nat) (e : (ops[i]?, dstLt o.dst c.nt, noWrite cw.cw o.op) = (some o, true, true)) (h : SVal c ops ⟨restr st.tm (o.looksAt ops), st.hp⟩ o v) (k : Dv cw c ops (KE c K) (setBit m i) (st.puto o.dst v))
    (ht : takeQ cw ops m i = true := by kernel_rfl) : Dv cw c ops (KE c K) m st := Zna i v (congrArg Prod.fst e) ht (congrArg (·.2.1) e) (congrArg (·.2.2) e) h k
theorem D1 (i : Nat) (L : Opv c ⟨restr st.tm (o.looksAt ops), st.hp⟩ x P → SVal c ops ⟨restr st.tm (o.looksAt ops), st.hp⟩ o v) (e : (ops[i]?, dstLt o.dst c.nt, noWrite cw.cw o.op, opv (restr st.tm (o.looksAt ops)) x) = (some o, true, true, some P))
    (k : Dv cw c ops (KE c K) (setBit m i) (st.puto o.dst v)) (ht : takeQ cw ops m i = true := by kernel_rfl) : Dv cw c ops (KE c K) m st := Zna i v (congrArg Prod.fst e) ht (congrArg (·.2.1) e) (congrArg (·.2.2.1) e) (L (ov (congrArg (·.2.2.2) e))) k
theorem D2 (i : Nat) (L : Opv c ⟨restr st.tm (o.looksAt ops), st.hp⟩ x P → Opv c ⟨restr st.tm (o.looksAt ops), st.hp⟩ y Q → SVal c ops ⟨restr st.tm (o.looksAt ops), st.hp⟩ o v)
    (e : (ops[i]?, dstLt o.dst c.nt, noWrite cw.cw o.op, opv (restr st.tm (o.looksAt ops)) x, opv (restr st.tm (o.looksAt ops)) y) = (some o, true, true, some P, some Q))
    (k : Dv cw c ops (KE c K) (setBit m i) (st.puto o.dst v)) (ht : takeQ cw ops m i = true := by kernel_rfl) : Dv cw c ops (KE c K) m st :=
  Zna i v (congrArg Prod.fst e) ht (congrArg (·.2.1) e) (congrArg (·.2.2.1) e) (L (ov (congrArg (·.2.2.2.1) e)) (ov (congrArg (·.2.2.2.2) e))) k
theorem Do (i : Nat) (e : (ops[i]?, dstLt o.dst c.nt, noWrite cw.cw o.op) = (some o, true, false)) (h : WVal c ops ⟨restr st.tm (o.looksAt ops), st.hp⟩ o v hp') (k : Dv cw c ops (KE c K) (setBit m i) (St.puto ⟨st.tm, hp'⟩ o.dst v)) (ht : onlyAt ops m i = true := by kernel_rfl)
    (hx : extOp o.op = true → Ext st.hp hp' := by intro h; cases h) (hy : cw.fr = true → ExtW cw.wl cw.base hp' := by intro h; cases h) : Dv cw c ops (KE c K) m st := ZcA i v hp' (congrArg Prod.fst e) ht (congrArg (·.2.1) e) (congrArg (·.2.2) e) hx hy h k
theorem Dw (i j : Nat) (e : (ops[i]?, ops[j]?, dstLt o.dst c.nt, dstLt o'.dst c.nt, noWrite cw.cw o.op, noWrite cw.cw o'.op) = (some o, some o', true, true, true, false))
    (h : SVal c ops ⟨restr st.tm (o.looksAt ops), st.hp⟩ o v) (h' : WVal c ops ⟨restr st.tm (o'.looksAt ops), st.hp⟩ o' v' hp')
    (k : Dv cw c ops (KE c K) (setBit m i) (st.puto o.dst v)) (k' : Dv cw c ops (KE c K) (setBit m j) (St.puto ⟨st.tm, hp'⟩ o'.dst v')) (ht : Zmb ops m i j = true := by kernel_rfl)
    (hx' : extOp o'.op = true → Ext st.hp hp' := by intro h; cases h) (hy' : cw.fr = true → ExtW cw.wl cw.base hp' := by intro h; cases h) : Dv cw c ops (KE c K) m st :=
  Zme i j (congrArg (·.1) e) (congrArg (·.2.1) e) ht (congrArg (·.2.2.1) e) (congrArg (·.2.2.2.1) e) (congrArg (·.2.2.2.2.1) e) (congrArg (·.2.2.2.2.2) e) hx' hy' h h' k k'
theorem Dd (k : K .normal st) (h : ZiM ops m = true := by kernel_rfl) : Dv cw c ops (KE c K) m st := Zol h k
end
theorem ES {c : Ctx} {st : St} {tm' : List (Nat × AV)} {hp' : List (Option Own)} (s : List (Option Nat))
    (htm : SelTm (Zfq s st.hp) st.tm tm' := by repeat (first | exact sn | refine sd _ rfl rfl ?_ | (refine sr _ rfl ?_ ?_; (· first | exact .dat rfl | exact .own _ rfl | exact .ptr _ _ _ rfl | exact .mref _ rfl | exact .row rfl | exact .nils _ | (refine ZdJ ?_; (· first | exact rld rfl | (refine rld ?_; (· first | rfl | exact arD fun _ => rfl | exact arC fun _ => rfl | exact Zi7 fun x => (RowD.h (P := _) x).2 | ((repeat (first | exact alN | refine alC rfl ?_ | (refine alA ?_ ?_; (· first | exact arD fun _ => rfl | exact arC fun _ => rfl)))); done))) | ((repeat (first | exact rln | (refine rlc ?_ ?_; (· first | exact .dat rfl | exact .own _ rfl | exact .ptr _ _ _ rfl | exact .mref _ rfl | exact .row rfl | exact .nils _)) | (refine rla ?_ ?_; (· refine rld ?_; (first | rfl | exact arD fun _ => rfl | exact arC fun _ => rfl | exact Zi7 fun x => (RowD.h (P := _) x).2 | ((repeat (first | exact alN | refine alC rfl ?_ | (refine alA ?_ ?_; (· first | exact arD fun _ => rfl | exact arC fun _ => rfl)))); done)))))); done))) | (refine Q6 ?_; (· first | exact rld rfl | (refine rld ?_; (· first | rfl | exact arD fun _ => rfl | exact arC fun _ => rfl | exact Zi7 fun x => (RowD.h (P := _) x).2 | ((repeat (first | exact alN | refine alC rfl ?_ | (refine alA ?_ ?_; (· first | exact arD fun _ => rfl | exact arC fun _ => rfl)))); done))) | ((repeat (first | exact rln | (refine rlc ?_ ?_; (· first | exact .dat rfl | exact .own _ rfl | exact .ptr _ _ _ rfl | exact .mref _ rfl | exact .row rfl | exact .nils _)) | (refine rla ?_ ?_; (· refine rld ?_; (first | rfl | exact arD fun _ => rfl | exact arC fun _ => rfl | exact Zi7 fun x => (RowD.h (P := _) x).2 | ((repeat (first | exact alN | refine alC rfl ?_ | (refine alA ?_ ?_; (· first | exact arD fun _ => rfl | exact arC fun _ => rfl)))); done)))))); done))) | (refine rFn ?_; (· first | exact rld rfl | (refine rld ?_; (· first | rfl | exact arD fun _ => rfl | exact arC fun _ => rfl | exact Zi7 fun x => (RowD.h (P := _) x).2 | ((repeat (first | exact alN | refine alC rfl ?_ | (refine alA ?_ ?_; (· first | exact arD fun _ => rfl | exact arC fun _ => rfl)))); done))) | ((repeat (first | exact rln | (refine rlc ?_ ?_; (· first | exact .dat rfl | exact .own _ rfl | exact .ptr _ _ _ rfl | exact .mref _ rfl | exact .row rfl | exact .nils _)) | (refine rla ?_ ?_; (· refine rld ?_; (first | rfl | exact arD fun _ => rfl | exact arC fun _ => rfl | exact Zi7 fun x => (RowD.h (P := _) x).2 | ((repeat (first | exact alN | refine alC rfl ?_ | (refine alA ?_ ?_; (· first | exact arD fun _ => rfl | exact arC fun _ => rfl)))); done)))))); done)))))))
    (hhp : SelHp c.P (Zfq s st.hp) st.hp s hp' := by repeat (first | exact .nil | (refine .cons rfl ?_ ?_; (· first | exact roM RowD.h | exact roE | (refine ro1 ?_ ?_; (· first | exact (SzD.h).symm | (refine Eq.trans ?_ (SzD.h).symm; (· simp))); (· first | exact rld rfl | (refine rld ?_; (· first | rfl | exact arD fun _ => rfl | exact arC fun _ => rfl | exact Zi7 fun x => (RowD.h (P := _) x).2 | ((repeat (first | exact alN | refine alC rfl ?_ | (refine alA ?_ ?_; (· first | exact arD fun _ => rfl | exact arC fun _ => rfl)))); done))) | ((repeat (first | exact rln | (refine rlc ?_ ?_; (· first | exact .dat rfl | exact .own _ rfl | exact .ptr _ _ _ rfl | exact .mref _ rfl | exact .row rfl | exact .nils _)) | (refine rla ?_ ?_; (· refine rld ?_; (first | rfl | exact arD fun _ => rfl | exact arC fun _ => rfl | exact Zi7 fun x => (RowD.h (P := _) x).2 | ((repeat (first | exact alN | refine alC rfl ?_ | (refine alA ?_ ?_; (· first | exact arD fun _ => rfl | exact arC fun _ => rfl)))); done)))))); done))))) | refine .dead ?_ | refine .row _ ?_))
    (hnd : dupL s hp' = true := by rfl) (hfx : Zfd 0 c.n0 s = true := by rfl) : Ent c st ⟨tm', hp'⟩ := Ent.sel s htm hhp hnd hfx
end Go.Vx

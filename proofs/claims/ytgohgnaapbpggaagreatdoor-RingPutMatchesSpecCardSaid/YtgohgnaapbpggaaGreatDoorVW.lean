/- A text of the proof: a verified executor of the program form, or the contracts of the functions that the law reaches. -/
import Derived.Test.YtgohgnaapbpggaaGreatDoorVV
import Derived.Maps.RangeRun
set_option linter.all false
namespace Go.Vx
open Go Go.RowKit
open Go.ChangeMaps (setBlock)

section fold
variable {α σ : Type}
end fold

theorem HRel.toW {P : Program} {w w' : World} {M M' : Nat → Prop} {n : Nat} {φ : Phi} {r : Nat} {o : Own} (h : HRel P w M n φ r o) (hsz : w.heap.size ≤ w'.heap.size) (hb : ∀ b, (φ r).has b → w'.heap[b]? = w.heap[b]?)
    (hr : ∀ av x, RelF P w M n φ av x → RelF P w' M' n φ av x) : HRel P w' M' n φ r o := by
  refine ⟨h.len, h.sz, h.rows, h.room, h.cap, h.none, fun b hs => Nat.lt_of_lt_of_le (h.subl b hs) hsz, h.subn, fun b hbk => ?_⟩
  obtain ⟨cs, h1, h2, h3⟩ := h.some b hbk
  exact ⟨cs, h1.congr (hb b (.inl hbk)), h2, h3.tr (fun x hx => hb x (.inr hx)) hr⟩

open Classical in
noncomputable def Zjs (φ : Phi) (hp : List (Option Own)) (w : World) : List Nat := (List.range w.heap.size).filter fun b => decide (∃ r o, nth hp r = some o ∧ (φ r).has b)
theorem Zfv {φ : Phi} {hp : List (Option Own)} {w : World} {b : Nat} : b ∈ Zjs φ hp w ↔ b < w.heap.size ∧ ∃ r o, nth hp r = some o ∧ (φ r).has b := by
  simp only [Zjs, List.mem_filter, List.mem_range, decide_eq_true_eq]

noncomputable def cxN (c : Ctx) (A' : Nat → Prop) (φ : Phi) (hp : List (Option Own)) (w : World) : Ctx := ⟨c.P, c.nt, w, A', Zjs φ hp w, c.gl, hp.length, φ⟩

theorem mkD {c : Ctx} {φ : Phi} {hp : List (Option Own)} {w w' : World} {A' : Nat → Prop} (h : HeapOK c φ hp w) (hA' : ∀ b, A' b → b < w'.heap.size ∧ ∀ r o, nth hp r = some o → ¬ (φ r).has b) (hsz : w.heap.size ≤ w'.heap.size)
    (hown : ∀ r o b, nth hp r = some o → (φ r).has b → w'.heap[b]? = w.heap[b]?) (hrel : ∀ av x, RelF c.P w (Mut c.A φ hp) hp.length φ av x → RelF c.P w' (Mut A' φ hp) hp.length φ av x)
    (hg : c.gl.n ≤ w'.heap.size) (hgt : ∀ p ∈ c.gl.tabs, p.1 < c.gl.n ∧ (∃ e fr, w'.heap[p.1]? = some (.cells p.2 e fr)) ∧ ¬ A' p.1) (hgW : ∀ r o b, nth hp r = some o → (φ r).has b → c.gl.n ≤ b) :
    HeapOK (cxN c A' φ hp w') φ hp w' := by
  refine ⟨rfl, rfl, rfl, Nat.le_refl _, fun _ _ _ => rfl, fun r o b hr hb => ⟨.inl (Zfv.2 ⟨?_, r, o, hr, hb⟩), fun ha => (hA' b ha).2 r o hr hb⟩, fun r r' o o' b h1 h2 h3 h4 => h.apart r r' o o' b h1 h2 h3 h4, fun r o hr => ?_, fun b hb => ⟨(hA' b hb).1, fun hw => ?_⟩, ⟨hg, fun b hb => ?_, hgt⟩, Nat.le_refl _, fun r _ => .inl (.refl _)⟩
  · exact Nat.lt_of_lt_of_le ((h.obj r o hr).has_lt hb) hsz
  · exact (h.obj r o hr).toW hsz (fun b hb => hown r o b hr hb) hrel
  · obtain ⟨_, r, o, hr, h2⟩ := Zfv.1 hw
    exact (hA' b hb).2 r o hr h2
  · obtain ⟨_, r, o, hr, h2⟩ := Zfv.1 hb
    exact hgW r o b hr h2

structure Sit (c : Ctx) (bi : Nat) (φ : Phi) (st : St) (a : Act) (w : World) : Prop where
  k : Conc c φ st a w
  d : HeapOK (cxN c (fun b => c.A b ∨ b = bi) φ st.hp w) φ st.hp w
  t : ∀ t av, look st.tm t = some av → RelF c.P w (Mut (fun b => c.A b ∨ b = bi) φ st.hp) st.hp.length φ av (a.tmps.getD t undef)
  bi : c.w0.heap.size ≤ bi
theorem Sit.D {c : Ctx} {bi : Nat} {φ : Phi} {st : St} {a : Act} {w : World} (h : Sit c bi φ st a w) : Conc (cxN c (fun b => c.A b ∨ b = bi) φ st.hp w) φ st a w := ⟨h.k.size, h.k.defers, h.d, h.t⟩
theorem glW {c : Ctx} {φ : Phi} {hp : List (Option Own)} {w : World} (h : HeapOK c φ hp w) : ∀ r o b, nth hp r = some o → (φ r).has b → c.gl.n ≤ b := fun r o b hr hb => by
  rcases (h.owned r o b hr hb).1 with h1 | h1
  · exact h.glob.W b h1
  · exact Nat.le_trans h.glob.len h1

theorem Sit.new {c : Ctx} {φ : Phi} {st : St} {a : Act} {w : World} (h : Conc c φ st a w) (ob : Obj) : Sit c w.heap.size φ st a (w.alloc ob) := by
  have hBl : Below w.heap.size w (w.alloc ob) := (Below.refl _ _).alloc (Nat.le_refl _) _
  have hc' := h.below hBl
  have hrel : ∀ av x, RelF c.P w (Mut c.A φ st.hp) st.hp.length φ av x → RelF c.P (w.alloc ob) (Mut (fun b => c.A b ∨ b = w.heap.size) φ st.hp) st.hp.length φ av x := fun av x hx ψ hψ =>
    (hx ψ hψ).mono hBl.size (fun b hb _ => hBl.block b hb) (fun b hb hm hm' => hm (hm'.elim (fun q => q.elim .inl fun e => by omega) .inr))
  have hgl := ZdK h
  refine ⟨hc', mkD h.hok (fun b hb => ?_) hBl.size (fun r o b hr hb => hBl.block b ((h.hok.obj r o hr).has_lt hb)) hrel (Nat.le_trans hgl.len hBl.size) (fun p hp => ?_) (glW h.hok), fun t av ht => hrel _ _ (h.tm t av ht), h.hok.heap⟩
  · have hs : (w.alloc ob).heap.size = w.heap.size + 1 := by show (w.heap.push _).size = _; simp
    rcases hb with hb | rfl
    · have h1 := (h.hok.amb b hb).1
      have h2 := h.hok.heap
      exact ⟨by omega, fun r o hr hb2 => (h.hok.owned r o b hr hb2).2 hb⟩
    · exact ⟨by omega, fun r o hr hb2 => by have := (h.hok.obj r o hr).has_lt hb2; omega⟩
  · obtain ⟨h1, ⟨e, fr, h2⟩, h3⟩ := hgl.tab p hp
    have hlt := (Array.getElem?_eq_some_iff.1 h2).1
    exact ⟨h1, ⟨e, fr, (hBl.block _ hlt).trans h2⟩, fun hq => hq.elim (fun q => h3 (.inl q)) fun e => by omega⟩

end Go.Vx

namespace Go.Vx
open Go Go.RowKit
open Go.ChangeMaps (setBlock)

section picked
variable {α : Type}
def pick (m : List α) (l : List Nat) : List α := l.filterMap fun i => m[i]?
end picked

end Go.Vx

namespace Go.Vx
open Go Go.RowKit

theorem View.oslM {c : Ctx} {st : St} {α : Type} {f : α → List AV} {r n j k e : Nat} {xs : List α} (ho : nth st.hp r = some ⟨e, xs.map f⟩) (hn : xs.length = n) (hjk : j + k ≤ xs.length) (h : ∀ x, (f x).length = c.P.cellsOf e ∧ (f x).all datB = true) (h1 : c.P.cellsOf e = 1) :
    View c st (.osl r n j k) (.sl e (((xs.drop j).take k).map f)) := by
  intro φ a w hc v hv
  have hO := hc.hok.obj r _ ho
  obtain ⟨b, j', cap, hb, hcap, hj', rfl⟩ := Zc5 hv (by rw [hO.len]; simpa using hn)
  have hmp := Zdn hv (by rw [hO.len]; simpa using hn)
  obtain ⟨cs, h3, h4, h5⟩ := hO.some b hb
  have h3 := h3.cells hmp
  have hroom := hO.room
  have hc63 := hO.cap
  simp only [List.length_map] at hroom
  have hlen : (((xs.drop j).take k).map f).length = k := by simp; omega
  by_cases hk : k = 0
  · subst hk
    simp only [List.take_zero, List.map_nil]
    exact .sl0 _ _ _
  obtain rfl := hj' (by omega)
  have hlt : b < w.heap.size := (Array.getElem?_eq_some_iff.1 h3).1
  have hcell : ∀ i jj, i < k → cellAt (((xs.drop j').take k).map f) i jj = cellAt (xs.map f) (j' + i) jj := fun i jj hi => by
    unfold cellAt
    congr 1
    simp [List.getD_eq_getElem?_getD, List.getElem?_take, hi, List.getElem?_drop]
  have := RelD.sl (P := c.P) (w := w) (M := c.A) e (((xs.drop j').take k).map f) b j' cap (fun i jj => cs.getD ((j' + i) * c.P.cellsOf e + jj) undef) hlt (hc.hok.owned r _ b ho (.inl hb)).2 (by rw [hlen]; omega) (by rw [hlen]; exact hcap)
    (fun row hr => by obtain ⟨x, _, rfl⟩ := List.mem_map.1 hr; exact (h x).1)
    (fun i jj hi hjj => by
      rw [hlen] at hi
      rw [Zw h3]
      have e1 : j' + (i * c.P.cellsOf e + jj) = (j' + i) * c.P.cellsOf e + jj := by rw [h1]; omega
      rw [e1]
      have : (j' + i) * c.P.cellsOf e + jj < cs.size := by rw [h4]; exact XM (by omega) hjj
      simp [this])
    (fun i jj hi hjj => by
      rw [hlen] at hi
      have hi' : j' + i < (xs.map f).length := by simp; omega
      rw [hcell i jj hi]
      have hrow := h (xs[j' + i]'(by omega))
      have e2 : cellAt (xs.map f) (j' + i) jj = (f (xs[j' + i]'(by omega))).getD jj .any := by
        unfold cellAt; congr 1; simp [List.getD_eq_getElem?_getD, show j' + i < xs.length by omega]
      have hd : datB (cellAt (xs.map f) (j' + i) jj) = true := by
        rw [e2]
        have hjl : jj < (f (xs[j' + i]'(by omega))).length := by rw [hrow.1]; exact hjj
        have e3 : (f (xs[j' + i]'(by omega))).getD jj .any = (f (xs[j' + i]'(by omega)))[jj] := by simp [List.getD_eq_getElem?_getD, hjl]
        rw [e3]; exact List.all_eq_true.1 hrow.2 _ (List.getElem_mem _)
      exact (Dat.b hd).view φ a w hc _ (h5.plain hi' hjj (ZcR hd)))
  rw [hlen] at this
  exact this

section ops
variable {c : Ctx} {ops : Array Oper} {st : St} {dst : Option Tmp} {ty : TypeId} {pos : String} {after : Array Edge}
theorem ZlX {α : Type} {f : α → List AV} {t e by_ r m len : Nat} {x : Operand} {lo hi : Option Operand} {xs : List α} {p l q : Int} {u : Unit} (h : Opv c st x (.osl r m p.toNat len)) (ho : nth st.hp r = some ⟨e, xs.map f⟩) (hm : xs.length = m) (ht : tSl c.P t e 1 by_ = true)
    (hp : 0 ≤ p) (hl : ZfV c st 0 lo l) (hh : ZfV c st (len : Int) hi q) (hz : ck (decide (0 ≤ l) && (decide (l ≤ q) && decide (q ≤ (len : Int)))) = some u) : SVal c ops st ⟨dst, .slice t x lo hi none, ty, pos, after, none⟩ (.osl r m (p + l).toNat ((p + q) - (p + l)).toNat) :=
  .pure rfl fun φ a w hc => by
    have hz' := Zhn hz
    simp only [Bool.and_eq_true, decide_eq_true_eq] at hz'
    obtain ⟨h0, h1, h2⟩ := hz'
    obtain ⟨hu, inf, z, hi', hs, hby, hn0, hz, hzs, hcs⟩ := tSl.spec ht
    have hO := hc.hok.obj r _ ho
    have hsz : (sizeOf e).run c.P w = .ok 1 w := by simp [sizeOf, typeInfo, hi', hs]
    obtain ⟨b, j0, cap, hb, hcap, hj0, hv⟩ := Zc5 (h φ a w hc) (by rw [hO.len]; simpa using hm)
    have hmp := Zdn (h φ a w hc) (by rw [hO.len]; simpa using hm)
    have hrb := ZcZ hc (isS := true) hl hh h0 h1 (show q ≤ ((cap : Nat) : Int) by omega) hcap
    have hrun : ∀ j', (if cap = l.toNat then (some ⟨b, j0, none⟩ : Option Addr) else some ⟨b, j0 + l.toNat * 1, none⟩) = some ⟨b, j', none⟩ →
        (execOp a.eval ⟨dst, .slice t x lo hi none, ty, pos, after, none⟩).run c.P w = .ok (.value (.slice (some ⟨b, j', none⟩) (q.toNat - l.toNat) (cap - l.toNat))) w := by
      intro j' hj'
      show ((do pure (Next.value (← Instr.sliceAt t (a.eval x) (lo.map a.eval) (hi.map a.eval) none)) : Sem Next)).run c.P w = _
      rw [hv, Sem.run_bind]
      have e : (Instr.sliceAt t (.slice (some ⟨b, j0, none⟩) len cap) (lo.map a.eval) (hi.map a.eval) none).run c.P w = .ok (.slice (some ⟨b, j', none⟩) (q.toNat - l.toNat) (cap - l.toNat)) w := by
        unfold Instr.sliceAt
        rw [Sem.run_bind, run_underlying hu]
        simp only [Result.andThen_ok]
        unfold Instr.slice
        rw [Sem.run_bind, run_underlying hu]
        simp only [Result.andThen_ok]
        rw [Sem.run_bind, hrb]
        simp only [Result.andThen_ok]
        rw [Sem.run_bind, hsz, ← hj']
        simp only [Result.andThen_ok, Option.map_some, Xk]
        rfl
      rw [e]
      rfl
    have hrel : ∀ j', (l.toNat < q.toNat → j' = (p + l).toNat) → ∀ φ', ZdQ st.hp.length φ φ' → Rel c.P w (Mut c.A φ st.hp) φ' (.osl r m (p + l).toNat ((p + q) - (p + l)).toNat) (.slice (some ⟨b, j', none⟩) (q.toNat - l.toNat) (cap - l.toNat)) := by
      intro j' hj' φ' hφ
      have e : φ' r = φ r := hφ r (Q4 ho)
      refine .osl r m (p + l).toNat _ _ rfl (by rw [e, hO.len]; simp [hm]) fun _ => ⟨by rw [e]; exact hmp, b, j', cap - l.toNat, by rw [e]; exact hb, by omega, fun hp => hj' (by omega), ?_⟩
      rw [show ((p + q) - (p + l)).toNat = q.toNat - l.toNat by omega]
    by_cases hcp : cap = l.toNat
    · exact ⟨_, hrun j0 (by rw [if_pos hcp]), hrel j0 (fun hlt => by omega)⟩
    · exact ⟨_, hrun (j0 + l.toNat * 1) (by rw [if_neg hcp]), hrel _ (fun hlt => by have := hj0 (by omega); omega)⟩
end ops
end Go.Vx
namespace Go.Vx
open Go Go.RowKit
theorem Zlv {α : Type} {xs ys : List α} {p q : Int} {u : Unit} (e : ys.length = xs.length) (h : slq xs p q = some u) : slq ys p q = some () := by
  have : slq ys p q = slq xs p q := by unfold slq; rw [e]
  rw [this, h]
end Go.Vx

namespace Go.Vx
open Go Go.RowKit

theorem Zip : ∀ (k n c : Nat), Builtin.growBy n k c ≤ max c (n + (n + 768) / 4)
  | 0, n, c => by unfold Builtin.growBy; omega
  | k + 1, n, c => by
    unfold Builtin.growBy
    split
    · omega
    · have := Zip k n (c + (c + 768) / 4)
      omega
theorem Zlw {need old : Nat} (h : old < need) : Builtin.nextslicecap need old ≤ max 512 (need + (need + 768) / 4) := by
  unfold Builtin.nextslicecap
  split
  · omega
  · split
    · omega
    · have := Zip 4 need old
      omega
def apy {α : Type} (xs ys : List α) : Option (List α) := if xs.length + ys.length ≤ 140737489403904 then some (xs ++ ys) else none
section ops
variable {c : Ctx} {ops : Array Oper} {st : St} {dst : Option Tmp} {ty : TypeId} {pos : String} {after : Array Edge}
theorem Zkg {x y : Operand} {t e sz by_ r n m : Nat} {o : Own} {ys : List (List AV)} (h : Opv c st x (.own r n)) (hy : SlV c st y sz ys) (ht : tSl c.P t e sz by_ = true)
    (ho : nth st.hp r = some o) (hn : o.es.length = n) (he : o.elem = e) (hm : ys.length = m) (hpos : 0 < m) (h1 : ∀ row ∈ ys, ∀ u ∈ row, ZdN c st u) (hb : (n + m) * by_ ≤ 281474976710656) (hgr : ∀ old, old < n + m → Builtin.nextslicecap (n + m) old * by_ ≤ 281474976710656) (h63 : n + m < 2 ^ 63) :
    WVal c ops st ⟨dst, .call { callee := .builtin .append, args := #[x, y], argTypes := #[t, t] }, ty, pos, after, none⟩ (.own r (n + m)) (Qd st.hp r (some ⟨e, o.es ++ ys⟩)) := by
  subst he
  refine .run rfl fun φ a w hc => ?_
  obtain ⟨hu, inf, z, hi, hs, hby, hn0, hz, hzs, hcs⟩ := tSl.spec ht
  have hO := hc.hok.obj r o ho
  have hx := Xl (h φ a w hc) (by rw [hO.len, hn])
  obtain ⟨base, cap, hyv, _, hyr, hyc⟩ := hy φ a w hc
  have hyne : ys ≠ [] := fun e => by rw [e] at hm; simp at hm; omega
  obtain ⟨b, off, us, rfl, hc1, hc2⟩ := hyc hyne
  obtain ⟨news, hnl, hn1, hn2⟩ := Zf5 hc hc1 hn0
  rw [hm] at hnl hyv
  have hone : ∀ u ∈ news, u.oneCell' = true := by
    intro u hu'
    obtain ⟨k, hk, rfl⟩ := List.getElem_of_mem hu'
    have hk' : k < ys.length * sz := by rw [hm]; omega
    have hdi : k / sz < ys.length := Nat.div_lt_of_lt_mul (by rw [Nat.mul_comm]; exact hk')
    have hmo : k % sz < sz := Nat.mod_lt _ hn0
    have e1 : k / sz * sz + k % sz = k := by rw [Nat.mul_comm]; exact Nat.div_add_mod k sz
    have e2 := hn2 (k / sz) (k % sz) hdi hmo
    rw [e1] at e2
    have e3 : news[k] = us (k / sz) (k % sz) := by rw [← e2]; simp [List.getD_eq_getElem?_getD, hk]
    rw [e3]
    have hrow : ys[k / sz] ∈ ys := List.getElem_mem hdi
    refine h1 _ hrow (cellAt ys (k / sz) (k % sz)) ?_ φ a w hc _ (hc2 _ _ hdi hmo)
    have hl := hyr _ hrow
    have : cellAt ys (k / sz) (k % sz) = ys[k / sz][k % sz]'(by omega) := by simp [cellAt, List.getD_eq_getElem?_getD, hdi, hl, hmo]
    rw [this]
    exact List.getElem_mem _
  have hmp := QJ (h φ a w hc) (by rw [hO.len, hn])
  have h2n : (o.es ++ ys).length = n + m := by simp [hn, hm]
  have hrl : r < st.hp.length := Q4 ho
  -- whatever has come of it
  have fin : ∀ (w' : World) (L : Loc) (g : Nat) (cs : Array Value), w'.os = w.os → w'.tape = w.tape → w'.output = w.output → w.heap.size ≤ w'.heap.size →
      (∀ b, b < w.heap.size → (φ r).blk ≠ some b → w'.heap[b]? = w.heap[b]?) → (L.blk = (φ r).blk ∨ w.heap.size ≤ g) → L.blk = some g → L.n = n + m → L.sz = sz → L.cap < 2 ^ 63 → n + m ≤ L.cap → L.mp = false → L.sub = (φ r).sub →
      w'.heap[g]? = some (.cells cs o.elem (0, 0)) → cs.size = L.cap * sz → (∀ i j, i < n → j < sz → ∃ b csO, (φ r).blk = some b ∧ w.heap[b]? = some (.cells csO o.elem (0, 0)) ∧ cs.getD (i * sz + j) undef = csO.getD (i * sz + j) undef) →
      (∀ i j, i < m → j < sz → cs.getD ((n + i) * sz + j) undef = us i j) →
      ∃ φ', HeapOK c φ' (Qd st.hp r (some ⟨o.elem, o.es ++ ys⟩)) w' ∧
      (∀ av x, RelF c.P w (Mut c.A φ st.hp) st.hp.length φ av x → RelF c.P w' (Mut c.A φ' (Qd st.hp r (some ⟨o.elem, o.es ++ ys⟩))) (Qd st.hp r (some ⟨o.elem, o.es ++ ys⟩)).length φ' av x) ∧
      RelF c.P w' (Mut c.A φ' (Qd st.hp r (some ⟨o.elem, o.es ++ ys⟩))) (Qd st.hp r (some ⟨o.elem, o.es ++ ys⟩)).length φ' (.own r (n + m)) (.slice (some ⟨g, 0, none⟩) (n + m) L.cap) := by
    intro w' L g cs hos htp hou hsz hblk hLb hLg hLn hLs hLc hLr hLm hLu hg hcsz hold hnew
    have hgs : ¬ (φ r).sub g := fun hs => by
      rcases hLb with h | h
      · exact hO.subn g (by rw [← h]; exact hLg) hs
      · have := hO.subl g hs; omega
    have hupd := JU (L := L) (o' := ⟨o.elem, o.es ++ ys⟩) (w' := w') hc.hok ho hos htp hou hsz hblk (by
        rcases hLb with h | h
        · exact .inl h
        · exact .inr fun b hb => by rw [hLg] at hb; cases hb; exact h) (.inr (by rw [hO.len, hn, hLn]; omega)) (fun htr => by
      refine ⟨by simp only [if_true, hLn, h2n], by simp [hLs, hcs], ?_, by simp [hn, hm]; exact hLr, by simpa using hLc, (fun h => by simp [hLg] at h), (by simp only [if_true, hLu]; exact fun b hb => Nat.lt_of_lt_of_le (hO.subl b hb) hsz), (by simp only [if_true, hLu, hLg]; rintro b hb; cases hb; exact hgs), fun b' hb' => ?_⟩
      · intro row hrow
        rcases List.mem_append.1 hrow with hrow | hrow
        · exact hO.rows row hrow
        · rw [hcs]; exact hyr row hrow
      · simp only [if_true, hLg] at hb'
        cases hb'
        have hT : ∃ T : Nat → Nat → Nat → Prop, (∀ i j b, T i j b → (φ r).sub b) ∧ (∀ i j i' j' b, T i j b → T i' j' b → i = i' ∧ j = j') ∧ ∀ i j, i < n → j < sz → ∀ b0 csO, (φ r).blk = some b0 → w.heap[b0]? = some (.cells csO o.elem (0, 0)) →
            TRel c.P w (Mut c.A φ st.hp) st.hp.length φ (T i j) (cellAt o.es i j) (csO.getD (i * sz + j) undef) := by
          cases hbk : (φ r).blk with
          | none => exact ⟨fun _ _ _ => False, fun _ _ _ h => h.elim, fun _ _ _ _ _ h => h.elim, fun i j _ _ b0 csO h => by cases h⟩
          | some b0 =>
            obtain ⟨cs2, g1, g2, T, t1, t2, g3⟩ := hO.some b0 hbk
            refine ⟨T, t1, t2, fun i j hi hj b1 csO hb1 hgO => ?_⟩
            cases hb1
            have g1 := g1.cells hmp
            rw [hgO] at g1; cases g1
            have := g3 i j (by rw [hn]; exact hi) (by rw [hcs]; exact hj)
            rwa [hcs] at this
        obtain ⟨T, t1, t2, g3⟩ := hT
        refine ⟨cs, (by simp only [if_true, hLm]; exact hg), by simp [hcsz, hcs], fun i j x => T i j x ∧ i < n, (fun i j x hx => by simp only [if_true, hLu]; exact t1 i j x hx.1), (fun i1 j1 i2 j2 x hx hy => t2 i1 j1 i2 j2 x hx.1 hy.1), fun i j hi' hj' => ?_⟩
        simp only [hcs] at hj' ⊢
        by_cases hin : i < n
        · obtain ⟨b0, csO, hb0, hgO, hvO⟩ := hold i j hin hj'
          rw [hvO, Xz (by rw [hn]; exact hin)]
          exact ((g3 i j hin hj' b0 csO hb0 hgO).tr (fun x hx => hblk x (hO.subl x (t1 i j x hx)) (fun e => hO.subn x e (t1 i j x hx))) htr).sub fun x hx => ⟨hx, hin⟩
        · rw [Xm (by rw [hn]; omega), hn]
          have hlt : i - n < m := by simp [hn, hm] at hi'; omega
          have e := hnew (i - n) j hlt hj'
          rw [show n + (i - n) = i by omega] at e
          rw [e]
          exact .leaf (htr _ _ (hc2 (i - n) j (by rw [hm]; exact hlt) hj'))) (by exact hLu)
    refine ⟨_, hupd.1, hupd.2, fun φ' hφ => ?_⟩
    have e : φ' r = L := by
      have := hφ r (by rw [Jg]; exact hrl)
      simpa using this
    exact .own r (n + m) _ rfl (by rw [e, hLn]; exact Nat.le_refl _) fun _ => by rw [e, hLg]; exact ⟨hLm, rfl⟩
  have hml : n + m ≤ maxLen := by simp only [maxLen]; omega
  cases hbk : (φ r).blk with
  | none =>
    obtain ⟨hes, hcap⟩ := hO.none hbk
    have hn' : n = 0 := by rw [← hn, hes]; rfl
    subst hn'
    rw [hbk, hcap] at hx
    have hr := run_append_nil (P := c.P) w t ty o.elem inf z hu hi hz ⟨b, off, none⟩ m cap news (by rw [hnl, hs]) hn1 hpos (by omega) (by rw [hby]; simp at hb; omega)
    obtain ⟨φ', g1, g2, g3⟩ := fin (w.drew.alloc (.cells (news.toArray ++ Builtin.zeroCells z.cells (grownCap w m 0 o.elem - m)) o.elem)) ⟨some w.heap.size, grownCap w m 0 o.elem, 0 + m, sz, false, (φ r).sub⟩ w.heap.size (news.toArray ++ Builtin.zeroCells z.cells (grownCap w m 0 o.elem - m)) rfl rfl rfl (by simp) (fun b' hlt _ => heap_alloc_old w.drew _ hlt) (.inr (Nat.le_refl _)) rfl rfl rfl
      (by have := grownCap_le_maxLen w m 0 o.elem (by simpa using hml); simp only [maxLen] at this; show grownCap w m 0 o.elem < 2 ^ 63; omega) (by simpa using grownCap_ge w m 0 o.elem) rfl rfl
      (heap_alloc_new w.drew _) (by
        have hge := grownCap_ge w m 0 o.elem
        simp only [Array.size_append, List.size_toArray, size_zeroCells, hzs, hnl, ← Nat.add_mul]
        congr 1; omega) (fun i j hi' _ => absurd hi' (by omega)) (fun i j hi' hj' => by
        rw [← hn2 i j (by rw [hm]; exact hi') hj']
        have : i * sz + j < news.length := by rw [hnl]; exact XM hi' hj'
        simp [Array.getD_eq_getD_getElem?, List.getD_eq_getElem?_getD, Array.getElem?_append, this])
    refine ⟨_, _, φ', ?_, g1, g2, g3⟩
    simp [execOp, resolve, invoke, builtin, hx, hyv, hr]
  | some g =>
    obtain ⟨cs, h4, h5, _⟩ := hO.some g hbk
    have h4 := h4.cells hmp
    rw [hcs] at h5
    have hroom := hO.room
    have hcap63 := hO.cap
    rw [hbk] at hx
    simp only [Option.map_some] at hx
    by_cases hfit : n + m ≤ (φ r).cap
    · have hbnd : n * sz + news.length ≤ cs.size := by
        rw [hnl, h5, ← Nat.add_mul]; exact Nat.mul_le_mul_right _ hfit
      have hr := run_append_room (P := c.P) w t ty o.elem inf hu hi g n (φ r).cap cs h4 ⟨b, off, none⟩ m cap news (by rw [hnl, hs]) hn1 hone hfit (by rw [hs]; exact hbnd)
      rw [hs] at hr
      obtain ⟨φ', g1, g2, g3⟩ := fin (w.setRow g (cs.toList.take (n * sz) ++ news ++ cs.toList.drop (n * sz + news.length)).toArray) ⟨some g, (φ r).cap, n + m, sz, false, (φ r).sub⟩ g (cs.toList.take (n * sz) ++ news ++ cs.toList.drop (n * sz + news.length)).toArray rfl rfl rfl (by simp) (fun b' _ hne => setRow_other w g b' _ (fun e => hne (by rw [hbk, e]))) (.inl hbk.symm) rfl rfl rfl hcap63 hfit rfl rfl
        (setRow_heap w g cs _ o.elem _ h4) (by simp; omega) (fun i j hi' hj' => ⟨g, cs, hbk, h4, by
          have : i * sz + j < n * sz := XM hi' hj'
          rw [Q7 cs news _ _ hbnd, if_pos this]⟩) (fun i j hi' hj' => by
          rw [← hn2 i j (by rw [hm]; exact hi') hj']
          have h7 : i * sz + j < news.length := by rw [hnl]; exact XM hi' hj'
          rw [Q7 cs news _ _ hbnd, Nat.add_mul, if_neg (by omega), if_pos (by omega)]
          congr 1; omega)
      refine ⟨_, _, φ', ?_, g1, g2, g3⟩
      simp [execOp, resolve, invoke, builtin, hx, hyv, hr]
    · obtain ⟨olds, holdl, holds, holdv⟩ : ∃ olds : List Value, olds.length = n * sz ∧ (∀ j u, olds[j]? = some u → w.cell? ((⟨g, 0, none⟩ : Addr).add j) = some u) ∧ (∀ k, k < n * sz → olds.getD k undef = cs.getD k undef) := by
        refine ⟨cs.toList.take (n * sz), ?_, fun j u hu' => ?_, fun k hk => ?_⟩
        · have : n * sz ≤ cs.size := by rw [h5]; exact Nat.mul_le_mul_right _ (by omega)
          simp; omega
        · rw [Xk, Nat.zero_add, Zw h4]
          rw [List.getElem?_take] at hu'
          split at hu'
          · simpa using hu'
          · cases hu'
        · rw [List.getD_eq_getElem?_getD, List.getElem?_take, if_pos hk]
          simp [Array.getD_eq_getD_getElem?]
      have hr := run_append_grow (P := c.P) w t ty o.elem inf z hu hi hz ⟨g, 0, none⟩ n (φ r).cap olds (by rw [holdl, hs]) holds ⟨b, off, none⟩ m cap news (by rw [hnl, hs]) hn1 (by omega) (by omega) (by rw [hby]; exact hgr _ (by omega))
      obtain ⟨φ', g1, g2, g3⟩ := fin (w.drew.alloc (.cells (olds.toArray ++ news.toArray ++ Builtin.zeroCells z.cells (grownCap w (n + m) (φ r).cap o.elem - (n + m))) o.elem)) ⟨some w.heap.size, grownCap w (n + m) (φ r).cap o.elem, n + m, sz, false, (φ r).sub⟩ w.heap.size (olds.toArray ++ news.toArray ++ Builtin.zeroCells z.cells (grownCap w (n + m) (φ r).cap o.elem - (n + m))) rfl rfl rfl (by simp) (fun b' hlt _ => heap_alloc_old w.drew _ hlt) (.inr (Nat.le_refl _)) rfl rfl rfl
        (by have := grownCap_le_maxLen w (n + m) (φ r).cap o.elem hml; simp only [maxLen] at this; show grownCap w (n + m) (φ r).cap o.elem < 2 ^ 63; omega) (grownCap_ge w (n + m) (φ r).cap o.elem) rfl rfl
        (heap_alloc_new w.drew _) (by
          have hge := grownCap_ge w (n + m) (φ r).cap o.elem
          rw [Array.size_append, Array.size_append, List.size_toArray, List.size_toArray, size_zeroCells, hzs, hnl, holdl, ← Nat.add_mul, ← Nat.add_mul, Nat.add_sub_cancel' hge]) (fun i j hi' hj' => ⟨g, cs, hbk, h4, by
          have h8 : i * sz + j < n * sz := XM hi' hj'
          rw [← holdv _ h8]
          rw [Zc3, holdl, if_pos h8]⟩) (fun i j hi' hj' => by
          rw [← hn2 i j (by rw [hm]; exact hi') hj']
          have h7 : i * sz + j < news.length := by rw [hnl]; exact XM hi' hj'
          have h8 : ¬ ((n + i) * sz + j < n * sz) := by rw [Nat.add_mul]; omega
          have h9 : (n + i) * sz + j - n * sz = i * sz + j := by rw [Nat.add_mul]; omega
          rw [Zc3, holdl, if_neg h8, if_pos (by rw [Nat.add_mul]; omega), h9])
      refine ⟨_, _, φ', ?_, g1, g2, g3⟩
      simp [execOp, resolve, invoke, builtin, hx, hyv, hr]

theorem Zij {α : Type} {f : α → List AV} {x y : Operand} {t e sz by_ r n : Nat} {xs ys zs : List α} (h : Opv c st x (.own r n)) (hy : SlV c st y sz (ys.map f)) (ht : tSl c.P t e sz by_ = true)
    (ho : nth st.hp r = some ⟨e, xs.map f⟩) (hn : xs.length = n) (h1 : ∀ u, ∀ v ∈ f u, ZdN c st v) (hby : Nat.beq by_ 1 = true) (hz : apy xs ys = some zs) :
    WVal c ops st ⟨dst, .call { callee := .builtin .append, args := #[x, y], argTypes := #[t, t] }, ty, pos, after, none⟩ (.own r zs.length) (Qd st.hp r (some ⟨e, zs.map f⟩)) := by
  have hb1 := Nat.eq_of_beq_eq_true hby
  subst hb1
  unfold apy at hz
  split at hz
  case isFalse => cases hz
  rename_i hle
  cases ys with
  | cons u ys =>
    cases hz
    have hle2 : n + (u :: ys).length ≤ 140737489403904 := hn ▸ hle
    have := Zkg (c := c) (ops := ops) (dst := dst) (ty := ty) (pos := pos) (after := after) (m := (u :: ys).length) h hy ht ho (by simpa using hn) rfl (by simp) (by simp) (fun row hr u hu => by
      obtain ⟨a, _, rfl⟩ := List.mem_map.1 hr
      exact h1 a u hu) (by omega) (fun old ho => by have := Zlw ho; omega) (by omega)
    rw [← hn, ← List.length_append] at this
    simpa [List.map_append] using this
  | nil =>
    simp only [List.append_nil, Option.some.injEq] at hz
    subst hz
    have hset : Qd st.hp r (some (⟨e, xs.map f⟩ : Own)) = st.hp := by
      generalize st.hp = hp at ho
      clear h hy
      induction hp generalizing r with
      | nil => cases ho
      | cons o hp ih =>
        cases r with
        | zero => simp only [nth] at ho; simp [Qd, ho]
        | succ r => simp only [nth] at ho; simp only [Qd]; rw [ih ho]
    rw [hset, hn]
    exact Zfs h hy ht ho hn
end ops
end Go.Vx

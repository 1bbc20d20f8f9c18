/- A text of the proof: a verified executor of the program form, or the contracts of the functions that the law reaches. -/
import Derived.Test.YtnlmjeleocelgaaGreatDoorVS
set_option linter.all false
namespace Go.Vx
open Go Go.RowKit
section ops
variable {c : Ctx} {ops : Array Oper} {st : St} {dst : Option Tmp} {ty : TypeId} {pos : String} {after : Array Edge}
variable {α : Type} {f : α → List AV}
theorem Zo6 {t e by_ r m sz : Nat} {x : Operand} {lo hi : Option Operand} {xs : List α} {p q : Int} {u : Unit} (h : Opv c st x (.own r m)) (ho : nth st.hp r = some ⟨e, xs.map f⟩) (hm : xs.length = m) (ht : tSl c.P t e sz by_ = true)
    (hl : Zhr c st 0 lo p) (hh : Zhr c st (xs.length : Int) hi q) (hz : slq xs p q = some u) : SVal c ops st ⟨dst, .slice t x lo hi none, ty, pos, after, none⟩ (.osl r m (p.toNat * sz) (q - p).toNat) :=
  .pure rfl fun φ a w hc => by
    obtain ⟨h0, h1, h2, h3⟩ := Zjw hz
    obtain ⟨hu, inf, z, hi', hs, hby, hn0, hz, hzs, hcs⟩ := tSl.spec ht
    have hO := hc.hok.obj r _ ho
    have hv := Ji (h φ a w hc) (by rw [hO.len]; simpa using hm)
    have hroom := hO.room
    simp only [List.length_map] at hroom
    have hsz : (sizeOf e).run c.P w = .ok sz w := by simp [sizeOf, typeInfo, hi', hs]
    have hrb := Zd7 hc (isS := true) hl hh h0 h1 (show q ≤ (((φ r).cap : Nat) : Int) by omega) hroom
    cases hb : (φ r).blk with
    | none => have := (hO.none hb).1; simp at this; rw [this] at h3; simp at h3
    | some b =>
      rw [hb] at hv
      simp only [Option.map_some] at hv
      have hrun : ∀ j', (if (φ r).cap = p.toNat then (some ⟨b, 0, none⟩ : Option Addr) else some ⟨b, 0 + p.toNat * sz, none⟩) = some ⟨b, j', none⟩ →
          (execOp a.eval ⟨dst, .slice t x lo hi none, ty, pos, after, none⟩).run c.P w = .ok (.value (.slice (some ⟨b, j', none⟩) (q.toNat - p.toNat) ((φ r).cap - p.toNat))) w := by
        intro j' hj'
        show ((do pure (Next.value (← Instr.sliceAt t (a.eval x) (lo.map a.eval) (hi.map a.eval) none)) : Sem Next)).run c.P w = _
        rw [hv, Sem.run_bind]
        have e : (Instr.sliceAt t (.slice (some ⟨b, 0, none⟩) m (φ r).cap) (lo.map a.eval) (hi.map a.eval) none).run c.P w = .ok (.slice (some ⟨b, j', none⟩) (q.toNat - p.toNat) ((φ r).cap - p.toNat)) w := by
          unfold Instr.sliceAt
          rw [Sem.run_bind, run_underlying hu]
          simp only [Result.andThen_ok]
          unfold Instr.slice
          rw [Sem.run_bind, run_underlying hu]
          simp only [Result.andThen_ok]
          rw [hm] at hrb
          rw [Sem.run_bind, hrb]
          simp only [Result.andThen_ok]
          rw [Sem.run_bind, hsz, ← hj']
          simp only [Result.andThen_ok, Option.map_some, XY]
          rfl
        rw [e]
        rfl
      have hrel : ∀ j', (p.toNat < q.toNat → j' = p.toNat * sz) → ∀ φ', Ze2 st.hp.length φ φ' → Rel c.P w (Mut c.A φ st.hp) φ' (.osl r m (p.toNat * sz) (q - p).toNat) (.slice (some ⟨b, j', none⟩) (q.toNat - p.toNat) ((φ r).cap - p.toNat)) := by
        intro j' hj' φ' hφ
        have e : φ' r = φ r := hφ r (XK ho)
        refine .osl r m (p.toNat * sz) _ _ rfl (by rw [e, hO.len]; simp [hm]) fun _ => ⟨by rw [e]; exact Xh (h φ a w hc) (by rw [hO.len]; simpa using hm), b, j', (φ r).cap - p.toNat, by rw [e]; exact hb, by omega, fun hp => hj' (by omega), ?_⟩
        rw [show (q - p).toNat = q.toNat - p.toNat by omega]
      by_cases hcp : (φ r).cap = p.toNat
      · exact ⟨_, hrun 0 (by rw [if_pos hcp]), hrel 0 (fun hlt => by omega)⟩
      · exact ⟨_, hrun (0 + p.toNat * sz) (by rw [if_neg hcp]), hrel _ (fun _ => Nat.zero_add _)⟩


theorem Zj5 {P : Program} (w : World) (dT sT ty elem : TypeId) (g o dLen dCap : Nat) (a : Addr) (sLen sCap : Nat) (cur : Array Value) (t : TypeId) (cs : List Value) (sz : Nat)
    (hu : P.underlying dT = some (.slice elem)) (hs : (P.info? elem).map (·.size) = some sz)
    (hg : w.heap[g]? = some (.cells cur t (0, 0))) (hn : cs.length = Nat.min sLen dLen * sz)
    (hsrc : ∀ j v, cs[j]? = some v → w.cell? (a.add j) = some v) (hfit : o + cs.length ≤ cur.size) (h1 : ∀ v ∈ cs, v.oneCell' = true) :
    (Builtin.copy_ #[dT, sT] ty #[.slice (some ⟨g, o, none⟩) dLen dCap, .slice (some a) sLen sCap]).run P w =
      .ok (goInt (Nat.min sLen dLen)) (w.setRow g (cur.toList.take o ++ cs ++ cur.toList.drop (o + cs.length)).toArray) := by
  have hl := run_loadCells_list (P := P) w a cs hsrc
  have hst := run_storeCells_at P g o t cs 0 cur w hg (by simpa using hfit) h1
  cases hq : P.info? elem with
  | none => simp [hq] at hs
  | some i =>
    have hi : i.size = sz := by simpa [hq] using hs
    simp [Builtin.copy_, run_underlying hu, Builtin.lenOf, Builtin.firstCells, sizeOf, typeInfo, hq, hi, ← hn, hl, hst]
theorem Zg2 {P : Program} (w : World) (dT sT ty elem : TypeId) (d : Option Addr) (b : Nat) (j2 : Nat) (dLen dCap sLen sCap sz : Nat) (hu : P.underlying dT = some (.slice elem)) (hs : (P.info? elem).map (·.size) = some sz) (h0 : Nat.min sLen dLen = 0) :
    (Builtin.copy_ #[dT, sT] ty #[.slice d dLen dCap, .slice (some ⟨b, j2, none⟩) sLen sCap]).run P w = .ok (goInt 0) w := by
  cases hq : P.info? elem with
  | none => simp [hq] at hs
  | some i =>
    cases d <;> simp [Builtin.copy_, run_underlying hu, Builtin.lenOf, Builtin.firstCells, sizeOf, typeInfo, hq, h0, loadCells, loadCellsFrom, storeCells]
theorem ZoM {t t2 e by_ r m p1 n1 p2 n2 sz : Nat} {x y : Operand} {xs : List α} (h : Opv c st x (.osl r m (p1 * sz) n1)) (h' : Opv c st y (.osl r m (p2 * sz) n2)) (ho : nth st.hp r = some ⟨e, xs.map f⟩)
    (hm : xs.length = m) (hf : ∀ u, (f u).length = c.P.cellsOf e ∧ (f u).all datB = true) (h1 : ∀ u, (f u).all c1B = true) (ht : tSl c.P t e sz by_ = true) (hp1 : p1 + n1 ≤ xs.length) (hp2 : p2 + n2 ≤ xs.length) :
    WVal c ops st ⟨dst, .call { callee := .builtin .copy, args := #[x, y], argTypes := #[t, t2] }, ty, pos, after, none⟩ (.int .i64 ((min n2 n1 : Nat) : Int)) (QN st.hp r (some ⟨e, (cpy xs p1 n1 p2 n2).map f⟩)) := by
  refine .run rfl fun φ a w hc => ?_
  obtain ⟨hu, inf, z, hi', hs, hby, hn0, hz, hzs, hcs⟩ := tSl.spec ht
  have hO := hc.hok.obj r _ ho
  have hlen : (φ r).n = xs.length := by rw [hO.len]; simp
  obtain ⟨b, j1, c1, hb, hc1, hj1, hx⟩ := Zen (h φ a w hc) (by omega)
  obtain ⟨b', j2, c2, hb', hc2, hj2, hy⟩ := Zen (h' φ a w hc) (by omega)
  have hmp := Zge (h φ a w hc) (by omega)
  rw [hb] at hb'; cases hb'
  obtain ⟨cs, k1, k2, k3⟩ := hO.some b hb
  have k1 := k1.cells hmp
  have hroom := hO.room
  simp only [List.length_map] at hroom
  rw [hcs] at k2
  have hcsz : xs.length * sz ≤ cs.size := by rw [k2]; exact Nat.mul_le_mul_right _ hroom
  have hcell : ∀ i j, i < xs.length → j < sz → RelF c.P w (Mut c.A φ st.hp) st.hp.length φ (cellAt (xs.map f) i j) (cs.getD (i * sz + j) undef) ∧ c1B (cellAt (xs.map f) i j) = true := by
    intro i j hi hj
    have hfl := (hf xs[i]).1
    rw [hcs] at hfl
    have e : cellAt (xs.map f) i j = (f xs[i])[j]'(by omega) := by simp [cellAt, List.getD_eq_getElem?_getD, hi, hfl, hj]
    have hd := List.all_eq_true.1 (hf xs[i]).2 _ (List.getElem_mem (show j < (f xs[i]).length by omega))
    have hc1' := List.all_eq_true.1 (h1 xs[i]) _ (List.getElem_mem (show j < (f xs[i]).length by omega))
    have := k3.plain (i := i) (j := j) (by simpa using hi) (by rw [hcs]; omega) (by simp only; rw [e]; exact Zeo hd)
    simp only at this
    rw [hcs] at this
    refine ⟨this, by rw [e]; exact hc1'⟩
  have hφ : (fun x => if x = r then φ r else φ x) = φ := by funext x; split; subst_vars; rfl; rfl
  have hrun0 : ∀ v w1, (Builtin.copy_ #[t, t2] ty #[a.eval x, a.eval y]).run c.P w = .ok v w1 → (execOp a.eval ⟨dst, .call { callee := .builtin .copy, args := #[x, y], argTypes := #[t, t2] }, ty, pos, after, none⟩).run c.P w = .ok (.value v) w1 := by
    intro v w1 hr
    simp [execOp, resolve, invoke, builtin, hr]
  have main : ∃ w' cs', (Builtin.copy_ #[t, t2] ty #[a.eval x, a.eval y]).run c.P w = .ok (goInt ((min n2 n1 : Nat) : Int)) w' ∧ w'.os = w.os ∧ w'.tape = w.tape ∧ w'.output = w.output ∧ w.heap.size ≤ w'.heap.size ∧
      (∀ b', b' ≠ b → w'.heap[b']? = w.heap[b']?) ∧ w'.heap[b]? = some (.cells cs' e (0, 0)) ∧ cs'.size = cs.size ∧
      ∀ i j, i < xs.length → j < sz → cs'.getD (i * sz + j) undef = cs.getD ((if p1 ≤ i ∧ i < p1 + min n2 n1 then p2 + (i - p1) else i) * sz + j) undef := by
    by_cases h0 : min n2 n1 = 0
    · refine ⟨w, cs, ?_, rfl, rfl, rfl, Nat.le_refl _, fun _ _ => rfl, k1, rfl, fun i j hi hj => by rw [if_neg (by omega)]⟩
      rw [hx, hy, h0]
      exact Zg2 (P := c.P) w t t2 ty e _ _ _ n1 c1 n2 c2 sz hu (by simp [hi', hs]) h0
    · rw [hj1 (by omega)] at hx
      rw [hj2 (by omega)] at hy
      have q2 : (p2 + min n2 n1) * sz ≤ xs.length * sz := Nat.mul_le_mul_right _ (by omega)
      have q1 : (p1 + min n2 n1) * sz ≤ xs.length * sz := Nat.mul_le_mul_right _ (by omega)
      rw [Nat.add_mul] at q1 q2
      have hl : ((cs.toList.drop (p2 * sz)).take (min n2 n1 * sz)).length = min n2 n1 * sz := by simp; omega
      have := Zj5 (P := c.P) w t t2 ty e b (p1 * sz) n1 c1 ⟨b, p2 * sz, none⟩ n2 c2 cs e ((cs.toList.drop (p2 * sz)).take (min n2 n1 * sz)) sz hu (by simp [hi', hs]) k1 hl ?_ (by rw [hl]; omega) ?_
      · refine ⟨w.setRow b (cs.toList.take (p1 * sz) ++ (cs.toList.drop (p2 * sz)).take (min n2 n1 * sz) ++ cs.toList.drop (p1 * sz + min n2 n1 * sz)).toArray, (cs.toList.take (p1 * sz) ++ (cs.toList.drop (p2 * sz)).take (min n2 n1 * sz) ++ cs.toList.drop (p1 * sz + min n2 n1 * sz)).toArray, by rw [hx, hy]; rw [hl] at this; exact this, rfl, rfl, rfl, (by simp [World.setRow]), fun b' hb' => setRow_other w b b' _ hb', setRow_heap w b cs _ e _ k1, by simp; omega, fun i j hi hj => ?_⟩
        have e2 := X0 cs ((cs.toList.drop (p2 * sz)).take (min n2 n1 * sz)) (p1 * sz) (i * sz + j) (by rw [hl]; omega)
        rw [hl] at e2
        rw [e2]
        by_cases hi1 : i < p1
        · have : (i + 1) * sz ≤ p1 * sz := Nat.mul_le_mul_right _ hi1
          rw [Nat.add_mul] at this
          rw [if_pos (by omega), if_neg (by omega)]
        · have g1 : p1 * sz ≤ i * sz := Nat.mul_le_mul_right _ (by omega)
          rw [if_neg (by omega)]
          by_cases hi2 : i < p1 + min n2 n1
          · have g2 : (i + 1) * sz ≤ (p1 + min n2 n1) * sz := Nat.mul_le_mul_right _ hi2
            rw [Nat.add_mul, Nat.add_mul] at g2
            have g3 : (p2 + (i - p1)) * sz = p2 * sz + (i * sz - p1 * sz) := by rw [Nat.add_mul, Nat.sub_mul]
            rw [if_pos (by omega), if_pos (by omega), List.getD_eq_getElem?_getD, List.getElem?_take_of_lt (by omega), List.getElem?_drop, g3]
            rw [show p2 * sz + (i * sz + j - p1 * sz) = p2 * sz + (i * sz - p1 * sz) + j by omega]
            simp [Array.getD_eq_getD_getElem?]
          · have g2 : (p1 + min n2 n1) * sz ≤ i * sz := Nat.mul_le_mul_right _ (by omega)
            rw [Nat.add_mul] at g2
            rw [if_neg (by omega), if_neg (by omega)]
      · intro j v hj
        rw [XY]
        have hjl : j < min n2 n1 * sz := by have := (List.getElem?_eq_some_iff.1 hj).1; omega
        rw [List.getElem?_take_of_lt hjl, List.getElem?_drop] at hj
        simp only [Array.getElem?_toList] at hj
        simp [World.cell?, k1, hj]
      · intro v hv
        obtain ⟨j, hj, rfl⟩ := List.getElem_of_mem hv
        have hjl : j < min n2 n1 * sz := by omega
        have hd := Nat.div_add_mod j sz
        have hmod := Nat.mod_lt j hn0
        have hdl : j / sz < min n2 n1 := Nat.div_lt_of_lt_mul (by rw [Nat.mul_comm]; exact hjl)
        have hq := hcell (p2 + j / sz) (j % sz) (by omega) hmod
        have e3 : ((cs.toList.drop (p2 * sz)).take (min n2 n1 * sz))[j] = cs.getD ((p2 + j / sz) * sz + j % sz) undef := by
          have hcz : p2 * sz + j < cs.size := by omega
          have : (p2 + j / sz) * sz + j % sz = p2 * sz + j := by rw [Nat.add_mul, Nat.mul_comm (j / sz)]; omega
          rw [this]
          simp [Array.getD_eq_getD_getElem?, hcz]
        rw [e3]
        exact Zfa hq.1 hq.2
  obtain ⟨w', cs', hrun, e1, e2, e3, e4, e5, e6, e7, e8⟩ := main
  have hu' := ZaX (L := φ r) (o' := ⟨e, (cpy xs p1 n1 p2 n2).map f⟩) (w' := w') hc.hok ho e1 e2 e3 e4 (fun b' _ hne => e5 b' (fun e => hne (by rw [hb, e]))) (.inl rfl) (.inl (.refl _)) (fun htr => by
      simp only [hφ] at htr ⊢
      refine ⟨by rw [hO.len]; simp [JE hp1 hp2], hO.sz, ?_, by simpa [JE hp1 hp2] using hroom, hO.cap, (fun h => by rw [hb] at h; cases h), (fun b' hs' => Nat.lt_of_lt_of_le (hO.subl b' hs') e4), hO.subn, fun b' hb' => ?_⟩
      · intro row hr
        obtain ⟨u, _, rfl⟩ := List.mem_map.1 hr
        exact (hf u).1
      · rw [hb] at hb'; cases hb'
        refine ⟨cs', by rw [hmp]; exact e6, by rw [hcs, e7, k2], Cells.of fun i j hi hj => ?_⟩
        simp only [List.length_map, JE hp1 hp2] at hi
        rw [hcs] at hj ⊢
        have hget := Zkt (p := p1) (m := n1) (q := p2) (n := n2) hp1 hp2 hi
        have hσ : (if p1 ≤ i ∧ i < p1 + min n2 n1 then p2 + (i - p1) else i) < xs.length := by split <;> omega
        have ec : cellAt ((cpy xs p1 n1 p2 n2).map f) i j = cellAt (xs.map f) (if p1 ≤ i ∧ i < p1 + min n2 n1 then p2 + (i - p1) else i) j := by
          simp only [cellAt, List.getD_eq_getElem?_getD, List.getElem?_map, hget]
        rw [ec, e8 i j hi hj]
        exact htr _ _ (hcell _ _ hσ hj).1)
  simp only [hφ] at hu'
  refine ⟨goInt ((min n2 n1 : Nat) : Int), w', φ, ?_, hu'.1, hu'.2, Zs (.int _ _)⟩
  exact hrun0 _ _ hrun
end ops
end Go.Vx

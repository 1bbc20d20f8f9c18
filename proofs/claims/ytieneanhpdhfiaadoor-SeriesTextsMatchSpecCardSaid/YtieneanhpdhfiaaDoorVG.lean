/- A text of the proof: a verified executor of the program form, or the contracts of the functions that the law reaches. -/
import Derived.Test.YtieneanhpdhfiaaDoorVF
import Derived.Lib.Itoa
import Derived.Shelf.Strconv.Itoa2
set_option linter.all false
namespace Go.Vx
open Go Go.RowKit
theorem ZcM {P : Program} {w : World} {M : Nat → Prop} {m : Nat} {φ : Phi} {r n j len : Nat} {v : Value} (h : RelF P w M m φ (.osl r n j len) v) :
    (φ r).n = n → ∃ b j' cap, (φ r).blk = some b ∧ len ≤ cap ∧ (0 < len → j' = j) ∧ v = .slice (some ⟨b, j', none⟩) len cap := by
  have := h φ (fun _ _ => rfl)
  cases this with
  | data h => cases h
  | osl _ _ _ _ _ _ _ h => exact fun e => (h e).2
theorem Za0 {P : Program} {w : World} {M : Nat → Prop} {m : Nat} {φ : Phi} {r n j len : Nat} {v : Value} (h : RelF P w M m φ (.osl r n j len) v) : (φ r).n = n → (φ r).mp = false := by
  have := h φ (fun _ _ => rfl)
  cases this with
  | data h => cases h
  | osl _ _ _ _ _ _ _ h => exact fun e => (h e).1
section ops
variable {c : Ctx} {ops : Array Oper} {st : St} {dst : Option Tmp} {ty : TypeId} {pos : String} {after : Array Edge}
theorem Zdx {α : Type} {m : Nat} {v : Vector α m} {ys : List α} {x : Operand} {t e r n j : Nat} {lo hi : Option Operand} {p q : Int} {o : Own} (h : Opv c st x (.ptr r n 0 j)) (ht : tArr c.P t m e 1 = true)
    (ho : nth st.hp r = some o) (hn : o.es.length = n) (hl : ZcN c st 0 lo p) (hh : ZcN c st (m : Int) hi q) (hz : slc v.toList p q = some ys) :
    SVal c ops st ⟨dst, .slice t x lo hi none, ty, pos, after, none⟩ (.osl r n (j + p.toNat) (q - p).toNat) :=
  .pure rfl fun φ a w hc => by
    unfold slc at hz
    split at hz
    · rename_i hb
      cases hz
      obtain ⟨h0, h1, h2⟩ := hb
      simp only [Vector.length_toList] at h2
      have hO := hc.hok.obj r o ho
      obtain ⟨b, hb, hx⟩ := Qb (h φ a w hc) (by rw [hO.len, hn])
      have hm := ZbC hc (isS := false) hl hh h0 h1 (by omega) (Nat.le_refl _)
      have hu : c.P.underlying t = some (.array m e) := by
        unfold tArr at ht
        simp only [Bool.and_eq_true] at ht
        have := ht.1
        split at this
        · rename_i heq
          simp only [Bool.and_eq_true] at this
          rw [heq, Nat.eq_of_beq_eq_true this.1, Nat.eq_of_beq_eq_true this.2]
        · cases this
      have hs : (sizeOf e).run c.P w = .ok 1 w := by
        unfold tArr at ht
        simp only [Bool.and_eq_true] at ht
        have := ht.2
        split at this
        · rename_i i heq
          have := Nat.eq_of_beq_eq_true this
          simp [sizeOf, typeInfo, heq, this]
        · cases this
      have hlen : ((v.toList.take q.toNat).drop p.toNat).length = q.toNat - p.toNat := by simp; omega
      rw [show (q - p).toNat = q.toNat - p.toNat by omega]
      refine ⟨.slice (some ⟨b, (if m = p.toNat then 0 * (φ r).sz + j else 0 * (φ r).sz + j + p.toNat * 1), none⟩) (q.toNat - p.toNat) (m - p.toNat), ?_, fun φ' hφ => ?_⟩
      · show ((do pure (Next.value (← Instr.sliceAt t (a.eval x) (lo.map a.eval) (hi.map a.eval) none)) : Sem Next)).run c.P w = _
        rw [hx, Sem.run_bind]
        have e : (Instr.sliceAt t (.pointer (some ⟨b, 0 * (φ r).sz + j, none⟩)) (lo.map a.eval) (hi.map a.eval) none).run c.P w = .ok (.slice (some ⟨b, (if m = p.toNat then 0 * (φ r).sz + j else 0 * (φ r).sz + j + p.toNat * 1), none⟩) (q.toNat - p.toNat) (m - p.toNat)) w := by
          unfold Instr.sliceAt
          rw [Sem.run_bind, run_underlying hu]
          simp only [Result.andThen_ok]
          rw [Sem.run_bind]
          have : (Instr.sureAddr (.pointer (some ⟨b, 0 * (φ r).sz + j, none⟩))).run c.P w = .ok ⟨b, 0 * (φ r).sz + j, none⟩ w := rfl
          rw [this]
          simp only [Result.andThen_ok]
          rw [Sem.run_bind, hm]
          simp only [Result.andThen_ok]
          rw [Sem.run_bind, hs]
          simp only [Result.andThen_ok]
          split
          · rfl
          · rw [Xm]; rfl
        rw [e]
        rfl
      · have e : φ' r = φ r := hφ r (Qh ho)
        refine .osl r n (j + p.toNat) _ _ rfl (by rw [e, hO.len, hn]; exact Nat.le_refl _) fun _ => ⟨by rw [e]; exact ZP (h φ a w hc) (by rw [hO.len, hn]), b, _, m - p.toNat, by rw [e]; exact hb, by omega, fun hpos => ?_, rfl⟩
        rw [if_neg (by omega)]; omega
    · cases hz
theorem Zfw {α : Type} {m : Nat} {v : Vector α m} {f : α → AV} {y : Operand} {r e : Nat} {p q : Int} {ys : List α} (h : Opv c st y (.osl r 1 (0 + p.toNat) (q - p).toNat)) (hz : slc v.toList p q = some ys)
    (ho : nth st.hp r = some ⟨e, [v.toList.map f]⟩) (hm : Nat.ble m 65536 = true) (hns : ∀ x, noSub (f x) = true := by intro _; rfl) : SlV c st y 1 (ys.map fun u => [f u]) := by
  intro φ a w hc
  have hO := hc.hok.obj r _ ho
  obtain ⟨b, j', cap, hb, hle, hj, hx⟩ := ZcM (h φ a w hc) hO.len
  obtain ⟨cs, h1, h2, h3⟩ := hO.some b hb
  have h1 := h1.cells (Za0 (h φ a w hc) hO.len)
  unfold slc at hz
  split at hz
  · rename_i hbd
    cases hz
    obtain ⟨h0, hpq, hqm⟩ := hbd
    simp only [Vector.length_toList] at hqm
    have hrow := hO.rows _ (List.mem_singleton.2 rfl)
    simp only [List.length_map, Vector.length_toList] at hrow
    have hcap := hO.cap
    have hroom := hO.room
    simp only [List.length_singleton] at hroom
    have hlen : ((v.toList.take q.toNat).drop p.toNat).length = q.toNat - p.toNat := by simp; omega
    refine ⟨_, cap, by rw [List.length_map, hlen, ← show (q - p).toNat = q.toNat - p.toNat by omega]; exact hx, by simp only [List.length_map, hlen]; have := Nat.le_of_ble_eq_true hm; omega, fun row hr => by obtain ⟨u, _, rfl⟩ := List.mem_map.1 hr; rfl, fun hne => ?_⟩
    have hqp : (q - p).toNat = q.toNat - p.toNat := by omega
    rw [hqp, ← hlen] at hx hj
    have hpos : 0 < ((v.toList.take q.toNat).drop p.toNat).length := by
      rcases Nat.eq_zero_or_pos ((v.toList.take q.toNat).drop p.toNat).length with h | h
      · exact absurd (by rw [List.length_eq_zero_iff.1 h]; rfl) hne
      · exact h
    rw [hj hpos]
    refine ⟨b, 0 + p.toNat, fun i k => cs.getD (p.toNat + i) undef, rfl, fun i k hi hk => ?_, fun i k hi hk => ?_⟩
    · rw [Zn h1]
      have : k = 0 := by omega
      subst this
      rw [List.length_map, hlen] at hi
      have : m ≤ cs.size := by rw [h2, ← hrow]; exact Nat.le_mul_of_pos_left _ hroom
      have : p.toNat + i < cs.size := by omega
      simp [this]
    · have : k = 0 := by omega
      subst this
      rw [List.length_map, hlen] at hi
      have := h3.plain (i := 0) (j := p.toNat + i) (by simp) (by rw [← hrow]; omega) (by
        have : cellAt [v.toList.map f] 0 (p.toNat + i) = (v.toList.map f).getD (p.toNat + i) .any := by simp [cellAt]
        rw [this]; exact (nsM hns).getD' _)
      rw [Nat.zero_mul, Nat.zero_add] at this
      have e : cellAt (((v.toList.take q.toNat).drop p.toNat).map fun u => [f u]) i 0 = cellAt [v.toList.map f] 0 (p.toNat + i) := by
        have h5 : i < q.toNat - p.toNat := hi
        simp [cellAt, List.getD_eq_getElem?_getD, List.getElem?_drop, List.getElem?_take, show p.toNat + i < q.toNat by omega, show p.toNat + i < m by omega]
      rw [e]; exact this
  · cases hz
end ops
end Go.Vx

namespace Go.Vx
open Go Go.RowKit Go.Lib Go.Sort
def Za9 (u : Int) (k : Nat) : Int := 48 + ((u.toNat / 10 ^ k % 10 : Nat) : Int)
def Zb0 {m : Nat} (v : Vector Int m) (n : Nat) (u : Int) : Option (Vector Int m) :=
  if 0 < n ∧ n ≤ m ∧ 0 ≤ u ∧ u.toNat < 10 ^ n ∧ u.toNat < 18446744073709551616 ∧ (∀ x ∈ v.toList, 0 ≤ x ∧ x < 256) then some (Vector.ofFn fun i => if i.1 < n then Za9 u (n - 1 - i.1) else v[i.1]) else none
theorem Zgc (u k : Nat) : ((dg u k).toNat : Int) = Za9 (u : Int) k := by
  unfold dg Za9
  have : u / 10 ^ k % 10 < 10 := Nat.mod_lt _ (by decide)
  simp
  omega
theorem Zet {P : Program} {gl : Gl} {f t m n : Nat} {v r : Vector Int m} {u : Int} (hc : callable P f = true) (hm : Nat.ble m 65536 = true) (ht : P.cellsOf t = m)
    (C : ∀ (blk off cap u : Nat) (d : Array UInt8) (w : World), Holds (fun (b : UInt8) => Value.int .u8 (b.toNat : Int)) w blk off d → u < 10 ^ d.size → u < 18446744073709551616 → d.size < 4611686018427387904 →
      Calls P f #[.slice (some ⟨blk, off, none⟩) d.size cap, .int .u64 u] w fun e w' => e = .returned (.tuple #[]) ∧ ∃ (n v' : Nat) (dk : Array UInt8), w' = (putRow (fun (b : UInt8) => Value.int .u8 (b.toNat : Int)) w blk off dk).drewN n ∧ FmtInv d.size u 0 v' dk)
    (h : Zb0 v n u = some r) :
    GSpec P gl f [.osl 0 1 (0 + Int.toNat 0) n, .int .u64 u] [some ⟨t, [v.toList.map (AV.int .u8)]⟩] (.tuple []) [some ⟨t, [r.toList.map (AV.int .u8)]⟩] := by
  refine ⟨hc, fun A W w φ vals hok hsz hr => ?_⟩
  unfold Zb0 at h
  split at h
  case isFalse => cases h
  rename_i hg
  obtain ⟨hpos, hnm, hu0, hu10, hu64, hv⟩ := hg
  have hm := Nat.le_of_ble_eq_true hm
  have hO := hok.obj 0 _ rfl
  have h0 := hr 0 (by simp)
  have h1 := hr 1 (by simp)
  obtain ⟨b, j', cap, hb, hle, hj, hx⟩ := ZcM h0 hO.len
  obtain rfl : j' = 0 := hj hpos
  have hy : vals.getD 1 undef = .int .u64 u := X2 h1
  have hmp := Za0 h0 hO.len
  obtain ⟨cs, g1, g2, g3⟩ := hO.some b hb
  have g1 := g1.cells hmp
  have hroom := hO.room
  simp only [List.length_singleton] at hroom
  simp only [ht] at g2 g3
  have hcs : m ≤ cs.size := by rw [g2]; exact Nat.le_mul_of_pos_left _ hroom
  have hcell : ∀ j, j < m → cs.getD j undef = .int .u8 (v.toList.getD j 0) := by
    intro j hj
    have e : cellAt [v.toList.map (AV.int .u8)] 0 j = .int .u8 (v.toList.getD j 0) := by simp [cellAt, List.getD_eq_getElem?_getD, hj]
    have := g3.plain (i := 0) (by simp) hj (by rw [e]; rfl)
    rw [Nat.zero_mul, Nat.zero_add] at this
    rw [e] at this
    exact X2 this
  obtain ⟨d, hd⟩ : ∃ d : Array UInt8, d = ((v.toList.take n).map fun z => UInt8.ofNat z.toNat).toArray := ⟨_, rfl⟩
  have hds : d.size = n := by rw [hd]; simp; omega
  have hdj : ∀ j, j < n → Value.int .u8 (d[j]!.toNat : Int) = .int .u8 (v.toList.getD j 0) := by
    intro j hj
    have hjm : j < m := by omega
    have hmem : v.toList.getD j 0 ∈ v.toList := by simp [List.getD_eq_getElem?_getD, hjm]
    obtain ⟨q0, q1⟩ := hv _ hmem
    have : d[j]! = UInt8.ofNat (v.toList.getD j 0).toNat := by
      rw [hd, getElem!_pos _ j (by simp; omega)]
      simp [List.getD_eq_getElem?_getD, hjm]
    rw [this]
    congr 1
    rw [UInt8.toNat_ofNat']
    omega
  have hH : Holds (fun (b : UInt8) => Value.int .u8 (b.toNat : Int)) w b 0 d := by
    intro j hj
    rw [hds] at hj
    refine ⟨?_, ?_⟩
    · rw [Zn g1, Nat.zero_add]
      show _ = some (Value.int .u8 (d[j]!.toNat : Int))
      rw [hdj j hj, ← hcell j (by omega)]
      have : j < cs.size := by omega
      simp [this]
    · simp [World.frozen?, g1]
  have hcall := C b 0 cap u.toNat d w hH (by rw [hds]; exact hu10) hu64 (by omega)
  have hvals : vals = #[.slice (some ⟨b, 0, none⟩) d.size cap, .int .u64 (u.toNat : Int)] := by
    obtain ⟨l⟩ := vals
    match l, hsz with
    | [x, y], _ =>
      have e1 : x = .slice (some ⟨b, 0, none⟩) n cap := hx
      have e2 : y = .int .u64 u := hy
      rw [e1, e2, hds, Int.toNat_of_nonneg hu0]
  rw [hvals]
  refine hcall.mono ?_
  rintro e w' ⟨rfl, n0, v', dk, rfl, hfi⟩
  cases h
  have hk := hfi.size
  have hcs' : ((putRow (fun (b : UInt8) => Value.int .u8 (b.toNat : Int)) w b 0 dk).drewN n0).heap[b]? = some (.cells (putCells (fun (b : UInt8) => Value.int .u8 (b.toNat : Int)) 0 dk cs) t (0, 0)) := by
    simp only [World.heap_drewN, putRow, mapBlock, Array.getElem?_modify, if_pos, g1]
    rfl
  have hpc : ∀ j, j < m → (putCells (fun (b : UInt8) => Value.int .u8 (b.toNat : Int)) 0 dk cs).getD j undef = .int .u8 (if j < n then Za9 u (n - 1 - j) else v.toList.getD j 0) := by
    intro j hj
    have hjc : j < cs.size := by omega
    have hcj := hcell j hj
    simp only [Array.getD_eq_getD_getElem?, putCells, Array.getElem?_mapIdx, hjc, getElem?_pos, Option.map_some, Option.getD_some, Nat.zero_add, Nat.zero_le, true_and, hk, hds, Nat.sub_zero] at hcj ⊢
    split
    · have := hfi.done j (Nat.zero_le _) (by omega)
      rw [this, Zgc, Int.toNat_of_nonneg hu0, hds]
    · exact hcj
  have hup := XN (L := φ 0) (o' := ⟨t, [(Vector.ofFn fun (i : Fin m) => if i.1 < n then Za9 u (n - 1 - i.1) else v[i.1]).toList.map (AV.int .u8)]⟩) (w' := (putRow (fun (b : UInt8) => Value.int .u8 (b.toNat : Int)) w b 0 dk).drewN n0) hok (r := 0) rfl rfl rfl rfl (by simp [putRow, mapBlock]) (fun b' hlt hne => by
    rw [hb] at hne
    have hne' : b ≠ b' := fun e => hne (by rw [e])
    simp only [World.heap_drewN, putRow, mapBlock, Array.getElem?_modify, if_neg hne']) (.inl rfl) (.inl (.refl _)) (fun htr => by
    refine ⟨hO.len, hO.sz, ?_, hO.room, hO.cap, (fun e => by simp [hb] at e), (fun b hb => Nat.lt_of_lt_of_le (hO.subl b hb) (by simp [putRow, mapBlock])), hO.subn, fun b' hb' => ?_⟩
    · intro row hrow
      simp only [List.mem_singleton] at hrow
      subst hrow
      simp [ht]
    · simp only [if_true, hb, Option.some.injEq] at hb'
      subst hb'
      refine ⟨_, (by simp only [if_true, hmp]; exact hcs'), by simp [putCells, g2, ht], .of fun i j hi hj => ?_⟩
      simp only [List.length_singleton] at hi
      simp only [ht] at hj ⊢
      obtain rfl : i = 0 := by omega
      rw [Nat.zero_mul, Nat.zero_add, hpc j hj]
      have e : cellAt [(Vector.ofFn fun (i : Fin m) => if i.1 < n then Za9 u (n - 1 - i.1) else v[i.1]).toList.map (AV.int .u8)] 0 j = .int .u8 (if j < n then Za9 u (n - 1 - j) else v.toList.getD j 0) := by
        simp [cellAt, List.getD_eq_getElem?_getD, hj]
      rw [e]
      exact Ze (.int _ _))
  refine ⟨.tuple #[], _, rfl, hup.1, ?_⟩
  exact Ze (.tuple [] #[] rfl fun i hi => by cases hi)
end Go.Vx

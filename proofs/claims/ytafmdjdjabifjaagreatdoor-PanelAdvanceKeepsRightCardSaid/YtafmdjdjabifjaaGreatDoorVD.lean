/- A text of the proof: a verified executor of the program form, or the contracts of the functions that the law reaches. -/
import Derived.Test.YtafmdjdjabifjaaGreatDoorVyA
import Derived.Lib.Itoa
import Derived.Shelf.Strconv.Itoa2
import Derived.Shelf.Strconv.Itoa1
import Derived.Laws.BytesString
import Derived.Laws.Cells
set_option linter.all false
namespace Go.Vx
open Go Go.RowKit
theorem relF_osl {P : Program} {w : World} {M : Nat → Prop} {m : Nat} {φ : Phi} {r n j len : Nat} {v : Value} (h : RelF P w M m φ (.osl r n j len) v) :
    (φ r).n = n → ∃ b j' cap, (φ r).blk = some b ∧ len ≤ cap ∧ (0 < len → j' = j) ∧ v = .slice (some ⟨b, j', none⟩) len cap := by
  have := h φ (fun _ _ => rfl)
  cases this with
  | data h => cases h
  | osl _ _ _ _ _ _ _ h => exact h
section ops
variable {c : Ctx} {ops : Array Oper} {st : St} {dst : Option Tmp} {ty : TypeId} {pos : String} {after : Array Edge}
/-- a[p:q] of an array of our own. -/
theorem v_slArr {α : Type} {m : Nat} {v : Vector α m} {ys : List α} {x : Operand} {t e r n j : Nat} {lo hi : Option Operand} {p q : Int} {o : Own} (h : Opv c st x (.ptr r n 0 j)) (ht : tArr c.P t m e 1 = true)
    (ho : nth st.hp r = some o) (hn : o.es.length = n) (hl : OptI c st 0 lo p) (hh : OptI c st (m : Int) hi q) (hz : slc v.toList p q = some ys) :
    SVal c ops st ⟨dst, .slice t x lo hi none, ty, pos, after, none⟩ (.osl r n (j + p.toNat) (q - p).toNat) :=
  .pure rfl fun φ a w hc => by
    unfold slc at hz
    split at hz
    · rename_i hb
      cases hz
      obtain ⟨h0, h1, h2⟩ := hb
      simp only [Vector.length_toList] at h2
      have hO := hc.hok.obj r o ho
      obtain ⟨b, hb, hx⟩ := relF_ptr (h φ a w hc) (by rw [hO.len, hn])
      have hm := run_bounds hc (isS := false) hl hh h0 h1 (by omega) (Nat.le_refl _)
      have hu : c.P.underlying t = some (.array m e) := by
        unfold tArr at ht
        simp only [Bool.and_eq_true] at ht
        have := ht.1
        split at this
        · rename_i heq
          simp only [Bool.and_eq_true] at this
          rw [heq, Nat.eq_of_beq_eq_true this.1, Nat.eq_of_beq_eq_true this.2]
        · cases this
      have hs : (sizeOf e).run c.P w = .ok 1 w := by
        unfold tArr at ht
        simp only [Bool.and_eq_true] at ht
        have := ht.2
        split at this
        · rename_i i heq
          have := Nat.eq_of_beq_eq_true this
          simp [sizeOf, typeInfo, heq, this]
        · cases this
      have hlen : ((v.toList.take q.toNat).drop p.toNat).length = q.toNat - p.toNat := by simp; omega
      rw [show (q - p).toNat = q.toNat - p.toNat by omega]
      refine ⟨.slice (some ⟨b, (if m = p.toNat then 0 * (φ r).sz + j else 0 * (φ r).sz + j + p.toNat * 1), none⟩) (q.toNat - p.toNat) (m - p.toNat), ?_, fun φ' hφ => ?_⟩
      · show ((do pure (Next.value (← Instr.sliceAt t (a.eval x) (lo.map a.eval) (hi.map a.eval) none)) : Sem Next)).run c.P w = _
        rw [hx, Sem.run_bind]
        have e : (Instr.sliceAt t (.pointer (some ⟨b, 0 * (φ r).sz + j, none⟩)) (lo.map a.eval) (hi.map a.eval) none).run c.P w = .ok (.slice (some ⟨b, (if m = p.toNat then 0 * (φ r).sz + j else 0 * (φ r).sz + j + p.toNat * 1), none⟩) (q.toNat - p.toNat) (m - p.toNat)) w := by
          unfold Instr.sliceAt
          rw [Sem.run_bind, run_underlying hu]
          simp only [Result.andThen_ok]
          rw [Sem.run_bind]
          have : (Instr.sureAddr (.pointer (some ⟨b, 0 * (φ r).sz + j, none⟩))).run c.P w = .ok ⟨b, 0 * (φ r).sz + j, none⟩ w := rfl
          rw [this]
          simp only [Result.andThen_ok]
          rw [Sem.run_bind, hm]
          simp only [Result.andThen_ok]
          rw [Sem.run_bind, hs]
          simp only [Result.andThen_ok]
          split
          · rfl
          · rw [addr_add]; rfl
        rw [e]
        rfl
      · have e : φ' r = φ r := hφ r (nth_lt ho)
        refine .osl r n (j + p.toNat) _ _ rfl (by rw [e, hO.len, hn]; exact Nat.le_refl _) fun _ => ⟨b, _, m - p.toNat, by rw [e]; exact hb, by omega, fun hpos => ?_, rfl⟩
        rw [if_neg (by omega)]; omega
    · cases hz
/-- A piece of an array of our own, read. -/
theorem slv_osl {α : Type} {m : Nat} {v : Vector α m} {f : α → AV} {y : Operand} {r e : Nat} {p q : Int} {ys : List α} (h : Opv c st y (.osl r 1 (0 + p.toNat) (q - p).toNat)) (hz : slc v.toList p q = some ys)
    (ho : nth st.hp r = some ⟨e, [v.toList.map f]⟩) (hm : Nat.ble m 65536 = true) : SlV c st y 1 (ys.map fun u => [f u]) := by
  intro φ a w hc
  have hO := hc.hok.obj r _ ho
  obtain ⟨b, j', cap, hb, hle, hj, hx⟩ := relF_osl (h φ a w hc) hO.len
  obtain ⟨cs, h1, h2, h3⟩ := hO.some b hb
  unfold slc at hz
  split at hz
  · rename_i hbd
    cases hz
    obtain ⟨h0, hpq, hqm⟩ := hbd
    simp only [Vector.length_toList] at hqm
    have hrow := hO.rows _ (List.mem_singleton.2 rfl)
    simp only [List.length_map, Vector.length_toList] at hrow
    have hcap := hO.cap
    have hroom := hO.room
    simp only [List.length_singleton] at hroom
    have hlen : ((v.toList.take q.toNat).drop p.toNat).length = q.toNat - p.toNat := by simp; omega
    refine ⟨_, cap, by rw [List.length_map, hlen, ← show (q - p).toNat = q.toNat - p.toNat by omega]; exact hx, by simp only [List.length_map, hlen]; have := Nat.le_of_ble_eq_true hm; omega, fun row hr => by obtain ⟨u, _, rfl⟩ := List.mem_map.1 hr; rfl, fun hne => ?_⟩
    have hqp : (q - p).toNat = q.toNat - p.toNat := by omega
    rw [hqp, ← hlen] at hx hj
    have hpos : 0 < ((v.toList.take q.toNat).drop p.toNat).length := by
      rcases Nat.eq_zero_or_pos ((v.toList.take q.toNat).drop p.toNat).length with h | h
      · exact absurd (by rw [List.length_eq_zero_iff.1 h]; rfl) hne
      · exact h
    rw [hj hpos]
    refine ⟨b, 0 + p.toNat, fun i k => cs.getD (p.toNat + i) undef, rfl, fun i k hi hk => ?_, fun i k hi hk => ?_⟩
    · rw [cell_of_cells h1]
      have : k = 0 := by omega
      subst this
      rw [List.length_map, hlen] at hi
      have : m ≤ cs.size := by rw [h2, ← hrow]; exact Nat.le_mul_of_pos_left _ hroom
      have : p.toNat + i < cs.size := by omega
      simp [this]
    · have : k = 0 := by omega
      subst this
      rw [List.length_map, hlen] at hi
      have := h3 0 (p.toNat + i) (by simp) (by rw [← hrow]; omega)
      rw [Nat.zero_mul, Nat.zero_add] at this
      have e : cellAt (((v.toList.take q.toNat).drop p.toNat).map fun u => [f u]) i 0 = cellAt [v.toList.map f] 0 (p.toNat + i) := by
        have h5 : i < q.toNat - p.toNat := hi
        simp [cellAt, List.getD_eq_getElem?_getD, List.getElem?_drop, List.getElem?_take, show p.toNat + i < q.toNat by omega, show p.toNat + i < m by omega]
      rw [e]; exact this
  · cases hz
end ops
end Go.Vx

namespace Go.Vx
open Go Go.RowKit Go.Lib Go.Sort
def digit (u : Int) (k : Nat) : Int := 48 + ((u.toNat / 10 ^ k % 10 : Nat) : Int)
def fmt10 {m : Nat} (v : Vector Int m) (n : Nat) (u : Int) : Option (Vector Int m) :=
  if 0 < n ∧ n ≤ m ∧ 0 ≤ u ∧ u.toNat < 10 ^ n ∧ u.toNat < 18446744073709551616 ∧ (∀ x ∈ v.toList, 0 ≤ x ∧ x < 256) then some (Vector.ofFn fun i => if i.1 < n then digit u (n - 1 - i.1) else v[i.1]) else none
def u8v : UInt8 → Value := fun b => Value.int .u8 (b.toNat : Int)
theorem dg_val (u k : Nat) : ((dg u k).toNat : Int) = digit (u : Int) k := by
  unfold dg digit
  have : u / 10 ^ k % 10 < 10 := Nat.mod_lt _ (by decide)
  simp
  omega
theorem ok_fmt10 {P : Program} {gl : Gl} {f t m n : Nat} {v r : Vector Int m} {u : Int} (hc : callable P f = true) (hm : Nat.ble m 65536 = true) (ht : P.cellsOf t = m)
    (C : ∀ (blk off cap u : Nat) (d : Array UInt8) (w : World), Holds (fun (b : UInt8) => Value.int .u8 (b.toNat : Int)) w blk off d → u < 10 ^ d.size → u < 18446744073709551616 → d.size < 4611686018427387904 →
      Calls P f #[.slice (some ⟨blk, off, none⟩) d.size cap, .int .u64 u] w fun e w' => e = .returned (.tuple #[]) ∧ ∃ (n v' : Nat) (dk : Array UInt8), w' = (putRow (fun (b : UInt8) => Value.int .u8 (b.toNat : Int)) w blk off dk).drewN n ∧ FmtInv d.size u 0 v' dk)
    (h : fmt10 v n u = some r) :
    GSpec P gl f [.osl 0 1 (0 + Int.toNat 0) n, .int .u64 u] [some ⟨t, [v.toList.map (AV.int .u8)]⟩] (.tuple []) [some ⟨t, [r.toList.map (AV.int .u8)]⟩] := by
  refine ⟨hc, fun A W w φ vals hok hsz hr => ?_⟩
  unfold fmt10 at h
  split at h
  case isFalse => cases h
  rename_i hg
  obtain ⟨hpos, hnm, hu0, hu10, hu64, hv⟩ := hg
  have hm := Nat.le_of_ble_eq_true hm
  have hO := hok.obj 0 _ rfl
  have h0 := hr 0 (by simp)
  have h1 := hr 1 (by simp)
  obtain ⟨b, j', cap, hb, hle, hj, hx⟩ := relF_osl h0 hO.len
  obtain rfl : j' = 0 := hj hpos
  have hy : vals.getD 1 undef = .int .u64 u := relF_int h1
  obtain ⟨cs, g1, g2, g3⟩ := hO.some b hb
  have hroom := hO.room
  simp only [List.length_singleton] at hroom
  simp only [ht] at g2 g3
  have hcs : m ≤ cs.size := by rw [g2]; exact Nat.le_mul_of_pos_left _ hroom
  have hcell : ∀ j, j < m → cs.getD j undef = .int .u8 (v.toList.getD j 0) := by
    intro j hj
    have := g3 0 j (by simp) hj
    rw [Nat.zero_mul, Nat.zero_add] at this
    have e : cellAt [v.toList.map (AV.int .u8)] 0 j = .int .u8 (v.toList.getD j 0) := by simp [cellAt, List.getD_eq_getElem?_getD, hj]
    rw [e] at this
    exact relF_int this
  obtain ⟨d, hd⟩ : ∃ d : Array UInt8, d = ((v.toList.take n).map fun z => UInt8.ofNat z.toNat).toArray := ⟨_, rfl⟩
  have hds : d.size = n := by rw [hd]; simp; omega
  have hdj : ∀ j, j < n → Value.int .u8 (d[j]!.toNat : Int) = .int .u8 (v.toList.getD j 0) := by
    intro j hj
    have hjm : j < m := by omega
    have hmem : v.toList.getD j 0 ∈ v.toList := by simp [List.getD_eq_getElem?_getD, hjm]
    obtain ⟨q0, q1⟩ := hv _ hmem
    have : d[j]! = UInt8.ofNat (v.toList.getD j 0).toNat := by
      rw [hd, getElem!_pos _ j (by simp; omega)]
      simp [List.getD_eq_getElem?_getD, hjm]
    rw [this]
    congr 1
    rw [UInt8.toNat_ofNat']
    omega
  have hH : Holds (fun (b : UInt8) => Value.int .u8 (b.toNat : Int)) w b 0 d := by
    intro j hj
    rw [hds] at hj
    refine ⟨?_, ?_⟩
    · rw [cell_of_cells g1, Nat.zero_add]
      show _ = some (Value.int .u8 (d[j]!.toNat : Int))
      rw [hdj j hj, ← hcell j (by omega)]
      have : j < cs.size := by omega
      simp [this]
    · simp [World.frozen?, g1]
  have hcall := C b 0 cap u.toNat d w hH (by rw [hds]; exact hu10) hu64 (by omega)
  have hvals : vals = #[.slice (some ⟨b, 0, none⟩) d.size cap, .int .u64 (u.toNat : Int)] := by
    obtain ⟨l⟩ := vals
    match l, hsz with
    | [x, y], _ =>
      have e1 : x = .slice (some ⟨b, 0, none⟩) n cap := hx
      have e2 : y = .int .u64 u := hy
      rw [e1, e2, hds, Int.toNat_of_nonneg hu0]
  rw [hvals]
  refine hcall.mono ?_
  rintro e w' ⟨rfl, n0, v', dk, rfl, hfi⟩
  cases h
  have hk := hfi.size
  have hcs' : ((putRow (fun (b : UInt8) => Value.int .u8 (b.toNat : Int)) w b 0 dk).drewN n0).heap[b]? = some (.cells (putCells (fun (b : UInt8) => Value.int .u8 (b.toNat : Int)) 0 dk cs) t (0, 0)) := by
    simp only [World.heap_drewN, putRow, mapBlock, Array.getElem?_modify, if_pos, g1]
    rfl
  have hpc : ∀ j, j < m → (putCells (fun (b : UInt8) => Value.int .u8 (b.toNat : Int)) 0 dk cs).getD j undef = .int .u8 (if j < n then digit u (n - 1 - j) else v.toList.getD j 0) := by
    intro j hj
    have hjc : j < cs.size := by omega
    have hcj := hcell j hj
    simp only [Array.getD_eq_getD_getElem?, putCells, Array.getElem?_mapIdx, hjc, getElem?_pos, Option.map_some, Option.getD_some, Nat.zero_add, Nat.zero_le, true_and, hk, hds, Nat.sub_zero] at hcj ⊢
    split
    · have := hfi.done j (Nat.zero_le _) (by omega)
      rw [this, dg_val, Int.toNat_of_nonneg hu0, hds]
    · exact hcj
  have hup := own_update (L := φ 0) (o' := ⟨t, [(Vector.ofFn fun (i : Fin m) => if i.1 < n then digit u (n - 1 - i.1) else v[i.1]).toList.map (AV.int .u8)]⟩) (w' := (putRow (fun (b : UInt8) => Value.int .u8 (b.toNat : Int)) w b 0 dk).drewN n0) hok (r := 0) rfl rfl rfl rfl (by simp [putRow, mapBlock]) (fun b' hlt hne => by
    rw [hb] at hne
    have hne' : b ≠ b' := fun e => hne (by rw [e])
    simp only [World.heap_drewN, putRow, mapBlock, Array.getElem?_modify, if_neg hne']) (.inl rfl) (.inl rfl) (fun htr => by
    refine ⟨hO.len, hO.sz, ?_, hO.room, hO.cap, fun e => by simp [hb] at e, fun b' hb' => ?_⟩
    · intro row hrow
      simp only [List.mem_singleton] at hrow
      subst hrow
      simp [ht]
    · simp only [if_true, hb, Option.some.injEq] at hb'
      subst hb'
      refine ⟨_, hcs', by simp [putCells, g2, ht], fun i j hi hj => ?_⟩
      simp only [List.length_singleton] at hi
      simp only [ht] at hj ⊢
      obtain rfl : i = 0 := by omega
      rw [Nat.zero_mul, Nat.zero_add, hpc j hj]
      have e : cellAt [(Vector.ofFn fun (i : Fin m) => if i.1 < n then digit u (n - 1 - i.1) else v[i.1]).toList.map (AV.int .u8)] 0 j = .int .u8 (if j < n then digit u (n - 1 - j) else v.toList.getD j 0) := by
        simp [cellAt, List.getD_eq_getElem?_getD, hj]
      rw [e]
      exact relF_data (.int _ _))
  refine ⟨.tuple #[], _, rfl, hup.1, ?_⟩
  exact relF_data (.tuple [] #[] rfl fun i hi => by cases hi)
end Go.Vx

namespace Go.Vx
open Go Go.RowKit Go.Lib
def numDigits (u : Int) : Option Int := if 1 ≤ u ∧ u < 18446744073709551616 then some (nDigits u.toNat : Int) else none
theorem arr1 {vals : Array Value} (h : vals.size = 1) : vals = #[vals.getD 0 undef] := by
  obtain ⟨l⟩ := vals
  match l, h with
  | [a], _ => rfl
theorem arr2 {vals : Array Value} (h : vals.size = 2) : vals = #[vals.getD 0 undef, vals.getD 1 undef] := by
  obtain ⟨l⟩ := vals
  match l, h with
  | [a, b], _ => rfl
theorem relD_i {P : Program} {w : World} {M : Nat → Prop} {k : IntKind} {z : Int} {v : Value} (h : RelD P w M (.int k z) v) : v = .int k z := by cases h; rfl
theorem ok_numDigitsC {P : Program} {gl : Gl} {f g : Nat} {u r : Int} {nm : String} (hc : callable P f = true) (hg : P.globalNamed nm = some g) (ht : (g, (pow10Tab.map fun z => Value.int .u64 z).toArray) ∈ gl.tabs)
    (C : ∀ (u : Nat), 1 ≤ u → u < 18446744073709551616 → ∀ (w : World), TabIs P w nm .u64 pow10Tab → Calls P f #[.int .u64 u] w fun e w' => e = .returned (.int .i64 (nDigits u)) ∧ w' = w)
    (h : numDigits u = some r) : CSpec P gl f [.int .u64 u] (.int .i64 r) := by
  refine ⟨hc, fun A w vals hA hgl hsz hv => ?_⟩
  unfold numDigits at h
  split at h
  · rename_i hb
    cases h
    have e0 := relD_i (hv 0 (by simp))
    rw [arr1 hsz, e0]
    obtain ⟨h1, ⟨e, fr, h2⟩, h3⟩ := hgl.tab _ ht
    have := C u.toNat (by omega) (by omega) w (by simp [TabIs, World.var?, hg, h2])
    rw [Int.toNat_of_nonneg (by omega)] at this
    refine this.mono ?_
    rintro e w' ⟨rfl, rfl⟩
    exact ⟨_, rfl, ⟨rfl, rfl, rfl, Nat.le_refl _, fun _ _ => rfl⟩, .int _ _⟩
  · cases h
section ops
variable {c : Ctx} {ops : Array Oper} {st : St} {dst : Option Tmp} {ty : TypeId} {pos : String} {after : Array Edge}
/-- out = append(out, s...) -/
theorem w_appendStrG {f : Int → List AV} {x y : Operand} {t u e by_ r n : Nat} {xs zs : List Int} {s : Str} (h : Opv c st x (.own r n)) (hy : Opv c st y (.str s)) (hut : tStr c.P u = true) (ht : tSl c.P t e 1 by_ = true)
    (ho : nth st.hp r = some ⟨e, xs.map f⟩) (hn : xs.length = n) (hf : ∀ z, f z = [.int .u8 z]) (hby : Nat.ble by_ 32768 = true) (hz : app xs (bytes s) = some zs) :
    WVal c ops st ⟨dst, .call { callee := .builtin .append, args := #[x, y], argTypes := #[t, u] }, ty, pos, after, none⟩ (.own r zs.length) (setO st.hp r (some ⟨e, zs.map f⟩)) := by
  have hff : f = fun z => [.int .u8 z] := funext hf
  subst hff
  unfold app at hz
  split at hz
  · rename_i hle
    cases hz
    have hby := Nat.le_of_ble_eq_true hby
    have hbl : (bytes s).length = s.length := by simp [bytes]
    have hmul : (n + s.length) * by_ ≤ 4294967296 * 32768 := Nat.mul_le_mul (by rw [← hn, ← hbl]; exact hle) hby
    cases s with
    | nil =>
      have hset : setO st.hp r (some (⟨e, (xs ++ bytes []).map fun z => [.int .u8 z]⟩ : Own)) = st.hp := by
        simp only [bytes, List.map_nil, List.append_nil]
        generalize st.hp = hp at ho
        clear h hy
        induction hp generalizing r with
        | nil => cases ho
        | cons o hp ih =>
          cases r with
          | zero => simp only [nth] at ho; simp [setO, ho]
          | succ r => simp only [nth] at ho; simp only [setO]; rw [ih ho]
      rw [hset]
      simp only [bytes, List.map_nil, List.append_nil]
      refine .run rfl fun φ a w hc => ?_
      obtain ⟨hu, inf, z, hi, hs, hby, hn0, hz, hzs, hcs⟩ := tSl.spec ht
      have hO := hc.hok.obj r _ ho
      have hx := relF_own (h φ a w hc) (by rw [hO.len]; simpa using hn)
      have huu := tStr.spec hut
      have hyv := hy.str hc
      have hroom : n ≤ (φ r).cap := by have := hO.room; simpa [hn] using this
      refine ⟨_, w, φ, ?_, hc.hok, fun _ _ h => h, by rw [hn]; exact h φ a w hc⟩
      have : (Builtin.append_ #[t, u] ty #[a.eval x, a.eval y]).run c.P w = .ok (a.eval x) w := by
        rw [hx, hyv]
        cases hb : (φ r).blk with
        | none => simp [Builtin.append_, run_underlying hu, run_underlying huu, sizeOf, typeInfo, hi, Builtin.lenOf, hroom, Builtin.firstCells, ByteArray.size]
        | some b => simp [Builtin.append_, run_underlying hu, run_underlying huu, sizeOf, typeInfo, hi, Builtin.lenOf, hroom, Builtin.firstCells, storeCells, ByteArray.size]
      simp only [execOp, resolve, invoke, builtin]
      simp [this]
    | cons b s =>
      have := w_appendStr (c := c) (ops := ops) (dst := dst) (ty := ty) (pos := pos) (after := after) (sz := 1) (m := (b :: s).length) (ys := (bytes (b :: s)).map fun z => [.int .u8 z]) h hy hut rfl (by simp [bytes]) ht ho (by simpa using hn) rfl (by simp [bytes]) (by simp) (Nat.le_trans hmul (by decide)) (by rw [← hn]; simp only [bytes, List.length_map, List.length_append, List.length_cons] at hle ⊢; omega)
      rw [← hn, show (b :: s).length = (bytes (b :: s)).length by rw [hbl], ← List.length_append] at this
      simpa [List.map_append] using this
  · cases hz
end ops
end Go.Vx
namespace Go.Vx
open Go Go.RowKit Go.Lib
section ops
variable {c : Ctx} {ops : Array Oper} {st : St} {dst : Option Tmp} {ty : TypeId} {pos : String} {after : Array Edge}
theorem foldl_push (ns : List Int) (s : ByteArray) : ns.foldl (fun r n => r.push (UInt8.ofNat n.toNat)) s = ⟨s.data ++ (ofBytes ns).toArray⟩ := by
  induction ns generalizing s with
  | nil => simp [ofBytes]
  | cons n ns ih =>
    rw [List.foldl_cons, ih]
    simp [ofBytes, ByteArray.push]
def tU8 (P : Program) (e : Nat) : Bool := match P.underlying e with | some (.int .u8) => true | _ => false
/-- string(b) -/
theorem v_strOf {f : Int → List AV} {x : Operand} {s t e by_ : Nat} {ys : List Int} (h : SlV c st x 1 (ys.map f)) (hf : ∀ z, f z = [.int .u8 z]) (hs : tSl c.P s e 1 by_ = true) (ht : tStr c.P t = true) (he : tU8 c.P e = true) :
    SVal c ops st ⟨dst, .convert s t x, ty, pos, after, none⟩ (.str (ofBytes ys)) :=
  .pure rfl fun φ a w hc => by
    obtain ⟨base, cap, hx, hl, hrow, hcells⟩ := h φ a w hc
    have hu := (tSl.spec hs).1
    have hst := tStr.spec ht
    have hue : c.P.underlying e = some (.int .u8) := by
      unfold tU8 at he
      split at he
      · assumption
      · cases he
    refine ⟨.string ⟨(ofBytes ys).toArray⟩, ?_, relF_data (.str _)⟩
    have hb : (Conv.bytesToString (a.eval x)).run c.P w = .ok (.string ⟨(ofBytes ys).toArray⟩) w := by
      rw [hx]
      cases base with
      | none =>
        have hne : ys = [] := by
          by_cases hne : ys = []
          · exact hne
          · obtain ⟨b, off, us, hh, _⟩ := hcells (by simpa using hne)
            cases hh
        subst hne
        rfl
      | some b =>
        have hlc : (loadCells b (ys.map f).length).run c.P w = .ok (ys.map (Value.int .u8)).toArray w := by
          have := run_loadCells_list (P := c.P) (w := w) b (ys.map (Value.int .u8)) (fun i v hv => by
            have hi : i < ys.length := by have := (List.getElem?_eq_some_iff.1 hv).1; simpa using this
            have hi' : i < (ys.map f).length := by simpa using hi
            obtain ⟨b', off, us, hh, h1, h2⟩ := hcells (by intro e; rw [e] at hi'; cases hi')
            cases hh
            have g1 := h1 i 0 hi' (by decide)
            have g2 := h2 i 0 hi' (by decide)
            have e1 : cellAt (ys.map f) i 0 = .int .u8 (ys.getD i 0) := by simp [cellAt, List.getD_eq_getElem?_getD, hf, hi]
            rw [e1] at g2
            rw [Nat.mul_one, Nat.add_zero] at g1
            rw [addr_add, g1, relF_int g2]
            rw [← hv]
            simp [List.getD_eq_getElem?_getD, hi])
          simpa using this
        rw [run_bytesToString (P := c.P) w b (ys.map f).length cap ys hlc]
        rw [foldl_push]
        simp
    have : (convert s t (a.eval x)).run c.P w = .ok (.string ⟨(ofBytes ys).toArray⟩) w := by
      rw [hx] at hb ⊢
      rw [run_convert_bytes_string w s t e _ _ _ hu hue hst, hb]
    simp [execOp, this]
end ops
end Go.Vx

namespace Go.Vx
open Go Go.RowKit Go.Lib
/-- [m]T(xs) -/
def tov {α : Type} (m : Nat) (xs : List α) : Option (Vector α m) := if h : m ≤ xs.length then some ⟨(xs.take m).toArray, by simp; omega⟩ else none
theorem tov_some {α : Type} {m : Nat} {xs : List α} {v : Vector α m} (h : tov m xs = some v) : m ≤ xs.length ∧ v.toList = xs.take m := by
  unfold tov at h
  split at h
  · rename_i hm; cases h; exact ⟨hm, by simp⟩
  · cases h
section ops
variable {c : Ctx} {ops : Array Oper} {st : St} {dst : Option Tmp} {ty : TypeId} {pos : String} {after : Array Edge}
theorem v_sapG {α : Type} {f : α → AV} {m : Nat} {x : Operand} {t e : Nat} {xs : List α} {v : Vector α m} (h : Opv c st x (.sl e (xs.map fun u => [f u]))) (ht : tArr c.P t m e 1 = true) (hsz : c.P.cellsOf e = 1) (hm : Nat.blt 0 m = true) (hv : tov m xs = some v) :
    SVal c ops st ⟨dst, .sliceToArrayPointer t x, ty, pos, after, none⟩ (.rp (v.toList.map f) 0) :=
  .pure rfl fun φ a w hc => by
    have hm : 0 < m := by simpa using hm
    obtain ⟨hml, hvl⟩ := tov_some hv
    have hu : c.P.underlying t = some (.array m e) := by
      unfold tArr at ht
      simp only [Bool.and_eq_true] at ht
      have := ht.1
      split at this
      · rename_i heq
        simp only [Bool.and_eq_true] at this
        rw [heq, Nat.eq_of_beq_eq_true this.1, Nat.eq_of_beq_eq_true this.2]
      · cases this
    have hr := relF_sl (h φ a w hc)
    generalize hL : (xs.map fun u => [f u]) = L at hr
    generalize hx : a.eval x = ax at hr
    have hLl : L.length = xs.length := by rw [← hL]; simp
    cases hr with
    | sl0 _ ad cp =>
      have : xs.length = 0 := by rw [← hLl]; rfl
      omega
    | sl _ _ b off cp us h0 h1 h2 h2' h3 h4 h5 =>
      rw [hsz] at h4 h5
      refine ⟨.pointer (some ⟨b, off + 0, none⟩), ?_, relF_data (.rp _ b off 0 (fun j => us j 0) h0 h1 (fun j hj => ?_) (fun j hj => ?_))⟩
      · show ((do pure (Next.value (← Instr.arrayAt t (a.eval x))) : Sem Next)).run c.P w = _
        rw [hx, Sem.run_bind]
        have : (Instr.arrayAt t (.slice (some ⟨b, off, none⟩) L.length cp)).run c.P w = .ok (.pointer (some ⟨b, off, none⟩)) w := by
          unfold Instr.arrayAt
          rw [Sem.run_bind, run_underlying hu]
          simp only [Result.andThen_ok]
          rw [if_neg (by omega)]
          rfl
        rw [this]; rfl
      · simp only [List.length_map, Vector.length_toList] at hj
        have := h4 j 0 (by omega) (by decide)
        rw [Nat.mul_one, Nat.add_zero] at this
        exact this
      · simp only [List.length_map, Vector.length_toList] at hj
        have := h5 j 0 (by omega) (by decide)
        have e : cellAt L j 0 = (v.toList.map f).getD j .any := by
          rw [← hL, hvl]
          have hj2 : j < xs.length := by omega
          simp [cellAt, List.getD_eq_getElem?_getD, hj, hj2]
        rw [← e]; exact this
end ops
end Go.Vx

/- A text of the proof: a verified executor of the program form, or the contracts of the functions that the law reaches. -/
import Derived.Test.YtecdkapjjhkanaaDoorVyB
set_option linter.all false
namespace Go.Vx
open Go Go.RowKit Go.Lib Go.Sort
def digit (u : Int) (k : Nat) : Int := 48 + ((u.toNat / 10 ^ k % 10 : Nat) : Int)
def fmt10 {m : Nat} (v : Vector Int m) (n : Nat) (u : Int) : Option (Vector Int m) :=
  if 0 < n ∧ n ≤ m ∧ 0 ≤ u ∧ u.toNat < 10 ^ n ∧ u.toNat < 18446744073709551616 ∧ (∀ x ∈ v.toList, 0 ≤ x ∧ x < 256) then some (Vector.ofFn fun i => if i.1 < n then digit u (n - 1 - i.1) else v[i.1]) else none
def u8v : UInt8 → Value := fun b => Value.int .u8 (b.toNat : Int)
theorem dg_val (u k : Nat) : ((dg u k).toNat : Int) = digit (u : Int) k := by
  unfold dg digit
  have : u / 10 ^ k % 10 < 10 := Nat.mod_lt _ (by decide)
  simp
  omega
theorem ok_fmt10 {P : Program} {gl : Gl} {f t m n : Nat} {v r : Vector Int m} {u : Int} (hc : callable P f = true) (hm : Nat.ble m 65536 = true) (ht : P.cellsOf t = m)
    (C : ∀ (blk off cap u : Nat) (d : Array UInt8) (w : World), Holds (fun (b : UInt8) => Value.int .u8 (b.toNat : Int)) w blk off d → u < 10 ^ d.size → u < 18446744073709551616 → d.size < 4611686018427387904 →
      Calls P f #[.slice (some ⟨blk, off, none⟩) d.size cap, .int .u64 u] w fun e w' => e = .returned (.tuple #[]) ∧ ∃ (n v' : Nat) (dk : Array UInt8), w' = (putRow (fun (b : UInt8) => Value.int .u8 (b.toNat : Int)) w blk off dk).drewN n ∧ FmtInv d.size u 0 v' dk)
    (h : fmt10 v n u = some r) :
    GSpec P gl f [.osl 0 1 (0 + Int.toNat 0) n, .int .u64 u] [some ⟨t, [v.toList.map (AV.int .u8)]⟩] (.tuple []) [some ⟨t, [r.toList.map (AV.int .u8)]⟩] := by
  refine ⟨hc, fun A W w φ vals hok hsz hr => ?_⟩
  unfold fmt10 at h
  split at h
  case isFalse => cases h
  rename_i hg
  obtain ⟨hpos, hnm, hu0, hu10, hu64, hv⟩ := hg
  have hm := Nat.le_of_ble_eq_true hm
  have hO := hok.obj 0 _ rfl
  have h0 := hr 0 (by simp)
  have h1 := hr 1 (by simp)
  obtain ⟨b, j', cap, hb, hle, hj, hx⟩ := relF_osl h0 hO.len
  obtain rfl : j' = 0 := hj hpos
  have hy : vals.getD 1 undef = .int .u64 u := relF_int h1
  obtain ⟨cs, g1, g2, g3⟩ := hO.some b hb
  have hroom := hO.room
  simp only [List.length_singleton] at hroom
  simp only [ht] at g2 g3
  have hcs : m ≤ cs.size := by rw [g2]; exact Nat.le_mul_of_pos_left _ hroom
  have hcell : ∀ j, j < m → cs.getD j undef = .int .u8 (v.toList.getD j 0) := by
    intro j hj
    have := g3 0 j (by simp) hj
    rw [Nat.zero_mul, Nat.zero_add] at this
    have e : cellAt [v.toList.map (AV.int .u8)] 0 j = .int .u8 (v.toList.getD j 0) := by simp [cellAt, List.getD_eq_getElem?_getD, hj]
    rw [e] at this
    exact relF_int this
  obtain ⟨d, hd⟩ : ∃ d : Array UInt8, d = ((v.toList.take n).map fun z => UInt8.ofNat z.toNat).toArray := ⟨_, rfl⟩
  have hds : d.size = n := by rw [hd]; simp; omega
  have hdj : ∀ j, j < n → Value.int .u8 (d[j]!.toNat : Int) = .int .u8 (v.toList.getD j 0) := by
    intro j hj
    have hjm : j < m := by omega
    have hmem : v.toList.getD j 0 ∈ v.toList := by simp [List.getD_eq_getElem?_getD, hjm]
    obtain ⟨q0, q1⟩ := hv _ hmem
    have : d[j]! = UInt8.ofNat (v.toList.getD j 0).toNat := by
      rw [hd, getElem!_pos _ j (by simp; omega)]
      simp [List.getD_eq_getElem?_getD, hjm]
    rw [this]
    congr 1
    rw [UInt8.toNat_ofNat']
    omega
  have hH : Holds (fun (b : UInt8) => Value.int .u8 (b.toNat : Int)) w b 0 d := by
    intro j hj
    rw [hds] at hj
    refine ⟨?_, ?_⟩
    · rw [cell_of_cells g1, Nat.zero_add]
      show _ = some (Value.int .u8 (d[j]!.toNat : Int))
      rw [hdj j hj, ← hcell j (by omega)]
      have : j < cs.size := by omega
      simp [this]
    · simp [World.frozen?, g1]
  have hcall := C b 0 cap u.toNat d w hH (by rw [hds]; exact hu10) hu64 (by omega)
  have hvals : vals = #[.slice (some ⟨b, 0, none⟩) d.size cap, .int .u64 (u.toNat : Int)] := by
    obtain ⟨l⟩ := vals
    match l, hsz with
    | [x, y], _ =>
      have e1 : x = .slice (some ⟨b, 0, none⟩) n cap := hx
      have e2 : y = .int .u64 u := hy
      rw [e1, e2, hds, Int.toNat_of_nonneg hu0]
  rw [hvals]
  refine hcall.mono ?_
  rintro e w' ⟨rfl, n0, v', dk, rfl, hfi⟩
  cases h
  have hk := hfi.size
  have hcs' : ((putRow (fun (b : UInt8) => Value.int .u8 (b.toNat : Int)) w b 0 dk).drewN n0).heap[b]? = some (.cells (putCells (fun (b : UInt8) => Value.int .u8 (b.toNat : Int)) 0 dk cs) t (0, 0)) := by
    simp only [World.heap_drewN, putRow, mapBlock, Array.getElem?_modify, if_pos, g1]
    rfl
  have hpc : ∀ j, j < m → (putCells (fun (b : UInt8) => Value.int .u8 (b.toNat : Int)) 0 dk cs).getD j undef = .int .u8 (if j < n then digit u (n - 1 - j) else v.toList.getD j 0) := by
    intro j hj
    have hjc : j < cs.size := by omega
    have hcj := hcell j hj
    simp only [Array.getD_eq_getD_getElem?, putCells, Array.getElem?_mapIdx, hjc, getElem?_pos, Option.map_some, Option.getD_some, Nat.zero_add, Nat.zero_le, true_and, hk, hds, Nat.sub_zero] at hcj ⊢
    split
    · have := hfi.done j (Nat.zero_le _) (by omega)
      rw [this, dg_val, Int.toNat_of_nonneg hu0, hds]
    · exact hcj
  have hup := own_update (L := φ 0) (o' := ⟨t, [(Vector.ofFn fun (i : Fin m) => if i.1 < n then digit u (n - 1 - i.1) else v[i.1]).toList.map (AV.int .u8)]⟩) (w' := (putRow (fun (b : UInt8) => Value.int .u8 (b.toNat : Int)) w b 0 dk).drewN n0) hok (r := 0) rfl rfl rfl rfl (by simp [putRow, mapBlock]) (fun b' hlt hne => by
    rw [hb] at hne
    have hne' : b ≠ b' := fun e => hne (by rw [e])
    simp only [World.heap_drewN, putRow, mapBlock, Array.getElem?_modify, if_neg hne']) (.inl rfl) (.inl rfl) (fun htr => by
    refine ⟨hO.len, hO.sz, ?_, hO.room, hO.cap, fun e => by simp [hb] at e, fun b' hb' => ?_⟩
    · intro row hrow
      simp only [List.mem_singleton] at hrow
      subst hrow
      simp [ht]
    · simp only [if_true, hb, Option.some.injEq] at hb'
      subst hb'
      refine ⟨_, hcs', by simp [putCells, g2, ht], fun i j hi hj => ?_⟩
      simp only [List.length_singleton] at hi
      simp only [ht] at hj ⊢
      obtain rfl : i = 0 := by omega
      rw [Nat.zero_mul, Nat.zero_add, hpc j hj]
      have e : cellAt [(Vector.ofFn fun (i : Fin m) => if i.1 < n then digit u (n - 1 - i.1) else v[i.1]).toList.map (AV.int .u8)] 0 j = .int .u8 (if j < n then digit u (n - 1 - j) else v.toList.getD j 0) := by
        simp [cellAt, List.getD_eq_getElem?_getD, hj]
      rw [e]
      exact relF_data (.int _ _))
  refine ⟨.tuple #[], _, rfl, hup.1, ?_⟩
  exact relF_data (.tuple [] #[] rfl fun i hi => by cases hi)
end Go.Vx

/- A text of the proof: a verified executor of the program form, or the contracts of the functions that the law reaches. -/
import Derived.Test.YtciaeohnkfnamaaGreatDoorPA
set_option linter.all false
namespace Go.Vx
open Go Go.RowKit
theorem outside_s (n a b : Int) : ref3_outside n a b = (ring_within n a b).bind fun y => some (!y) := by
  unfold ref3_outside ring_within
  rw [Option.bind_some]
  congr 1
  by_cases h1 : a ≤ n <;> by_cases h2 : n ≤ b <;> simp [h1, h2] <;> omega
theorem memL_eq (m : api_Memory) : ref3_CheckMemory_L1 m = ring_CheckMemory_L1 m := by
  funext i
  unfold ref3_CheckMemory_L1 ring_CheckMemory_L1 ring_sectorBytes
  split
  · congr 1
    funext x
    rw [Option.bind_some]
    split
    · rfl
    · congr 1
      funext x2
      rw [outside_s]
      unfold ring_within
      simp only [Option.bind_some]
  · rfl
theorem mem_eq (m : api_Memory) : ref3_CheckMemory m = ring_CheckMemory m := by
  unfold ref3_CheckMemory ring_CheckMemory
  rw [memL_eq]
  simp only [outside_s]
  unfold ring_within
  simp only [Option.bind_some]
  cases h1 : (decide (1 ≤ m.Slots) && decide (m.Slots ≤ 64))
  · rfl
  · cases h2 : (decide (1 ≤ m.Limit) && decide (m.Limit ≤ 1000000))
    · rfl
    · cases h3 : (decide (2 ≤ (m.Sectors.length : Int)) && decide ((m.Sectors.length : Int) ≤ 64))
      · rfl
      · rfl
def memOK (m : api_Memory) : Prop := m.Sectors.length ≤ 64 ∧ ∀ s ∈ m.Sectors, s.length ≤ 6224
theorem mem_s {m : api_Memory} (hw : wf_api_Memory m) : ∃ r : Int, ring_CheckMemory m = some r ∧ (r = 0 → memOK m) := by
  unfold ring_CheckMemory ring_within
  simp only [Option.bind_some]
  by_cases h1 : (decide (1 ≤ m.Slots) && decide (m.Slots ≤ 64)) = true
  · by_cases h2 : (decide (1 ≤ m.Limit) && decide (m.Limit ≤ 1000000)) = true
    · by_cases h3 : (decide (2 ≤ (m.Sectors.length : Int)) && decide ((m.Sectors.length : Int) ≤ 64)) = true
      · rw [h1, h2, h3]
        simp only [Bool.and_eq_true, decide_eq_true_eq] at h1 h2 h3
        show ∃ r, (if ((!decide ((m.Wear.length : Int) = (m.Sectors.length : Int))) || (!decide ((m.Bad.length : Int) = (m.Sectors.length : Int)))) = true then some 2 else _) = some r ∧ _
        by_cases h4 : ((!decide ((m.Wear.length : Int) = (m.Sectors.length : Int))) || (!decide ((m.Bad.length : Int) = (m.Sectors.length : Int)))) = true
        · exact ⟨2, by rw [if_pos h4], fun h => by omega⟩
        · rw [if_neg h4]
          simp only [Bool.or_eq_true, Bool.not_eq_true', decide_eq_false_iff_not, not_or, Decidable.not_not] at h4
          have hI := loop_inv (body := t1 (ring_CheckMemory_L1 m)) (fun i => ∃ k : Nat, i = k ∧ k ≤ m.Sectors.length ∧ ∀ s ∈ m.Sectors.take k, s.length ≤ 6224) (fun i => m.Sectors.length - i.toNat)
            (fun r => (∃ e : Int, r = .inl e ∧ e ≠ 0) ∨ (r = .inr () ∧ ∀ s ∈ m.Sectors, s.length ≤ 6224)) (by
            rintro i ⟨k, rfl, hk, hs⟩
            rw [t1_mk]
            unfold ring_CheckMemory_L1 ring_sectorBytes ring_within
            rcases Nat.lt_or_ge k m.Sectors.length with hlt | hge
            · obtain ⟨x, hx⟩ := get_ex hlt
              obtain ⟨z, hz⟩ := get_ex (xs := m.Wear) (k := k) (by omega)
              rw [if_pos (by simp; omega), idx_of hx, Option.bind_some, Option.bind_some, i64v (z := m.Slots * 97) (by omega) (by omega), i64v (z := 16 + m.Slots * 97) (by omega) (by omega)]
              by_cases hl : (x.length : Int) = 16 + m.Slots * 97
              · rw [if_neg (by simp [hl]), idx_of hz, Option.bind_some, Option.bind_some]
                by_cases hb : (!(decide (0 ≤ z) && decide (z ≤ m.Limit))) = true
                · rw [if_pos hb]; exact .inr ⟨_, rfl, .inl ⟨9, rfl, by decide⟩⟩
                · rw [if_neg hb]
                  refine .inl ⟨_, rfl, ⟨k + 1, by rw [i64v (by omega) (by omega)]; push_cast; rfl, hlt, ?_⟩, by rw [i64v (by omega) (by omega)]; omega⟩
                  intro s hsm
                  rw [List.take_add_one, hx] at hsm
                  rcases List.mem_append.1 hsm with h | h
                  · exact hs s h
                  · have : s = x := by simpa using h
                    subst this; omega
              · rw [if_pos (by simp [hl])]; exact .inr ⟨_, rfl, .inl ⟨3, rfl, by decide⟩⟩
            · rw [if_neg (by simp; omega)]
              refine .inr ⟨_, rfl, .inr ⟨rfl, ?_⟩⟩
              rw [List.take_of_length_le hge] at hs
              exact hs) 0 ⟨0, rfl, Nat.zero_le _, fun s h => by simp at h⟩
          obtain ⟨r, e, hr⟩ := hI
          rw [e, Option.bind_some]
          rcases hr with ⟨e1, rfl, he⟩ | ⟨rfl, hs⟩
          · exact ⟨e1, rfl, fun h => (he h).elim⟩
          · exact ⟨0, rfl, fun _ => ⟨by omega, hs⟩⟩
      · have h3 : (decide (2 ≤ (m.Sectors.length : Int)) && decide ((m.Sectors.length : Int) ≤ 64)) = false := by simpa using h3
        rw [h1, h2, h3]
        exact ⟨9, rfl, fun h => by omega⟩
    · have h2 : (decide (1 ≤ m.Limit) && decide (m.Limit ≤ 1000000)) = false := by simpa using h2
      rw [h1, h2]
      exact ⟨9, rfl, fun h => by omega⟩
  · have h1 : (decide (1 ≤ m.Slots) && decide (m.Slots ≤ 64)) = false := by simpa using h1
    rw [h1]
    exact ⟨9, rfl, fun h => by omega⟩
def memsOK (l : List api_Memory) : Prop := l.length ≤ 8 ∧ ∀ m ∈ l, memOK m
theorem fault_eq (l : List api_Memory) : ref3_Fault l = ring_CheckMemories l := by
  unfold ref3_Fault ring_CheckMemories ring_checkAll ring_within
  have hb : ref3_Fault_L1 l = ring_checkAll_L1 l := by
    funext i
    unfold ref3_Fault_L1 ring_checkAll_L1
    simp only [mem_eq]
  rw [hb, Option.bind_some]
  by_cases h : l.length = 0 ∨ 8 < l.length
  · rw [if_pos (by simp only [Bool.or_eq_true, decide_eq_true_eq]; omega), if_pos (by simp only [Bool.not_eq_true', Bool.and_eq_false_iff, decide_eq_false_iff_not]; omega)]; rfl
  · rw [if_neg (by simp only [Bool.or_eq_true, decide_eq_true_eq]; omega), if_neg (by simp only [Bool.not_eq_true', Bool.and_eq_false_iff, decide_eq_false_iff_not]; omega)]
    cases (loop (t1 (ring_checkAll_L1 l)) 0 : Option ((Int) ⊕ (Unit))) with
    | none => rfl
    | some r => cases r <;> rfl
theorem mems_s {l : List api_Memory} (hw : ∀ m ∈ l, wf_api_Memory m) : ∃ r : Int, ring_CheckMemories l = some r ∧ (r = 0 → memsOK l) := by
  unfold ring_CheckMemories ring_checkAll ring_within
  rw [Option.bind_some]
  by_cases h : l.length = 0 ∨ 8 < l.length
  · rw [if_pos (by simp only [Bool.not_eq_true', Bool.and_eq_false_iff, decide_eq_false_iff_not]; omega)]
    exact ⟨3, rfl, fun h => by omega⟩
  · rw [if_neg (by simp only [Bool.not_eq_true', Bool.and_eq_false_iff, decide_eq_false_iff_not]; omega)]
    have hI := loop_inv (body := t1 (ring_checkAll_L1 l)) (fun i => ∃ k : Nat, i = k ∧ k ≤ l.length ∧ ∀ m ∈ l.take k, memOK m) (fun i => l.length - i.toNat)
      (fun r => (∃ e : Int, r = .inl e ∧ e ≠ 0) ∨ (r = .inr () ∧ ∀ m ∈ l, memOK m)) (by
      rintro i ⟨k, rfl, hk, hs⟩
      rw [t1_mk]
      unfold ring_checkAll_L1
      rcases Nat.lt_or_ge k l.length with hlt | hge
      · obtain ⟨x, hx⟩ := get_ex hlt
        obtain ⟨r, hr, hr0⟩ := mem_s (hw x (List.mem_of_getElem? hx))
        rw [if_pos (by simp; omega), idx_of hx, Option.bind_some, hr, Option.bind_some]
        by_cases h0 : r = 0
        · rw [if_neg (by simp [h0])]
          refine .inl ⟨_, rfl, ⟨k + 1, by rw [i64v (by omega) (by omega)]; push_cast; rfl, hlt, ?_⟩, by rw [i64v (by omega) (by omega)]; omega⟩
          intro s hsm
          rw [List.take_add_one, hx] at hsm
          rcases List.mem_append.1 hsm with h | h
          · exact hs s h
          · have : s = x := by simpa using h
            subst this; exact hr0 h0
        · rw [if_pos (by simp [h0])]; exact .inr ⟨_, rfl, .inl ⟨r, rfl, h0⟩⟩
      · rw [if_neg (by simp; omega)]
        refine .inr ⟨_, rfl, .inr ⟨rfl, ?_⟩⟩
        rw [List.take_of_length_le hge] at hs
        exact hs) 0 ⟨0, rfl, Nat.zero_le _, fun s h => by simp at h⟩
    obtain ⟨r, e, hr⟩ := hI
    rw [e, Option.bind_some]
    rcases hr with ⟨e1, rfl, he⟩ | ⟨rfl, hs⟩
    · exact ⟨e1, rfl, fun h => (he h).elim⟩
    · exact ⟨0, rfl, fun _ => ⟨by omega, hs⟩⟩
def secB (m : api_Memory) : List Int := m.Sectors.flatten
def allB (l : List api_Memory) : List Int := (l.map secB).flatten
theorem flat_len {n : Nat} : ∀ {ls : List (List Int)}, (∀ s ∈ ls, s.length ≤ n) → ls.flatten.length ≤ ls.length * n
  | [], _ => by simp
  | a :: tl, h => by
    have h1 := h a List.mem_cons_self
    have ih := flat_len (ls := tl) fun s hs => h s (List.mem_cons_of_mem _ hs)
    rw [List.flatten_cons, List.length_append, List.length_cons, Nat.add_mul, Nat.one_mul]; omega
theorem take_flat {ls : List (List Int)} {k : Nat} {x : List Int} (h : ls[k]? = some x) : (ls.take (k + 1)).flatten = (ls.take k).flatten ++ x := by
  rw [List.take_add_one, h, List.flatten_append]; simp
theorem catL_s {m : api_Memory} (hm : memOK m) (acc : List Int) (ha : acc.length ≤ 4000000) : loop (t2 (salvage_Pieces_L2 m)) (acc, 0) = some (acc ++ secB m) := by
  have := loop_st (body := salvage_Pieces_L2 m) (fun k => acc ++ (m.Sectors.take k).flatten) (acc ++ secB m) (a := 0) (b := m.Sectors.length) (Nat.zero_le _) (fun k _ hk => by
    obtain ⟨x, hx⟩ := get_ex hk
    have hxl := hm.2 x (List.mem_of_getElem? hx)
    have hfl := flat_len (n := 6224) (ls := m.Sectors.take k) fun s hs => hm.2 s (List.mem_of_mem_take hs)
    have hkl : (m.Sectors.take k).length ≤ 64 := by rw [List.length_take]; have := hm.1; omega
    have := hm.1
    unfold salvage_Pieces_L2
    rw [if_pos (by simp; omega), idx_of hx, Option.bind_some, app_of (by rw [List.length_append]; omega), Option.bind_some, i64v (by omega) (by omega), take_flat hx, List.append_assoc]) (by
    unfold salvage_Pieces_L2
    rw [if_neg (by simp), List.take_of_length_le (Nat.le_refl _)]; rfl)
  simpa using this
theorem mem_take_len {l : List api_Memory} (hl : memsOK l) (k : Nat) : ((l.take k).map secB).flatten.length ≤ 3186688 := by
  have h1 : ∀ s ∈ (l.take k).map secB, s.length ≤ 398336 := fun s hs => by
    obtain ⟨m, hm, rfl⟩ := List.mem_map.1 hs
    have ho := hl.2 m (List.mem_of_mem_take hm)
    have := flat_len (n := 6224) ho.2
    have := ho.1
    show m.Sectors.flatten.length ≤ _
    omega
  have h2 := flat_len h1
  have : ((l.take k).map secB).length ≤ 8 := by rw [List.length_map, List.length_take]; have := hl.1; omega
  omega
theorem cat_s {l : List api_Memory} (hl : memsOK l) : loop (t2 (salvage_Pieces_L1 l)) ([], 0) = some (allB l) := by
  have hl8 := hl.1
  have := loop_st (body := salvage_Pieces_L1 l) (fun k => ((l.take k).map secB).flatten) (allB l) (a := 0) (b := l.length) (Nat.zero_le _) (fun k _ hk => by
    obtain ⟨x, hx⟩ := get_ex hk
    have hfl := mem_take_len hl k
    unfold salvage_Pieces_L1
    rw [if_pos (by simp; omega), idx_of hx, Option.bind_some, catL_s (hl.2 x (List.mem_of_getElem? hx)) _ (by omega), Option.bind_some, t1_mk, i64v (by omega) (by omega)]
    have : ((l.take (k + 1)).map secB).flatten = ((l.take k).map secB).flatten ++ secB x := by
      rw [List.take_add_one, hx, List.map_append, List.flatten_append]; simp
    rw [this]) (by
    unfold salvage_Pieces_L1
    rw [if_neg (by simp), List.take_of_length_le (Nat.le_refl _)]; rfl)
  simpa using this
theorem allB_len {l : List api_Memory} (hl : memsOK l) : (allB l).length ≤ 3186688 := by
  have := mem_take_len hl l.length
  rw [List.take_of_length_le (Nat.le_refl _)] at this
  exact this
theorem allB_u {l : List api_Memory} (hw : ∀ m ∈ l, wf_api_Memory m) : u8L (allB l) := by
  intro x hx
  obtain ⟨s, hs, hx⟩ := List.mem_flatten.1 hx
  obtain ⟨m, hm, rfl⟩ := List.mem_map.1 hs
  obtain ⟨t, ht, hx⟩ := List.mem_flatten.1 hx
  exact wf_u8 (((hw m hm).2.2.1.2 t ht).2 x hx)
def cutsOK (cuts : List Int) (n : Nat) : Prop := ∀ (k : Nat) (x : Int), cuts[k]? = some x → 0 ≤ x ∧ x ≤ n
theorem cuts_s {cuts : List Int} (hc : cuts.length ≤ 199) {all H : List Int} (hH : H.length = 2 * all.length) (hl : all.length ≤ 3186688) :
    ∃ r : (List api_Piece × Int) ⊕ Unit, loop (t1 (salvage_Pieces_L3 cuts all)) 0 = some r ∧ loop (t1 (ref4_Pieces_L3 cuts H)) 0 = some r ∧ (r = .inr () → cutsOK cuts H.length) ∧ (∀ q, r = .inl q → q.1 = []) := by
  have hb : ref4_Pieces_L3 cuts H = salvage_Pieces_L3 cuts all := by
    funext i
    unfold ref4_Pieces_L3 salvage_Pieces_L3
    rw [i64v (z := 2 * (all.length : Int)) (by omega) (by omega), show (H.length : Int) = 2 * (all.length : Int) by omega]
  rw [hb]
  have hI := loop_inv (body := t1 (salvage_Pieces_L3 cuts all)) (fun i => ∃ k : Nat, i = k ∧ k ≤ cuts.length ∧ ∀ j x, j < k → cuts[j]? = some x → 0 ≤ x ∧ x ≤ H.length) (fun i => cuts.length - i.toNat)
    (fun r => (∃ e : Int, r = .inl ([], e)) ∨ (r = .inr () ∧ cutsOK cuts H.length)) (by
    rintro i ⟨k, rfl, hk, hs⟩
    rw [t1_mk]
    unfold salvage_Pieces_L3
    rcases Nat.lt_or_ge k cuts.length with hlt | hge
    · obtain ⟨x, hx⟩ := get_ex hlt
      rw [if_pos (by simp; omega), idx_of hx, Option.bind_some, i64v (z := 2 * (all.length : Int)) (by omega) (by omega)]
      by_cases h1 : (decide (x < 0) || decide (2 * (all.length : Int) < x)) = true
      · rw [if_pos h1]; exact .inr ⟨_, rfl, .inl ⟨9, rfl⟩⟩
      · rw [if_neg h1]
        simp only [Bool.or_eq_true, decide_eq_true_eq, not_or, Int.not_lt] at h1
        obtain ⟨b, hbb⟩ : ∃ b : Bool, ∃ y, (gd ((decide (0 < (k : Int))) == true) 0 (idx cuts (i64 ((k : Int) - 1)))) = some y ∧ (decide (0 < (k : Int)) && decide (x < y)) = b := by
          rcases Nat.eq_zero_or_pos k with rfl | hp
          · exact ⟨_, 0, rfl, rfl⟩
          · obtain ⟨y, hy⟩ := get_ex (xs := cuts) (k := k - 1) (by omega)
            refine ⟨_, y, ?_, rfl⟩
            rw [decide_eq_true (by omega), i64v (by omega) (by omega), show (k : Int) - 1 = ((k - 1 : Nat) : Int) by omega, idx_of hy]; rfl
        obtain ⟨y, e1, e2⟩ := hbb
        rw [e1, Option.bind_some, e2]
        cases b
        · rw [if_neg (by decide)]
          refine .inl ⟨_, rfl, ⟨k + 1, by rw [i64v (by omega) (by omega)]; push_cast; rfl, hlt, ?_⟩, by rw [i64v (by omega) (by omega)]; omega⟩
          intro j z hj hz
          by_cases hjk : j = k
          · subst hjk
            rw [hx] at hz
            cases hz
            omega
          · exact hs j z (by omega) hz
        · rw [if_pos rfl]; exact .inr ⟨_, rfl, .inl ⟨10, rfl⟩⟩
    · rw [if_neg (by simp; omega)]
      refine .inr ⟨_, rfl, .inr ⟨rfl, ?_⟩⟩
      intro j z hz
      exact hs j z (by have := (List.getElem?_eq_some_iff.1 hz).1; omega) hz) 0 ⟨0, rfl, Nat.zero_le _, fun j _ h => by omega⟩
  obtain ⟨r, e, hr⟩ := hI
  refine ⟨r, e, e, ?_, ?_⟩
  · rintro rfl
    rcases hr with ⟨e, h⟩ | ⟨_, h⟩
    · cases h
    · exact h
  · rintro q rfl
    rcases hr with ⟨e, h⟩ | ⟨h, _⟩
    · cases h; rfl
    · cases h
theorem part_s {b : List Int} (hu : u8L b) (hl : b.length ≤ 3186688) {f t : Nat} (hft : f < t) (ht : t ≤ 2 * b.length) :
    ((slc (hvB b) (f : Int) (t : Int)).bind fun l5 => (rem (f : Int) 2).bind fun q => ref4_OfHalves l5 (decide (q = 1))) = some ⟨pk (padF (hvB b) f t), decide (f % 2 = 1)⟩ := by
  have hlen : (hvB b).length = 2 * b.length := hvB_len b
  rw [slcN (by omega) (by omega), Option.bind_some, rem2, Option.bind_some]
  have hsub : hL (((hvB b).take t).drop f) := fun x hx => hvB_bd hu x (List.mem_of_mem_take (List.mem_of_mem_drop hx))
  have hdl : (((hvB b).take t).drop f).length = t - f := by rw [List.length_drop, List.length_take]; omega
  have ho : decide (((f % 2 : Nat) : Int) = 1) = decide (f % 2 = 1) := by rw [decide_eq_decide]; omega
  rw [OfHalves_s hsub (by rw [hdl]; omega), hdl, ho, decide_eq_true (show 0 < t - f by omega), Bool.and_true]
  unfold padF
  by_cases h : f % 2 = 1
  · rw [if_pos (by simpa using h), if_pos h]; rfl
  · rw [if_neg (by simpa using h), if_neg h]; rfl
theorem pieces_s {b : List Int} (hu : u8L b) (hl : b.length ≤ 3186688) {cuts : List Int} (hc : cuts.length ≤ 199) (ho : cutsOK cuts (hvB b).length) :
    ∃ r : (List api_Piece × Int) ⊕ List api_Piece, loop (t4 (salvage_Pieces_L4 cuts)) (b, [], 0, 0) = some r ∧ loop (t3 (ref4_Pieces_L4 (hvB b) (cuts ++ [((hvB b).length : Int)]))) ([], 0, 0) = some r ∧
      (∀ q, r = .inl q → q.1.length ≤ 200) ∧ (∀ q, r = .inr q → q.length ≤ 200) := by
  have hlen : (hvB b).length = 2 * b.length := hvB_len b
  -- both loops, step by step
  have main : ∀ (n k : Nat) (out : List api_Piece) (f : Nat), n + k = cuts.length + 1 → out.length ≤ k → f ≤ 2 * b.length →
      ∃ r : (List api_Piece × Int) ⊕ List api_Piece, loop (t4 (salvage_Pieces_L4 cuts)) (b, out, (f : Int), (k : Int)) = some r ∧ loop (t3 (ref4_Pieces_L4 (hvB b) (cuts ++ [((hvB b).length : Int)]))) (out, (f : Int), (k : Int)) = some r ∧
      (∀ q, r = .inl q → q.1.length ≤ 200) ∧ (∀ q, r = .inr q → q.length ≤ 200) := by
    intro n
    induction n with
    | zero =>
      intro k out f hn hout hf
      refine ⟨.inr out, ?_, ?_, (fun q h => by cases h), (fun q h => by cases h; omega)⟩
      · rw [loop_eq]
        show ((salvage_Pieces_L4 cuts b out (f : Int) (k : Int)).bind _) = _
        have hS : salvage_Pieces_L4 cuts b out (f : Int) (k : Int) = some (.inr (.inr out)) := by
          unfold salvage_Pieces_L4
          rw [i64v (by omega) (by omega), if_neg (by simp; omega)]
        rw [hS]; rfl
      · rw [loop_eq]
        show ((ref4_Pieces_L4 (hvB b) (cuts ++ [((hvB b).length : Int)]) out (f : Int) (k : Int)).bind _) = _
        have hR : ref4_Pieces_L4 (hvB b) (cuts ++ [((hvB b).length : Int)]) out (f : Int) (k : Int) = some (.inr (.inr out)) := by
          unfold ref4_Pieces_L4
          rw [if_neg (by simp; omega)]
        rw [hR]; rfl
    | succ n ih =>
      intro k out f hn hout hf
      obtain ⟨t, ht, h1, h2⟩ : ∃ t : Nat, t ≤ 2 * b.length ∧ ((if (decide ((k : Int) < (cuts.length : Int))) = true then (idx cuts (k : Int)).bind fun x5 => some x5 else some (i64 (2 * (b.length : Int)))) : Option Int) = some (t : Int) ∧
          idx (cuts ++ [((hvB b).length : Int)]) (k : Int) = some (t : Int) := by
        by_cases hk : k < cuts.length
        · obtain ⟨x, hx⟩ := get_ex hk
          have hb := ho k x hx
          obtain ⟨t, rfl⟩ : ∃ t : Nat, x = t := ⟨x.toNat, by omega⟩
          refine ⟨t, by omega, by rw [if_pos (by simp; omega), idx_of hx, Option.bind_some], ?_⟩
          exact idx_of (by rw [List.getElem?_append_left hk]; exact hx)
        · refine ⟨2 * b.length, Nat.le_refl _, by rw [if_neg (by simp; omega), i64v (by omega) (by omega)]; push_cast; rfl, ?_⟩
          refine idx_of ?_
          rw [List.getElem?_append_right (by omega), show k - cuts.length = 0 by omega, hlen]; rfl
      have ei : i64 ((k : Int) + 1) = ((k + 1 : Nat) : Int) := by rw [i64v (by omega) (by omega)]; push_cast; rfl
      have hS0 : salvage_Pieces_L4 cuts b out (f : Int) (k : Int) = if (decide ((f : Int) < (t : Int))) = true then (salvage_cut b (f : Int) (t : Int)).bind fun y2 => if (decide (200000 < (y2.Bytes.length : Int))) = true then some (.inr (.inl ([], 3))) else (app out ([y2] : List api_Piece)).bind fun l3 => some (.inl (b, l3, (t : Int), ((k + 1 : Nat) : Int))) else some (.inl (b, out, (t : Int), ((k + 1 : Nat) : Int))) := by
        unfold salvage_Pieces_L4
        rw [i64v (z := (cuts.length : Int) + 1) (by omega) (by omega), if_pos (by simp; omega), h1, Option.bind_some, t1_mk, ei]
      have hR0 : ref4_Pieces_L4 (hvB b) (cuts ++ [((hvB b).length : Int)]) out (f : Int) (k : Int) = if (decide ((f : Int) < (t : Int))) = true then (slc (hvB b) (f : Int) (t : Int)).bind fun l5 => (rem (f : Int) 2).bind fun q => (ref4_OfHalves l5 (decide (q = 1))).bind fun y3 => if (decide (200000 < (y3.Bytes.length : Int))) = true then some (.inr (.inl ([], 3))) else (app out ([y3] : List api_Piece)).bind fun l6 => some (.inl (l6, (t : Int), ((k + 1 : Nat) : Int))) else some (.inl (out, (t : Int), ((k + 1 : Nat) : Int))) := by
        unfold ref4_Pieces_L4
        rw [if_pos (by simp; omega), h2, Option.bind_some, ei]
      rw [loop_eq (t4 _), loop_eq (t3 _)]
      show ∃ r, ((salvage_Pieces_L4 cuts b out (f : Int) (k : Int)).bind _) = _ ∧ ((ref4_Pieces_L4 (hvB b) (cuts ++ [((hvB b).length : Int)]) out (f : Int) (k : Int)).bind _) = _ ∧ _
      rw [hS0, hR0]
      by_cases hft : f < t
      · have hp := part_s hu hl hft ht
        have hd : decide ((f : Int) < (t : Int)) = true := by rw [decide_eq_true_eq]; omega
        rw [hd, if_pos rfl, if_pos rfl, cut_s hu (by omega) hft ht, Option.bind_some]
        generalize (⟨pk (padF (hvB b) f t), decide (f % 2 = 1)⟩ : api_Piece) = pc at hp ⊢
        have hp2 : ∀ {γ : Type} (K : api_Piece → Option γ), ((slc (hvB b) (f : Int) (t : Int)).bind fun l5 => (rem (f : Int) 2).bind fun q => (ref4_OfHalves l5 (decide (q = 1))).bind K) = K pc := fun K => by
          cases hs : slc (hvB b) (f : Int) (t : Int) with
          | none => rw [hs] at hp; cases hp
          | some l5 =>
            rw [hs, Option.bind_some] at hp
            rw [Option.bind_some]
            cases hr : rem (f : Int) 2 with
            | none => rw [hr] at hp; cases hp
            | some q =>
              rw [hr, Option.bind_some] at hp
              rw [Option.bind_some, hp, Option.bind_some]
        rw [hp2]
        by_cases hbig : (200000 : Int) < (pc.Bytes.length : Int)
        · have hd2 : decide ((200000 : Int) < (pc.Bytes.length : Int)) = true := decide_eq_true hbig
          rw [hd2, if_pos rfl, if_pos rfl]
          exact ⟨.inl ([], 3), rfl, rfl, (fun q h => by cases h; simp), (fun q h => by cases h)⟩
        · have hd2 : decide ((200000 : Int) < (pc.Bytes.length : Int)) = false := decide_eq_false hbig
          rw [hd2, if_neg Bool.false_ne_true, if_neg Bool.false_ne_true, app_of (by simp; omega), Option.bind_some]
          exact ih (k + 1) (out ++ [pc]) t (by omega) (by simp; omega) ht
      · have hd : decide ((f : Int) < (t : Int)) = false := by rw [decide_eq_false_iff_not]; omega
        rw [hd, if_neg Bool.false_ne_true, if_neg Bool.false_ne_true]
        exact ih (k + 1) out t (by omega) (by omega) ht
  exact main (cuts.length + 1) 0 [] 0 (by omega) (by simp) (by omega)
theorem eqP_refl (l : List api_Piece) (hl : l.length ≤ 1000) : slices_EqualFunc_api_Piece_api_Piece_api_Piece_api_Piece l l (fun z0 z1 => law4_samePiece z0 z1) = some true := by
  have := loop_ix1 (xs := l) (body := slices_EqualFunc_api_Piece_api_Piece_api_Piece_api_Piece_L1 l l (fun z0 z1 => law4_samePiece z0 z1)) (fun _ => (Sum.inr () : Bool ⊕ Unit)) (fun k x hx => by
    have hk := (List.getElem?_eq_some_iff.1 hx).1
    left
    refine ⟨?_, rfl⟩
    unfold slices_EqualFunc_api_Piece_api_Piece_api_Piece_api_Piece_L1
    have es : (fun z0 z1 => law4_samePiece z0 z1) x x = some true := same_s x
    rw [if_pos (by simp; omega), idx_of hx, Option.bind_some, Option.bind_some, es, Option.bind_some, if_neg (by simp), i64v (by omega) (by omega)]) (by
    unfold slices_EqualFunc_api_Piece_api_Piece_api_Piece_api_Piece_L1
    rw [if_neg (by simp)])
  unfold slices_EqualFunc_api_Piece_api_Piece_api_Piece_api_Piece
  rw [if_neg (by simp), this]
  rfl
theorem Pieces_s {l : List api_Memory} {cuts : List Int} (hw : ∀ m ∈ l, wf_api_Memory m) : ∃ r : List api_Piece × Int, salvage_Pieces l cuts = some r ∧ ref4_Pieces l cuts = some r ∧ r.1.length ≤ 1000 := by
  obtain ⟨r0, hr, hr0⟩ := mems_s hw
  unfold salvage_Pieces ref4_Pieces
  rw [fault_eq, hr, Option.bind_some, Option.bind_some]
  by_cases h0 : r0 = 0
  · have hd : (!decide (r0 = 0)) = false := by rw [decide_eq_true h0]; rfl
    rw [hd, if_neg Bool.false_ne_true, if_neg Bool.false_ne_true]
    by_cases hc : (199 : Int) < (cuts.length : Int)
    · rw [if_pos (by simpa using hc), if_pos (by simpa using hc)]
      exact ⟨_, rfl, rfl, by simp⟩
    · rw [if_neg (by simpa using hc), if_neg (by simpa using hc)]
      have hl := hr0 h0
      have e1 : ref4_Pieces_L1 l = salvage_Pieces_L1 l := rfl
      have hal := allB_len hl
      have hau := allB_u hw
      rw [e1, cat_s hl, Option.bind_some, Option.bind_some, t1_mk, t1_mk, rHalves_g (p := ⟨allB l, false⟩) hau (by show (allB l).length ≤ 4000000; omega), Option.bind_some]
      show ∃ r, _ = some r ∧ ((loop (t1 (ref4_Pieces_L3 cuts (hvB (allB l)))) 0).bind _ = some r) ∧ _
      obtain ⟨q, q1, q2, q3, q4⟩ := cuts_s (cuts := cuts) (by omega) (all := allB l) (H := hvB (allB l)) (hvB_len _) hal
      rw [q1, q2, Option.bind_some, Option.bind_some]
      cases q with
      | inl q => exact ⟨q, rfl, rfl, by rw [q4 q rfl]; simp⟩
      | inr u =>
        obtain ⟨r, s1, s2, s3, s4⟩ := pieces_s hau hal (cuts := cuts) (by omega) (q3 rfl)
        show ∃ r, ((loop (t4 (salvage_Pieces_L4 cuts)) (allB l, [], 0, 0)).bind _ = some r) ∧ (((app ([] : List Int) cuts).bind fun l3 => (app l3 [((hv ⟨allB l, false⟩).length : Int)]).bind fun l4 => loop (t3 (ref4_Pieces_L4 (hvB (allB l)) l4)) ([], 0, 0)).bind _ = some r) ∧ _
        rw [s1, app_of (by simp; omega), Option.bind_some, List.nil_append, Option.bind_some, app_of (by simp; omega), Option.bind_some]
        have e2 : (hv ⟨allB l, false⟩) = hvB (allB l) := rfl
        rw [e2, s2, Option.bind_some]
        cases r with
        | inl q => exact ⟨q, rfl, rfl, by have := s3 q rfl; omega⟩
        | inr q => exact ⟨(q, 0), rfl, rfl, by have := s4 q rfl; show q.length ≤ 1000; omega⟩
  · have hd : (!decide (r0 = 0)) = true := by rw [decide_eq_false h0]; rfl
    rw [hd, if_pos rfl, if_pos rfl]
    exact ⟨_, rfl, rfl, by simp⟩
theorem law_VPieces (l : List api_Memory) (cuts : List Int) (hl : wfL wf_api_Memory l) : law4_SalvagePiecesMatchSpec l cuts = some true := by
  obtain ⟨r, h1, h2, h3⟩ := Pieces_s (cuts := cuts) hl.2
  unfold law4_SalvagePiecesMatchSpec
  rw [h1, h2, Option.bind_some, Option.bind_some, eqP_refl _ h3, saved_s]
  simp
end Go.Vx

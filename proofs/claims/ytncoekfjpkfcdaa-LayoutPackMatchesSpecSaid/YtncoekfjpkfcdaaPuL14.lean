/- A text of the proof: a verified executor of the program form, or the contracts of the functions that the law reaches. -/
import Derived.Test.YtncoekfjpkfcdaaPF
import Derived.Test.YtncoekfjpkfcdaaVyL
set_option linter.all false
namespace Go.Vx
open Go Go.RowKit
def datN (l : Vector (List Int) 16) (q : api_Place) : Nat := ((l.toList.getD q.Frame.toNat []).getD (q.Word - 3).toNat 0).toNat
def rawF (l : Vector (List Int) 16) : Nat → List api_Place → Nat
  | n, [] => n
  | n, q :: tl => rawF l (n * 2 ^ q.Bits.toNat + datN l q / 2 ^ q.Low.toNat % 2 ^ q.Bits.toNat) tl
def sB (l : List api_Place) : Nat := (l.map fun q => q.Bits.toNat).sum
theorem rawF_lt (l : Vector (List Int) 16) : ∀ (ps : List api_Place) (n s : Nat), n < 2 ^ s → rawF l n ps < 2 ^ (s + sB ps)
  | [], n, s, h => by simpa [rawF, sB] using h
  | q :: tl, n, s, h => by
    have hm : datN l q / 2 ^ q.Low.toNat % 2 ^ q.Bits.toNat < 2 ^ q.Bits.toNat := Nat.mod_lt _ (Nat.two_pow_pos _)
    have h1 : (n + 1) * 2 ^ q.Bits.toNat ≤ 2 ^ s * 2 ^ q.Bits.toNat := Nat.mul_le_mul_right _ h
    rw [← Nat.pow_add, Nat.add_mul, Nat.one_mul] at h1
    have := rawF_lt l tl (n * 2 ^ q.Bits.toNat + datN l q / 2 ^ q.Low.toNat % 2 ^ q.Bits.toNat) (s + q.Bits.toNat) (by omega)
    have e : s + sB (q :: tl) = s + q.Bits.toNat + sB tl := by simp [sB]; omega
    rw [e, rawF]; exact this
def DatOK (l : Vector (List Int) 16) : Prop := ∀ x ∈ l.toList, x.length = 58 ∧ ∀ d ∈ x, 0 ≤ d ∧ d ≤ 2047
def placeR (q : api_Place) : Prop := (0 ≤ q.Frame ∧ q.Frame ≤ 15) ∧ (4 ≤ q.Word ∧ q.Word ≤ 60) ∧ (0 ≤ q.Low ∧ q.Low ≤ 10) ∧ 1 ≤ q.Bits ∧ q.Bits ≤ 11 - q.Low
theorem dat_s {l : Vector (List Int) 16} (hl : DatOK l) {q : api_Place} (hq : placeR q) : ∃ x, vidx l q.Frame = some x ∧ idx x (i64 (q.Word - 3)) = some (datN l q : Int) ∧ datN l q ≤ 2047 := by
  obtain ⟨h1, h2, _⟩ := hq
  have h16 : l.toList.length = 16 := by simp
  obtain ⟨x, hx⟩ := get_ex (xs := l.toList) (k := q.Frame.toNat) (by omega)
  obtain ⟨hx1, hx2⟩ := hl x (List.mem_of_getElem? hx)
  obtain ⟨d, hd⟩ := get_ex (xs := x) (k := (q.Word - 3).toNat) (by omega)
  have hd2 := hx2 d (List.mem_of_getElem? hd)
  have e1 : l.toList.getD q.Frame.toNat [] = x := by rw [List.getD_eq_getElem?_getD, hx]; rfl
  have e2 : x.getD (q.Word - 3).toNat 0 = d := by rw [List.getD_eq_getElem?_getD, hd]; rfl
  have e3 : ((datN l q : Nat) : Int) = d := by unfold datN; rw [e1, e2]; omega
  refine ⟨x, ?_, ?_, by omega⟩
  · unfold vidx; rw [if_pos h1.1, hx]
  · rw [i64s (by omega) (by omega), e3]; unfold idx; rw [if_pos (by omega), hd]
theorem bor_comm (k : IntKind) (a b : Int) : bor k a b = bor k b a := by unfold bor; rw [BitVec.or_comm]
theorem raw_step {n s : Nat} {q : api_Place} {d : Nat} (hq : placeR q) (hn : n < 2 ^ s) (hs : s + q.Bits.toNat ≤ 40) (hd : d ≤ 2047) :
    shl .i64 (n : Int) q.Bits = some ((2 ^ q.Bits.toNat * n : Nat) : Int) ∧ shr .i64 (d : Int) q.Low = some ((d / 2 ^ q.Low.toNat : Nat) : Int) ∧ shl .i64 1 q.Bits = some ((2 ^ q.Bits.toNat : Nat) : Int) ∧
    bor .i64 ((2 ^ q.Bits.toNat * n : Nat) : Int) (band .i64 ((d / 2 ^ q.Low.toNat : Nat) : Int) (i64 (((2 ^ q.Bits.toNat : Nat) : Int) - 1))) = ((n * 2 ^ q.Bits.toNat + d / 2 ^ q.Low.toNat % 2 ^ q.Bits.toNat : Nat) : Int) ∧
    rem ((d / 2 ^ q.Low.toNat : Nat) : Int) ((2 ^ q.Bits.toNat : Nat) : Int) = some ((d / 2 ^ q.Low.toNat % 2 ^ q.Bits.toNat : Nat) : Int) ∧
    i64 (((2 ^ q.Bits.toNat * n : Nat) : Int) + ((d / 2 ^ q.Low.toNat % 2 ^ q.Bits.toNat : Nat) : Int)) = ((n * 2 ^ q.Bits.toNat + d / 2 ^ q.Low.toNat % 2 ^ q.Bits.toNat : Nat) : Int) ∧ n * 2 ^ q.Bits.toNat + d / 2 ^ q.Low.toNat % 2 ^ q.Bits.toNat < 2 ^ (s + q.Bits.toNat) := by
  obtain ⟨_, _, h3, h4, h5⟩ := hq
  have hb1 : q.Bits.toNat ≤ 11 := by omega
  have hp := Nat.two_pow_pos q.Bits.toNat
  have hm : d / 2 ^ q.Low.toNat % 2 ^ q.Bits.toNat < 2 ^ q.Bits.toNat := Nat.mod_lt _ hp
  have h1 : (n + 1) * 2 ^ q.Bits.toNat ≤ 2 ^ s * 2 ^ q.Bits.toNat := Nat.mul_le_mul_right _ hn
  rw [← Nat.pow_add, Nat.add_mul, Nat.one_mul] at h1
  have h40 : 2 ^ (s + q.Bits.toNat) ≤ 2 ^ 40 := Nat.pow_le_pow_right (by decide) hs
  rw [show (2 : Nat) ^ 40 = 1099511627776 by decide] at h40
  have hcm : 2 ^ q.Bits.toNat * n = n * 2 ^ q.Bits.toNat := Nat.mul_comm _ _
  have eb : min q.Bits.toNat IntKind.i64.bits = q.Bits.toNat := by
    have : IntKind.i64.bits = 64 := rfl
    omega
  have el : min q.Low.toNat IntKind.i64.bits = q.Low.toNat := by
    have : IntKind.i64.bits = 64 := rfl
    omega
  have ep : ((2 ^ q.Bits.toNat : Nat) : Int) = (2 : Int) ^ q.Bits.toNat := by push_cast; rfl
  have epl : ((2 ^ q.Low.toNat : Nat) : Int) = (2 : Int) ^ q.Low.toNat := by push_cast; rfl
  have hpl := Nat.two_pow_pos q.Low.toNat
  refine ⟨?_, ?_, ?_, ?_, ?_, ?_, by omega⟩
  · unfold shl
    rw [if_neg (by omega), eb, ← ep]
    congr 1
    have : (n : Int) * ((2 ^ q.Bits.toNat : Nat) : Int) = ((n * 2 ^ q.Bits.toNat : Nat) : Int) := by push_cast; rfl
    rw [this, hcm]
    exact i64s (by omega) (by omega)
  · unfold shr
    rw [if_neg (by omega), el, ← epl, Int.fdiv_eq_ediv_of_nonneg _ (by omega)]
    rfl
  · rw [shl1 (by omega) (by omega), ep]
  · have hmask : i64 (((2 ^ q.Bits.toNat : Nat) : Int) - 1) = (2 : Int) ^ q.Bits.toNat - 1 := by
      have : 2 ^ q.Bits.toNat ≤ 2 ^ 11 := Nat.pow_le_pow_right (by decide) hb1
      rw [show (2 : Nat) ^ 11 = 2048 by decide] at this
      rw [i64s (by omega) (by omega), ep]
    rw [hmask, and_mask (by omega), ← ep, bor_comm]
    have e2 : ((d / 2 ^ q.Low.toNat : Nat) : Int) % ((2 ^ q.Bits.toNat : Nat) : Int) = ((d / 2 ^ q.Low.toNat % 2 ^ q.Bits.toNat : Nat) : Int) := by push_cast; rfl
    rw [e2, bor_s hm (by rw [t62]; omega)]
    congr 1; omega
  · unfold rem
    rw [if_neg (by omega), Int.tmod_eq_emod_of_nonneg (Int.natCast_nonneg _)]; rfl
  · rw [i64s (by omega) (by omega)]; push_cast; rw [Int.mul_comm]
theorem raw_loop {l : Vector (List Int) 16} (hl : DatOK l) {c : api_Cell} (h8 : c.Places.length ≤ 8) (hp : ∀ q ∈ c.Places, placeR q) (hb : sB c.Places ≤ 40) {body : Int → Int → Option ((Int × Int) ⊕ Int)}
    (hstep : ∀ (n s k : Nat) (q : api_Place) (x : List Int) (d : Nat), c.Places[k]? = some q → placeR q → vidx l q.Frame = some x → idx x (i64 (q.Word - 3)) = some (d : Int) → d ≤ 2047 → n < 2 ^ s → s + q.Bits.toNat ≤ 40 →
      body (n : Int) (k : Int) = some (.inl (((n * 2 ^ q.Bits.toNat + d / 2 ^ q.Low.toNat % 2 ^ q.Bits.toNat : Nat) : Int), (k : Int) + 1)))
    (hend : ∀ a, body a c.Places.length = some (.inr a)) : loop (t2 body) (0, 0) = some ((rawF l 0 c.Places : Nat) : Int) := by
  have := loop_ix2 (xs := c.Places) (body := body) (I := fun a k => ∃ n s : Nat, a = (n : Int) ∧ n < 2 ^ s ∧ s + sB (c.Places.drop k) ≤ 40) (F := fun a k => ((rawF l a.toNat (c.Places.drop k) : Nat) : Int))
    (fun a k q hI hq => by
      obtain ⟨n, s, rfl, hn, hs⟩ := hI
      have hpq := hp q (List.mem_of_getElem? hq)
      obtain ⟨x, d1, d2, d3⟩ := dat_s hl hpq
      rw [drop_cons hq] at hs
      have e : sB (q :: c.Places.drop (k + 1)) = q.Bits.toNat + sB (c.Places.drop (k + 1)) := by simp [sB]
      rw [e] at hs
      left
      refine ⟨_, hstep n s k q x _ hq hpq d1 d2 d3 hn (by omega), ⟨_, s + q.Bits.toNat, rfl, (raw_step hpq hn (by omega) d3).2.2.2.2.2.2, by omega⟩, ?_⟩
      rw [drop_cons hq, rawF, Int.toNat_natCast, Int.toNat_natCast])
    (fun a hI => by
      obtain ⟨n, s, rfl, _, _⟩ := hI
      rw [hend, List.drop_length]; rfl) (a0 := 0) ⟨0, 0, rfl, by simp, by simpa using hb⟩
  simpa using this
theorem rawOf_s {l : Vector (List Int) 16} (hl : DatOK l) {c : api_Cell} (h8 : c.Places.length ≤ 8) (hp : ∀ q ∈ c.Places, placeR q) (hb : sB c.Places ≤ 40) : layout_rawOf c l = some ((rawF l 0 c.Places : Nat) : Int) := by
  unfold layout_rawOf
  rw [raw_loop hl h8 hp hb (body := layout_rawOf_L1 c l) (fun n s k q x d hq hpq d1 d2 d3 hn hs => by
    have hlt := lt_of hq
    obtain ⟨s1, s2, s3, s4, _, _, _⟩ := raw_step hpq hn hs d3
    simp only [layout_rawOf_L1, hlt, decide_true, if_true, idx_of hq, Option.bind_some, d1, d2, s1, s2, s3, s4]
    rw [i64s (by omega) (by omega)]) (fun a => by simp [layout_rawOf_L1])]
  rfl
theorem contI_s {l : List Int} {f : Int → Option Bool} {g : Int → Bool} (hf : ∀ x, f x = some (g x)) (hl : l.length ≤ 1000) : slices_ContainsFunc_int_int l f = some (l.any g) := by
  have key : loop (t1 (slices_IndexFunc_int_int_L1 l f)) 0 = some (elimO Sum.inl (Sum.inr ()) (findI (fun k (x : Int) => if g x = true then some (k : Int) else none) 0 l)) := by
    refine loop_findI (xs := l) _ _ _ (fun k x hx => ?_) (by simp [slices_IndexFunc_int_int_L1])
    have hlt := lt_of hx
    have hk : i64 ((k : Int) + 1) = (k : Int) + 1 := i64s (by omega) (by omega)
    simp only [slices_IndexFunc_int_int_L1, hlt, decide_true, if_true, idx_of hx, Option.bind_some, hk, hf]
    by_cases hg : g x = true <;> simp [hg]
  have fnd : ∀ (k : Nat) (l : List Int), (l.any g = false ∧ findI (fun k (x : Int) => if g x = true then some (k : Int) else none) k l = none) ∨ (l.any g = true ∧ ∃ j : Nat, findI (fun k (x : Int) => if g x = true then some (k : Int) else none) k l = some (j : Int)) := by
    intro k l
    induction l generalizing k with
    | nil => left; exact ⟨rfl, rfl⟩
    | cons x l ih =>
      by_cases hx : g x = true
      · right; exact ⟨by simp [hx], k, by simp [findI, hx]⟩
      · have hx' : g x = false := by simpa using hx
        rcases ih (k + 1) with ⟨h1, h2⟩ | ⟨h1, j, h2⟩
        · left; exact ⟨by rw [List.any_cons, hx', Bool.false_or]; exact h1, by simp only [findI, hx', Bool.false_eq_true, if_false]; exact h2⟩
        · right; exact ⟨by rw [List.any_cons, hx', Bool.false_or]; exact h1, j, by simp only [findI, hx', Bool.false_eq_true, if_false]; exact h2⟩
  unfold slices_ContainsFunc_int_int slices_IndexFunc_int_int
  rw [key]
  rcases fnd 0 l with ⟨h1, h2⟩ | ⟨h1, j, h2⟩
  · rw [h2, h1]; rfl
  · rw [h2, h1]; simp [elimO]
def gD (x : List Int) : Option Int := if x.length = 58 then (if (x.any fun d => !wi d 0 2047) = true then some 9 else none) else some 3
def gV (v : Int) (x : List Int) : Option Int := if x.getD 0 0 = v then none else some 11
theorem vidx_of {α : Type} {n : Nat} {l : Vector α n} {k : Nat} {x : α} (h : l.toList[k]? = some x) : vidx l (k : Int) = some x := by
  unfold vidx; rw [if_pos (by omega), Int.toNat_natCast, h]
theorem un1_s (l : Vector (List Int) 16) : loop (t1 (layout_Unpack_L1 l)) 0 = some (elimO (fun e => .inl ([], e)) (.inr ()) (findL gD l.toList)) := by
  have h16 : l.toList.length = 16 := by simp
  refine loop_find (xs := l.toList) gD _ _ (fun k x hx => ?_) (by rw [h16]; simp [layout_Unpack_L1])
  have hlt : (k : Int) < 16 := by have := lt_of hx; omega
  simp only [layout_Unpack_L1, hlt, decide_true, if_true, vidx_of hx, Option.bind_some, gD]
  by_cases h58 : x.length = 58
  · have h58' : ((x.length : Nat) : Int) = 58 := by omega
    rw [if_neg (by simpa using h58'), if_pos h58, contI_s (f := fun z0 => layout_Unpack_1 z0) (g := fun d => !wi d 0 2047) (fun d => rfl) (by omega), Option.bind_some, i64s (by omega) (by omega)]
    by_cases ha : (x.any fun d => !wi d 0 2047) = true
    · rw [if_pos ha, if_pos ha]
    · rw [if_neg ha, if_neg ha]
  · have h58' : ¬ ((x.length : Nat) : Int) = 58 := by omega
    rw [if_pos (by simpa using h58'), if_neg h58]
theorem gD_ok {l : Vector (List Int) 16} (h : findL gD l.toList = none) : DatOK l := by
  have key : ∀ xs : List (List Int), findL gD xs = none → ∀ x ∈ xs, x.length = 58 ∧ ∀ d ∈ x, 0 ≤ d ∧ d ≤ 2047 := by
    intro xs
    induction xs with
    | nil => intro _ x hx; cases hx
    | cons y xs ih =>
      intro h x hx
      simp only [findL] at h
      cases hg : gD y with
      | some e => rw [hg] at h; cases h
      | none =>
        rw [hg] at h
        rcases List.mem_cons.1 hx with rfl | hx
        · unfold gD at hg
          split at hg
          · rename_i h58
            split at hg
            · cases hg
            · rename_i ha
              refine ⟨h58, fun d hd => ?_⟩
              have : (x.any fun d => !wi d 0 2047) = false := by simpa using ha
              have := List.any_eq_false.1 this d hd
              exact wi_iff.1 (by simpa using this)
          · cases hg
        · exact ih h x hx
  exact key _ h
theorem un2_s {m : api_Map} {l : Vector (List Int) 16} (hl : DatOK l) {body : Int → Option (Int ⊕ ((List api_Reading) × Int) ⊕ Unit)} (hb : ∀ i, body i = if (decide (i < 16)) = true then
  (vidx l i).bind fun x2 =>
  (idx x2 0).bind fun x3 =>
  if (!decide (x3 = m.Version)) = true then
  some (.inr (.inl ([], 11)))
  else
  some (.inl (i64 (i + 1)))
  else
  some (.inr (.inr ()))) : loop (t1 body) 0 = some (elimO (fun e => .inl ([], e)) (.inr ()) (findL (gV m.Version) l.toList)) := by
  have h16 : l.toList.length = 16 := by simp
  refine loop_find (xs := l.toList) (gV m.Version) _ _ (fun k x hx => ?_) (by rw [hb, h16]; simp)
  have hlt : (k : Int) < 16 := by have := lt_of hx; omega
  obtain ⟨h58, _⟩ := hl x (List.mem_of_getElem? hx)
  obtain ⟨d, hd⟩ := get_ex (xs := x) (k := 0) (by omega)
  have e : x.getD 0 0 = d := by rw [List.getD_eq_getElem?_getD, hd]; rfl
  have hi : idx x 0 = some d := idx_of (k := 0) hd
  rw [hb]
  simp only [hlt, decide_true, if_true, vidx_of hx, Option.bind_some, gV, hi, e]
  rw [i64s (by omega) (by omega)]
  by_cases hv : d = m.Version <;> simp [hv]
def rdC (m : api_Map) (l : Vector (List Int) 16) (c : api_Cell) : api_Reading :=
  match m.Params[c.Param.toNat]? with
  | some x => ⟨c.Param, c.Index, (dec x ((rawF l 0 c.Places : Nat) : Int)).1, (dec x ((rawF l 0 c.Places : Nat) : Int)).2⟩
  | none => ⟨0, 0, 0, false⟩
theorem cell_facts {m : api_Map} (h : MapOK m) (l : Vector (List Int) 16) {c : api_Cell} (hc : c ∈ allC 0 m.Params) : ∃ x, idx m.Params c.Param = some x ∧ m.Params[c.Param.toNat]? = some x ∧ ParOK x ∧ c.Places.length ≤ 8 ∧ (∀ q ∈ c.Places, placeR q) ∧ sB c.Places ≤ 40 ∧ ((rawF l 0 c.Places : Nat) : Int) < 2 * HH x := by
  obtain ⟨j, x, h1, hx, h2, f, t, h3, h4, _, h5⟩ := cell_ok h hc
  obtain ⟨p8, pin⟩ := places_len h hc
  have hb := hx.bits
  have hsB : (sB c.Places : Int) = bitsN x := by
    have key : ∀ ps : List api_Part, (∀ y ∈ ps, partOK y = true) → ((sB (ps.map (placeN x f t)) : Nat) : Int) = (ps.map (·.Bits)).sum := by
      intro ps
      induction ps with
      | nil => intro _; rfl
      | cons y ps ih =>
        intro hy
        have := part_iff.1 (hy y List.mem_cons_self)
        have ih := ih fun z hz => hy z (List.mem_cons_of_mem _ hz)
        have e : sB ((y :: ps).map (placeN x f t)) = y.Bits.toNat + sB (ps.map (placeN x f t)) := by simp [sB, placeN]
        rw [e, List.map_cons, List.sum_cons]
        push_cast
        omega
    rw [h5]
    exact key _ hx.len.2
  have hlt := rawF_lt l c.Places 0 0 (by simp)
  rw [Nat.zero_add] at hlt
  have e2 : (bitsN x).toNat = sB c.Places := by omega
  refine ⟨x, ?_, ?_, hx, p8, pin, by omega, ?_⟩
  · rw [h2]; exact idx_of h1
  · rw [h2, Int.toNat_natCast]; exact h1
  · rw [← (HH_bd hx).2.2, e2]
    have : ((2 ^ sB c.Places : Nat) : Int) = (2 : Int) ^ sB c.Places := by push_cast; rfl
    omega
def outN (m : api_Map) (l : Vector (List Int) 16) : List api_Reading × Int :=
  if chkM m = 0 then elimO (fun e => ([], e)) (elimO (fun e => ([], e)) ((allC 0 m.Params).map (rdC m l), 0) (findL (gV m.Version) l.toList)) (findL gD l.toList) else ([], chkM m)
theorem Unpack_s (m : api_Map) (l : Vector (List Int) 16) : layout_Unpack m l = some (outN m l) := by
  obtain ⟨a, hc⟩ := check_s m
  unfold layout_Unpack outN
  rw [hc, Option.bind_some]
  by_cases h : chkM m = 0
  · have hm := map_ok h
    rw [if_neg (by simp [h]), if_pos h, un1_s]
    cases hf : findL gD l.toList with
    | some e => rfl
    | none =>
      have hl := gD_ok hf
      simp only [elimO_none, Option.bind_some, Sum.elim_inr, t0]
      rw [un2_s hl (body := layout_Unpack_L2 m l) (fun i => rfl)]
      cases hg : findL (gV m.Version) l.toList with
      | some e => rfl
      | none =>
        have hcnt := hm.cnt
        simp only [elimO_none, Option.bind_some, Sum.elim_inr, acells_s hm]
        have := loop_map (xs := allC 0 m.Params) (body := layout_Unpack_L3 m l (allC 0 m.Params)) (rdC m l) (fun k c acc hcx ha => by
          have hlt := lt_of hcx
          obtain ⟨x, g1, g2, g3, g4, g5, g6, g7⟩ := cell_facts hm l (List.mem_of_getElem? hcx)
          simp only [layout_Unpack_L3, hlt, decide_true, if_true, idx_of hcx, Option.bind_some, g1, rawOf_s hl g4 g5 g6, decoded_s g3 (by omega : (0 : Int) ≤ ((rawF l 0 c.Places : Nat) : Int)) g7]
          rw [app_of (by simp; omega), i64s (by omega) (by omega)]
          simp only [rdC, g2]; rfl) (fun acc => by simp [layout_Unpack_L3])
        rw [this]; rfl
  · rw [if_pos (neq_s h), if_neg h]
end Go.Vx

/- A text of the proof: a verified executor of the program form, or the contracts of the functions that the law reaches. -/
import Derived.Test.YtncoekfjpkfcdaaPuL14
set_option linter.all false
namespace Go.Vx
open Go Go.RowKit
theorem okB_countC {b : layout_bit} : ∀ {K : List layout_bit} {l : List api_Cell}, okB K (bitsC l) = true → l.countP (hasC b) ≤ 1 ∧ (b ∈ K → l.countP (hasC b) = 0)
  | K, [], _ => by simp
  | K, x :: l, h => by
    have e : bitsC (x :: l) = bitsL x.Places ++ bitsC l := by simp [bitsC]
    rw [e, okB_app, Bool.and_eq_true] at h
    obtain ⟨g1, g2⟩ := okB_countC (b := b) h.2
    rw [List.countP_cons]
    by_cases hx : hasC b x = true
    · have hm := mem_bitsL.2 hx
      have h0 := g2 (List.mem_append_right _ hm)
      rw [if_pos hx, h0]
      exact ⟨by omega, fun hk => absurd hk (okB_fresh h.1 b hm)⟩
    · rw [if_neg hx]
      exact ⟨by omega, fun hk => by have := g2 (List.mem_append_left _ hk); omega⟩
theorem count_one {α : Type} {p : α → Bool} {a b : α} (ha : p a = true) (hb : p b = true) : ∀ {l : List α}, l.countP p ≤ 1 → a ∈ l → b ∈ l → a = b
  | x :: l, h, h1, h2 => by
    rw [List.countP_cons] at h
    by_cases hx : p x = true
    · rw [if_pos hx] at h
      have h0 : l.countP p = 0 := by omega
      have hn : ∀ y ∈ l, ¬ p y = true := by simpa [List.countP_eq_zero] using h0
      rcases List.mem_cons.1 h1 with rfl | h1
      · rcases List.mem_cons.1 h2 with rfl | h2
        · rfl
        · exact absurd hb (hn b h2)
      · exact absurd ha (hn a h1)
    · rw [if_neg hx] at h
      rcases List.mem_cons.1 h1 with rfl | h1
      · exact absurd ha hx
      · rcases List.mem_cons.1 h2 with rfl | h2
        · exact absurd hb hx
        · exact count_one ha hb (by omega) h1 h2
theorem rowC_idx {number : Int} {p : api_Param} {out : List api_Cell} {f : Int} (h : ∀ (k : Nat) c, out[k]? = some c → c.Index = (k : Int)) : ∀ (k : Nat) c, (rowC number p out f)[k]? = some c → c.Index = (k : Int) := by
  intro k c hc
  unfold rowC at hc
  rw [List.getElem?_append] at hc
  split at hc
  · exact h k c hc
  · rename_i hk
    rw [List.getElem?_map] at hc
    obtain ⟨j, hj, rfl⟩ := Option.map_eq_some_iff.1 hc
    have hlt := (List.getElem?_eq_some_iff.1 hj).1
    have e := (List.getElem?_eq_some_iff.1 hj).2
    simp at e
    simp only [cellL]
    omega
theorem cellsN_idx {number : Int} {p : api_Param} : ∀ (k : Nat) c, (cellsN number p)[k]? = some c → c.Index = (k : Int) := by
  have key : ∀ (fs : List Int) (out : List api_Cell), (∀ (k : Nat) c, out[k]? = some c → c.Index = (k : Int)) → ∀ (k : Nat) c, (fs.foldl (rowC number p) out)[k]? = some c → c.Index = (k : Int) := by
    intro fs
    induction fs with
    | nil => intro out h; exact h
    | cons f fs ih => intro out h; exact ih _ (rowC_idx h)
  exact key _ _ (fun k c h => by simp at h)
theorem cell_inj {m : api_Map} (h : MapOK m) {c o : api_Cell} (hc : c ∈ allC 0 m.Params) (ho : o ∈ allC 0 m.Params) (h1 : c.Param = o.Param) (h2 : c.Index = o.Index) : c = o := by
  obtain ⟨j, x, g1, g2⟩ := allC_ok 0 _ h.par c hc
  obtain ⟨j', x', g1', g2'⟩ := allC_ok 0 _ h.par o ho
  rw [Nat.zero_add] at g2 g2'
  obtain ⟨i, f, t, _, _, e⟩ := cellsN_mem g2
  obtain ⟨i', f', t', _, _, e'⟩ := cellsN_mem g2'
  have p1 : c.Param = (j : Int) := by rw [e]; rfl
  have p2 : o.Param = (j' : Int) := by rw [e']; rfl
  have hj : j = j' := by omega
  subst hj
  rw [g1] at g1'
  cases g1'
  obtain ⟨k, hk⟩ := List.getElem?_of_mem g2
  obtain ⟨k', hk'⟩ := List.getElem?_of_mem g2'
  have i1 := cellsN_idx k c hk
  have i2 := cellsN_idx k' o hk'
  have : k = k' := by omega
  subst this
  rw [hk] at hk'
  exact Option.some.inj hk'
def chunk (l : Vector (List Int) 16) (q : api_Place) : Nat := datN l q / 2 ^ q.Low.toNat % 2 ^ q.Bits.toNat
theorem rawF_eq {l l' : Vector (List Int) 16} : ∀ (ps : List api_Place) (n : Nat), (∀ q ∈ ps, chunk l q = chunk l' q) → rawF l n ps = rawF l' n ps
  | [], n, _ => rfl
  | q :: ps, n, h => by
    have h0 := h q List.mem_cons_self
    unfold chunk at h0
    rw [rawF, rawF, h0]
    exact rawF_eq ps _ fun z hz => h z (List.mem_cons_of_mem _ hz)
theorem rawF_inj {l l' : Vector (List Int) 16} : ∀ (ps : List api_Place) (n n' : Nat), rawF l n ps = rawF l' n' ps → n = n' ∧ ∀ q ∈ ps, chunk l q = chunk l' q
  | [], n, n', h => ⟨h, fun q hq => by cases hq⟩
  | q :: ps, n, n', h => by
    rw [rawF, rawF] at h
    obtain ⟨h1, h2⟩ := rawF_inj ps _ _ h
    have hp := Nat.two_pow_pos q.Bits.toNat
    have m1 : chunk l q < 2 ^ q.Bits.toNat := Nat.mod_lt _ hp
    have m2 : chunk l' q < 2 ^ q.Bits.toNat := Nat.mod_lt _ hp
    have h1' : n * 2 ^ q.Bits.toNat + chunk l q = n' * 2 ^ q.Bits.toNat + chunk l' q := h1
    have d1 : (chunk l q + 2 ^ q.Bits.toNat * n) / 2 ^ q.Bits.toNat = n := by rw [Nat.add_mul_div_left _ _ hp, Nat.div_eq_of_lt m1, Nat.zero_add]
    have d2 : (chunk l' q + 2 ^ q.Bits.toNat * n') / 2 ^ q.Bits.toNat = n' := by rw [Nat.add_mul_div_left _ _ hp, Nat.div_eq_of_lt m2, Nat.zero_add]
    have e : chunk l q + 2 ^ q.Bits.toNat * n = chunk l' q + 2 ^ q.Bits.toNat * n' := by rw [Nat.mul_comm _ n, Nat.mul_comm _ n']; omega
    have hn : n = n' := by rw [← d1, ← d2, e]
    subst hn
    refine ⟨rfl, fun z hz => ?_⟩
    rcases List.mem_cons.1 hz with rfl | hz
    · omega
    · exact h2 z hz
theorem xor_same {d b lo n : Nat} (h : b < lo ∨ lo + n ≤ b) : (d ^^^ 2 ^ b) / 2 ^ lo % 2 ^ n = d / 2 ^ lo % 2 ^ n := by
  apply Nat.eq_of_testBit_eq
  intro i
  simp only [Nat.testBit_mod_two_pow, Nat.testBit_div_two_pow, Nat.testBit_xor, Nat.testBit_two_pow]
  by_cases hi : i < n
  · have : ¬ b = i + lo := by omega
    have h2 : ¬ b = lo + i := by omega
    simp [hi, this, h2]
  · simp [hi]
theorem xor_diff {d b lo n : Nat} (h1 : lo ≤ b) (h2 : b < lo + n) : (d ^^^ 2 ^ b) / 2 ^ lo % 2 ^ n ≠ d / 2 ^ lo % 2 ^ n := by
  intro h
  have := congrArg (fun z => z.testBit (b - lo)) h
  simp only [Nat.testBit_mod_two_pow, Nat.testBit_div_two_pow, Nat.testBit_xor, Nat.testBit_two_pow] at this
  have e : b - lo + lo = b := by omega
  have e2 : b - lo < n := by omega
  rw [e] at this
  simp [e2] at this
theorem bxor_s {d b : Nat} (hd : d ≤ 2047) (hb : b ≤ 10) : bxor .i64 (d : Int) ((2 ^ b : Nat) : Int) = ((d ^^^ 2 ^ b : Nat) : Int) ∧ d ^^^ 2 ^ b ≤ 2047 := by
  have h2 : 2 ^ b ≤ 2 ^ 10 := Nat.pow_le_pow_right (by decide) hb
  rw [show (2 : Nat) ^ 10 = 1024 by decide] at h2
  have hx : d ^^^ 2 ^ b < 2 ^ 11 := Nat.xor_lt_two_pow (by rw [show (2 : Nat) ^ 11 = 2048 by decide]; omega) (by rw [show (2 : Nat) ^ 11 = 2048 by decide]; omega)
  rw [show (2 : Nat) ^ 11 = 2048 by decide] at hx
  refine ⟨?_, by omega⟩
  have h64 : (2 : Nat) ^ 64 = 18446744073709551616 := by decide
  have e1 : (BitVec.ofInt 64 (d : Int)).toNat = d := by
    rw [BitVec.ofInt_natCast, BitVec.toNat_ofNat]; exact Nat.mod_eq_of_lt (by omega)
  have e2 : (BitVec.ofInt 64 ((2 ^ b : Nat) : Int)).toNat = 2 ^ b := by
    rw [BitVec.ofInt_natCast, BitVec.toNat_ofNat]; exact Nat.mod_eq_of_lt (by omega)
  have e0 : IntKind.i64.bits = 64 := rfl
  unfold bxor
  rw [e0, BitVec.toNat_xor, e1, e2]
  exact i64s (by omega) (by omega)
end Go.Vx

namespace Go.Vx
open Go Go.RowKit
def turned (l : Vector (List Int) 16) (x : List Int) (fr w b : Nat) : Vector (List Int) 16 := vset l (fr : Int) (x.set w ((x.getD w 0).toNat ^^^ 2 ^ b : Nat))
theorem turned_get {l : Vector (List Int) 16} {x : List Int} {fr w b : Nat} (hx : l.toList[fr]? = some x) (k : Nat) : (turned l x fr w b).toList[k]? = if k = fr then some (x.set w ((x.getD w 0).toNat ^^^ 2 ^ b : Nat)) else l.toList[k]? := by
  have hlt := (List.getElem?_eq_some_iff.1 hx).1
  have e : (turned l x fr w b).toList = l.toList.set fr (x.set w ((x.getD w 0).toNat ^^^ 2 ^ b : Nat)) := by simp [turned, vset]
  rw [e, List.getElem?_set]
  by_cases h : k = fr
  · subst h; rw [if_pos rfl, if_pos hlt, if_pos rfl]
  · rw [if_neg (fun hh => h hh.symm), if_neg h]
theorem turned_dat {l : Vector (List Int) 16} (hl : DatOK l) {x : List Int} {fr w b : Nat} (hx : l.toList[fr]? = some x) (hw : w < 58) {q : api_Place} (hq : placeR q) :
    datN (turned l x fr w b) q = if q.Frame = (fr : Int) ∧ q.Word - 3 = (w : Int) then datN l q ^^^ 2 ^ b else datN l q := by
  obtain ⟨h58, _⟩ := hl x (List.mem_of_getElem? hx)
  unfold datN
  have e0 : (turned l x fr w b).toList.getD q.Frame.toNat [] = ((turned l x fr w b).toList[q.Frame.toNat]?).getD [] := List.getD_eq_getElem?_getD ..
  have e00 : l.toList.getD q.Frame.toNat [] = (l.toList[q.Frame.toNat]?).getD [] := List.getD_eq_getElem?_getD ..
  rw [e0, turned_get hx, e00]
  by_cases hf : q.Frame = (fr : Int)
  · have hf' : q.Frame.toNat = fr := by omega
    rw [if_pos hf', hf']
    rw [hx]
    simp only [Option.getD_some]
    by_cases hw2 : q.Word - 3 = (w : Int)
    · have hw3 : (q.Word - 3).toNat = w := by omega
      rw [if_pos ⟨hf, hw2⟩, hw3, List.getD_eq_getElem?_getD, List.getElem?_set_self (by omega)]
      simp
    · have hw3 : (q.Word - 3).toNat ≠ w := by obtain ⟨_, a, _⟩ := hq; omega
      rw [if_neg (fun h => hw2 h.2), List.getD_eq_getElem?_getD, List.getElem?_set_ne (fun h => hw3 h.symm), ← List.getD_eq_getElem?_getD]
  · have hf' : q.Frame.toNat ≠ fr := by obtain ⟨a, _⟩ := hq; omega
    rw [if_neg hf', if_neg (fun h => hf h.1)]
theorem chunk_same {l : Vector (List Int) 16} (hl : DatOK l) {x : List Int} {fr w b : Nat} (hx : l.toList[fr]? = some x) (hw : w < 58) {q : api_Place} (hq : placeR q) (hn : hasP ⟨(fr : Int), (w : Int) + 3, (b : Int)⟩ q = false) :
    chunk l q = chunk (turned l x fr w b) q := by
  unfold chunk
  rw [turned_dat hl hx hw hq]
  split
  · rename_i h
    obtain ⟨_, _, h3, h4, _⟩ := hq
    rw [xor_same]
    have e1 : q.Word = (w : Int) + 3 := by omega
    simp [hasP, h.1, e1] at hn
    omega
  · rfl
theorem chunk_diff {l : Vector (List Int) 16} (hl : DatOK l) {x : List Int} {fr w b : Nat} (hx : l.toList[fr]? = some x) (hw : w < 58) {q : api_Place} (hq : placeR q) (hn : hasP ⟨(fr : Int), (w : Int) + 3, (b : Int)⟩ q = true) :
    chunk l q ≠ chunk (turned l x fr w b) q := by
  simp only [hasP, Bool.and_eq_true, decide_eq_true_eq] at hn
  obtain ⟨⟨⟨g1, g2⟩, g3⟩, g4⟩ := hn
  unfold chunk
  rw [turned_dat hl hx hw hq, if_pos ⟨g1, by omega⟩]
  obtain ⟨_, _, h3, h4, _⟩ := hq
  exact fun h => xor_diff (by omega) (by omega) h.symm
theorem turned_ok {l : Vector (List Int) 16} (hl : DatOK l) {x : List Int} {fr w b : Nat} (hx : l.toList[fr]? = some x) (hw : w < 58) (hb : b ≤ 10) : DatOK (turned l x fr w b) := by
  obtain ⟨h58, hd⟩ := hl x (List.mem_of_getElem? hx)
  intro y hy
  obtain ⟨k, hk⟩ := List.getElem?_of_mem hy
  rw [turned_get hx] at hk
  split at hk
  · cases hk
    refine ⟨by simpa using h58, fun d hdm => ?_⟩
    rcases List.mem_or_eq_of_mem_set hdm with h | rfl
    · exact hd d h
    · obtain ⟨d0, hd0⟩ := get_ex (xs := x) (k := w) (by omega)
      have e : x.getD w 0 = d0 := by rw [List.getD_eq_getElem?_getD, hd0]; rfl
      have := hd d0 (List.mem_of_getElem? hd0)
      rw [e]
      have := (bxor_s (d := d0.toNat) (by omega) hb).2
      omega
  · exact hl y (List.mem_of_getElem? hk)
theorem findL_none_iff {α ε : Type} {g : α → Option ε} : ∀ {xs : List α}, findL g xs = none ↔ ∀ x ∈ xs, g x = none
  | [] => by simp [findL]
  | x :: xs => by
    simp only [findL]
    cases hg : g x with
    | some e => simp [hg]
    | none =>
      simp only [List.mem_cons, forall_eq_or_imp, hg, true_and]
      exact findL_none_iff
theorem gD_none {l : Vector (List Int) 16} (h : DatOK l) : findL gD l.toList = none := by
  rw [findL_none_iff]
  intro x hx
  obtain ⟨h1, h2⟩ := h x hx
  unfold gD
  rw [if_pos h1, if_neg]
  intro ha
  obtain ⟨d, hd, hn⟩ := List.any_eq_true.1 ha
  have := wi_iff.2 (h2 d hd)
  rw [this] at hn; cases hn
theorem gV_turned {l : Vector (List Int) 16} {x : List Int} {fr w b : Nat} {v : Int} (hx : l.toList[fr]? = some x) (hw : 1 ≤ w) (h : findL (gV v) l.toList = none) : findL (gV v) (turned l x fr w b).toList = none := by
  rw [findL_none_iff] at h ⊢
  intro y hy
  obtain ⟨k, hk⟩ := List.getElem?_of_mem hy
  rw [turned_get hx] at hk
  split at hk
  · cases hk
    have := h x (List.mem_of_getElem? hx)
    unfold gV at this ⊢
    have e : (x.set w ((x.getD w 0).toNat ^^^ 2 ^ b : Nat)).getD 0 0 = x.getD 0 0 := by
      rw [List.getD_eq_getElem?_getD, List.getElem?_set_ne (by omega), ← List.getD_eq_getElem?_getD]
    rw [e]; exact this
  · exact h y (List.mem_of_getElem? hk)
theorem rdC_eq {m : api_Map} (h : MapOK m) {l : Vector (List Int) 16} {c : api_Cell} (hc : c ∈ allC 0 m.Params) : ∃ x, ParOK x ∧ rdC m l c = ⟨c.Param, c.Index, (dec x ((rawF l 0 c.Places : Nat) : Int)).1, (dec x ((rawF l 0 c.Places : Nat) : Int)).2⟩ ∧ (∀ l', rdC m l' c = ⟨c.Param, c.Index, (dec x ((rawF l' 0 c.Places : Nat) : Int)).1, (dec x ((rawF l' 0 c.Places : Nat) : Int)).2⟩) ∧ (∀ l', ((rawF l' 0 c.Places : Nat) : Int) < 2 * HH x) := by
  obtain ⟨x, _, g2, g3, _, _, _, _⟩ := cell_facts h l hc
  refine ⟨x, g3, by simp only [rdC, g2], fun l' => by simp only [rdC, g2], fun l' => ?_⟩
  obtain ⟨x', _, g2', _, _, _, _, g7⟩ := cell_facts h l' hc
  rw [g2] at g2'; cases g2'
  exact g7
def eqbR (a b : api_Reading) : Bool := decide (a.Param = b.Param) && (decide (a.Index = b.Index) && (decide (a.Value = b.Value) && ((a.Good == b.Good) && true)))
theorem law_LOther (m : api_Map) (l : Vector (List Int) 16) (frame word bit : Int) : law2_LayoutOtherBitsDoNotMatter m l frame word bit = some true := by
  unfold law2_LayoutOtherBitsDoNotMatter
  rw [Unpack_s, Option.bind_some, mapped_s]
  by_cases hcond : (((((((!decide ((outN m l).2 = 0)) || (decide (frame < 0))) || (decide (15 < frame))) || (decide (word < 4))) || (decide (60 < word))) || (decide (bit < 0))) || (decide (10 < bit))) = true
  · rw [if_pos hcond]; rfl
  rw [if_neg hcond]
  simp only [Bool.or_eq_true, Bool.not_eq_true', decide_eq_false_iff_not, decide_eq_true_eq, not_or, Int.not_lt, Decidable.not_not] at hcond
  obtain ⟨⟨⟨⟨⟨⟨h0, f0⟩, f1⟩, w0⟩, w1⟩, b0⟩, b1⟩ := hcond
  have hM : chkM m = 0 := by
    unfold outN at h0
    split at h0
    · assumption
    · exact h0
  have hm := map_ok hM
  have hcnt := hm.cnt
  have hgD : findL gD l.toList = none := by
    unfold outN at h0
    rw [if_pos hM] at h0
    cases hf : findL gD l.toList with
    | none => rfl
    | some e =>
      rw [hf] at h0
      exfalso
      have key : ∀ xs : List (List Int), ∀ e, findL gD xs = some e → e ≠ 0 := by
        intro xs
        induction xs with
        | nil => intro e h; cases h
        | cons y xs ih =>
          intro e h
          simp only [findL] at h
          cases hg : gD y with
          | some e' =>
            rw [hg] at h; cases h
            unfold gD at hg
            split at hg
            · split at hg
              · cases hg; decide
              · cases hg
            · cases hg; decide
          | none => rw [hg] at h; exact ih e h
      exact key _ _ hf h0
  have hl := gD_ok hgD
  have hgV : findL (gV m.Version) l.toList = none := by
    unfold outN at h0
    rw [if_pos hM, hgD] at h0
    cases hf : findL (gV m.Version) l.toList with
    | none => rfl
    | some e =>
      rw [hf] at h0
      exfalso
      have key : ∀ xs : List (List Int), ∀ e, findL (gV m.Version) xs = some e → e ≠ 0 := by
        intro xs
        induction xs with
        | nil => intro e h; cases h
        | cons y xs ih =>
          intro e h
          simp only [findL] at h
          cases hg : gV m.Version y with
          | some e' =>
            rw [hg] at h; cases h
            unfold gV at hg
            split at hg
            · cases hg
            · cases hg; decide
          | none => rw [hg] at h; exact ih e h
      exact key _ _ hf h0
  have eN : ∀ l' : Vector (List Int) 16, findL gD l'.toList = none → findL (gV m.Version) l'.toList = none → outN m l' = ((allC 0 m.Params).map (rdC m l'), 0) := by
    intro l' h1 h2
    unfold outN
    rw [if_pos hM, h1, h2]; rfl
  obtain ⟨fr, rfl⟩ : ∃ fr : Nat, frame = fr := ⟨frame.toNat, by omega⟩
  obtain ⟨b, rfl⟩ : ∃ b : Nat, bit = b := ⟨bit.toNat, by omega⟩
  obtain ⟨w, rfl⟩ : ∃ w : Nat, word = (w : Int) + 3 := ⟨(word - 3).toNat, by omega⟩
  have h16 : l.toList.length = 16 := by simp
  obtain ⟨x, hx⟩ := get_ex (xs := l.toList) (k := fr) (by omega)
  obtain ⟨h58, hxd⟩ := hl x (List.mem_of_getElem? hx)
  obtain ⟨d0, hd0⟩ := get_ex (xs := x) (k := w) (by omega)
  have hd0b := hxd d0 (List.mem_of_getElem? hd0)
  have ed : x.getD w 0 = d0 := by rw [List.getD_eq_getElem?_getD, hd0]; rfl
  have eO : outO m fr ((w : Int) + 3) b = (match (allC 0 m.Params).find? (hasC ⟨fr, (w : Int) + 3, b⟩) with | some c => (c, true, 0) | none => (zC, false, 0)) := by
    unfold outO
    have a1 : wi (fr : Int) 0 15 = true := wi_iff.2 ⟨by omega, by omega⟩
    have a2 : wi ((w : Int) + 3) 0 63 = true := wi_iff.2 ⟨by omega, by omega⟩
    have a3 : wi (b : Int) 0 10 = true := wi_iff.2 ⟨by omega, by omega⟩
    rw [if_pos hM, a1, a2, a3]; rfl
  have eO2 : (outO m fr ((w : Int) + 3) b).2.2 = 0 := by rw [eO]; split <;> rfl
  have hclone : clone x = some x := by unfold clone; rw [app_of (by simp; omega)]; rfl
  have hw3 : i64 ((w : Int) + 3 - 3) = (w : Int) := by rw [i64s (by omega) (by omega)]; omega
  have hshl : shl .i64 1 (b : Int) = some ((2 ^ b : Nat) : Int) := by
    rw [shl1 (by omega) (by omega), Int.toNat_natCast]; push_cast; rfl
  have hbx := (bxor_s (d := d0.toNat) (b := b) (by omega) (by omega)).1
  rw [show ((d0.toNat : Nat) : Int) = d0 by omega] at hbx
  have hset : vset l (fr : Int) (x.set (i64 ((w : Int) + 3 - 3)).toNat (bxor .i64 d0 ((2 ^ b : Nat) : Int))) = turned l x fr w b := by
    rw [hw3, hbx, Int.toNat_natCast]; unfold turned; rw [ed]
  rw [Owner_s, Option.bind_some, if_neg (by simp [eO2]), vidx_of hx, Option.bind_some, hclone, Option.bind_some, hw3, idx_of hd0, Option.bind_some, hshl, Option.bind_some, Option.bind_some, Option.bind_some]
  rw [hw3] at hset
  rw [hset, Unpack_s, Option.bind_some]
  have hl' := turned_ok (b := b) hl hx (by omega : w < 58) (by omega)
  have e1 := eN l hgD hgV
  have e2 := eN (turned l x fr w b) (gD_none hl') (gV_turned hx (by omega) hgV)
  rw [e1, e2]
  rw [if_neg (by simp)]
  have hL := loop_find (xs := allC 0 m.Params) (fun _ => (none : Option Unit)) (fun _ => (Sum.inl false : Bool ⊕ Unit)) (Sum.inr ()) (body := law2_LayoutOtherBitsDoNotMatter_L1 ((allC 0 m.Params).map (rdC m l), 0) (outO m fr ((w : Int) + 3) b) ((allC 0 m.Params).map (rdC m (turned l x fr w b)), 0)) (fun k c hc => by
    have hcm := List.mem_of_getElem? hc
    have hlt : (k : Int) < (((allC 0 m.Params).map (rdC m l)).length : Int) := by have := lt_of hc; simpa using this
    have i1 : idx ((allC 0 m.Params).map (rdC m l)) (k : Int) = some (rdC m l c) := idx_of (by rw [List.getElem?_map, hc]; rfl)
    have i2 : idx ((allC 0 m.Params).map (rdC m (turned l x fr w b))) (k : Int) = some (rdC m (turned l x fr w b) c) := idx_of (by rw [List.getElem?_map, hc]; rfl)
    have hkb : k < 4000 := by have := lt_of hc; omega
    obtain ⟨y, hy, _, r1, r2⟩ := rdC_eq hm (l := l) hcm
    have ra := r1 l
    have rb := r1 (turned l x fr w b)
    have P1 : (rdC m l c).Param = c.Param := by rw [ra]
    have P2 : (rdC m l c).Index = c.Index := by rw [ra]
    obtain ⟨p8, pin⟩ := places_len hm hcm
    have hE : eqbR (rdC m l c) (rdC m (turned l x fr w b) c) = true → (rdC m l c).Good = true → hasC ⟨fr, (w : Int) + 3, b⟩ c = true → False := by
      intro he hg hh
      rw [ra, rb] at he
      rw [ra] at hg
      simp only [eqbR, Bool.and_eq_true, decide_eq_true_eq, beq_iff_eq] at he
      obtain ⟨_, _, he1, he2, _⟩ := he
      simp only at hg he1 he2
      have g1 := dec_range hy (raw := ((rawF l 0 c.Places : Nat) : Int)) (by omega) (r2 l)
      have g2 := dec_range hy (raw := ((rawF (turned l x fr w b) 0 c.Places : Nat) : Int)) (by omega) (r2 _)
      rcases g1 with g1 | ⟨_, _, _, g1⟩
      · rw [g1] at hg; cases hg
      rcases g2 with g2 | ⟨_, _, _, g2⟩
      · rw [g2] at he2; rw [he2] at hg; cases hg
      rw [he1, g2] at g1
      have hraw : rawF l 0 c.Places = rawF (turned l x fr w b) 0 c.Places := by omega
      have hin := (rawF_inj c.Places 0 0 hraw).2
      obtain ⟨q, hq, hqh⟩ := List.any_eq_true.1 hh
      exact chunk_diff hl hx (by omega) (pin q hq) hqh (hin q hq)
    have hS : hasC ⟨fr, (w : Int) + 3, b⟩ c = false → rdC m l c = rdC m (turned l x fr w b) c := by
      intro hh
      rw [ra, rb]
      have : rawF l 0 c.Places = rawF (turned l x fr w b) 0 c.Places := rawF_eq c.Places 0 fun q hq => by
        refine chunk_same hl hx (by omega) (pin q hq) ?_
        have := List.any_eq_false.1 hh q hq
        simpa using this
      rw [this]
    have hrefl : ∀ r : api_Reading, eqbR r r = true := fun r => by simp [eqbR]
    simp only [law2_LayoutOtherBitsDoNotMatter_L1, hlt, decide_true, if_true, i1, i2, Option.bind_some]
    rw [i64s (by omega) (by omega)]
    have hfold : (decide ((rdC m l c).Param = (rdC m (turned l x fr w b) c).Param) && (decide ((rdC m l c).Index = (rdC m (turned l x fr w b) c).Index) && (decide ((rdC m l c).Value = (rdC m (turned l x fr w b) c).Value) && (((rdC m l c).Good == (rdC m (turned l x fr w b) c).Good) && true)))) = eqbR (rdC m l c) (rdC m (turned l x fr w b) c) := rfl
    rw [hfold, eO]
    cases hf : (allC 0 m.Params).find? (hasC ⟨fr, (w : Int) + 3, b⟩) with
    | none =>
      have hh : hasC ⟨fr, (w : Int) + 3, b⟩ c = false := by
        have := List.find?_eq_none.1 hf c hcm
        simpa using this
      rw [← hS hh, hrefl]
      simp [gd]
    | some o =>
      have hom := List.mem_of_find?_eq_some hf
      have hob := List.find?_some hf
      cases hh : hasC ⟨fr, (w : Int) + 3, b⟩ c with
      | true =>
        have hco : c = o := count_one hh hob (okB_countC hm.uniq).1 hcm hom
        subst hco
        cases he : eqbR (rdC m l c) (rdC m (turned l x fr w b) c) with
        | false => simp [gd, P1, P2]
        | true =>
          have hgd : (rdC m l c).Good = false := by
            cases hg : (rdC m l c).Good with
            | false => rfl
            | true => exact (hE he hg hh).elim
          simp [gd, P1, P2, hgd]
      | false =>
        rw [← hS hh, hrefl]
        have hne : ¬ (c.Param = o.Param ∧ c.Index = o.Index) := by
          rintro ⟨a1, a2⟩
          have := cell_inj hm hcm hom a1 a2
          subst this
          rw [hob] at hh; cases hh
        by_cases a1 : c.Param = o.Param
        · have a2 : ¬ c.Index = o.Index := fun a2 => hne ⟨a1, a2⟩
          simp [gd, P1, P2, a1, a2]
        · simp [gd, P1, P2, a1]) (by simp [law2_LayoutOtherBitsDoNotMatter_L1])
  rw [hL]
  have fl : ∀ xs : List api_Cell, findL (fun _ : api_Cell => (none : Option Unit)) xs = none := by
    intro xs
    induction xs with
    | nil => rfl
    | cons x l ih => exact ih
  rw [fl]; rfl
end Go.Vx

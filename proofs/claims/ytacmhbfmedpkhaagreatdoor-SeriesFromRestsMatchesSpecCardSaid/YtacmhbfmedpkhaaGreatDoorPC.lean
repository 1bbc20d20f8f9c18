/- A text of the proof: a verified executor of the program form, or the contracts of the functions that the law reaches. -/
import Derived.Test.YtacmhbfmedpkhaaGreatDoorPB
import Derived.Test.YtacmhbfmedpkhaaGreatDoorPA
set_option linter.all false
namespace Go.Vx
open Go Go.RowKit
def zr : api_Rest := api_Rest.mk 0 (Vector.replicate 64 0) (Vector.replicate 64 0) false 0 false
structure RSrt (l : List api_Rest) : Prop where
  len : l.length ≤ 5000
  num : ∀ r ∈ l, 0 ≤ r.Number ∧ r.Number ≤ 4194303
  srt : l.Pairwise fun a b => a.Number < b.Number
def below (x : Int) (r : api_Rest) : Bool := decide (r.Number < x)
def X8 (l : List api_Rest) (x : Int) : Nat := (l.filter (below x)).length
theorem ZlD : ∀ {l : List api_Rest} (x : Int), (l.Pairwise fun a b => a.Number < b.Number) → l.take (X8 l x) = l.filter (below x) ∧ l.drop (X8 l x) = l.filter (fun r => !below x r)
  | [], x, _ => by simp [X8]
  | a :: tl, x, h => by
    obtain ⟨h1, h2⟩ := List.pairwise_cons.1 h
    obtain ⟨i1, i2⟩ := ZlD x h2
    unfold X8 at *
    cases hb : below x a
    · have hnil : tl.filter (below x) = [] := by
        rw [List.filter_eq_nil_iff]
        intro r hr
        have := h1 r hr
        unfold below at hb ⊢
        simp only [decide_eq_false_iff_not, decide_eq_true_eq] at hb ⊢
        omega
      have e : (a :: tl).filter (below x) = [] := by rw [List.filter_cons, hb]; simpa using hnil
      have e2 : tl.filter (fun r => !below x r) = tl := by
        rw [List.filter_eq_self]
        intro r hr
        have := List.filter_eq_nil_iff.1 hnil r hr
        simpa using this
      rw [e, List.length_nil, List.take_zero, List.drop_zero, List.filter_cons, hb, e2]
      exact ⟨rfl, rfl⟩
    · rw [List.filter_cons, List.filter_cons, hb]
      simp only [if_true, Bool.not_true, Bool.false_eq_true, if_false, List.length_cons, List.take_succ_cons, List.drop_succ_cons]
      exact ⟨by rw [i1], i2⟩
theorem ZhA {l : List api_Rest} (h : l.Pairwise fun a b => a.Number < b.Number) {x : Int} {k : Nat} {r : api_Rest} (hr : l[k]? = some r) : r.Number < x ↔ k < X8 l x := by
  obtain ⟨t1, t2⟩ := ZlD x h
  have hl := (List.getElem?_eq_some_iff.1 hr).1
  constructor
  · intro hx
    rcases Nat.lt_or_ge k (X8 l x) with hk | hk
    · exact hk
    · have hd : (l.drop (X8 l x))[k - X8 l x]? = some r := by rw [List.getElem?_drop, show X8 l x + (k - X8 l x) = k by omega]; exact hr
      rw [t2] at hd
      have := (List.mem_filter.1 (List.mem_of_getElem? hd)).2
      unfold below at this
      rw [decide_eq_true hx] at this
      cases this
  · intro hk
    have hd : (l.take (X8 l x))[k]? = some r := by rw [List.getElem?_take, if_pos hk]; exact hr
    rw [t1] at hd
    have := (List.mem_filter.1 (List.mem_of_getElem? hd)).2
    unfold below at this
    simpa using this
theorem ZkG (l : List api_Rest) (x : Int) : X8 l x ≤ l.length := List.length_filter_le _ _
theorem Zla {l : List api_Rest} {x y : Int} (h : x ≤ y) : X8 l x ≤ X8 l y := by
  unfold X8
  induction l with
  | nil => exact Nat.le_refl _
  | cons a tl ih =>
    rw [List.filter_cons, List.filter_cons]
    unfold below at *
    by_cases h1 : a.Number < x
    · rw [if_pos (by simpa using h1), if_pos (by simp; omega)]; simp only [List.length_cons]; omega
    · rw [if_neg (by simpa using h1)]
      split
      · simp only [List.length_cons]; omega
      · exact ih
def Zfn (l : List api_Rest) (s : Int) : List api_Rest := (l.take (X8 l (16 * s + 16))).drop (X8 l (16 * s))
theorem ZiA {l : List api_Rest} (h : RSrt l) {s : Int} {r : api_Rest} (hr : r ∈ Zfn l s) : 16 * s ≤ r.Number ∧ r.Number < 16 * s + 16 ∧ r ∈ l := by
  unfold Zfn at hr
  obtain ⟨k, hk⟩ := List.getElem?_of_mem hr
  rw [List.getElem?_drop, List.getElem?_take] at hk
  split at hk
  · rename_i hlt
    have h1 := ZhA h.srt (x := 16 * s + 16) hk
    have h2 := ZhA h.srt (x := 16 * s) hk
    refine ⟨?_, h1.2 hlt, List.mem_of_getElem? hk⟩
    rcases Int.lt_or_le r.Number (16 * s) with hc | hc
    · have := h2.1 hc; omega
    · exact hc
  · cases hk
theorem Zpc {l : List api_Rest} (h : RSrt l) (s : Int) : (Zfn l s).Pairwise fun a b => a.Number < b.Number :=
  (h.srt.sublist (List.take_sublist _ _)).sublist (List.drop_sublist _ _)
theorem Zka {l : List api_Rest} (h : RSrt l) {x : Int} {body : Int → Option (Int ⊕ Int)} {k0 : Nat} (hk0 : k0 ≤ X8 l x)
    (hb : ∀ a, body a = (gd ((decide (a < (l.length : Int))) == true) zr (idx l a)).bind fun y => if ((decide (a < (l.length : Int))) && (decide (y.Number < x))) = true then some (.inl (i64 (a + 1))) else some (.inr a)) :
    loop (t1 body) (k0 : Int) = some (X8 l x : Int) := by
  have hl := h.len
  have hc := ZkG l x
  refine JR (body := t1 body) (fun i => ∃ k : Nat, i = k ∧ k ≤ X8 l x) (fun i => l.length - i.toNat) (fun _ => (X8 l x : Int)) ?_ _ ⟨k0, rfl, hk0⟩
  rintro i ⟨k, rfl, hk⟩
  rw [JA, hb]
  rcases Nat.lt_or_ge k l.length with hlt | hge
  · obtain ⟨r, hr⟩ := ZU hlt
    have hd : decide ((k : Int) < (l.length : Int)) = true := by rw [decide_eq_true_eq]; omega
    have hiff := ZhA h.srt (x := x) hr
    rw [hd, Zgk, ZD hr, Option.bind_some, Bool.true_and, Qr (by omega) (by omega)]
    by_cases hx : r.Number < x
    · have := hiff.1 hx
      exact .inl ⟨_, by rw [if_pos (by simpa using hx)], ⟨k + 1, by push_cast; rfl, by omega⟩, by omega, rfl⟩
    · right
      have : k = X8 l x := by
        rcases Nat.lt_or_ge k (X8 l x) with hq | hq
        · exact (hx (hiff.2 hq)).elim
        · omega
      rw [if_neg (by simpa using hx), this]
  · have hd : decide ((k : Int) < (l.length : Int)) = false := by rw [decide_eq_false_iff_not]; omega
    right
    have : k = X8 l x := by omega
    rw [hd, show (false == true) = false from rfl, Zl7, Option.bind_some, Bool.false_and, if_neg Bool.false_ne_true, this]
theorem Zrv {l : List api_Rest} (h : RSrt l) {s : Int} (hs : 0 ≤ s ∧ s ≤ 300000) : Zeb l (16 * s) (16 * s + 16) = some (Zfn l s) := by
  have hm := Zla (l := l) (show 16 * s ≤ 16 * s + 16 by omega)
  have hc := ZkG l (16 * s + 16)
  unfold Zeb
  have e0 : (0 : Int) = ((0 : Nat) : Int) := rfl
  rw [e0, Zka h (x := 16 * s) (body := Zew l (16 * s)) (Nat.zero_le _) (fun a => rfl), Option.bind_some, JA, Zka h (x := 16 * s + 16) (body := ZeM l (16 * s + 16)) hm (fun a => rfl), Option.bind_some, JA, ZoY hm hc, Option.bind_some]
  rfl
def Qv (L : List api_Rest) (f : Int) : api_Rest := (L.find? fun r => decide (r.Number % 16 = f)).getD zr
theorem Zj6 {L : List api_Rest} (hL : L.length ≤ 5000) {s f w : Int} (hs : ∀ r ∈ L, 16 * s ≤ r.Number ∧ r.Number < 16 * s + 16) (hf : 0 ≤ f ∧ f ≤ 15) (hw : 0 ≤ w ∧ w < 64) (hfr : ∀ r ∈ L, fU r.Frame) :
    ZbS L ⟨16 * s + f, w⟩ = some (wd (Qv L f).Frame w.toNat % 2048, wd (Qv L f).States w.toNat) := by
  obtain ⟨j, rfl⟩ : ∃ j : Nat, w = j := ⟨w.toNat, by omega⟩
  rw [Int.toNat_natCast]
  have vx : ∀ v : Vector Int 64, Qo v (j : Int) = some (wd v j) := fun v => QY v (by omega)
  have := ZbR (body := t1 (JS L ⟨16 * s + f, (j : Int)⟩)) (fun k => (k : Int)) (fun k => if (L.getD k zr).Number % 16 = f then some (L.getD k zr) else none) (fun r => (.inl (wd r.Frame j % 2048, wd r.States j) : (Int × Int) ⊕ Unit)) (.inr ()) (b := L.length) (fun k hk => by
    obtain ⟨r, hr⟩ := ZU hk
    have hb := hs r (List.mem_of_getElem? hr)
    have hu := hfr r (List.mem_of_getElem? hr) j
    have hg : L.getD k zr = r := by rw [List.getD_eq_getElem?_getD, hr]; rfl
    have eb : JS L ⟨16 * s + f, (j : Int)⟩ (k : Int) = if decide (r.Number = 16 * s + f) = true then some (.inr (.inl (wd r.Frame j % 2048, wd r.States j))) else some (.inl ((k : Int) + 1)) := by
      unfold JS
      have hm : Ju .i64 (i64 (wd r.Frame j)) 2047 = wd r.Frame j % 2048 := by
        rw [Qr (by omega) (by omega)]
        exact ZcX (v := wd r.Frame j) (n := 11) (by decide)
      rw [if_pos (by simp; omega), ZD hr, Option.bind_some, Option.bind_some]
      dsimp only
      rw [vx, Option.bind_some, Option.bind_some, vx, Option.bind_some, hm, Qr (z := (k : Int) + 1) (by omega) (by omega)]
    rw [JA, eb, hg]
    by_cases hn : r.Number % 16 = f
    · refine .inl ⟨r, by rw [if_pos hn], ?_⟩
      rw [if_pos (by rw [decide_eq_true_eq]; omega)]
    · refine .inr ⟨by rw [if_neg hn], ?_⟩
      rw [if_neg (by rw [decide_eq_true_eq]; omega)]; push_cast; rfl) (by
    rw [JA]
    unfold JS
    rw [if_neg (by simp)])
  have hfind : (List.range' 0 L.length).findSome? (fun k => if (L.getD k zr).Number % 16 = f then some (L.getD k zr) else none) = L.find? fun r => decide (r.Number % 16 = f) := by
    have key : ∀ (n k : Nat), k + n = L.length → (List.range' k n).findSome? (fun k => if (L.getD k zr).Number % 16 = f then some (L.getD k zr) else none) = (L.drop k).find? fun r => decide (r.Number % 16 = f) := by
      intro n
      induction n with
      | zero => intro k hk; rw [List.drop_eq_nil_of_le (by omega)]; rfl
      | succ n ih =>
        intro k hk
        obtain ⟨r, hr⟩ := ZU (xs := L) (k := k) (by omega)
        have hg : L.getD k zr = r := by rw [List.getD_eq_getElem?_getD, hr]; rfl
        rw [List.range'_succ, List.findSome?_cons, hg, ZN hr, List.find?_cons]
        by_cases hn : r.Number % 16 = f
        · rw [if_pos hn, decide_eq_true hn]
        · rw [if_neg hn, decide_eq_false hn]
          exact ih (k + 1) (by omega)
    exact key L.length 0 (by omega)
  unfold ZbS
  have e0 : (0 : Int) = ((0 : Nat) : Int) := rfl
  rw [show loop (t1 (JS L ⟨16 * s + f, (j : Int)⟩)) 0 = _ from this, Option.bind_some, hfind]
  unfold Qv
  cases L.find? (fun r => decide (r.Number % 16 = f)) with
  | none =>
    have z1 : wd zr.Frame j = 0 := by
      show (Vector.replicate 64 (0 : Int)).toList.getD j 0 = 0
      rw [Vector.toList_replicate, List.getD_eq_getElem?_getD, List.getElem?_replicate]; split <;> rfl
    have z2 : wd zr.States j = 0 := z1
    show some ((0 : Int), (0 : Int)) = some (wd zr.Frame j % 2048, wd zr.States j)
    rw [z1, z2]; rfl
  | some r => rfl
def Zlk (v : Vector api_Rest 16) (r : api_Rest) : Vector api_Rest 16 := ZoR v (r.Number % 16) r
def ZhQ (L : List api_Rest) : Vector api_Rest 16 := L.foldl Zlk (Vector.replicate 16 zr)
theorem Zo5 (v : Vector api_Rest 16) (r : api_Rest) {f : Nat} (hf : f < 16) : (Zlk v r).toList.getD f zr = if r.Number % 16 = (f : Int) then r else v.toList.getD f zr := by
  unfold Zlk
  rw [Zkc, List.getD_eq_getElem?_getD, List.getElem?_set, List.getD_eq_getElem?_getD]
  by_cases h : r.Number % 16 = (f : Int)
  · rw [if_pos (by omega), if_pos (by simp; omega), if_pos h]; rfl
  · rw [if_neg (by omega), if_neg h]
theorem ZlR : ∀ (L : List api_Rest) (v : Vector api_Rest 16) {s : Int}, (∀ r ∈ L, 16 * s ≤ r.Number ∧ r.Number < 16 * s + 16) → (L.Pairwise fun a b => a.Number < b.Number) → ∀ f : Nat, f < 16 →
    (L.foldl Zlk v).toList.getD f zr = (L.find? fun r => decide (r.Number % 16 = (f : Int))).getD (v.toList.getD f zr)
  | [], _, _, _, _, _, _ => rfl
  | r :: tl, v, s, hb, hp, f, hf => by
    obtain ⟨h1, h2⟩ := List.pairwise_cons.1 hp
    have hr := hb r List.mem_cons_self
    rw [List.foldl_cons, ZlR tl (Zlk v r) (fun q hq => hb q (List.mem_cons_of_mem _ hq)) h2 f hf, Zo5 v r hf, List.find?_cons]
    by_cases h : r.Number % 16 = (f : Int)
    · rw [decide_eq_true h, if_pos h]
      have : (tl.find? fun q => decide (q.Number % 16 = (f : Int))) = none := by
        rw [List.find?_eq_none]
        intro q hq hc
        have b1 := hb q (List.mem_cons_of_mem _ hq)
        have b2 := h1 q hq
        simp only [decide_eq_true_eq] at hc
        omega
      rw [this]; rfl
    · rw [decide_eq_false h, if_neg h]
theorem ZpS {L : List api_Rest} {s : Int} (hb : ∀ r ∈ L, 16 * s ≤ r.Number ∧ r.Number < 16 * s + 16) (hp : L.Pairwise fun a b => a.Number < b.Number) {f : Int} (hf : 0 ≤ f ∧ f ≤ 15) : Qo (ZhQ L) f = some (Qv L f) := by
  obtain ⟨k, rfl⟩ : ∃ k : Nat, f = k := ⟨f.toNat, by omega⟩
  have := ZlR L (Vector.replicate 16 zr) hb hp k (by omega)
  have hz : (Vector.replicate 16 zr).toList.getD k zr = zr := by
    rw [Vector.toList_replicate, List.getD_eq_getElem?_getD, List.getElem?_replicate]; split <;> rfl
  rw [hz] at this
  unfold Qo
  rw [if_pos (by omega), Int.toNat_natCast]
  obtain ⟨x, hx⟩ := ZU (xs := (ZhQ L).toList) (k := k) (by simp; omega)
  rw [List.getD_eq_getElem?_getD] at this
  unfold ZhQ at hx ⊢
  rw [hx] at this ⊢
  exact congrArg some this
end Go.Vx

namespace Go.Vx
open Go Go.RowKit
def sB (l : List api_Place) : Nat := (l.map fun q => q.Bits.toNat).sum
def placeR (q : api_Place) : Prop := (0 ≤ q.Frame ∧ q.Frame ≤ 15) ∧ (4 ≤ q.Word ∧ q.Word ≤ 60) ∧ (0 ≤ q.Low ∧ q.Low ≤ 10) ∧ 1 ≤ q.Bits ∧ q.Bits ≤ 11 - q.Low
theorem ZoQ (k : IntKind) (a b : Int) : bor k a b = bor k b a := by unfold bor; rw [BitVec.or_comm]
theorem Zll {n s : Nat} {q : api_Place} {d : Nat} (hq : placeR q) (hn : n < 2 ^ s) (hs : s + q.Bits.toNat ≤ 40) (hd : d ≤ 2047) :
    shl .i64 (n : Int) q.Bits = some ((2 ^ q.Bits.toNat * n : Nat) : Int) ∧ shr .i64 (d : Int) q.Low = some ((d / 2 ^ q.Low.toNat : Nat) : Int) ∧ shl .i64 1 q.Bits = some ((2 ^ q.Bits.toNat : Nat) : Int) ∧
    bor .i64 ((2 ^ q.Bits.toNat * n : Nat) : Int) (Ju .i64 ((d / 2 ^ q.Low.toNat : Nat) : Int) (i64 (((2 ^ q.Bits.toNat : Nat) : Int) - 1))) = ((n * 2 ^ q.Bits.toNat + d / 2 ^ q.Low.toNat % 2 ^ q.Bits.toNat : Nat) : Int) ∧
    rem ((d / 2 ^ q.Low.toNat : Nat) : Int) ((2 ^ q.Bits.toNat : Nat) : Int) = some ((d / 2 ^ q.Low.toNat % 2 ^ q.Bits.toNat : Nat) : Int) ∧
    i64 (((2 ^ q.Bits.toNat * n : Nat) : Int) + ((d / 2 ^ q.Low.toNat % 2 ^ q.Bits.toNat : Nat) : Int)) = ((n * 2 ^ q.Bits.toNat + d / 2 ^ q.Low.toNat % 2 ^ q.Bits.toNat : Nat) : Int) ∧ n * 2 ^ q.Bits.toNat + d / 2 ^ q.Low.toNat % 2 ^ q.Bits.toNat < 2 ^ (s + q.Bits.toNat) := by
  obtain ⟨_, _, h3, h4, h5⟩ := hq
  have hb1 : q.Bits.toNat ≤ 11 := by omega
  have hp := Nat.two_pow_pos q.Bits.toNat
  have hm : d / 2 ^ q.Low.toNat % 2 ^ q.Bits.toNat < 2 ^ q.Bits.toNat := Nat.mod_lt _ hp
  have h1 : (n + 1) * 2 ^ q.Bits.toNat ≤ 2 ^ s * 2 ^ q.Bits.toNat := Nat.mul_le_mul_right _ hn
  rw [← Nat.pow_add, Nat.add_mul, Nat.one_mul] at h1
  have h40 : 2 ^ (s + q.Bits.toNat) ≤ 2 ^ 40 := Nat.pow_le_pow_right (by decide) hs
  rw [show (2 : Nat) ^ 40 = 1099511627776 by decide] at h40
  have hcm : 2 ^ q.Bits.toNat * n = n * 2 ^ q.Bits.toNat := Nat.mul_comm _ _
  have eb : min q.Bits.toNat IntKind.i64.bits = q.Bits.toNat := by
    have : IntKind.i64.bits = 64 := rfl
    omega
  have el : min q.Low.toNat IntKind.i64.bits = q.Low.toNat := by
    have : IntKind.i64.bits = 64 := rfl
    omega
  have ep : ((2 ^ q.Bits.toNat : Nat) : Int) = (2 : Int) ^ q.Bits.toNat := by push_cast; rfl
  have epl : ((2 ^ q.Low.toNat : Nat) : Int) = (2 : Int) ^ q.Low.toNat := by push_cast; rfl
  have hpl := Nat.two_pow_pos q.Low.toNat
  refine ⟨?_, ?_, ?_, ?_, ?_, ?_, by omega⟩
  · unfold shl
    rw [if_neg (by omega), eb, ← ep]
    congr 1
    have : (n : Int) * ((2 ^ q.Bits.toNat : Nat) : Int) = ((n * 2 ^ q.Bits.toNat : Nat) : Int) := by push_cast; rfl
    rw [this, hcm]
    exact ZZ (by omega) (by omega)
  · unfold shr
    rw [if_neg (by omega), el, ← epl, Int.fdiv_eq_ediv_of_nonneg _ (by omega)]
    rfl
  · rw [ZnT (by omega) (by omega), ep]
  · have hmask : i64 (((2 ^ q.Bits.toNat : Nat) : Int) - 1) = (2 : Int) ^ q.Bits.toNat - 1 := by
      have : 2 ^ q.Bits.toNat ≤ 2 ^ 11 := Nat.pow_le_pow_right (by decide) hb1
      rw [show (2 : Nat) ^ 11 = 2048 by decide] at this
      rw [ZZ (by omega) (by omega), ep]
    rw [hmask, ZcX (by omega), ← ep, ZoQ]
    have e2 : ((d / 2 ^ q.Low.toNat : Nat) : Int) % ((2 ^ q.Bits.toNat : Nat) : Int) = ((d / 2 ^ q.Low.toNat % 2 ^ q.Bits.toNat : Nat) : Int) := by push_cast; rfl
    rw [e2, Zoc hm (by rw [t62]; omega)]
    congr 1; omega
  · unfold rem
    rw [if_neg (by omega), Int.tmod_eq_emod_of_nonneg (Int.natCast_nonneg _)]; rfl
  · rw [ZZ (by omega) (by omega)]; push_cast; rw [Int.mul_comm]
end Go.Vx

namespace Go.Vx
open Go Go.RowKit
theorem ZnN {l : List api_Rest} (h : RSrt l) {s : Int} (hs : 0 ≤ s ∧ s ≤ 300000) :
    loop (t2 (Qa s)) (l.drop (X8 l (16 * s)), Vector.replicate 16 zr) = some (l.drop (X8 l (16 * s + 16)), ZhQ (Zfn l s)) := by
  have hm := Zla (l := l) (show 16 * s ≤ 16 * s + 16 by omega)
  have hc := ZkG l (16 * s + 16)
  have hl := h.len
  refine JR (body := t2 (Qa s)) (fun p => ∃ k : Nat, X8 l (16 * s) ≤ k ∧ k ≤ X8 l (16 * s + 16) ∧ p = (l.drop k, ((l.take k).drop (X8 l (16 * s))).foldl Zlk (Vector.replicate 16 zr))) (fun p => p.1.length) (fun _ => (l.drop (X8 l (16 * s + 16)), ZhQ (Zfn l s))) ?_ _ ⟨X8 l (16 * s), Nat.le_refl _, hm, ?_⟩
  · rintro _ ⟨k, h1, h2, rfl⟩
    show (∃ s', Qa s (l.drop k) _ = _ ∧ _) ∨ Qa s (l.drop k) _ = _
    generalize hv : ((l.take k).drop (X8 l (16 * s))).foldl Zlk (Vector.replicate 16 zr) = v
    show (∃ s', Qa s (l.drop k) v = _ ∧ _) ∨ Qa s (l.drop k) v = _
    rcases Nat.lt_or_ge k l.length with hlt | hge
    · obtain ⟨r, hr⟩ := ZU hlt
      have hb := h.num r (List.mem_of_getElem? hr)
      have i1 := ZhA h.srt (x := 16 * s + 16) hr
      have i2 := ZhA h.srt (x := 16 * s) hr
      have hdl : (l.drop k).length = l.length - k := List.length_drop
      have hpos : decide (0 < ((l.drop k).length : Int)) = true := by rw [decide_eq_true_eq, hdl]; omega
      have h0 : idx (l.drop k) 0 = some r := by rw [ZN hr]; rfl
      have hq : quo .i64 r.Number 16 = some (r.Number / 16) := by
        unfold quo
        rw [if_neg (by decide), Int.tdiv_eq_ediv_of_nonneg hb.1, w64 (by omega) (by omega)]
      have hrem : rem r.Number 16 = some (r.Number % 16) := ZgS hb.1 _ (by decide)
      obtain ⟨x5, hx5⟩ : ∃ x, Qo v (r.Number % 16) = some x := by
        unfold Qo
        rw [if_pos (by omega)]
        exact ZU (by simp; omega)
      have hsl : slc (l.drop k) 1 ((l.drop k).length : Int) = some (l.drop (k + 1)) := by
        have := ZoY (l := l.drop k) (a := 1) (b := (l.drop k).length) (by omega) (Nat.le_refl _)
        rw [show ((1 : Nat) : Int) = 1 from rfl] at this
        rw [this, List.take_of_length_le (Nat.le_refl _), List.drop_drop]
      unfold Qa
      rw [hpos, Zgk, h0, Option.bind_some, Zgk, hq, Option.bind_some, Bool.true_and]
      by_cases hx : r.Number / 16 ≤ s
      · left
        have hk := i1.1 (by omega)
        have hge2 : 16 * s ≤ r.Number := by
          rcases Int.lt_or_le r.Number (16 * s) with hc2 | hc2
          · have := i2.1 hc2; omega
          · exact hc2
        have he : r.Number / 16 = s := by omega
        refine ⟨(l.drop (k + 1), Zlk v r), ?_, ⟨k + 1, by omega, by omega, ?_⟩, ?_, rfl⟩
        · rw [if_pos (by simpa using hx), Option.bind_some, hq, Option.bind_some, if_pos (by simpa using he), Option.bind_some, hrem, Option.bind_some, Option.bind_some, hx5, Option.bind_some, hsl, Option.bind_some]
          rfl
        · have : (l.take (k + 1)).drop (X8 l (16 * s)) = (l.take k).drop (X8 l (16 * s)) ++ [r] := by
            rw [List.take_add_one, hr, List.drop_append_of_le_length (by rw [List.length_take]; omega)]; rfl
          rw [this, List.foldl_append, hv]; rfl
        · show (l.drop (k + 1)).length < (l.drop k).length
          rw [List.length_drop, List.length_drop]; omega
      · right
        have hkk : k = X8 l (16 * s + 16) := by
          rcases Nat.lt_or_ge k (X8 l (16 * s + 16)) with hq2 | hq2
          · have := i1.2 hq2; omega
          · omega
        rw [if_neg (by simpa using hx), ← hv, hkk]; rfl
    · right
      have hkk : k = X8 l (16 * s + 16) := by omega
      have hd : l.drop k = [] := List.drop_eq_nil_of_le hge
      unfold Qa
      rw [hd, List.length_nil]
      rw [show decide ((0 : Int) < ((0 : Nat) : Int)) = false from rfl, show (false == true) = false from rfl, Zl7, Option.bind_some, Zl7, Option.bind_some, Bool.false_and, if_neg Bool.false_ne_true, ← hv, ← hkk, hd]
      unfold Zfn ZhQ
      rw [← hkk]
  · have hnil : (l.take (X8 l (16 * s))).drop (X8 l (16 * s)) = [] := List.drop_eq_nil_of_le (by rw [List.length_take]; omega)
    rw [hnil]; rfl
def ZjC (L : List api_Rest) (q : api_Place) : Nat := (wd (Qv L q.Frame).Frame q.Word.toNat % 2048).toNat
def Zgf (L : List api_Rest) : Nat → List api_Place → Nat
  | n, [] => n
  | n, q :: tl => Zgf L (n * 2 ^ q.Bits.toNat + ZjC L q / 2 ^ q.Low.toNat % 2 ^ q.Bits.toNat) tl
theorem Zm0 (L : List api_Rest) : ∀ (ps : List api_Place) (n s : Nat), n < 2 ^ s → Zgf L n ps < 2 ^ (s + sB ps)
  | [], n, s, h => by simpa [Zgf, sB] using h
  | q :: tl, n, s, h => by
    have hm : ZjC L q / 2 ^ q.Low.toNat % 2 ^ q.Bits.toNat < 2 ^ q.Bits.toNat := Nat.mod_lt _ (Nat.two_pow_pos _)
    have h1 : (n + 1) * 2 ^ q.Bits.toNat ≤ 2 ^ s * 2 ^ q.Bits.toNat := Nat.mul_le_mul_right _ h
    rw [← Nat.pow_add, Nat.add_mul, Nat.one_mul] at h1
    have := Zm0 L tl (n * 2 ^ q.Bits.toNat + ZjC L q / 2 ^ q.Low.toNat % 2 ^ q.Bits.toNat) (s + q.Bits.toNat) (by omega)
    have e : s + sB (q :: tl) = s + q.Bits.toNat + sB tl := by simp [sB]; omega
    rw [e, Zgf]; exact this
def stP (L : List api_Rest) (q : api_Place) : Int := min (wd (Qv L q.Frame).States q.Word.toNat) (wd (Qv L q.Frame).States 3)
def Zfs (L : List api_Rest) : Int → List api_Place → Int
  | a, [] => a
  | a, q :: tl => Zfs L (min a (stP L q)) tl
def ZjF (L : List api_Rest) (ver : Int) (q : api_Place) : Bool := !decide (wd (Qv L q.Frame).Frame 3 % 2048 = ver)
structure CellR (c : api_Cell) : Prop where
  len : c.Places.length ≤ 8
  pl : ∀ q ∈ c.Places, placeR q
  bits : sB c.Places ≤ 40
def RFr (L : List api_Rest) : Prop := ∀ r ∈ L, fU r.Frame
theorem Zjc {L : List api_Rest} (h : RFr L) (f : Int) : fU (Qv L f).Frame := by
  unfold Qv
  cases hf : L.find? (fun r => decide (r.Number % 16 = f)) with
  | none =>
    intro i
    have z1 : wd zr.Frame i = 0 := by
      show (Vector.replicate 64 (0 : Int)).toList.getD i 0 = 0
      rw [Vector.toList_replicate, List.getD_eq_getElem?_getD, List.getElem?_replicate]; split <;> rfl
    show 0 ≤ wd zr.Frame i ∧ wd zr.Frame i ≤ 65535
    rw [z1]; exact ⟨by decide, by decide⟩
  | some r => exact h r (List.mem_of_find?_eq_some hf)
theorem ZpH {x : Int} (h : 0 ≤ x ∧ x ≤ 65535) {lo bi : Nat} (hb : lo + bi ≤ 11) : (x / (2 : Int) ^ lo) % (2 : Int) ^ bi = (((x % 2048).toNat / 2 ^ lo % 2 ^ bi : Nat) : Int) := by
  obtain ⟨n, rfl⟩ : ∃ n : Nat, x = n := ⟨x.toNat, by omega⟩
  have e1 : (n : Int) / (2 : Int) ^ lo = ((n / 2 ^ lo : Nat) : Int) := by push_cast; rfl
  have e2 : ((n / 2 ^ lo : Nat) : Int) % (2 : Int) ^ bi = ((n / 2 ^ lo % 2 ^ bi : Nat) : Int) := by push_cast; rfl
  have e11 : (2 : Nat) ^ 11 = 2048 := by decide
  have e3 : ((n : Int) % 2048).toNat = n % 2 ^ 11 := by rw [e11]; omega
  rw [e1, e2, e3]
  congr 1
  refine Nat.eq_of_testBit_eq fun i => ?_
  rw [Nat.testBit_mod_two_pow, Nat.testBit_mod_two_pow, Nat.testBit_div_two_pow, Nat.testBit_div_two_pow, Nat.testBit_mod_two_pow]
  by_cases hi : i < bi
  · rw [decide_eq_true hi, decide_eq_true (show i + lo < 11 by omega)]; simp
  · rw [decide_eq_false hi]; simp
end Go.Vx

namespace Go.Vx
open Go Go.RowKit
theorem ZmX (L : List api_Rest) (q : api_Place) : ZjC L q ≤ 2047 := by unfold ZjC; omega
theorem ZqO {L : List api_Rest} (q : api_Place) : ((ZjC L q : Nat) : Int) = wd (Qv L q.Frame).Frame q.Word.toNat % 2048 := by unfold ZjC; omega
theorem ZqF {q : api_Place} (hq : placeR q) : i64 (((2 ^ q.Bits.toNat : Nat) : Int) - 1) = (2 : Int) ^ q.Bits.toNat - 1 := by
  obtain ⟨_, _, h3, h4, h5⟩ := hq
  have ep : ((2 ^ q.Bits.toNat : Nat) : Int) = (2 : Int) ^ q.Bits.toNat := by push_cast; rfl
  have : 2 ^ q.Bits.toNat ≤ 2 ^ 11 := Nat.pow_le_pow_right (by decide) (by omega)
  rw [show (2 : Nat) ^ 11 = 2048 by decide] at this
  have hp := Nat.two_pow_pos q.Bits.toNat
  rw [Qr (by omega) (by omega), ep]
theorem Znx {L : List api_Rest} (hU : RFr L) {q : api_Place} (hq : placeR q) :
    Ju .i64 (wd (Qv L q.Frame).Frame q.Word.toNat / (2 : Int) ^ q.Low.toNat) (i64 (((2 ^ q.Bits.toNat : Nat) : Int) - 1)) = Ju .i64 ((ZjC L q / 2 ^ q.Low.toNat : Nat) : Int) (i64 (((2 ^ q.Bits.toNat : Nat) : Int) - 1)) := by
  have hw := Zjc hU q.Frame q.Word.toNat
  have hq' := hq
  obtain ⟨_, _, h3, h4, h5⟩ := hq'
  rw [ZqF hq, ZcX (by omega), ZcX (by omega), ZpH hw (by omega)]
  unfold ZjC
  push_cast; rfl
theorem Zp5 {x : Int} {q : api_Place} (hq : placeR q) : shr .i64 x q.Low = some (x / (2 : Int) ^ q.Low.toNat) := by
  obtain ⟨_, _, h3, _⟩ := hq
  have := Zm9 x (k := q.Low.toNat) (by omega)
  rw [show ((q.Low.toNat : Nat) : Int) = q.Low by omega] at this
  exact this
structure SecOK (L : List api_Rest) (s : Int) : Prop where
  num : ∀ r ∈ L, 16 * s ≤ r.Number ∧ r.Number < 16 * s + 16
  srt : L.Pairwise fun a b => a.Number < b.Number
  fr : RFr L
  len : L.length ≤ 5000
theorem ZnC {L : List api_Rest} {s : Int} (h : SecOK L s) {m : api_Map} {c : api_Cell} (hc : CellR c) :
    loop (t4 (Qw m c (ZhQ L))) (3, 0, false, 0) = some (Zfs L 3 c.Places, ((Zgf L 0 c.Places : Nat) : Int), c.Places.any (ZjF L m.Version)) := by
  have hl8 := hc.len
  have := JR (body := t4 (Qw m c (ZhQ L))) (fun p => ∃ (k n b : Nat), p.2.2.2 = (k : Int) ∧ k ≤ c.Places.length ∧ p.2.1 = (n : Int) ∧ n < 2 ^ b ∧ b + sB (c.Places.drop k) ≤ 40) (fun p => c.Places.length - p.2.2.2.toNat)
    (fun p => (Zfs L p.1 (c.Places.drop p.2.2.2.toNat), ((Zgf L p.2.1.toNat (c.Places.drop p.2.2.2.toNat) : Nat) : Int), p.2.2.1 || (c.Places.drop p.2.2.2.toNat).any (ZjF L m.Version))) (by
    rintro ⟨a, raw, o, i⟩ ⟨k, n, b, hi, hk, hraw, hn, hb⟩
    simp only at hi hraw
    subst hi hraw
    show (∃ s', Qw m c (ZhQ L) a (n : Int) o (k : Int) = _ ∧ _) ∨ Qw m c (ZhQ L) a (n : Int) o (k : Int) = _
    simp only [Int.toNat_natCast]
    rcases Nat.lt_or_ge k c.Places.length with hlt | hge
    · obtain ⟨q, hq⟩ := ZU hlt
      have hpq := hc.pl q (List.mem_of_getElem? hq)
      have hpq' := hpq
      obtain ⟨p1, p2, p3, p4, p5⟩ := hpq'
      rw [ZN hq] at hb
      have e : sB (q :: c.Places.drop (k + 1)) = q.Bits.toNat + sB (c.Places.drop (k + 1)) := by simp [sB]
      rw [e] at hb
      obtain ⟨s1, s2, s3, s4, _, _, s7⟩ := Zll hpq hn (by omega) (ZmX L q)
      have hw := Zjc h.fr q.Frame q.Word.toNat
      have hw3 := Zjc h.fr q.Frame 3
      obtain ⟨j, hj⟩ : ∃ j : Nat, q.Word = j := ⟨q.Word.toNat, by omega⟩
      have v1 : Qo (Qv L q.Frame).States q.Word = some (wd (Qv L q.Frame).States q.Word.toNat) := by rw [hj, Int.toNat_natCast]; exact QY _ (by omega)
      have v2 : Qo (Qv L q.Frame).Frame q.Word = some (wd (Qv L q.Frame).Frame q.Word.toNat) := by rw [hj, Int.toNat_natCast]; exact QY _ (by omega)
      have v3 : Qo (Qv L q.Frame).States 3 = some (wd (Qv L q.Frame).States 3) := QY _ (i := 3) (by decide)
      have v4 : Qo (Qv L q.Frame).Frame 3 = some (wd (Qv L q.Frame).Frame 3) := QY _ (i := 3) (by decide)
      have hd3 : i64 (Ju .u16 (wd (Qv L q.Frame).Frame 3) 2047) = wd (Qv L q.Frame).Frame 3 % 2048 := Option.some.inj (ZgA hw3)
      have hold : ∃ x5, (gd (o == false) 0 (Qo (Qv L q.Frame).Frame 3)) = some x5 ∧ (o || (!decide (i64 (Ju .u16 x5 2047) = m.Version))) = (o || ZjF L m.Version q) := by
        cases o
        · exact ⟨_, by rw [v4]; rfl, by rw [hd3]; rfl⟩
        · exact ⟨0, rfl, rfl⟩
      obtain ⟨x5, o1, o2⟩ := hold
      left
      refine ⟨(min (min a (wd (Qv L q.Frame).States q.Word.toNat)) (wd (Qv L q.Frame).States 3), ((n * 2 ^ q.Bits.toNat + ZjC L q / 2 ^ q.Low.toNat % 2 ^ q.Bits.toNat : Nat) : Int), (o || ZjF L m.Version q), (k : Int) + 1), ?_, ⟨k + 1, _, b + q.Bits.toNat, by push_cast; rfl, hlt, rfl, s7, by omega⟩, by simp only; omega, ?_⟩
      · unfold Qw
        rw [if_pos (by simp; omega), ZD hq, Option.bind_some, ZpS h.num h.srt p1, Option.bind_some, v1, Option.bind_some, v3, Option.bind_some, o1, Option.bind_some, s1, Option.bind_some, v2, Option.bind_some, Qr (z := wd (Qv L q.Frame).Frame q.Word.toNat) (by omega) (by omega), Zp5 hpq, Option.bind_some, s3, Option.bind_some, Znx h.fr hpq, s4, o2, Qr (z := (k : Int) + 1) (by omega) (by omega)]
      · simp only
        rw [ZN hq, show ((k : Int) + 1).toNat = k + 1 by omega, Int.toNat_natCast, Zfs, Zgf, List.any_cons, Bool.or_assoc]
        unfold stP
        rw [← Int.min_assoc]
    · right
      have hd : c.Places.drop k = [] := List.drop_eq_nil_of_le hge
      unfold Qw
      rw [if_neg (by simp; omega), hd]
      simp [Zfs, Zgf]) (3, 0, false, 0) ⟨0, 0, 0, rfl, Nat.zero_le _, rfl, by decide, by have := hc.bits; simpa using this⟩
  simpa using this
theorem ZnG {L : List api_Rest} {s : Int} (h : SecOK L s) (hs : 0 ≤ s ∧ s ≤ 300000) {c : api_Cell} (hc : CellR c) :
    loop (t2 (XV c (16 * s) L)) (0, 0) = some ((Zgf L 0 c.Places : Nat) : Int) := by
  have hl8 := hc.len
  have := Zdw (xs := c.Places) (body := XV c (16 * s) L) (I := fun a k => ∃ n b : Nat, a = (n : Int) ∧ n < 2 ^ b ∧ b + sB (c.Places.drop k) ≤ 40) (F := fun a k => ((Zgf L a.toNat (c.Places.drop k) : Nat) : Int))
    (fun a k q hI hq => by
      obtain ⟨n, b, rfl, hn, hb⟩ := hI
      have hlt := (List.getElem?_eq_some_iff.1 hq).1
      have hpq := hc.pl q (List.mem_of_getElem? hq)
      have hpq' := hpq
      obtain ⟨p1, p2, p3, p4, p5⟩ := hpq'
      rw [ZN hq] at hb
      have e : sB (q :: c.Places.drop (k + 1)) = q.Bits.toNat + sB (c.Places.drop (k + 1)) := by simp [sB]
      rw [e] at hb
      obtain ⟨s1, s2, s3, s4, _, _, s7⟩ := Zll hpq hn (by omega) (ZmX L q)
      left
      refine ⟨_, ?_, ⟨_, b + q.Bits.toNat, rfl, s7, by omega⟩, ?_⟩
      · unfold XV
        rw [if_pos (by simp; omega), ZD hq, Option.bind_some, Qr (z := 16 * s + q.Frame) (by omega) (by omega), Zj6 h.len h.num p1 ⟨by omega, by omega⟩ h.fr, Option.bind_some, s1, Option.bind_some, ← ZqO, s2, Option.bind_some, s3, Option.bind_some, s4, Qr (by omega) (by omega)]
      · rw [ZN hq, Zgf, Int.toNat_natCast, Int.toNat_natCast])
    (fun a hI => by
      obtain ⟨n, b, rfl, _, _⟩ := hI
      unfold XV
      rw [if_neg (by simp), List.drop_length]; rfl) (a0 := 0) ⟨0, 0, rfl, by decide, by have := hc.bits; simpa using this⟩
  simpa using this
end Go.Vx

namespace Go.Vx
open Go Go.RowKit
theorem ZiS (l : List api_Where) (x : api_Where) (hl : l.length ≤ 1000) : ∃ r, Zbv l x = some r ∧ (∀ y, y ∈ r ↔ y ∈ l ∨ y = x) ∧ r.length ≤ l.length + 1 := by
  obtain ⟨r, hr, at_, rfl, hat⟩ := ZdD (body := t1 (Zbb l x)) (fun i => ∃ k : Nat, i = k ∧ k ≤ l.length) (fun i => l.length - i.toNat) (fun r => ∃ k : Nat, r = (k : Int) ∧ k ≤ l.length) (by
    rintro i ⟨k, rfl, hk⟩
    rw [JA]
    unfold Zbb ZdT
    rcases Nat.lt_or_ge k l.length with hlt | hge
    · obtain ⟨y, hy⟩ := ZU hlt
      have hd : decide ((k : Int) < (l.length : Int)) = true := by rw [decide_eq_true_eq]; omega
      rw [hd, Zgk, ZD hy, Option.bind_some, Zgk, Option.bind_some, Bool.true_and, Qr (by omega) (by omega)]
      split
      · exact .inl ⟨_, rfl, ⟨k + 1, by push_cast; rfl, hlt⟩, by omega⟩
      · exact .inr ⟨_, rfl, k, rfl, hk⟩
    · have hd : decide ((k : Int) < (l.length : Int)) = false := by rw [decide_eq_false_iff_not]; omega
      rw [hd, show (false == true) = false from rfl, Zl7, Option.bind_some, Zl7, Option.bind_some, Bool.false_and, if_neg Bool.false_ne_true]
      exact .inr ⟨_, rfl, k, rfl, hk⟩) 0 ⟨0, rfl, Nat.zero_le _⟩
  unfold Zbv
  rw [hr, Option.bind_some, JA]
  have hins : ∃ r, ((slc l 0 (at_ : Int)).bind fun l2 => (app [] l2).bind fun l3 => (slc l (at_ : Int) (l.length : Int)).bind fun l4 => (app l3 ([x] : List api_Where)).bind fun l5 => (app l5 l4).bind fun l6 => some l6) = some r ∧ (∀ y, y ∈ r ↔ y ∈ l ∨ y = x) ∧ r.length ≤ l.length + 1 := by
    have h1 := ZoY (l := l) (a := 0) (b := at_) (by omega) hat
    have h2 := ZoY (l := l) (a := at_) (b := l.length) hat (Nat.le_refl _)
    rw [show ((0 : Nat) : Int) = 0 from rfl, List.drop_zero] at h1
    rw [List.take_of_length_le (Nat.le_refl _)] at h2
    have htl : (l.take at_).length = at_ := by rw [List.length_take]; omega
    have hdl : (l.drop at_).length = l.length - at_ := List.length_drop
    refine ⟨l.take at_ ++ [x] ++ l.drop at_, ?_, ?_, ?_⟩
    · rw [h1, Option.bind_some, XJ (by simp; omega), Option.bind_some, h2, Option.bind_some, List.nil_append, XJ (by simp; omega), Option.bind_some, XJ (by simp; omega), Option.bind_some]
    · intro y
      rw [List.mem_append, List.mem_append, List.mem_singleton]
      have : y ∈ l ↔ y ∈ l.take at_ ∨ y ∈ l.drop at_ := by rw [← List.mem_append, List.take_append_drop]
      rw [this]
      constructor
      · rintro ((h | h) | h)
        · exact .inl (.inl h)
        · exact .inr h
        · exact .inl (.inr h)
      · rintro ((h | h) | h)
        · exact .inl (.inl h)
        · exact .inr h
        · exact .inl (.inr h)
    · rw [List.length_append, List.length_append, htl, hdl]; simp only [List.length_singleton]; omega
  rcases Nat.lt_or_ge at_ l.length with hlt | hge
  · obtain ⟨y, hy⟩ := ZU hlt
    have hd : decide ((at_ : Int) < (l.length : Int)) = true := by rw [decide_eq_true_eq]; omega
    rw [hd, Zgk, ZD hy, Option.bind_some]
    split
    · rename_i hc
      simp only [Bool.true_and, Bool.and_true, Bool.and_eq_true, decide_eq_true_eq] at hc
      have hxy : y = x := by
        obtain ⟨a, b⟩ := y
        obtain ⟨a', b'⟩ := x
        simp only at hc
        rw [hc.1, hc.2]
      refine ⟨l, rfl, fun z => ⟨.inl, ?_⟩, by omega⟩
      rintro (h | h)
      · exact h
      · rw [h, ← hxy]; exact List.mem_of_getElem? hy
    · exact hins
  · have hd : decide ((at_ : Int) < (l.length : Int)) = false := by rw [decide_eq_false_iff_not]; omega
    rw [hd, show (false == true) = false from rfl, Zl7, Option.bind_some, Bool.false_and, if_neg Bool.false_ne_true]
    exact hins
def wOf (first : Int) (q : api_Place) (y : api_Where) : Prop := y = ⟨first + q.Frame, 3⟩ ∨ y = ⟨first + q.Frame, q.Word⟩
theorem Zsc (first : Int) (q : api_Place) (out : List api_Where) (ho : out.length ≤ 100) (hb : 0 ≤ first ∧ first ≤ 5000000) (hq : placeR q) :
    ∃ r, loop (t2 (Qi first q q)) (out, 0) = some r ∧ (∀ y, y ∈ r ↔ y ∈ out ∨ wOf first q y) ∧ r.length ≤ out.length + 2 := by
  have hqf := hq.1
  have ef : i64 (first + q.Frame) = first + q.Frame := Qr (by omega) (by omega)
  obtain ⟨r1, e1, m1, l1⟩ := ZiS out ⟨first + q.Frame, 3⟩ (by omega)
  obtain ⟨r2, e2, m2, l2⟩ := ZiS r1 ⟨first + q.Frame, q.Word⟩ (by omega)
  have b0 : Qi first q q out 0 = some (.inl (r1, 1)) := by
    unfold Qi
    have v : Qo (#v[3, q.Word] : Vector Int 2) 0 = some 3 := rfl
    rw [if_pos (by decide), v, Option.bind_some, ef, e1, Option.bind_some]; rfl
  have b1 : Qi first q q r1 1 = some (.inl (r2, 2)) := by
    unfold Qi
    have v : Qo (#v[3, q.Word] : Vector Int 2) 1 = some q.Word := rfl
    rw [if_pos (by decide), v, Option.bind_some, ef, e2, Option.bind_some]; rfl
  have b2 : Qi first q q r2 2 = some (.inr r2) := by
    unfold Qi
    rw [if_neg (by decide)]
  refine ⟨r2, ?_, ?_, by omega⟩
  · rw [ZV]
    show ((Qi first q q out 0).bind _) = _
    rw [b0]
    show loop _ (r1, 1) = _
    rw [ZV]
    show ((Qi first q q r1 1).bind _) = _
    rw [b1]
    show loop _ (r2, 2) = _
    rw [ZV]
    show ((Qi first q q r2 2).bind _) = _
    rw [b2]; rfl
  · intro y
    rw [m2, m1]
    unfold wOf
    constructor
    · rintro ((h | h) | h)
      · exact .inl h
      · exact .inr (.inl h)
      · exact .inr (.inr h)
    · rintro (h | h | h)
      · exact .inl (.inl h)
      · exact .inl (.inr h)
      · exact .inr h
theorem Znn {c : api_Cell} (hc : CellR c) {first : Int} (hb : 0 ≤ first ∧ first ≤ 5000000) :
    ∃ W, ZbY c first = some W ∧ (∀ y, y ∈ W ↔ ∃ q ∈ c.Places, wOf first q y) ∧ W.length ≤ 16 := by
  have hl8 := hc.len
  obtain ⟨r, hr, h1, h2⟩ := ZdD (body := t2 (ZbG c first)) (fun p => ∃ k : Nat, p.2 = (k : Int) ∧ k ≤ c.Places.length ∧ (∀ y, y ∈ p.1 ↔ ∃ q ∈ c.Places.take k, wOf first q y) ∧ p.1.length ≤ 2 * k) (fun p => c.Places.length - p.2.toNat)
    (fun W => (∀ y, y ∈ W ↔ ∃ q ∈ c.Places, wOf first q y) ∧ W.length ≤ 16) (by
    rintro ⟨out, i⟩ ⟨k, hi, hk, hm, hlen⟩
    simp only at hi hm hlen
    subst hi
    rw [Zaf]
    unfold ZbG
    rcases Nat.lt_or_ge k c.Places.length with hlt | hge
    · obtain ⟨q, hq⟩ := ZU hlt
      obtain ⟨r, e, m, l⟩ := Zsc first q out (by omega) hb (hc.pl q (List.mem_of_getElem? hq))
      left
      refine ⟨(r, (k : Int) + 1), ?_, ⟨k + 1, by push_cast; rfl, hlt, ?_, by simp only; omega⟩, by simp only; omega⟩
      · rw [if_pos (by simp; omega), ZD hq, Option.bind_some, Option.bind_some, e, Option.bind_some, JA, Qr (by omega) (by omega)]
      · intro y
        simp only
        rw [m, hm, List.take_add_one, hq]
        constructor
        · rintro (⟨q', h1, h2⟩ | h)
          · exact ⟨q', List.mem_append_left _ h1, h2⟩
          · exact ⟨q, List.mem_append_right _ (by simp), h⟩
        · rintro ⟨q', h1, h2⟩
          rcases List.mem_append.1 h1 with h | h
          · exact .inl ⟨q', h, h2⟩
          · have : q' = q := by simpa using h
            subst this; exact .inr h2
    · right
      rw [if_neg (by simp; omega)]
      rw [List.take_of_length_le hge] at hm
      exact ⟨out, rfl, hm, by omega⟩) ([], 0) ⟨0, rfl, Nat.zero_le _, fun y => by simp, by simp⟩
  refine ⟨r, ?_, h1, h2⟩
  unfold ZbY
  rw [hr]; rfl
def stW (L : List api_Rest) (s : Int) (y : api_Where) : Int := wd (Qv L (y.Number - 16 * s)).States y.Word.toNat
def daW (L : List api_Rest) (s : Int) (y : api_Where) : Int := wd (Qv L (y.Number - 16 * s)).Frame y.Word.toNat % 2048
def Zng (L : List api_Rest) (s ver : Int) (y : api_Where) : Prop := stW L s y ≠ 0 ∧ y.Word = 3 ∧ daW L s y ≠ ver
theorem Zqf {L : List api_Rest} {s : Int} (h : SecOK L s) (hs : 0 ≤ s ∧ s ≤ 300000) {c : api_Cell} (hc : CellR c) (m : api_Map) {W : List api_Where} (hW : ∀ y, y ∈ W ↔ ∃ q ∈ c.Places, wOf (16 * s) q y) (hl : W.length ≤ 16) :
    ∃ r : (Int × Int) ⊕ Int, loop (t2 (ZaK m L W)) (3, 0) = some r ∧ ((r = .inl (0, 0) ∧ ∃ y ∈ W, Zng L s m.Version y) ∨ (∃ lm, r = .inr lm ∧ (∀ y ∈ W, ¬ Zng L s m.Version y) ∧ ∀ z, z ≤ lm ↔ z ≤ 3 ∧ ∀ y ∈ W, z ≤ stW L s y)) := by
  have hword : ∀ y ∈ W, ZbS L y = some (daW L s y, stW L s y) := fun y hy => by
    obtain ⟨q, hq, hw⟩ := (hW y).1 hy
    obtain ⟨p1, p2, _⟩ := hc.pl q hq
    have key : ∀ w : Int, 0 ≤ w ∧ w < 64 → ZbS L ⟨16 * s + q.Frame, w⟩ = some (daW L s ⟨16 * s + q.Frame, w⟩, stW L s ⟨16 * s + q.Frame, w⟩) := fun w hw => by
      rw [Zj6 h.len h.num p1 hw h.fr]
      unfold daW stW
      simp only
      rw [show 16 * s + q.Frame - 16 * s = q.Frame by omega]
    rcases hw with rfl | rfl
    · exact key 3 ⟨by omega, by omega⟩
    · exact key q.Word ⟨by omega, by omega⟩
  exact ZdD (body := t2 (ZaK m L W)) (fun p => ∃ k : Nat, p.2 = (k : Int) ∧ k ≤ W.length ∧ (∀ y ∈ W.take k, ¬ Zng L s m.Version y) ∧ ∀ z, z ≤ p.1 ↔ z ≤ 3 ∧ ∀ y ∈ W.take k, z ≤ stW L s y) (fun p => W.length - p.2.toNat)
    (fun r => (r = .inl (0, 0) ∧ ∃ y ∈ W, Zng L s m.Version y) ∨ (∃ lm, r = .inr lm ∧ (∀ y ∈ W, ¬ Zng L s m.Version y) ∧ ∀ z, z ≤ lm ↔ z ≤ 3 ∧ ∀ y ∈ W, z ≤ stW L s y)) (by
    rintro ⟨a, i⟩ ⟨k, hi, hk, hb, hz⟩
    simp only at hi hz
    subst hi
    rw [Zaf]
    unfold ZaK
    rcases Nat.lt_or_ge k W.length with hlt | hge
    · obtain ⟨y, hy⟩ := ZU hlt
      have hyW := List.mem_of_getElem? hy
      have hg : ∃ x2, (gd ((!decide ((daW L s y, stW L s y).2 = 0)) == true) (api_Where.mk 0 0) (idx W (k : Int))) = some x2 ∧ (((!decide (stW L s y = 0)) && (decide (x2.Word = 3))) && (!decide (daW L s y = m.Version))) = (((!decide (stW L s y = 0)) && (decide (y.Word = 3))) && (!decide (daW L s y = m.Version))) := by
        by_cases h0 : stW L s y = 0
        · exact ⟨_, by simp only [h0, decide_true, Bool.not_true]; rfl, by simp [h0]⟩
        · exact ⟨y, by rw [ZD hy]; simp only [h0, decide_false, Bool.not_false]; rfl, rfl⟩
      obtain ⟨x2, g1, g2⟩ := hg
      rw [if_pos (by simp; omega), ZD hy, Option.bind_some, hword y hyW, Option.bind_some]
      rw [ZD hy] at g1
      rw [g1, Option.bind_some]
      simp only
      rw [g2]
      by_cases hbad : Zng L s m.Version y
      · right
        have : (((!decide (stW L s y = 0)) && (decide (y.Word = 3))) && (!decide (daW L s y = m.Version))) = true := by
          obtain ⟨b1, b2, b3⟩ := hbad
          simp [b1, b2, b3]
        rw [if_pos this]
        exact ⟨_, rfl, .inl ⟨rfl, y, hyW, hbad⟩⟩
      · left
        have : ¬ ((((!decide (stW L s y = 0)) && (decide (y.Word = 3))) && (!decide (daW L s y = m.Version))) = true) := by
          intro hc2
          apply hbad
          simp only [Bool.and_eq_true, Bool.not_eq_true', decide_eq_false_iff_not, decide_eq_true_eq] at hc2
          exact ⟨hc2.1.1, hc2.1.2, hc2.2⟩
        rw [if_neg this]
        refine ⟨_, rfl, ⟨k + 1, by rw [Qr (by omega) (by omega)]; push_cast; rfl, hlt, ?_, ?_⟩, by rw [Qr (by omega) (by omega)]; simp only; omega⟩
        · intro y' hy'
          rw [List.take_add_one, hy] at hy'
          rcases List.mem_append.1 hy' with h | h
          · exact hb y' h
          · have : y' = y := by simpa using h
            subst this; exact hbad
        · intro z
          simp only
          rw [Int.le_min, hz, List.take_add_one, hy]
          constructor
          · rintro ⟨⟨h1, h2⟩, h3⟩
            refine ⟨h1, fun y' hy' => ?_⟩
            rcases List.mem_append.1 hy' with h | h
            · exact h2 y' h
            · have : y' = y := by simpa using h
              subst this; exact h3
          · rintro ⟨h1, h2⟩
            exact ⟨⟨h1, fun y' hy' => h2 y' (List.mem_append_left _ hy')⟩, h2 y (List.mem_append_right _ (by simp))⟩
    · right
      rw [if_neg (by simp; omega)]
      rw [List.take_of_length_le hge] at hb hz
      exact ⟨_, rfl, .inr ⟨a, rfl, hb, hz⟩⟩) (3, 0) ⟨0, rfl, Nat.zero_le _, fun y hy => by simp at hy, fun z => by simp⟩
theorem ZkJ (L : List api_Rest) : ∀ (ps : List api_Place) (a z : Int), z ≤ Zfs L a ps ↔ z ≤ a ∧ ∀ q ∈ ps, z ≤ stP L q
  | [], a, z => by simp [Zfs]
  | q :: tl, a, z => by
    rw [Zfs, ZkJ L tl, Int.le_min]
    constructor
    · rintro ⟨⟨h1, h2⟩, h3⟩
      exact ⟨h1, fun q' hq' => by rcases List.mem_cons.1 hq' with rfl | h; exact h2; exact h3 q' h⟩
    · rintro ⟨h1, h2⟩
      exact ⟨⟨h1, h2 q List.mem_cons_self⟩, fun q' hq' => h2 q' (List.mem_cons_of_mem _ hq')⟩
end Go.Vx

namespace Go.Vx
open Go Go.RowKit
def Zmw (ver : Int) (p : api_Param) (L : List api_Rest) (ps : List api_Place) : Int × Int :=
  if Zfs L 3 ps = 0 ∨ ps.any (ZjF L ver) = true then (0, 0) else if (dec p ((Zgf L 0 ps : Nat) : Int)).2 = true then ((dec p ((Zgf L 0 ps : Nat) : Int)).1, Zfs L 3 ps + 1) else (0, 1)
def RSt (L : List api_Rest) : Prop := ∀ r ∈ L, ∀ i, i < 64 → 0 ≤ wd r.States i
theorem Zlh {L : List api_Rest} (h : RSt L) (f : Int) (i : Nat) (hi : i < 64) : 0 ≤ wd (Qv L f).States i := by
  unfold Qv
  cases hf : L.find? (fun r => decide (r.Number % 16 = f)) with
  | none =>
    have z1 : wd zr.States i = 0 := by
      show (Vector.replicate 64 (0 : Int)).toList.getD i 0 = 0
      rw [Vector.toList_replicate, List.getD_eq_getElem?_getD, List.getElem?_replicate]; split <;> rfl
    show 0 ≤ wd zr.States i
    rw [z1]; decide
  | some r => exact h r (List.mem_of_find?_eq_some hf) i hi
theorem Zn0 {L : List api_Rest} (h : RSt L) {ps : List api_Place} (hp : ∀ q ∈ ps, placeR q) : 0 ≤ Zfs L 3 ps ∧ Zfs L 3 ps ≤ 3 := by
  refine ⟨(ZkJ L ps 3 0).2 ⟨by decide, fun q hq => ?_⟩, ((ZkJ L ps 3 (Zfs L 3 ps)).1 (Int.le_refl _)).1⟩
  obtain ⟨_, p2, _⟩ := hp q hq
  unfold stP
  exact Int.le_min.2 ⟨Zlh h _ _ (by omega), Zlh h _ _ (by decide)⟩
theorem Zpd {p : api_Param} (hp : ParOK p) (L : List api_Rest) {c : api_Cell} (hb : (sB c.Places : Int) = bitsN p) : ((Zgf L 0 c.Places : Nat) : Int) < 2 * HH p := by
  have hlt := Zm0 L c.Places 0 0 (by decide)
  rw [Nat.zero_add] at hlt
  have e2 : (bitsN p).toNat = sB c.Places := by omega
  rw [← (Zk9 hp).2.2, e2]
  have : ((2 ^ sB c.Places : Nat) : Int) = (2 : Int) ^ sB c.Places := by push_cast; rfl
  omega
theorem Zq2 {z : Int} (h0 : 0 ≤ z) (h1 : z ≤ 3) (hz : z ≠ 0) : (JX kqI ([(1, 2), (2, 3), (3, 4)] : List (Int × Int)) z).getD 0 = z + 1 := by
  have : z = 1 ∨ z = 2 ∨ z = 3 := by omega
  rcases this with rfl | rfl | rfl <;> decide
theorem ZqN {L : List api_Rest} {s : Int} (h : SecOK L s) (hst : RSt L) {m : api_Map} {p : api_Param} (hp : ParOK p) {c : api_Cell} (hc : CellR c) (hb : (sB c.Places : Int) = bitsN p) :
    J9 m p c (ZhQ L) = some (Zmw m.Version p L c.Places) := by
  obtain ⟨l0, l3⟩ := Zn0 hst hc.pl
  unfold J9 Zmw
  rw [ZnC h hc, Option.bind_some, Ziv]
  by_cases hz : Zfs L 3 c.Places = 0 ∨ c.Places.any (ZjF L m.Version) = true
  · rw [if_pos hz, if_pos (by rw [Bool.or_eq_true, decide_eq_true_eq]; exact hz)]
  · rw [if_neg hz, if_neg (by rw [Bool.or_eq_true, decide_eq_true_eq]; exact hz)]
    unfold Zch
    rw [ZnL hp (Int.natCast_nonneg _) (Zpd hp L hb), Option.bind_some, Option.bind_some]
    simp only
    rw [Zq2 l0 l3 (fun e => hz (.inl e)), Option.bind_some]
    cases (dec p ((Zgf L 0 c.Places : Nat) : Int)).2 <;> simp
theorem ZqV {p : api_Param} (hs : Xg p) (hq : ZeD p = 0) {raw : Int} (r0 : 0 ≤ raw) (r1 : raw < 2 * HH p) : ZbW p raw = some ((dec p raw).1, (dec p raw).2, 0) := by
  have hp := ZgC hq
  obtain ⟨hH1, hH2, hH3⟩ := Zk9 hp
  have hb := hp.bits
  unfold ZbW
  rw [Zgl p hs, Option.bind_some, if_neg (by simp [hq]), Zis, ZgM hp.len, Option.bind_some, ZnT (by omega) (by omega), Option.bind_some, hH3, ZZ (by omega) (by omega), Zdz, Option.bind_some]
  have hw : wiL raw 0 (2 * HH p - 1) = true := Zhe.2 ⟨r0, by omega⟩
  rw [if_neg (by simp [hw]), Znw hp r0 r1]; rfl
theorem Zny {L : List api_Rest} {s : Int} (h : SecOK L s) (hst : RSt L) (hs : 0 ≤ s ∧ s ≤ 300000) {m : api_Map} {p : api_Param} (hw : Xg p) (hq : ZeD p = 0) {c : api_Cell} (hc : CellR c) (hb : (sB c.Places : Int) = bitsN p) (hi : idx m.Params c.Param = some p) :
    ZcU m c (16 * s) L = some (Zmw m.Version p L c.Places) := by
  obtain ⟨l0, l3⟩ := Zn0 hst hc.pl
  have hp := ZgC hq
  unfold ZcU
  obtain ⟨W, hW, hm, hl⟩ := Znn hc (first := 16 * s) (by omega)
  obtain ⟨r, hr, hcase⟩ := Zqf h hs hc m hm hl
  rw [hW, Option.bind_some, hr, Option.bind_some]
  have st3 : ∀ q : api_Place, stW L s ⟨16 * s + q.Frame, 3⟩ = wd (Qv L q.Frame).States 3 ∧ daW L s ⟨16 * s + q.Frame, 3⟩ = wd (Qv L q.Frame).Frame 3 % 2048 ∧ stW L s ⟨16 * s + q.Frame, q.Word⟩ = wd (Qv L q.Frame).States q.Word.toNat := fun q => by
    unfold stW daW
    simp only
    rw [show 16 * s + q.Frame - 16 * s = q.Frame by omega]
    exact ⟨rfl, rfl, rfl⟩
  have zz : ∀ z, (∀ y ∈ W, z ≤ stW L s y) ↔ ∀ q ∈ c.Places, z ≤ stP L q := fun z => by
    constructor
    · intro hy q hq2
      unfold stP
      exact Int.le_min.2 ⟨by have := hy _ ((hm _).2 ⟨q, hq2, .inr rfl⟩); rwa [(st3 q).2.2] at this, by have := hy _ ((hm _).2 ⟨q, hq2, .inl rfl⟩); rwa [(st3 q).1] at this⟩
    · intro hy y hyW
      obtain ⟨q, hq2, hwq⟩ := (hm y).1 hyW
      have := Int.le_min.1 (hy q hq2)
      rcases hwq with rfl | rfl
      · rw [(st3 q).1]; exact this.2
      · rw [(st3 q).2.2]; exact this.1
  rcases hcase with ⟨rfl, y, hyW, b1, b2, b3⟩ | ⟨lm, rfl, hnb, hz⟩
  · have hold : c.Places.any (ZjF L m.Version) = true := by
      obtain ⟨q, hq2, hwq⟩ := (hm y).1 hyW
      refine List.any_eq_true.2 ⟨q, hq2, ?_⟩
      unfold ZjF
      have hd : daW L s y = wd (Qv L q.Frame).Frame 3 % 2048 := by
        rcases hwq with rfl | rfl
        · exact (st3 q).2.1
        · have : q.Word = 3 := b2
          rw [this]; exact (st3 q).2.1
      rw [hd] at b3
      simpa using b3
    unfold Zmw
    rw [if_pos (.inr hold)]
    rfl
  · have hlm : lm = Zfs L 3 c.Places := by
      have e : ∀ z, z ≤ lm ↔ z ≤ Zfs L 3 c.Places := fun z => by rw [hz, ZkJ, zz]
      have h1 := (e lm).1 (Int.le_refl _)
      have h2 := (e (Zfs L 3 c.Places)).2 (Int.le_refl _)
      omega
    show (if decide (lm = 0) = true then some (0, 0) else (loop (t2 (XV c (16 * s) L)) (0, 0)).bind (t1 fun (raw : Int) => (idx m.Params c.Param).bind fun x4 => (ZbW x4 raw).bind fun y4 => if (!y4.2.1) = true then some (0, 1) else some (y4.1, i64 (lm + 1)))) = _
    unfold Zmw
    by_cases h0 : lm = 0
    · rw [if_pos (by simpa using h0), if_pos (.inl (by omega))]
    · have hold : ¬ c.Places.any (ZjF L m.Version) = true := by
        intro ha
        obtain ⟨q, hq2, ho⟩ := List.any_eq_true.1 ha
        unfold ZjF at ho
        have ho : ¬ wd (Qv L q.Frame).Frame 3 % 2048 = m.Version := by simpa using ho
        have hyW := (hm ⟨16 * s + q.Frame, 3⟩).2 ⟨q, hq2, .inl rfl⟩
        apply hnb _ hyW
        refine ⟨?_, rfl, by rw [(st3 q).2.1]; exact ho⟩
        have h1 : 1 ≤ lm := by omega
        have := ((hz 1).1 h1).2 _ hyW
        omega
      rw [if_neg (by simpa using h0), if_neg (fun hh => hh.elim (fun e => h0 (by omega)) hold), ZnG h hs hc, Option.bind_some, JA, hi, Option.bind_some, ZqV hw hq (Int.natCast_nonneg _) (Zpd hp L hb), Option.bind_some]
      simp only
      rw [hlm, Qr (by omega) (by omega)]
      cases (dec p ((Zgf L 0 c.Places : Nat) : Int)).2 <;> simp
end Go.Vx

namespace Go.Vx
open Go Go.RowKit
theorem ZqM {l : List api_Rest} (h : ∀ k, k + 1 < l.length → (l.getD k zr).Number < (l.getD (k + 1) zr).Number) : l.Pairwise fun a b => a.Number < b.Number := by
  rw [List.pairwise_iff_getElem]
  intro i j hi hj hij
  have g : ∀ k (hk : k < l.length), l.getD k zr = l[k] := fun k hk => by rw [List.getD_eq_getElem?_getD, List.getElem?_eq_getElem hk]; rfl
  have key : ∀ d, ∀ (hd : i + d + 1 < l.length), l[i].Number < l[i + d + 1].Number := by
    intro d
    induction d with
    | zero => intro hd; have := h i hd; rw [g _ hi, g _ hd] at this; exact this
    | succ d ih =>
      intro hd
      have h1 := ih (by omega)
      have h2 := h (i + d + 1) (by omega)
      rw [g _ (by omega), g _ (by omega)] at h2
      exact Int.lt_trans h1 h2
  have := key (j - i - 1) (by omega)
  have e : i + (j - i - 1) + 1 = j := by omega
  simp only [e] at this
  exact this
theorem ZlO {r : api_Rest} (h : Zer r = 0) : (0 ≤ r.Number ∧ r.Number ≤ 4194303) ∧ stF r = none := by
  unfold Zer at h
  split at h
  · cases h
  · refine ⟨by omega, ?_⟩
    cases hf : stF r with
    | none => rfl
    | some e =>
      rw [hf] at h
      exfalso
      have h : e = 0 := h
      subst h
      unfold stF at hf
      obtain ⟨k, _, hk⟩ := List.exists_of_findSome?_eq_some hf
      unfold stE at hk
      split at hk
      · cases hk
      · split at hk <;> cases hk
theorem Zpp {l : List api_Rest} (hw : ∀ r ∈ l, XM r) : ∃ e : Int, Jq l = some e ∧ Zaj l = some e ∧ (e = 0 → RSrt l ∧ ∀ r ∈ l, Zer r = 0) := by
  have hU : ∀ r ∈ l, fU r.Frame := fun r hr => Zqm (hw r hr).2.1
  have e1 : J5 l = Qe l := by
    funext i
    unfold J5 Qe
    split
    · cases hx : idx l i with
      | none => rfl
      | some x =>
        have hm := List.mem_of_getElem? (ZfA hx).2
        rw [Option.bind_some, Option.bind_some, ZhT (hU x hm), Zkf (hU x hm)]
    · rfl
  have e2 : ZbI l = Qc l := rfl
  unfold Jq Zaj
  rw [e1, e2]
  by_cases h5 : (5000 : Int) < (l.length : Int)
  · rw [if_pos (by simpa using h5)]
    exact ⟨3, rfl, rfl, fun h => by omega⟩
  · rw [if_neg (by simpa using h5)]
    have g : ∀ {k x}, l[k]? = some x → l.getD k zr = x := fun {k x} h => by rw [List.getD_eq_getElem?_getD, h]; rfl
    have L1 := ZbR (body := t1 (Qe l)) (fun k => (k : Int)) (fun k => if Zer (l.getD k zr) = 0 then none else some (Zer (l.getD k zr))) (fun e => (.inl e : Int ⊕ Unit)) (.inr ()) (b := l.length) (fun k hk => by
      obtain ⟨x, hx⟩ := ZU hk
      have eb : Qe l (k : Int) = if (!decide (Zer x = 0)) = true then some (.inr (.inl (Zer x))) else some (.inl ((k : Int) + 1)) := by
        unfold Qe
        rw [if_pos (by simp; omega), ZD hx, Option.bind_some, ZhT (hU x (List.mem_of_getElem? hx)), Option.bind_some, Qr (by omega) (by omega)]
      rw [JA, eb, g hx]
      by_cases hc : Zer x = 0
      · exact .inr ⟨by rw [if_pos hc], by rw [if_neg (by simp [hc])]; push_cast; rfl⟩
      · exact .inl ⟨_, by rw [if_neg hc], by rw [if_pos (by simp [hc])]⟩) (by
      rw [JA]
      unfold Qe
      rw [if_neg (by simp)])
    rw [show loop (t1 (Qe l)) 0 = _ from L1, Option.bind_some]
    cases hf : (List.range' 0 l.length).findSome? (fun k => if Zer (l.getD k zr) = 0 then none else some (Zer (l.getD k zr))) with
    | some e =>
      refine ⟨e, rfl, rfl, fun h0 => ?_⟩
      obtain ⟨k, _, hk⟩ := List.exists_of_findSome?_eq_some hf
      split at hk
      · cases hk
      · rename_i hne
        cases hk
        exact (hne h0).elim
    | none =>
      have hall : ∀ r ∈ l, Zer r = 0 := fun r hr => by
        obtain ⟨k, hk⟩ := List.getElem?_of_mem hr
        have := ZeO hf k (List.getElem?_eq_some_iff.1 hk).1
        rw [g hk] at this
        split at this
        · assumption
        · cases this
      have L2 := ZbR (body := t1 (Qc l)) (fun k => (k : Int) + 1) (fun k => if (l.getD (k + 1) zr).Number ≤ (l.getD k zr).Number then some (10 : Int) else none) (fun e => (.inl e : Int ⊕ Unit)) (.inr ()) (b := l.length - 1) (fun k hk => by
        obtain ⟨x, hx⟩ := ZU (xs := l) (k := k) (by omega)
        obtain ⟨y, hy⟩ := ZU (xs := l) (k := k + 1) (by omega)
        have eb : Qc l ((k : Int) + 1) = if decide (y.Number ≤ x.Number) = true then some (.inr (.inl 10)) else some (.inl ((k : Int) + 1 + 1)) := by
          unfold Qc
          rw [if_pos (by simp; omega), show (k : Int) + 1 = ((k + 1 : Nat) : Int) by push_cast; rfl, ZD hy, Option.bind_some, Qr (z := ((k + 1 : Nat) : Int) - 1) (by omega) (by omega), show ((k + 1 : Nat) : Int) - 1 = (k : Int) by omega, ZD hx, Option.bind_some, Qr (by omega) (by omega)]
        rw [JA, eb, g hx, g hy]
        by_cases hc : y.Number ≤ x.Number
        · exact .inl ⟨_, by rw [if_pos hc], by rw [if_pos (by simpa using hc)]⟩
        · exact .inr ⟨by rw [if_neg hc], by rw [if_neg (by simpa using hc)]; push_cast; rfl⟩) (by
        rw [JA]
        unfold Qc
        rw [if_neg (by simp; omega)])
      show ∃ e, ((loop (t1 (Qc l)) 1).bind _ = some e) ∧ ((loop (t1 (Qc l)) 1).bind _ = some e) ∧ _
      have e01 : ((0 : Nat) : Int) + 1 = 1 := rfl
      rw [e01] at L2
      rw [L2, Option.bind_some]
      cases hf2 : (List.range' 0 (l.length - 1)).findSome? (fun k => if (l.getD (k + 1) zr).Number ≤ (l.getD k zr).Number then some (10 : Int) else none) with
      | some e =>
        refine ⟨e, rfl, rfl, fun h0 => ?_⟩
        obtain ⟨k, _, hk⟩ := List.exists_of_findSome?_eq_some hf2
        split at hk
        · cases hk; omega
        · cases hk
      | none =>
        refine ⟨0, rfl, rfl, fun _ => ⟨⟨by omega, fun r hr => (ZlO (hall r hr)).1, ZqM fun k hk => ?_⟩, hall⟩⟩
        have := ZeO hf2 k (by omega)
        split at this
        · cases this
        · omega
theorem ZoS {l : List api_Rest} (h : RSrt l) (hw : ∀ r ∈ l, XM r) (s : Int) : SecOK (Zfn l s) s where
  num := fun r hr => by have := ZiA h hr; exact ⟨this.1, this.2.1⟩
  srt := Zpc h s
  fr := fun r hr => Zqm (hw r (ZiA h hr).2.2).2.1
  len := by
    have := h.len
    unfold Zfn
    rw [List.length_drop, List.length_take]; omega
theorem ZoD {l : List api_Rest} (h : RSrt l) (hc : ∀ r ∈ l, Zer r = 0) (s : Int) : RSt (Zfn l s) := fun r hr i hi => (Zfp (ZlO (hc r (ZiA h hr).2.2)).2 i hi).1
theorem Zp8 (m : api_Map) (hl : m.Params.length ≤ 200) (name : Str) : ∃ y : Int, ZH m.Params (fun z0 => QO z0 name) = some y ∧ Zdv m name = some y ∧ (y < 0 ∨ ∃ (j : Nat) (p : api_Param), y = (j : Int) ∧ m.Params[j]? = some p) := by
  have e1 : Zd3 m name = Zz m.Params (fun z0 => QO z0 name) := rfl
  unfold ZH Zdv
  rw [e1]
  obtain ⟨r, hr, hq⟩ := ZdD (body := t1 (Zz m.Params (fun z0 => QO z0 name))) (fun i => ∃ k : Nat, i = k ∧ k ≤ m.Params.length) (fun i => m.Params.length - i.toNat)
    (fun r => r = .inr () ∨ ∃ (j : Nat) (p : api_Param), r = .inl (j : Int) ∧ m.Params[j]? = some p) (by
    rintro i ⟨k, rfl, hk⟩
    rw [JA]
    unfold Zz QO
    rcases Nat.lt_or_ge k m.Params.length with hlt | hge
    · obtain ⟨x, hx⟩ := ZU hlt
      rw [if_pos (by simp; omega), ZD hx, Option.bind_some, Option.bind_some, Qr (by omega) (by omega)]
      split
      · exact .inr ⟨_, rfl, .inr ⟨k, x, rfl, hx⟩⟩
      · exact .inl ⟨_, rfl, ⟨k + 1, by push_cast; rfl, hlt⟩, by omega⟩
    · rw [if_neg (by simp; omega)]
      exact .inr ⟨_, rfl, .inl rfl⟩) 0 ⟨0, rfl, Nat.zero_le _⟩
  rw [hr, Option.bind_some]
  rcases hq with rfl | ⟨j, p, rfl, hp⟩
  · exact ⟨-1, rfl, rfl, .inl (by decide)⟩
  · exact ⟨j, rfl, rfl, .inr ⟨j, p, rfl, hp⟩⟩
def ZoX (n : Int) (c : api_Cell) : api_Cell := ⟨n, c.Index, c.Frame, c.Places⟩
theorem ZiN (n : Int) (p : api_Param) : cellsN n p = (cellsN 0 p).map (ZoX n) := by
  have key : ∀ (fs : List Int) (out : List api_Cell), fs.foldl (ZcW n p) (out.map (ZoX n)) = (fs.foldl (ZcW 0 p) out).map (ZoX n) := by
    intro fs
    induction fs with
    | nil => intro out; rfl
    | cons f tl ih =>
      intro out
      rw [List.foldl_cons, List.foldl_cons, ← ih]
      congr 1
      unfold ZcW
      rw [List.map_append, List.map_map, List.length_map]
      rfl
  exact key (J6 p) []
theorem Zj1 : ∀ (l : List api_Param) (k j : Nat) {x : api_Param}, (∀ y ∈ l, ParOK y) → l[j]? = some x → ((allC k l).filter fun c => decide (c.Param = ((k + j : Nat) : Int))) = cellsN ((k + j : Nat) : Int) x
  | [], _, _, _, _, h => by simp at h
  | y :: tl, k, j, x, hp, h => by
    have hy := hp y List.mem_cons_self
    have htl : ∀ z ∈ tl, ParOK z := fun z hz => hp z (List.mem_cons_of_mem _ hz)
    rw [allC, List.filter_append]
    cases j with
    | zero =>
      have hyx : y = x := by simpa using h
      subst hyx
      have h1 : (cellsN (k : Int) y).filter (fun c => decide (c.Param = ((k + 0 : Nat) : Int))) = cellsN (k : Int) y := by
        rw [List.filter_eq_self]
        intro c hc
        have := (Zf1 hy (k : Int) c hc).2
        simpa using this
      have h2 : (allC (k + 1) tl).filter (fun c => decide (c.Param = ((k + 0 : Nat) : Int))) = [] := by
        rw [List.filter_eq_nil_iff]
        intro c hc hcp
        obtain ⟨j, z, hz, hcz⟩ := Znb (k + 1) tl htl c hc
        have := (Zf1 (htl z (List.mem_of_getElem? hz)) _ c hcz).2
        simp only [decide_eq_true_eq] at hcp
        omega
      rw [h1, h2, List.append_nil]; rfl
    | succ j =>
      have h1 : (cellsN (k : Int) y).filter (fun c => decide (c.Param = ((k + (j + 1) : Nat) : Int))) = [] := by
        rw [List.filter_eq_nil_iff]
        intro c hc hcp
        have := (Zf1 hy (k : Int) c hc).2
        simp only [decide_eq_true_eq] at hcp
        omega
      have h2 := Zj1 tl (k + 1) j htl (by simpa using h)
      rw [h1, List.nil_append]
      rw [show k + (j + 1) = k + 1 + j by omega]
      exact h2
theorem Zot {p : api_Param} (hp : ParOK p) {c : api_Cell} (hc : c ∈ cellsN 0 p) : CellR c ∧ (sB c.Places : Int) = bitsN p := by
  obtain ⟨i, f, t, h3, h4, rfl⟩ := Zgo hc
  have key : ∀ ps : List api_Part, (∀ y ∈ ps, Zda y = true) → ((sB (ps.map (Zdy p f t)) : Nat) : Int) = (ps.map (·.Bits)).sum := by
    intro ps
    induction ps with
    | nil => intro _; rfl
    | cons y ps ih =>
      intro hy
      have := Zbu.1 (hy y List.mem_cons_self)
      have ih := ih fun z hz => hy z (List.mem_cons_of_mem _ hz)
      have e : sB ((y :: ps).map (Zdy p f t)) = y.Bits.toNat + sB (ps.map (Zdy p f t)) := by simp [sB, Zdy]
      rw [e, List.map_cons, List.sum_cons]
      push_cast
      omega
  have hsB : (sB (Zci 0 p i f t).Places : Int) = bitsN p := key _ hp.len.2
  have hb := hp.bits
  have h8 := hp.len.1
  exact ⟨⟨by simpa [Zci] using h8, fun q hq => Zob hp h3 h4 hq, by omega⟩, hsB⟩
theorem ZpG {m : api_Map} (h : Zd9 m = 0) {j : Nat} {x : api_Param} (hx : m.Params[j]? = some x) : ZeD x = 0 := by
  unfold Zd9 at h
  by_cases h1 : wiL m.Version 0 2047 = true
  case neg => rw [if_neg h1] at h; cases h
  rw [if_pos h1] at h
  by_cases h2 : m.Params.length ≤ 200
  case neg => rw [if_neg h2] at h; cases h
  rw [if_pos h2] at h
  have key : ∀ (l : List api_Param) (k : Nat) (tl : List api_Param), (∀ e, Z5 (g1M l) k tl = some e → e.2 = 0) → ∀ (j : Nat) (x : api_Param), tl[j]? = some x → ZeD x = 0 := by
    intro l k tl
    induction tl generalizing k with
    | nil => intro _ j x h; simp at h
    | cons y tl ih =>
      intro he j x hx
      simp only [Z5] at he
      cases hg : g1M l k y with
      | some e' =>
        rw [hg] at he
        have := he e' rfl
        unfold g1M at hg
        split at hg
        · split at hg
          · cases hg; cases this
          · cases hg
        · rename_i hne
          cases hg
          exact (hne this).elim
      | none =>
        rw [hg] at he
        have hy : ZeD y = 0 := by
          unfold g1M at hg
          split at hg
          · assumption
          · cases hg
        cases j with
        | zero => have : y = x := by simpa using hx
                  subst this; exact hy
        | succ j => exact ih (k + 1) he j x (by simpa using hx)
  refine key m.Params 0 m.Params (fun e he => ?_) j x hx
  rw [he] at h
  exact h
end Go.Vx

namespace Go.Vx
open Go Go.RowKit
end Go.Vx

namespace Go.Vx
open Go Go.RowKit
end Go.Vx

namespace Go.Vx
open Go Go.RowKit
def bad (e : Int) : api_Series × Int := (⟨0, []⟩, e)
end Go.Vx

namespace Go.Vx
open Go Go.RowKit
abbrev Lin := api_Line
def Zb8 (p : Option Lin) (x : Lin) : Option Int :=
  if !(wi x.From (-1099511627776) 1099511627776 && wi x.To (-1099511627776) 1099511627776 && decide (x.From ≤ x.To) && wi x.A_ (-1048576) 1048576 && wi x.B (-1125899906842624) 1125899906842624) then some 9 else
  match p with | none => none | some q => if x.From ≤ q.To then some 10 else none
theorem ZqT (c : api_Calibration) (h : (c.Lines.length : Int) ≤ 50) : loop (t1 (ZT c)) 0 = some (Jy (fun e => Sum.inl e) (Sum.inr ()) (Zhv Zb8 none c.Lines)) := by
  refine ZoC (xs := c.Lines) (body := ZT c) Zb8 (fun e => Sum.inl e) (Sum.inr ()) (fun k x hx => ?_) (by simp [ZT])
  have hlt := QU hx
  simp only [ZT, ZD hx, hlt, decide_true, if_true, Option.bind_some, Zbs]
  unfold Zb8
  have e1 : i64 ((k : Int) + 1) = (k : Int) + 1 := Q2 (by omega) (by omega)
  have e2 : i64 ((k : Int) - 1) = (k : Int) - 1 := Q2 (by omega) (by omega)
  rw [e1, e2]
  by_cases h3 : x.To < x.From
  · have h3' : ¬ x.From ≤ x.To := by omega
    cases wi x.From (-1099511627776) 1099511627776 <;> cases wi x.To (-1099511627776) 1099511627776 <;> simp [h3, h3']
  · have h3' : x.From ≤ x.To := by omega
    rcases Nat.eq_zero_or_pos k with rfl | hk
    · cases wi x.From (-1099511627776) 1099511627776 <;> cases wi x.To (-1099511627776) 1099511627776 <;> cases wi x.A_ (-1048576) 1048576 <;> cases wi x.B (-1125899906842624) 1125899906842624 <;> simp [h3, h3', Zh6]
    · obtain ⟨y, hy, hp, hi⟩ := ZnU (xs := c.Lines) hk (by omega)
      have hk' : (0 : Int) < k := by omega
      rw [hp, hi]
      by_cases h4 : x.From ≤ y.To <;> cases wi x.From (-1099511627776) 1099511627776 <;> cases wi x.To (-1099511627776) 1099511627776 <;> cases wi x.A_ (-1048576) 1048576 <;> cases wi x.B (-1125899906842624) 1125899906842624 <;> simp [h3, h3', hk, hk', h4]
theorem ZpL (c : api_Calibration) : Xh c = ZT c := by
  funext i
  simp only [Xh, ZT, Zdq, Zbs, Option.bind_some]
  congr 1
  congr 1
  funext x
  cases wi x.From (-1099511627776) 1099511627776 <;> cases wi x.To (-1099511627776) 1099511627776 <;> cases wi x.A_ (-1048576) 1048576 <;> cases wi x.B (-1125899906842624) 1125899906842624 <;> by_cases h : x.To < x.From <;> simp [h]
def num (x : Lin) (v : Int) : Int := i64 (i64 (x.A_ * v) + x.B)
def Zi2 (x : Lin) : Option Int := if wi (num x x.From) (-1125899906842624) 1125899906842624 && wi (num x x.To) (-1125899906842624) 1125899906842624 then none else some 9
theorem ZqK (c : api_Calibration) (h : (c.Lines.length : Int) ≤ 50) : loop (t1 (ZS c)) 0 = some (Jy (fun e => Sum.inl e) (Sum.inr ()) (Zai Zi2 c.Lines)) := by
  refine Zet (xs := c.Lines) (body := ZS c) Zi2 (fun e => Sum.inl e) (Sum.inr ()) (fun k x hx => ?_) (by simp [ZS])
  have hlt := QU hx
  simp only [ZS, ZD hx, hlt, decide_true, if_true, Option.bind_some, Zbs, XP]
  unfold Zi2 num
  have e1 : i64 ((k : Int) + 1) = (k : Int) + 1 := Q2 (by omega) (by omega)
  rw [e1]
  cases h1 : wi (i64 (i64 (x.A_ * x.From) + x.B)) (-1125899906842624) 1125899906842624 <;> cases h2 : wi (i64 (i64 (x.A_ * x.To) + x.B)) (-1125899906842624) 1125899906842624 <;> simp [h1, h2]
theorem ZpV (c : api_Calibration) : Xd c = ZS c := by
  funext i
  simp only [Xd, ZS, Zdq, Zbs, Option.bind_some, XP]
  congr 1
  congr 1
  funext x
  cases h1 : wi (i64 (i64 (x.A_ * x.From) + x.B)) (-1125899906842624) 1125899906842624 <;> cases h2 : wi (i64 (i64 (x.A_ * x.To) + x.B)) (-1125899906842624) 1125899906842624 <;> simp [h1, h2]
def ZhO (c : api_Calibration) : Int :=
  if !(wi c.Den 1 1000000) then 9 else if c.Lines.length = 0 then 13 else if 50 < c.Lines.length then 3 else
  (match Zhv Zb8 none c.Lines with
   | some e => e
   | none => (match Zai Zi2 c.Lines with
     | some e => e
     | none => if !(wi c.Low (-1125899906842624) 1125899906842624 && wi c.High (-1125899906842624) 1125899906842624 && decide (c.Low ≤ c.High)) then 9 else 0))
theorem Zja (c : api_Calibration) : Qt c = some (ZhO c) := by
  unfold Qt ZhO
  simp only [Zbs, Option.bind_some]
  cases h1 : wi c.Den 1 1000000 with
  | false => simp
  | true =>
    by_cases h2 : c.Lines.length = 0
    · simp [h2]
    · have h2' : ¬ (c.Lines.length : Int) = 0 := by omega
      by_cases h3 : 50 < c.Lines.length
      · have h3' : (50 : Int) < c.Lines.length := by omega
        simp [h2, h2', h3, h3']
      · have h3' : ¬ (50 : Int) < c.Lines.length := by omega
        rw [ZqT c (by omega), ZqK c (by omega)]
        cases Zhv Zb8 none c.Lines with
        | some e => simp [h2, h2', h3, h3']
        | none =>
          cases Zai Zi2 c.Lines with
          | some e => simp [h2, h2', h3, h3']
          | none =>
            by_cases h4 : c.High < c.Low
            · have h4' : ¬ c.Low ≤ c.High := by omega
              cases wi c.Low (-1125899906842624) 1125899906842624 <;> cases wi c.High (-1125899906842624) 1125899906842624 <;> simp [h2, h2', h3, h3', h4, h4']
            · have h4' : c.Low ≤ c.High := by omega
              cases wi c.Low (-1125899906842624) 1125899906842624 <;> cases wi c.High (-1125899906842624) 1125899906842624 <;> simp [h2, h2', h3, h3', h4, h4']
theorem ZlH (c : api_Calibration) : Q6 c = some (ZhO c) := by
  rw [← Zja]
  unfold Q6 Qt
  simp only [ZpL, ZpV, Zbs, Zdq, Option.bind_some]
  cases wi c.Low (-1125899906842624) 1125899906842624 <;> cases wi c.High (-1125899906842624) 1125899906842624 <;> simp
theorem Zn9 {c : api_Calibration} (h : ZhO c = 0) : (c.Lines.length ≤ 50) ∧ (∀ (k : Nat) x, c.Lines[k]? = some x → x.From ≤ x.To) ∧ ∀ (i j : Nat) x y, i < j → c.Lines[i]? = some x → c.Lines[j]? = some y → x.To < y.From := by
  unfold ZhO at h
  split at h
  · cases h
  · split at h
    · cases h
    · split at h
      · cases h
      · rename_i h3
        cases he : Zhv Zb8 none c.Lines with
        | some e =>
          rw [he] at h
          simp only at h
          exfalso
          subst h
          have : ∀ (p : Option Lin) xs, Zhv Zb8 p xs ≠ some 0 := by
            intro p xs
            induction xs generalizing p with
            | nil => simp [Zhv]
            | cons x tl ih =>
              simp only [Zhv]
              cases hl : Zb8 p x with
              | none => exact ih _
              | some e =>
                simp only [Zb8] at hl
                split at hl
                · cases hl; simp
                · cases p with
                  | none => cases hl
                  | some q =>
                    simp only at hl
                    split at hl
                    · cases hl; simp
                    · cases hl
          exact this _ _ he
        | none =>
          have hn := ZjV he
          have h1 : ∀ (k : Nat) x, c.Lines[k]? = some x → x.From ≤ x.To := by
            intro k x hx
            have := hn k x hx
            simp only [Zb8] at this
            split at this
            · cases this
            · rename_i hb
              simp only [Bool.not_eq_true', Bool.not_eq_false, Bool.and_eq_true, decide_eq_true_iff] at hb
              exact hb.1.1.2
          have h2 : ∀ (k : Nat) x y, c.Lines[k]? = some x → c.Lines[k + 1]? = some y → x.To < y.From := by
            intro k x y hx hy
            have := hn (k + 1) y hy
            rw [if_neg (by omega)] at this
            rw [show k + 1 - 1 = k by omega, hx] at this
            simp only [Zb8] at this
            split at this
            · cases this
            · split at this
              · cases this
              · omega
          refine ⟨by omega, h1, ?_⟩
          intro i j x y hij hx hy
          obtain ⟨d, rfl⟩ : ∃ d, j = i + 1 + d := ⟨j - i - 1, by omega⟩
          induction d generalizing y with
          | zero => exact h2 i x y hx (by simpa using hy)
          | succ d ih =>
            obtain ⟨z, hz⟩ := ZU (xs := c.Lines) (k := i + 1 + d) (by have := (List.getElem?_eq_some_iff.1 hy).1; omega)
            have e1 := ih z (by omega) hz
            have e2 := h2 (i + 1 + d) z y hz (by simpa [Nat.add_assoc] using hy)
            have e3 := h1 _ z hz
            omega
def hit (c : api_Calibration) (v : Int) (x : Lin) : Option (Int × Bool) := if wi v x.From x.To && wi (num x v) c.Low c.High then some (num x v, true) else none
def Zjr (c : api_Calibration) (v : Int) : Int × Bool := (Zai (hit c v) c.Lines).getD (0, false)
theorem ZpK (c : api_Calibration) (v : Int) (h : c.Lines.length ≤ 50) : Zb9 c v = some (Zjr c v) := by
  unfold Zb9 Zjr
  rw [Zet (xs := c.Lines) (body := Zac c v) (hit c v) (fun e => Sum.inl e) (Sum.inr ()) (fun k x hx => ?_) (by simp [Zac])]
  · cases Zai (hit c v) c.Lines <;> simp
  · have hlt := QU hx
    simp only [Zac, ZD hx, hlt, decide_true, if_true, Option.bind_some, Zbs, XP]
    unfold hit num
    have e1 : i64 ((k : Int) + 1) = (k : Int) + 1 := Q2 (by omega) (by omega)
    rw [e1]
    cases h1 : wi v x.From x.To <;> cases h2 : wi (i64 (i64 (x.A_ * v) + x.B)) c.Low c.High <;> simp [h1, h2]
def ZnQ (c : api_Calibration) (v : Int) (x : Lin) : Option (Int × Bool) := if wi v x.From x.To then some (if wi (num x v) c.Low c.High then (num x v, true) else (0, false)) else none
theorem ZoF {c : api_Calibration} (v : Int) (h : ZhO c = 0) : ZcD c v = some (Zjr c v) := by
  obtain ⟨hl, h1, h2⟩ := Zn9 h
  have hr : ZcD c v = some ((Zai (ZnQ c v) c.Lines).getD (0, false)) := by
    unfold ZcD
    rw [Zet (xs := c.Lines) (body := Zbp c v) (ZnQ c v) (fun e => Sum.inl e) (Sum.inr ()) (fun k x hx => ?_) (by simp [Zbp])]
    · cases Zai (ZnQ c v) c.Lines <;> simp
    · have hlt := QU hx
      simp only [Zbp, ZD hx, hlt, decide_true, if_true, Option.bind_some, Zdq]
      unfold ZnQ num
      have e1 : i64 ((k : Int) + 1) = (k : Int) + 1 := Q2 (by omega) (by omega)
      rw [e1]
      have e2 : (decide (x.From ≤ v) && decide (v ≤ x.To)) = wi v x.From x.To := rfl
      rw [e2]
      cases h1 : wi v x.From x.To <;> cases h2 : wi (i64 (i64 (x.A_ * v) + x.B)) c.Low c.High <;> simp [h1, h2]
  rw [hr]
  unfold Zjr
  congr 1
  have key : ∀ xs : List Lin, (∀ (i j : Nat) x y, i < j → xs[i]? = some x → xs[j]? = some y → x.To < y.From) → (Zai (ZnQ c v) xs).getD (0, false) = (Zai (hit c v) xs).getD (0, false) := by
    intro xs
    induction xs with
    | nil => intro _; rfl
    | cons x tl ih =>
      intro hs
      simp only [Zai, ZnQ, hit]
      cases e1 : wi v x.From x.To with
      | false =>
        simp only [Bool.false_and, Bool.false_eq_true, if_false]
        exact ih fun i j a b hij ha hb => hs (i + 1) (j + 1) a b (by omega) (by simpa using ha) (by simpa using hb)
      | true =>
        cases e2 : wi (num x v) c.Low c.High with
        | true => simp
        | false =>
          simp only [Bool.and_false, Bool.false_eq_true, if_true, if_false, Option.getD_some]
          have : ∀ ys : List Lin, (∀ y ∈ ys, x.To < y.From) → Zai (hit c v) ys = none := by
            intro ys
            induction ys with
            | nil => intro _; rfl
            | cons y tl ih =>
              intro hy
              have h3 := hy y (by simp)
              simp only [ZiR] at e1
              have : wi v y.From y.To = false := by
                cases hw : wi v y.From y.To with
                | false => rfl
                | true => simp only [ZiR] at hw; omega
              simp only [Zai, hit, this, Bool.false_and, Bool.false_eq_true, if_false]
              exact ih fun z hz => hy z (by simp [hz])
          rw [this tl]
          · rfl
          · intro y hy
            obtain ⟨j, hj⟩ := List.getElem?_of_mem hy
            exact hs 0 (j + 1) x y (by omega) rfl (by simpa using hj)
  exact key _ h2
end Go.Vx

namespace Go.Vx
open Go Go.RowKit
theorem ZqR {c : api_Calibration} {v : Int} (h : (Zjr c v).2 = false) : (Zjr c v).1 = 0 := by
  unfold Zjr at h ⊢
  have : ∀ xs : List Lin, ∀ r, Zai (hit c v) xs = some r → r.2 = true := by
    intro xs
    induction xs with
    | nil => intro r hr; cases hr
    | cons x tl ih =>
      intro r hr
      simp only [Zai] at hr
      cases hx : hit c v x with
      | none => rw [hx] at hr; exact ih r hr
      | some q =>
        rw [hx] at hr
        cases hr
        unfold hit at hx
        split at hx
        · cases hx; rfl
        · cases hx
  cases hf : Zai (hit c v) c.Lines with
  | none => rfl
  | some r =>
    rw [hf] at h
    have := this _ _ hf
    simp [this] at h
def Zma (c : api_Calibration) (x : Smp) : Smp := if x.Mark < 2 then x else ⟨x.At, (Zjr c x.N).1, if (Zjr c x.N).2 then x.Mark else 1⟩
def Zfz (s : api_Series) (c : api_Calibration) : api_Series × Int :=
  if (chk s).2 ≠ 0 then bad (chk s).2 else if ZhO c ≠ 0 then bad (ZhO c) else if s.Den ≠ 1 then bad 2 else (⟨c.Den, s.Samples.map (Zma c)⟩, 0)
theorem Zoz {s : api_Series} {c : api_Calibration} (hs : SerOK s) (hc : ZhO c = 0) : loop (t2 (ZI c s.Samples)) (s.Samples, 0) = some (s.Samples.map (Zma c)) := by
  have hl := hs.len
  refine Zoo (xs := s.Samples) (body := ZI c s.Samples) (Zma c) (fun k x acc hx ha hax => ?_) (fun acc => by simp [ZI])
  have hlt := QU hx
  have e1 : i64 ((k : Int) + 1) = (k : Int) + 1 := Q2 (by omega) (by omega)
  simp only [ZI, hlt, decide_true, if_true, ZD hax, Option.bind_some, e1, ZpK c x.N (Zn9 hc).1]
  unfold Zma
  by_cases h : x.Mark < 2
  · refine ⟨acc, by simp [h], ?_⟩
    rw [if_pos h]
    obtain ⟨hk, he⟩ := List.getElem?_eq_some_iff.1 hax
    rw [← he, List.set_getElem_self]
  · rw [if_neg h]
    cases hm : (Zjr c x.N).2 with
    | true => exact ⟨_, by simp [h], rfl⟩
    | false => exact ⟨acc.set k ⟨x.At, 0, 1⟩, by simp [h], by rw [ZqR hm]; rfl⟩
theorem ZnP {s : api_Series} {c : api_Calibration} (hs : SerOK s) (hc : ZhO c = 0) : loop (t2 (Zat s c)) ([], 0) = some (s.Samples.map (Zma c)) := by
  have hl := hs.len
  refine ZlB (xs := s.Samples) (body := Zat s c) (Zma c) (fun k x acc hx ha => ?_) (fun acc => by simp [Zat])
  have hlt := QU hx
  have e1 : i64 ((k : Int) + 1) = (k : Int) + 1 := Q2 (by omega) (by omega)
  have ea : ∀ z : Smp, app acc [z] = some (acc ++ [z]) := fun z => XJ (by simp; omega)
  simp only [Zat, hlt, decide_true, if_true, ZD hx, Option.bind_some, e1, ZoF x.N hc]
  unfold Zma Zar
  by_cases h : x.Mark < 2
  · have h' : ¬ 2 ≤ x.Mark := by omega
    simp [h, h', ea]
  · have h' : 2 ≤ x.Mark := by omega
    cases hm : (Zjr c x.N).2 <;> simp [h, h', ea, hm]
theorem Zlb (s : api_Series) (c : api_Calibration) : JE s c = some (Zfz s c) := by
  unfold JE Zfz bad
  simp only [ZmG, Zja, Option.bind_some]
  by_cases h0 : (chk s).2 = 0
  · by_cases h1 : ZhO c = 0
    · by_cases h2 : s.Den = 1
      · have hl := (Ziz h0).len
        have ec : Zm6 s.Samples = some s.Samples := by unfold Zm6; rw [XJ (by simp; omega)]; rfl
        simp [h0, h1, h2, ec, Zoz (Ziz h0) h1]
      · simp [h0, h1, h2]
    · simp [h0, h1]
  · simp [h0]
theorem ZkL (s : api_Series) (c : api_Calibration) : ZaW s c = some (Zfz s c) := by
  unfold ZaW Zfz bad
  simp only [Zoa, ZlH, Option.bind_some]
  by_cases h0 : (chk s).2 = 0
  · by_cases h1 : ZhO c = 0
    · by_cases h2 : s.Den = 1
      · simp [h0, h1, h2, ZeI, ZnP (Ziz h0) h1]
      · simp [h0, h1, h2]
    · simp [h0, h1]
  · simp [h0]
theorem Zmj (s : api_Series) (c : api_Calibration) : (Zfz s c).1.Samples.length ≤ 1048576 := by
  unfold Zfz bad
  by_cases h0 : (chk s).2 = 0
  · have hl := (Ziz h0).len
    by_cases h1 : ZhO c = 0
    · by_cases h2 : s.Den = 1
      · simp [h0, h1, h2]; omega
      · simp [h0, h1, h2]
    · simp [h0, h1]
  · simp [h0]
end Go.Vx

namespace Go.Vx
open Go Go.RowKit
def Zq3 (ver : Int) (p : api_Param) (L : List api_Rest) (s : Int) (c : api_Cell) : api_Sample := api_Sample.mk (tmN p (16 * s) c) (Zmw ver p L c.Places).1 (Zmw ver p L c.Places).2
def Ze3 (ver : Int) (p : api_Param) (l : List api_Rest) (s : Int) : List api_Sample := (cellsN 0 p).map (Zq3 ver p (Zfn l s) s)
theorem Zr4 {l l4 : List api_Rest} (h : RSrt l) (hw : ∀ r ∈ l, XM r) (hc : ∀ r ∈ l, Zer r = 0) {m : api_Map} {p : api_Param} (hp : ParOK p) {s : Int} (hs : 0 ≤ s ∧ s ≤ 300000) (out : List api_Sample) (ho : out.length ≤ 100000) :
    loop (t2 (Q0 m p (cellsN 0 p) l4 (ZhQ (Zfn l s)) ((cellsN 0 p).map (tmN p (16 * s))))) (out, 0) = some (l4, out ++ Ze3 m.Version p l s) := by
  have hlen := ZaV (number := 0) hp.toPartsOK
  have hsl : (Ze3 m.Version p l s).length = (cellsN 0 p).length := by unfold Ze3; rw [List.length_map]
  have := ZeB (body := Q0 m p (cellsN 0 p) l4 (ZhQ (Zfn l s)) ((cellsN 0 p).map (tmN p (16 * s)))) (fun k => out ++ (Ze3 m.Version p l s).take k) (l4, out ++ Ze3 m.Version p l s) (a := 0) (b := (cellsN 0 p).length) (Nat.zero_le _) (fun k _ hk => by
    obtain ⟨c, hcx⟩ := ZU hk
    obtain ⟨cr, cb⟩ := Zot hp (List.mem_of_getElem? hcx)
    have h7 : ((cellsN 0 p).map (tmN p (16 * s)))[k]? = some (tmN p (16 * s) c) := by rw [List.getElem?_map, hcx]; rfl
    have h8 : (Ze3 m.Version p l s)[k]? = some (Zq3 m.Version p (Zfn l s) s c) := by unfold Ze3; rw [List.getElem?_map, hcx]; rfl
    have htl : ((Ze3 m.Version p l s).take k).length ≤ k := by rw [List.length_take]; omega
    unfold Q0
    rw [if_pos (by simp; omega), ZD hcx, Option.bind_some, ZqN (ZoS h hw s) (ZoD h hc s) hp cr cb, Option.bind_some, ZD h7, Option.bind_some, XJ (by rw [List.length_append]; simp; omega), Option.bind_some, Qr (by omega) (by omega), List.take_add_one, h8, List.append_assoc]
    rfl) (by
    unfold Q0
    rw [if_neg (by simp), List.take_of_length_le (by omega)])
  simpa using this
theorem Zrd {l : List api_Rest} (h : RSrt l) (hw : ∀ r ∈ l, XM r) (hc : ∀ r ∈ l, Zer r = 0) {m : api_Map} {p : api_Param} (hwp : Xg p) (hq : ZeD p = 0) {n : Nat} (hn : m.Params[n]? = some p) {s : Int} (hs : 0 ≤ s ∧ s ≤ 300000) (out : List api_Sample) (ho : out.length ≤ 100000) :
    loop (t2 (Za6 m (cellsN (n : Int) p) (16 * s) ((cellsN (n : Int) p).map (tmN p (16 * s))) (Zfn l s))) (out, 0) = some (out ++ Ze3 m.Version p l s) := by
  have hp := ZgC hq
  have hlen := ZaV (number := 0) hp.toPartsOK
  have hset := ZiN (n : Int) p
  have hsl : (Ze3 m.Version p l s).length = (cellsN 0 p).length := by unfold Ze3; rw [List.length_map]
  have hl2 : (cellsN (n : Int) p).length = (cellsN 0 p).length := by rw [hset, List.length_map]
  have := ZeB (body := Za6 m (cellsN (n : Int) p) (16 * s) ((cellsN (n : Int) p).map (tmN p (16 * s))) (Zfn l s)) (fun k => out ++ (Ze3 m.Version p l s).take k) (out ++ Ze3 m.Version p l s) (a := 0) (b := (cellsN (n : Int) p).length) (Nat.zero_le _) (fun k _ hk => by
    obtain ⟨c, hcx⟩ := ZU (xs := cellsN 0 p) (k := k) (by omega)
    obtain ⟨cr, cb⟩ := Zot hp (List.mem_of_getElem? hcx)
    have hcn : (cellsN (n : Int) p)[k]? = some (ZoX n c) := by rw [hset, List.getElem?_map, hcx]; rfl
    have h7 : ((cellsN (n : Int) p).map (tmN p (16 * s)))[k]? = some (tmN p (16 * s) c) := by rw [List.getElem?_map, hcn]; rfl
    have h8 : (Ze3 m.Version p l s)[k]? = some (Zq3 m.Version p (Zfn l s) s c) := by unfold Ze3; rw [List.getElem?_map, hcx]; rfl
    have htl : ((Ze3 m.Version p l s).take k).length ≤ k := by rw [List.length_take]; omega
    have cr' : CellR (ZoX n c) := ⟨cr.len, cr.pl, cr.bits⟩
    unfold Za6
    rw [if_pos (by simp; omega), ZD hcn, Option.bind_some, Zny (ZoS h hw s) (ZoD h hc s) hs hwp hq cr' cb (by exact ZD hn), Option.bind_some, ZD h7, Option.bind_some, XJ (by rw [List.length_append]; simp; omega), Option.bind_some, Qr (by omega) (by omega), List.take_add_one, h8, List.append_assoc]
    rfl) (by
    unfold Za6
    rw [if_neg (by simp), List.take_of_length_le (by omega)])
  simpa using this
def Zgg (ver : Int) (p : api_Param) (l : List api_Rest) (q : Int) : Nat → List api_Sample
  | 0 => []
  | k + 1 => Zgg ver p l q k ++ Ze3 ver p l (q + k)
theorem Zhc (ver : Int) (p : api_Param) (l : List api_Rest) (q : Int) : ∀ k, (Zgg ver p l q k).length = k * (cellsN 0 p).length
  | 0 => by simp [Zgg]
  | k + 1 => by
    rw [Zgg, List.length_append, Zhc ver p l q k, Nat.add_mul, Nat.one_mul]
    unfold Ze3
    rw [List.length_map]
theorem Zrg {l : List api_Rest} (h : RSrt l) (hw : ∀ r ∈ l, XM r) (hc : ∀ r ∈ l, Zer r = 0) {m : api_Map} {p : api_Param} (hp : ParOK p) {q : Int} {n : Nat} (hq : 0 ≤ q ∧ q + n ≤ 270000) (h0 : X8 l (16 * q) = 0) (hcnt : n * (cellsN 0 p).length ≤ 20000) :
    JG m p (cellsN 0 p) l q (q + n - 1) = some (Zgg m.Version p l q n) := by
  have := ZbR (ε := Unit) (body := t3 (QF m p (cellsN 0 p) (q + n - 1))) (fun k => (l.drop (X8 l (16 * (q + k))), Zgg m.Version p l q k, q + (k : Int))) (fun _ => none) (fun _ => []) (Zgg m.Version p l q n) (b := n) (fun k hk => by
    refine .inr ⟨rfl, ?_⟩
    show QF m p (cellsN 0 p) (q + n - 1) (l.drop (X8 l (16 * (q + k)))) (Zgg m.Version p l q k) (q + (k : Int)) = _
    have hal := Zhc m.Version p l q k
    have hmul : k * (cellsN 0 p).length ≤ n * (cellsN 0 p).length := Nat.mul_le_mul_right _ (by omega)
    unfold QF
    rw [if_pos (by rw [decide_eq_true_eq]; omega)]
    have ez : (api_Rest.mk 0 (Vector.replicate 64 0) (Vector.replicate 64 0) false 0 false) = zr := rfl
    rw [ez, ZnN h (s := q + k) (by omega), Option.bind_some, Zaf, Qr (z := (q + (k : Int)) * 16) (by omega) (by omega), show (q + (k : Int)) * 16 = 16 * (q + k) by omega, Zjz (ZrO hp 0 (by omega)), Option.bind_some, Zr4 h hw hc hp (s := q + k) (by omega) _ (by omega), Option.bind_some, Zaf, Qr (by omega) (by omega)]
    rw [Zgg, show 16 * (q + ((k + 1 : Nat) : Int)) = 16 * (q + k) + 16 by push_cast; omega, show q + ((k + 1 : Nat) : Int) = q + k + 1 by push_cast; omega]) (by
    show QF m p (cellsN 0 p) (q + n - 1) _ _ (q + (n : Int)) = _
    unfold QF
    rw [if_neg (by rw [decide_eq_true_eq]; omega)])
  have hsel : ((List.range' 0 n).findSome? (fun _ => (none : Option Unit))) = none := by rw [List.findSome?_eq_none_iff]; intro _ _; rfl
  rw [hsel] at this
  have e0 : (l.drop (X8 l (16 * (q + ((0 : Nat) : Int)))), Zgg m.Version p l q 0, q + ((0 : Nat) : Int)) = (l, [], q) := by
    rw [show q + ((0 : Nat) : Int) = q by omega, h0, List.drop_zero]; rfl
  rw [e0] at this
  unfold JG
  rw [this]; rfl
theorem ZpJ {l : List api_Rest} (h : RSrt l) (hw : ∀ r ∈ l, XM r) (hc : ∀ r ∈ l, Zer r = 0) {m : api_Map} {p : api_Param} (hwp : Xg p) (hqq : ZeD p = 0) {j : Nat} (hj : m.Params[j]? = some p) {q : Int} {n : Nat} (hq : 0 ≤ q ∧ q + n ≤ 270000) (hcnt : n * (cellsN 0 p).length ≤ 20000) :
    loop (t2 (Js m (j : Int) l (cellsN (j : Int) p) (q + n - 1))) ([], 16 * q) = some (Zgg m.Version p l q n) := by
  have hp := ZgC hqq
  have := ZbR (ε := Unit) (body := t2 (Js m (j : Int) l (cellsN (j : Int) p) (q + n - 1))) (fun k => (Zgg m.Version p l q k, 16 * (q + (k : Int)))) (fun _ => none) (fun _ => []) (Zgg m.Version p l q n) (b := n) (fun k hk => by
    refine .inr ⟨rfl, ?_⟩
    show Js m (j : Int) l (cellsN (j : Int) p) (q + n - 1) (Zgg m.Version p l q k) (16 * (q + (k : Int))) = _
    have hal := Zhc m.Version p l q k
    have hmul : k * (cellsN 0 p).length ≤ n * (cellsN 0 p).length := Nat.mul_le_mul_right _ (by omega)
    unfold Js
    rw [Qr (z := (q + n - 1) * 16) (by omega) (by omega), if_pos (by rw [decide_eq_true_eq]; omega), ZD hj, Option.bind_some, ZnS (ZrO hp (j : Int) (by omega)), Option.bind_some, Qr (z := 16 * (q + (k : Int)) + 16) (by omega) (by omega), Zrv h (s := q + k) (by omega), Option.bind_some, Zrd h hw hc hwp hqq hj (s := q + k) (by omega) _ (by omega), Option.bind_some, JA]
    rw [Zgg, show 16 * (q + ((k + 1 : Nat) : Int)) = 16 * (q + k) + 16 by push_cast; omega]) (by
    show Js m (j : Int) l (cellsN (j : Int) p) (q + n - 1) _ (16 * (q + (n : Int))) = _
    unfold Js
    rw [Qr (z := (q + n - 1) * 16) (by omega) (by omega), if_neg (by rw [decide_eq_true_eq]; omega)])
  have hsel : ((List.range' 0 n).findSome? (fun _ => (none : Option Unit))) = none := by rw [List.findSome?_eq_none_iff]; intro _ _; rfl
  rw [hsel] at this
  rw [show q + ((0 : Nat) : Int) = q by omega] at this
  exact this
end Go.Vx

namespace Go.Vx
open Go Go.RowKit
theorem Zk4 {x : Int} (h0 : 0 ≤ x) (h1 : x ≤ 100000000) : quo .i64 x 16 = some (x / 16) := by
  unfold quo
  rw [if_neg (by decide), Int.tdiv_eq_ediv_of_nonneg h0, w64 (by omega) (by omega)]
theorem Zn2 {l : List api_Rest} (h : RSrt l) {r0 : api_Rest} (h0 : l[0]? = some r0) : X8 l (16 * (r0.Number / 16)) = 0 := by
  have hb := h.num r0 (List.mem_of_getElem? h0)
  have := ZhA h.srt (x := 16 * (r0.Number / 16)) h0
  rcases Nat.eq_zero_or_pos (X8 l (16 * (r0.Number / 16))) with e | e
  · exact e
  · have := this.2 e; omega
theorem ZpF {l : List api_Rest} (h : RSrt l) {r0 r1 : api_Rest} (h0 : l[0]? = some r0) (h1 : l[l.length - 1]? = some r1) : r0.Number ≤ r1.Number := by
  obtain ⟨a, rfl⟩ := List.getElem?_eq_some_iff.1 h0
  obtain ⟨b, rfl⟩ := List.getElem?_eq_some_iff.1 h1
  rcases Nat.eq_zero_or_pos (l.length - 1) with e | e
  · simp only [e]; exact Int.le_refl _
  · exact Int.le_of_lt (List.pairwise_iff_getElem.1 h.srt 0 (l.length - 1) a b e)
theorem Zli {m : api_Map} {name : Str} {l : List api_Rest} (hm : ZbH m) (hw : ∀ r ∈ l, XM r) :
    ∃ r : api_Series × Int, JK m name l = some r ∧ ZaQ m name l = some r ∧ r.1.Samples.length ≤ 1048576 := by
  obtain ⟨a, ha⟩ := ZlI m
  obtain ⟨b, hb⟩ := ZlU m hm
  have hC : Zcf m = some (max a 0, Zd9 m) := by unfold Zcf; rw [ha]; rfl
  unfold JK ZaQ
  rw [hC, hb, Option.bind_some, Option.bind_some]
  simp only
  by_cases hk : Zd9 m = 0
  case neg =>
    have hd : (!decide (Zd9 m = 0)) = true := by rw [decide_eq_false hk]; rfl
    rw [hd, if_pos rfl, if_pos rfl]
    exact ⟨_, rfl, rfl, Nat.zero_le _⟩
  have hok := Zkq hk
  have hd : (!decide (Zd9 m = 0)) = false := by rw [decide_eq_true hk]; rfl
  rw [hd, if_neg Bool.false_ne_true, if_neg Bool.false_ne_true]
  obtain ⟨y, y1, y2, y3⟩ := Zp8 m hok.len name
  rw [y1, y2, Option.bind_some, Option.bind_some]
  rcases y3 with hy | ⟨j, p, rfl, hj⟩
  · have hd : decide (y < 0) = true := decide_eq_true hy
    rw [hd, if_pos rfl, if_pos rfl]
    exact ⟨_, rfl, rfl, Nat.zero_le _⟩
  have hd : decide ((j : Int) < 0) = false := by rw [decide_eq_false_iff_not]; omega
  rw [hd, if_neg Bool.false_ne_true, if_neg Bool.false_ne_true]
  obtain ⟨e, e1, e2, e3⟩ := Zpp hw
  rw [e1, e2, Option.bind_some, Option.bind_some]
  by_cases he : e = 0
  case neg =>
    have hd : (!decide (e = 0)) = true := by rw [decide_eq_false he]; rfl
    rw [hd, if_pos rfl, if_pos rfl]
    exact ⟨_, rfl, rfl, Nat.zero_le _⟩
  have hd : (!decide (e = 0)) = false := by rw [decide_eq_true he]; rfl
  rw [hd, if_neg Bool.false_ne_true, if_neg Bool.false_ne_true]
  obtain ⟨hs, hc⟩ := e3 he
  have hq := ZpG hk hj
  have hp := ZgC hq
  have hwp : Xg p := hm.2.1.2 p (List.mem_of_getElem? hj)
  unfold ZfU
  by_cases hl0 : l.length = 0
  · have hd : decide ((l.length : Int) = 0) = true := by rw [decide_eq_true_eq]; omega
    rw [hd, if_pos rfl, if_pos rfl]
    exact ⟨_, rfl, rfl, Nat.zero_le _⟩
  have hd : decide ((l.length : Int) = 0) = false := by rw [decide_eq_false_iff_not]; omega
  rw [hd, if_neg Bool.false_ne_true, if_neg Bool.false_ne_true]
  obtain ⟨r0, h0⟩ := ZU (xs := l) (k := 0) (by omega)
  obtain ⟨r1, h1⟩ := ZU (xs := l) (k := l.length - 1) (by omega)
  have b0 := hs.num r0 (List.mem_of_getElem? h0)
  have b1 := hs.num r1 (List.mem_of_getElem? h1)
  have hle := ZpF hs h0 h1
  have hz := Zn2 hs h0
  have hl5 := hs.len
  have i0 : idx l 0 = some r0 := ZD (k := 0) h0
  have i1 : idx l (i64 ((l.length : Int) - 1)) = some r1 := by
    rw [Qr (by omega) (by omega), show (l.length : Int) - 1 = ((l.length - 1 : Nat) : Int) by omega]
    exact ZD h1
  have hcl : Za1 ⟨0, [p]⟩ = some (cellsN 0 p, 0) := by
    rw [Zpw, if_pos (Zn5 hq)]
    simp [allC]
  have hcf : Za4 m (j : Int) = some (cellsN (j : Int) p) := by
    have := Zj1 m.Params 0 j hok.par hj
    rw [Nat.zero_add] at this
    rw [Znp hm hk, this]
  have hlc := ZaV (number := 0) hp.toPartsOK
  have hl2 : (cellsN (j : Int) p).length = (cellsN 0 p).length := by rw [ZiN, List.length_map]
  rw [ZD hj, Option.bind_some, hcl, Option.bind_some, i0, Option.bind_some, Zk4 b0.1 (by omega), Option.bind_some, i1, Option.bind_some, Zk4 b1.1 (by omega), Option.bind_some, hcf, Option.bind_some, Option.bind_some, Zk4 b0.1 (by omega), Option.bind_some, Option.bind_some, Zk4 b1.1 (by omega), Option.bind_some]
  generalize hqd : r0.Number / 16 = q at hz ⊢
  generalize hq2d : r1.Number / 16 = q2
  obtain ⟨n, hn⟩ : ∃ n : Nat, q2 = q + n - 1 ∧ 1 ≤ n := ⟨(q2 - q).toNat + 1, by omega, by omega⟩
  obtain ⟨hn1, hn2⟩ := hn
  have hnb : n ≤ 262144 := by omega
  generalize hCd : (cellsN 0 p).length = C at hlc hl2
  have hmul : n * C ≤ 262144 * 969 := Nat.mul_le_mul hnb hlc
  have x1 : i64 (q2 - q) = q2 - q := Qr (by omega) (by omega)
  have x2 : i64 (q2 - q + 1) = (n : Int) := by rw [Qr (by omega) (by omega)]; omega
  have x3 : i64 ((n : Int) * (C : Int)) = ((n * C : Nat) : Int) := by rw [show (n : Int) * (C : Int) = ((n * C : Nat) : Int) by push_cast; rfl, Qr (by omega) (by omega)]
  have x4 : i64 (((n * C : Nat) : Int) + 1) = ((n * C : Nat) : Int) + 1 := Qr (by omega) (by omega)
  have z1 : i64 (q2 * 16) = 16 * q2 := by rw [Qr (by omega) (by omega)]; omega
  have z2 : i64 (q * 16) = 16 * q := by rw [Qr (by omega) (by omega)]; omega
  have z3 : i64 (16 * q2 - 16 * q) = 16 * (q2 - q) := by rw [Qr (by omega) (by omega)]; omega
  have z4 : quo .i64 (16 * (q2 - q)) 16 = some (q2 - q) := by rw [Zk4 (by omega) (by omega)]; congr 1; omega
  rw [x1, x2, x3, x4, z1, z2, z3, z4, Option.bind_some, x2, hl2, x3, x4]
  by_cases hbig : 20000 < ((n * C : Nat) : Int) + 1
  · have hd : decide (20000 < ((n * C : Nat) : Int) + 1) = true := decide_eq_true hbig
    rw [hd, if_pos rfl, if_pos rfl]
    exact ⟨_, rfl, rfl, Nat.zero_le _⟩
  have hd : decide (20000 < ((n * C : Nat) : Int) + 1) = false := decide_eq_false hbig
  rw [hd, if_neg Bool.false_ne_true, if_neg Bool.false_ne_true]
  have hacc := Zhc m.Version p l q n
  rw [hCd] at hacc
  have s1 := Zrg hs hw hc (m := m) hp (q := q) (n := n) (by omega) hz (by rw [hCd]; omega)
  have s2 := ZpJ hs hw hc (m := m) hwp hq hj (q := q) (n := n) (by omega) (by rw [hCd]; omega)
  rw [← hn1] at s1 s2
  have w1 : i64 (q2 + 1) = q2 + 1 := Qr (by omega) (by omega)
  have w2 : i64 ((q2 + 1) * 1024) = (q2 + 1) * 1024 := Qr (by omega) (by omega)
  have w3 : i64 (16 * q2 + 16) = 16 * q2 + 16 := Qr (by omega) (by omega)
  have w4 : i64 (64 * (16 * q2 + 16)) = (q2 + 1) * 1024 := by rw [Qr (by omega) (by omega)]; omega
  rw [s1, Option.bind_some, s2, Option.bind_some, JA, w1, w2, w3, w4, XJ (by rw [hacc]; simp; omega), Option.bind_some, Option.bind_some, Option.bind_some]
  refine ⟨_, rfl, rfl, ?_⟩
  show (Zgg m.Version p l q n ++ [api_Sample.mk ((q2 + 1) * 1024) 0 0]).length ≤ 1048576
  rw [List.length_append, hacc, List.length_singleton]; omega
theorem Zjs (m : api_Map) (name : Str) (l : List api_Rest) (c : api_Calibration) (hm : ZbH m) (hl : wfL XM l) : Qu m name l c = some true := by
  obtain ⟨r, h1, h2, h3⟩ := Zli (name := name) hm hl.2
  obtain ⟨t, ht⟩ := Zpm r.1 r.2 h3
  obtain ⟨t2, ht2⟩ := Zpm (Zfz r.1 c).1 (Zfz r.1 c).2 (Zmj r.1 c)
  unfold Qu
  rw [h1, h2, Option.bind_some, ht, Option.bind_some, Option.bind_some, ht, Option.bind_some, if_neg (by simp), Zlb, ZkL, ZmV]
  by_cases h0 : r.2 = 0
  · simp only [h0, decide_true, Bool.not_true, ZhM, show (false == false) = true from rfl, Option.bind_some, ht2]
    simp
  · simp only [h0, decide_false, Bool.not_false, show (true == false) = false from rfl, Zl7, Option.bind_some, ZmV]
    simp
end Go.Vx

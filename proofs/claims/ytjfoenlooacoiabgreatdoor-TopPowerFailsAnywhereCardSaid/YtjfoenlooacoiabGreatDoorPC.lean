/- A text of the proof: a verified executor of the program form, or the contracts of the functions that the law reaches. -/
import Derived.Test.YtjfoenlooacoiabGreatDoorPB
set_option linter.all false
namespace Go.Vx
open Go Go.RowKit
theorem ZfC {V : Type} {k x : Int} {a : V} : ∀ {m : List (Int × V)}, mget kqI (Zfe kqI m k a) x = if x = k then some a else mget kqI m x
  | [] => by rw [ZkX, ZcE]
  | (c, v) :: m => by
    rw [ZjP]
    by_cases h : k = c
    · subst h
      rw [if_pos rfl, ZcE, ZcE]
      by_cases hx : x = k
      · rw [if_pos hx, if_pos hx]
      · rw [if_neg hx, if_neg hx, if_neg hx]
    · rw [if_neg h, ZcE, ZcE, ZfC]
      by_cases hx : x = c
      · rw [if_pos hx, if_pos hx, if_neg (fun e => h (by rw [← e, hx]))]
      · rw [if_neg hx, if_neg hx]
theorem ZlN {l : List Int} (h : u8R l) (i : Nat) : 0 ≤ Xt l i ∧ Xt l i ≤ 4095 := by
  unfold Xt
  have a := Zai h (3 * (i / 2))
  have b := Zai h (3 * (i / 2) + 1)
  have c := Zai h (3 * (i / 2) + 2)
  split <;> omega
theorem ZmU {l : List Int} (h : u8R l) (i : Nat) : 0 ≤ wd (Zck (Xt l)) i ∧ wd (Zck (Xt l)) i ≤ 4095 := by
  by_cases hi : i < 64
  · have : wd (Zck (Xt l)) i = Xt l i := Zcn _ hi
    rw [this]; exact ZlN h i
  · have : wd (Zck (Xt l)) i = 0 := by
      unfold wd
      rw [List.getD_eq_getElem?_getD, List.getElem?_eq_none (by simp; omega)]; rfl
    rw [this]; omega
def fN (f : Vector Int 64) : Prop := ∀ i, 0 ≤ wd f i ∧ wd f i ≤ 4095
theorem fN.u {f : Vector Int 64} (h : fN f) : fU f := fun i => ⟨(h i).1, by have := (h i).2; omega⟩
theorem Zh2 {m : api_Memory} {mi i : Int} {x : api_Kept} (h : x ∈ Zer m mi i) : ∃ j : Nat, (j : Int) < m.Slots ∧ stV (slotL (m.Sectors.getD i.toNat []) j) = 1 ∧ x = ⟨mi, i, (headV (m.Sectors.getD i.toNat [])).1, j, frV (m.Sectors.getD i.toNat []) j⟩ := by
  unfold Zer at h
  obtain ⟨j, hj, hx⟩ := List.mem_flatMap.1 h
  split at hx
  · rename_i q
    exact ⟨j, by have := List.mem_range.1 hj; omega, q, List.mem_singleton.1 hx⟩
  · cases hx
theorem Zmv {l : List api_Memory} {x : api_Kept} (h : x ∈ XD l) : ∃ k : Nat, k < l.length ∧ ∃ i ∈ Zba (l.getD k dfM), x ∈ Zer (l.getD k dfM) (k : Int) i := by
  unfold XD at h
  obtain ⟨k, hk, hx⟩ := List.mem_flatMap.1 h
  obtain ⟨i, hi, hx⟩ := List.mem_flatMap.1 hx
  exact ⟨k, List.mem_range.1 hk, i, hi, hx⟩
theorem Znt {l : List api_Memory} (hR : ∀ m ∈ l, memR m) : ∀ x ∈ XD l, fN x.Frame := by
  intro x hx
  obtain ⟨k, hk, i, hi, hx⟩ := Zmv hx
  obtain ⟨j, _, _, rfl⟩ := Zh2 hx
  exact ZmU (ZgX (ZbS (hR _ (JL hk).1) _) j)
noncomputable def nmK (x : api_Kept) : Int := (numN x.Frame).1
theorem Znr {body : Int → Option (Int ⊕ Int)} {R : List api_Kept} {n : Int} (h1 : ∀ (k : Nat) y, R[k]? = some y → body k = if n ≤ nmK y then some (.inr (k : Int)) else some (.inl ((k : Int) + 1))) (h2 : body R.length = some (.inr (R.length : Int))) :
    ∃ r : Nat, loop (t1 body) 0 = some (r : Int) ∧ r ≤ R.length ∧ (∀ k y, k < r → R[k]? = some y → nmK y < n) ∧ (∀ y, R[r]? = some y → n ≤ nmK y) := by
  obtain ⟨z, e, r, rfl, q1, q2, q3⟩ := ZbC (body := body) (N := R.length) (fun k => ∀ j y, j < k → R[j]? = some y → nmK y < n) (fun z => ∃ r : Nat, z = (r : Int) ∧ r ≤ R.length ∧ (∀ k y, k < r → R[k]? = some y → nmK y < n) ∧ (∀ y, R[r]? = some y → n ≤ nmK y)) (fun k hk hI => by
      obtain ⟨y, hy⟩ := Xz hk
      rw [h1 k y hy]
      by_cases q : n ≤ nmK y
      · right
        exact ⟨_, by rw [if_pos q], k, rfl, by omega, hI, fun y' hy' => by rw [hy] at hy'; cases hy'; exact q⟩
      · left
        refine ⟨by rw [if_neg q], fun j y' hj hy' => ?_⟩
        by_cases e : j = k
        · subst e; rw [hy] at hy'; cases hy'; omega
        · exact hI j y' (by omega) hy') (fun hI => ⟨_, h2, R.length, rfl, Nat.le_refl _, hI, fun y hy => by rw [List.getElem?_eq_none (Nat.le_refl _)] at hy; cases hy⟩) (fun j y hj => absurd hj (Nat.not_lt_zero _))
  exact ⟨r, e, q1, q2, q3⟩
structure FrI (R : List api_Kept) (M : List (Int × api_Kept)) (N : List Int) : Prop where
  srt : R.Pairwise fun a b => nmK a < nmK b
  prm : N.Perm (R.map nmK)
  get : ∀ x ∈ R, mget kqI M (nmK x) = some x
  non : ∀ n, (∀ x ∈ R, nmK x ≠ n) → mget kqI M n = none
  num : ∀ x ∈ R, fN x.Frame
theorem ZkK {R : List api_Kept} {M : List (Int × api_Kept)} {N : List Int} (hI : FrI R M N) (hl : R.length ≤ 100000) {x : api_Kept} (hx : fN x.Frame) {y : (List api_Kept) × Int} {k : Nat} (hk : y.1[k]? = some x) (hy : y.1.length ≤ 100000) :
    ∃ R' M' N', Xu y M N (k : Int) = some (.inl (M', N', (k : Int) + 1)) ∧ XL y R (k : Int) = some (.inl (R', (k : Int) + 1)) ∧ FrI R' M' N' ∧ R'.length ≤ R.length + 1 ∧ (∀ z ∈ R', z ∈ R ∨ (z = x ∧ sndB x.Frame = true)) ∧
      ((∀ y ∈ R, ∃ w ∈ R', nmK w = nmK y ∧ y.Sequence ≤ w.Sequence) ∧ (sndB x.Frame = true → ∃ y ∈ R', nmK y = nmK x ∧ x.Sequence ≤ y.Sequence)) := by
  have hlt := (List.getElem?_eq_some_iff.1 hk).1
  have ek : i64 ((k : Int) + 1) = (k : Int) + 1 := Zh (by omega) (by omega)
  have hN : N.length = R.length := by rw [hI.prm.length_eq, List.length_map]
  unfold Xu XL
  rw [if_pos (by simpa using hlt), if_pos (by simpa using hlt), Zm hk, Option.bind_some, Option.bind_some, ek, Zik hx.u, Zg2 hx.u, Option.bind_some, Option.bind_some]
  have hfl := Zhy hx.u
  by_cases hs : sndB x.Frame = false
  · refine ⟨R, M, N, by rw [if_pos (by simpa using hfl.2 hs)], by rw [hs]; rfl, hI, by omega, fun z hz => .inl hz, fun y hy => ⟨y, hy, rfl, Int.le_refl _⟩, fun h => absurd h (by simp [hs])⟩
  · have hs' : sndB x.Frame = true := by simpa using hs
    have h0 : ¬ 0 < (ZjK x.Frame).length := fun q => hs (hfl.1 q)
    rw [if_neg (by rw [decide_eq_true_eq]; omega), hs']
    simp only [Bool.not_true, Bool.false_eq_true, if_false]
    have nn : ∀ f : Vector Int 64, fN f → XY f = some (numN f) ∧ QE f = some (numN f) := fun f hf => Zhb hf.u (hf 1).2 (hf 2).2
    rw [(nn _ hx).1, (nn _ hx).2, Option.bind_some, Option.bind_some, Option.bind_some]
    obtain ⟨r, q1, q2, q3, q4⟩ := Znr (body := Zbp R (numN x.Frame)) (R := R) (n := nmK x) (fun j z hj => by
      have hjl := (List.getElem?_eq_some_iff.1 hj).1
      unfold Zbp
      rw [if_pos (by simpa using hjl), Zm hj, Option.bind_some, (nn _ (hI.num z (List.mem_of_getElem? hj))).2, Option.bind_some, show i64 ((j : Int) + 1) = (j : Int) + 1 from Zh (by omega) (by omega)]
      by_cases q : nmK x ≤ nmK z
      · rw [if_pos (by simpa [nmK] using q), if_pos q]
      · rw [if_neg (by simpa [nmK] using q), if_neg q]) (by
      unfold Zbp
      rw [if_neg (by simp)])
    rw [q1]
    simp only [Option.bind_some, Qx]
    have split' : R = R.take r ++ R.drop r := (List.take_append_drop ..).symm
    have lt1 : ∀ z ∈ R.take r, nmK z < nmK x := fun z hz => by
      obtain ⟨j, hj, e⟩ := List.getElem_of_mem hz
      rw [List.length_take] at hj
      refine q3 j z (by omega) ?_
      rw [← List.getElem?_take_of_lt (show j < r by omega), List.getElem?_eq_getElem (by rw [List.length_take]; exact hj), e]
    by_cases hat : ∃ z, R[r]? = some z ∧ nmK z = nmK x
    · obtain ⟨z, hz, hzn⟩ := hat
      have hrl := (List.getElem?_eq_some_iff.1 hz).1
      have zm := List.mem_of_getElem? hz
      have hg := hI.get z zm
      rw [hzn] at hg
      have hg' : mget kqI M (numN x.Frame).1 = some z := hg
      rw [hg']
      simp only [Option.isSome_some, Bool.not_true, Bool.false_eq_true, if_false, Option.bind_some, Qx, Bool.false_or, Option.getD_some]
      rw [if_pos (show decide ((r : Int) < (R.length : Int)) = true by simpa using hrl), Zm hz, Option.bind_some, (nn _ (hI.num z zm)).2, Option.bind_some, if_pos (show decide ((numN z.Frame).1 = (numN x.Frame).1) = true from decide_eq_true hzn), Option.bind_some]
      have hset : R.set r x = R.take r ++ x :: R.drop (r + 1) := List.set_eq_take_append_cons_drop .. |>.trans (by rw [if_pos hrl])
      have hR : R = R.take r ++ z :: R.drop (r + 1) := by
        have := JX hz
        rw [← this]; exact split'
      by_cases hq : z.Sequence < x.Sequence
      · refine ⟨R.set r x, Zfe kqI M (numN x.Frame).1 x, N, by rw [if_pos (by simpa using hq)], ?_, ⟨?_, ?_, ?_, ?_, ?_⟩, by simp, fun w hw => ?_, fun y hy => ?_, fun _ => ⟨x, by rw [hset]; simp, rfl, Int.le_refl _⟩⟩
        · rw [if_pos (by simpa using hq)]
          simp only [Option.bind_some, Int.toNat_natCast, Sum.elim_inl, Qx]
        · have h := hI.srt
          rw [hR] at h
          rw [hset]
          rw [List.pairwise_append, List.pairwise_cons] at h ⊢
          refine ⟨h.1, ⟨fun b hb => by rw [← hzn]; exact h.2.1.1 b hb, h.2.1.2⟩, fun a ha b hb => ?_⟩
          rcases List.mem_cons.1 hb with rfl | hb
          · rw [← hzn]; exact h.2.2 a ha z (List.mem_cons_self ..)
          · exact h.2.2 a ha b (List.mem_cons_of_mem _ hb)
        · have : (R.set r x).map nmK = R.map nmK := by
            rw [List.map_set, ← hzn]
            refine List.ext_getElem? fun j => ?_
            rw [List.getElem?_set]
            split
            · rename_i e
              subst e
              rw [if_pos (by simpa using hrl), List.getElem?_map, hz]; rfl
            · rfl
          rw [this]; exact hI.prm
        · intro w hw
          rw [ZfC]
          rcases List.mem_or_eq_of_mem_set hw with hw' | rfl
          · by_cases e : nmK w = (numN x.Frame).1
            · rw [if_pos e]
              -- two of one number in R: the same place
              rw [hset] at hw
              rcases List.mem_append.1 hw with p | p
              · have := lt1 w p
                unfold nmK at this e; omega
              · rcases List.mem_cons.1 p with rfl | p
                · rfl
                · have h := hI.srt
                  rw [hR, List.pairwise_append, List.pairwise_cons] at h
                  have := h.2.1.1 w p
                  rw [hzn] at this
                  unfold nmK at this e; omega
            · rw [if_neg e]; exact hI.get w hw'
          · exact if_pos rfl
        · intro n hn
          rw [ZfC]
          have hxn : n ≠ (numN x.Frame).1 := fun e => hn x (by rw [hset]; simp) e.symm
          rw [if_neg hxn]
          refine hI.non n fun w hw => ?_
          rw [hR] at hw
          rcases List.mem_append.1 hw with p | p
          · exact hn w (by rw [hset]; simp [p])
          · rcases List.mem_cons.1 p with rfl | p
            · rw [hzn]; exact fun e => hxn e.symm
            · exact hn w (by rw [hset]; simp [p])
        · intro w hw
          rcases List.mem_or_eq_of_mem_set hw with hw' | rfl
          · exact hI.num w hw'
          · exact hx
        · rcases List.mem_or_eq_of_mem_set hw with p | p
          · exact .inl p
          · exact .inr ⟨p, trivial⟩
        · rw [hR] at hy
          rcases List.mem_append.1 hy with p | p
          · exact ⟨y, by rw [hset]; simp [p], rfl, Int.le_refl _⟩
          · rcases List.mem_cons.1 p with rfl | p
            · exact ⟨x, by rw [hset]; simp, hzn.symm, by omega⟩
            · exact ⟨y, by rw [hset]; simp [p], rfl, Int.le_refl _⟩
      · refine ⟨R, M, N, by rw [if_neg (by simpa using hq)], ?_, hI, by omega, fun z hz => .inl hz, fun y hy => ⟨y, hy, rfl, Int.le_refl _⟩, fun _ => ⟨z, zm, hzn, by omega⟩⟩
        rw [if_neg (by simpa using hq)]
        simp only [Option.bind_some, Sum.elim_inl, Qx]
    · have gt1 : ∀ z ∈ R.drop r, nmK x < nmK z := by
        intro z hz
        cases hd : R[r]? with
        | none =>
          have := List.getElem?_eq_none_iff.1 hd
          rw [List.drop_of_length_le this] at hz; cases hz
        | some w =>
          have hw : nmK x < nmK w := by
            have := q4 w hd
            have hne : nmK w ≠ nmK x := fun e => hat ⟨w, hd, e⟩
            omega
          rw [JX hd] at hz
          rcases List.mem_cons.1 hz with rfl | hz
          · exact hw
          · have h := hI.srt
            rw [split', JX hd, List.pairwise_append, List.pairwise_cons] at h
            have := h.2.1.1 z hz
            omega
      have hno : mget kqI M (numN x.Frame).1 = none := hI.non _ fun w hw => by
        rw [split'] at hw
        rcases List.mem_append.1 hw with p | p
        · have := lt1 w p; unfold nmK at *; omega
        · have := gt1 w p; unfold nmK at *; omega
      rw [hno]
      simp only [Option.isSome_none, Bool.not_false, if_true, Bool.true_or, Option.bind_some]
      rw [show apz 8 N [(numN x.Frame).1] = some (N ++ [(numN x.Frame).1]) from J4 (by simp; omega)]
      have hmid : (if decide ((r : Int) < (R.length : Int)) = true then (idx R (r : Int)).bind fun x3 => (QE x3.Frame).bind fun y5 => if decide (y5.1 = (numN x.Frame).1) = true then (idx R (r : Int)).bind fun x4 => if decide (x4.Sequence < x.Sequence) = true then (idx R (r : Int)).bind fun x5 => some (.inl (R.set (Int.toNat (r : Int)) x)) else some (.inl R) else some (.inr ()) else some (.inr ())) = some (.inr () : List api_Kept ⊕ Unit) := by
        by_cases hr : r < R.length
        · obtain ⟨z, hz⟩ := Xz hr
          rw [if_pos (by simpa using hr), Zm hz, Option.bind_some, (nn _ (hI.num z (List.mem_of_getElem? hz))).2, Option.bind_some, if_neg]
          have : nmK z ≠ nmK x := fun e => hat ⟨z, hz, e⟩
          simpa [nmK] using this
        · rw [if_neg (by simpa using hr)]
      refine ⟨R.take r ++ x :: R.drop r, Zfe kqI M (numN x.Frame).1 x, N ++ [(numN x.Frame).1], rfl, ?_, ⟨?_, ?_, ?_, ?_, ?_⟩, ?_, fun w hw => ?_, fun y hy => ⟨y, ?_, rfl, Int.le_refl _⟩, fun _ => ⟨x, by simp, rfl, Int.le_refl _⟩⟩
      · rw [hmid, Option.bind_some]
        simp only [Sum.elim_inr, Zjp]
        rw [show apz 160 R [x] = some (R ++ [x]) from J4 (by simp; omega), Option.bind_some, show i64 ((r : Int) + 1) = ((r + 1 : Nat) : Int) from (Zh (by omega) (by omega)).trans (by omega)]
        have hL : (R ++ [x]).length = R.length + 1 := by simp
        have sq : ∀ j : Nat, j ≤ R.length + 1 → slq (R ++ [x]) (j : Int) ((R ++ [x]).length : Int) = some () := fun j hj => by
          unfold slq; rw [hL]
          have a1 : (j : Int) ≤ ((R.length + 1 : Nat) : Int) := by omega
          simp only [decide_eq_true (show (0 : Int) ≤ (j : Int) by omega), decide_eq_true a1, decide_eq_true (Nat.succ_pos _), decide_eq_true (Nat.le_refl _), Bool.and_self]
          simp [ck]
        rw [sq (r + 1) (by omega), Option.bind_some, sq r (by omega), Option.bind_some]
        have t1' : Int.toNat (((R ++ [x]).length : Int) - ((r + 1 : Nat) : Int)) = (R.length + 1) - (r + 1) := by rw [hL]; omega
        have t2' : Int.toNat (((R ++ [x]).length : Int) - (r : Int)) = (R.length + 1) - r := by rw [hL]; omega
        rw [t1', t2']
        simp only [Int.toNat_natCast]
        obtain ⟨z, hz⟩ := Xz (xs := cpy (R ++ [x]) (r + 1) ((R.length + 1) - (r + 1)) r ((R.length + 1) - r)) (k := r) (by rw [ZgF (by rw [hL]; omega) (by rw [hL]; omega), hL]; omega)
        rw [Zm hz, Option.bind_some, Zkx x q2]
        rfl
      · have h := hI.srt
        rw [split', List.pairwise_append] at h
        rw [List.pairwise_append, List.pairwise_cons]
        refine ⟨h.1, ⟨gt1, h.2.1⟩, fun a ha b hb => ?_⟩
        rcases List.mem_cons.1 hb with rfl | hb
        · exact lt1 a ha
        · exact h.2.2 a ha b hb
      · rw [List.map_append, List.map_cons]
        refine (List.Perm.append_right _ hI.prm).trans ?_
        have e : R.map nmK = (R.take r).map nmK ++ (R.drop r).map nmK := by rw [← List.map_append, List.take_append_drop]
        rw [e, List.append_assoc]
        exact List.Perm.append_left _ (List.perm_append_comm (l₁ := (R.drop r).map nmK) (l₂ := [nmK x]))
      · intro w hw
        rw [ZfC]
        rcases List.mem_append.1 hw with p | p
        · have := lt1 w p
          rw [if_neg (by unfold nmK at this ⊢; omega)]
          exact hI.get w (List.mem_of_mem_take p)
        · rcases List.mem_cons.1 p with rfl | p
          · exact if_pos rfl
          · have := gt1 w p
            rw [if_neg (by unfold nmK at this ⊢; omega)]
            exact hI.get w (List.mem_of_mem_drop p)
      · intro n hn
        rw [ZfC]
        have hxn : n ≠ (numN x.Frame).1 := fun e => hn x (by simp) e.symm
        rw [if_neg hxn]
        refine hI.non n fun w hw => ?_
        rw [split'] at hw
        rcases List.mem_append.1 hw with p | p
        · exact hn w (List.mem_append_left _ p)
        · exact hn w (List.mem_append_right _ (List.mem_cons_of_mem _ p))
      · intro w hw
        rcases List.mem_append.1 hw with p | p
        · exact hI.num w (List.mem_of_mem_take p)
        · rcases List.mem_cons.1 p with rfl | p
          · exact hx
          · exact hI.num w (List.mem_of_mem_drop p)
      · simp only [List.length_append, List.length_cons, List.length_take, List.length_drop]; omega
      · rcases List.mem_append.1 hw with p | p
        · exact .inl (List.mem_of_mem_take p)
        · rcases List.mem_cons.1 p with rfl | p
          · exact .inr ⟨rfl, trivial⟩
          · exact .inl (List.mem_of_mem_drop p)
      · rw [split'] at hy
        rcases List.mem_append.1 hy with p | p
        · exact List.mem_append_left _ p
        · exact List.mem_append_right _ (List.mem_cons_of_mem _ p)
end Go.Vx

namespace Go.Vx
open Go Go.RowKit
theorem Zmw {N : List Int} {R : List api_Kept} (hl : N.length ≤ 100000) (hp : N.Perm (R.map nmK)) (hs : R.Pairwise fun a b => nmK a < nmK b) : Zgp N = some (R.map nmK) := by
  unfold Zgp
  rw [if_pos (by omega)]
  have hR : (R.map nmK).Pairwise (· < ·) := by rw [List.pairwise_map]; exact hs
  have hm := List.mergeSort_perm N (fun x y => decide (x ≤ y))
  have ha := List.pairwise_mergeSort (le := fun x y : Int => decide (x ≤ y)) (fun a b c h1 h2 => by simp at *; omega) (fun a b => by simp; omega) N
  have hnd : (N.mergeSort fun x y => decide (x ≤ y)).Nodup := (hm.trans hp).nodup_iff.2 (hR.imp (fun h => Int.ne_of_lt h))
  have hb : Srt (fun z => z) (N.mergeSort fun x y => decide (x ≤ y)) := by
    refine (List.Pairwise.and ha hnd).imp ?_
    intro a b h
    have := of_decide_eq_true h.1
    have := h.2
    show a < b ∨ (a = b ∧ a < b)
    omega
  have hc : Srt (fun z => z) (R.map nmK) := hR.imp (fun h => .inl h)
  rw [ZeZ (hm.trans hp) hb hc]
theorem Zlw {l : List api_Memory} (hR : ∀ m ∈ l, memR m) : ∃ (c : Int) (R : List api_Kept), Zak l = some (if c = 0 then R.map (·.Frame) else [], c) ∧ Zgh l = some (if c = 0 then R.map (·.Frame) else [], c) ∧ Xo l = some c ∧
    (c = 0 → R.length ≤ 32768 ∧ (∀ x ∈ R, x ∈ XD l ∧ sndB x.Frame = true) ∧ R.Pairwise (fun a b => nmK a < nmK b) ∧ ∀ x ∈ XD l, sndB x.Frame = true → ∃ y ∈ R, nmK y = nmK x ∧ x.Sequence ≤ y.Sequence) := by
  obtain ⟨c, c1, c2, c3, c4, c5, c6⟩ := Zpe hR
  refine ⟨c, ?_⟩
  unfold Zak Zgh
  rw [c3, c4]
  simp only [Option.bind_some]
  by_cases q : c = 0
  · obtain ⟨hl, hO⟩ := c5 q
    have hlen := ZlR hl.2 hR hO
    subst q
    simp only [decide_true, Bool.not_true, Bool.false_eq_true, if_false, if_true]
    -- both loops side by side
    have key : ∀ k : Nat, k ≤ (XD l).length → ∃ R M N, FrI R M N ∧ R.length ≤ k ∧ (∀ x ∈ R, x ∈ XD l ∧ sndB x.Frame = true) ∧
        (∀ j x, j < k → (XD l)[j]? = some x → sndB x.Frame = true → ∃ y ∈ R, nmK y = nmK x ∧ x.Sequence ≤ y.Sequence) ∧
        loop (t3 (Xu (XD l, 0))) (([] : List (Int × api_Kept)), ([] : List Int), (0 : Int)) = loop (t3 (Xu (XD l, 0))) (M, N, (k : Int)) ∧
        loop (t2 (XL (XD l, 0))) (([] : List api_Kept), (0 : Int)) = loop (t2 (XL (XD l, 0))) (R, (k : Int)) := by
      intro k
      induction k with
      | zero => intro _; exact ⟨[], [], [], ⟨.nil, .refl _, (fun x h => by cases h), (fun n _ => rfl), (fun x h => by cases h)⟩, Nat.le_refl _, (fun x h => by cases h), fun j x hj => absurd hj (Nat.not_lt_zero _), rfl, rfl⟩
      | succ k ih =>
        intro hk
        obtain ⟨R, M, N, i1, i2, i3, i4, i5, i6⟩ := ih (by omega)
        obtain ⟨x, hx⟩ := Xz (xs := XD l) (k := k) (by omega)
        obtain ⟨R', M', N', s1, s2, s3, s4, s5, s6⟩ := ZkK i1 (by omega) (Znt hR x (List.mem_of_getElem? hx)) (y := (XD l, 0)) hx (by show (XD l).length ≤ _; omega)
        refine ⟨R', M', N', s3, by omega, fun z hz => ?_, fun j z hj hz hsz => ?_, ?_, ?_⟩
        · rcases s5 z hz with p | ⟨p, ps⟩
          · exact i3 z p
          · rw [p]; exact ⟨List.mem_of_getElem? hx, ps⟩
        · by_cases e : j = k
          · subst e
            rw [hx] at hz; cases hz
            exact s6.2 hsz
          · obtain ⟨y, y1, y2, y3⟩ := i4 j z (by omega) hz hsz
            obtain ⟨w, w1, w2, w3⟩ := s6.1 y y1
            exact ⟨w, w1, by rw [w2, y2], by omega⟩
        · rw [i5, Zev]
          simp only [Zbz]
          rw [s1]; rfl
        · rw [i6, Zev]
          simp only [Qy]
          rw [s2]; rfl
    obtain ⟨R, M, N, i1, i2, i3, i4, i5, i6⟩ := key _ (Nat.le_refl _)
    have e1 : loop (t3 (Xu (XD l, 0))) (M, N, ((XD l).length : Int)) = some (M, N) := ZaA (by
      simp only [Zbz]
      unfold Xu
      rw [if_neg (by simp)])
    have e2 : loop (t2 (XL (XD l, 0))) (R, ((XD l).length : Int)) = some R := ZaA (by
      simp only [Qy]
      unfold XL
      rw [if_neg (by simp)])
    have hN : N.length = R.length := by rw [i1.prm.length_eq, List.length_map]
    rw [i5, i6, e1, e2]
    simp only [Option.bind_some, Qx, Qy]
    rw [Zmw (by omega) i1.prm i1.srt]
    simp only [Option.bind_some]
    have hm : (R.map nmK).length = R.length := List.length_map ..
    refine ⟨R, ?_, ?_, c1, fun _ => ⟨by omega, i3, i1.srt, fun x hx hs => ?_⟩⟩
    · obtain ⟨o, o1, o2⟩ := Zam (body := Zag M (R.map nmK)) (s0 := []) (N := R.length) (fun k acc => acc = (R.take k).map (·.Frame)) (fun r => r = R.map (·.Frame)) (fun k acc hk hI => .inl (by
        obtain ⟨x, hx⟩ := Xz hk
        subst hI
        refine ⟨(R.take k).map (·.Frame) ++ [x.Frame], ?_, by rw [List.take_succ, hx]; simp⟩
        unfold Zag
        rw [if_pos (by rw [hm]; simpa using hk), Zm (x := nmK x) (by rw [List.getElem?_map, hx]; rfl), Option.bind_some, i1.get x (List.mem_of_getElem? hx), Option.bind_some, J4 (by simp; omega), Option.bind_some, show i64 ((k : Int) + 1) = (k : Int) + 1 from Zh (by omega) (by omega)]
        rfl)) (fun acc hI => ⟨acc, by unfold Zag; rw [if_neg (by rw [hm]; simp)], by rw [hI, List.take_length]⟩) rfl
      rw [o1, o2]; rfl
    · obtain ⟨o, o1, o2⟩ := Zam (body := Zbv R) (s0 := []) (N := R.length) (fun k acc => acc = (R.take k).map (·.Frame)) (fun r => r = R.map (·.Frame)) (fun k acc hk hI => .inl (by
        obtain ⟨x, hx⟩ := Xz hk
        subst hI
        refine ⟨(R.take k).map (·.Frame) ++ [x.Frame], ?_, by rw [List.take_succ, hx]; simp⟩
        unfold Zbv
        rw [if_pos (by simpa using hk), Zm hx, Option.bind_some, J4 (by simp; omega), Option.bind_some, show i64 ((k : Int) + 1) = (k : Int) + 1 from Zh (by omega) (by omega)])) (fun acc hI => ⟨acc, by unfold Zbv; rw [if_neg (by simp)], by rw [hI, List.take_length]⟩) rfl
      rw [o1, o2]; rfl
    · obtain ⟨j, hj, e⟩ := List.getElem_of_mem hx
      exact i4 j x hj (by rw [List.getElem?_eq_getElem hj, e]) hs
  · refine ⟨[], ?_, ?_, c1, fun w => absurd w q⟩
    · rw [if_pos (by simp [q]), if_neg q]
    · rw [if_pos (by simp [q]), if_neg q]
end Go.Vx

namespace Go.Vx
open Go Go.RowKit
theorem Zez {l : List api_Memory} (hl : l.length ≤ 8) (hO : ∀ m ∈ l, MemOK m) : XZ l = some l := by
  unfold XZ
  obtain ⟨r, h1, h2⟩ := Zam (body := XU l) (s0 := []) (N := l.length) (fun k acc => acc = l.take k) (fun r => r = l) (fun k acc hk hI => .inl (by
      obtain ⟨m, hm⟩ := Xz hk
      subst hI
      refine ⟨l.take k ++ [m], ?_, by rw [List.take_succ, hm]; rfl⟩
      unfold XU
      rw [if_pos (by simpa using hk), Zm hm, Option.bind_some, ZoB (hO m (List.mem_of_getElem? hm)), Option.bind_some, J4 (by simp; omega), Option.bind_some, show i64 ((k : Int) + 1) = (k : Int) + 1 from Zh (by omega) (by omega)])) (fun acc hI => ⟨acc, by unfold XU; rw [if_neg (by simp)], by rw [hI, List.take_length]⟩) rfl
  rw [h1, h2]; rfl
structure SpotOK (m : api_Memory) (s : ring_spot) : Prop where
  sec : (s.sector = -1 ∧ s.slot = 0) ∨ (0 ≤ s.sector ∧ s.sector < m.Sectors.length)
  slot : 0 ≤ s.slot ∧ s.slot ≤ m.Slots
  /-- the slots from there on are free -/
  free : 0 ≤ s.sector → ∀ j : Nat, s.slot ≤ j → (j : Int) < m.Slots → slotL (m.Sectors.getD s.sector.toNat []) j = List.replicate 97 255
def dfS : ring_spot := ⟨0, 0⟩
structure BankI (b : ring_bank) : Prop where
  n : 1 ≤ b.memories.length ∧ b.memories.length ≤ 8
  ok : ∀ m ∈ b.memories, MemOK m
  u8 : ∀ m ∈ b.memories, memR m
  len : b.spots.length = b.memories.length
  at_ : ∀ k, k < b.memories.length → SpotOK (b.memories.getD k dfM) (b.spots.getD k dfS)
structure RecI (r : ring_Recorder) : Prop where
  bank : BankI r.bank
  cp : 1 ≤ r.copies ∧ r.copies ≤ r.bank.memories.length
theorem Zlk {l : List Int} (hl : l.length = 97) : stV l = 0 ↔ l = List.replicate 97 255 := by
  constructor
  · intro h
    unfold stV at h
    split at h
    · cases h
    · split at h
      · cases h
      · rename_i q
        rw [List.eq_replicate_iff]
        refine ⟨hl, fun x hx => ?_⟩
        have : l.any (fun x => !decide (x = 255)) = false := by simpa using q
        rw [List.any_eq_false] at this
        simpa using this x hx
  · rintro rfl
    decide
theorem ZjE {m : api_Memory} (hm : memR m) (ok : MemOK m) : ∃ s, Xm m = some s ∧ SpotOK m s := by
  unfold Xm
  obtain ⟨h1, h2, h3, h4⟩ := ZhA hm ok
  obtain ⟨l1, l2⟩ := ZgE hm ok
  rw [h1, Option.bind_some]
  by_cases h : (Zba m).length = 0
  · rw [if_pos (by rw [decide_eq_true_eq]; omega)]
    exact ⟨_, rfl, .inl ⟨rfl, rfl⟩, ⟨Int.le_refl _, by have := ok.slots; simp only; omega⟩, fun q => by simp at q⟩
  · rw [if_neg (by rw [decide_eq_true_eq]; omega), show i64 (((Zba m).length : Int) - 1) = (((Zba m).length - 1 : Nat) : Int) from (Zh (by omega) (by omega)).trans (by omega), Zm (Qv (by omega) 0), Option.bind_some]
    have hb := l2 _ (JR (X := Zba m) (t := (Zba m).length - 1) (by omega))
    obtain ⟨i, hi⟩ := Int.eq_ofNat_of_zero_le hb.1
    rw [hi] at hb ⊢
    have hil : i < m.Sectors.length := by omega
    have hs := ok.slots
    obtain ⟨z, z1, z2⟩ := Zam (body := Jh m (i : Int)) (s0 := (0 : Int)) (N := m.Slots.toNat) (fun k z => 0 ≤ z ∧ z ≤ (k : Int) ∧ ∀ j : Nat, z ≤ j → j < k → slotL (m.Sectors.getD i []) j = List.replicate 97 255)
      (fun z => 0 ≤ z ∧ z ≤ m.Slots ∧ ∀ j : Nat, z ≤ j → (j : Int) < m.Slots → slotL (m.Sectors.getD i []) j = List.replicate 97 255) (fun k z hk hI => .inl (by
        obtain ⟨b1, b2⟩ := row_bd ok hil (j := k) (by omega)
        obtain ⟨v, hv, hvl⟩ := Zhh (by omega) b2
        have h97 := JV b2
        unfold Jh
        rw [if_pos (by simp; omega), Zm (Qv hil []), Option.bind_some, hv, Option.bind_some, Zh1 hvl h97, Option.bind_some, show i64 ((k : Int) + 1) = (k : Int) + 1 from Zh (by omega) (by omega)]
        by_cases q : stV (slotL (m.Sectors.getD i []) k) = 0
        · refine ⟨z, by rw [if_neg (by rw [q]; decide)], hI.1, by omega, fun j hj hjk => ?_⟩
          by_cases e : j = k
          · subst e; exact (Zlk h97).1 q
          · exact hI.2.2 j hj (by omega)
        · refine ⟨(k : Int) + 1, by rw [if_pos (by rw [decide_eq_false q]; rfl)], by omega, by omega, fun j hj hjk => by omega⟩)) (fun z hI => ⟨z, by unfold Jh; rw [if_neg (by simp; omega)], hI.1, by omega, fun j hj hjk => hI.2.2 j hj (by omega)⟩) ⟨Int.le_refl _, Int.le_refl _, fun j _ hj => by omega⟩
    rw [z1]
    exact ⟨_, rfl, .inr ⟨by simp only; omega, by simp only; omega⟩, ⟨z2.1, z2.2.1⟩, fun _ j hj hjs => z2.2.2 j hj hjs⟩
end Go.Vx

namespace Go.Vx
open Go Go.RowKit
theorem Zkd (a b : Int) : 0 ≤ QJ .u8 a b ∧ QJ .u8 a b ≤ 255 := by
  rw [ZnP]
  have := (BitVec.ofInt 8 a &&& BitVec.ofInt 8 b).isLt
  omega
theorem ZiP : ∀ (d s : List Int) (a : Nat) (p : Int), u8R s → u8R (Qr s a d p).2.2
  | [], s, a, p, h => h
  | b :: tl, s, a, p, h => by
    have hs : ∀ z : Int, 0 ≤ z ∧ z ≤ 255 → u8R (s.set a z) := fun z hz x hx => by
      rcases List.mem_or_eq_of_mem_set hx with q | rfl
      · exact h x q
      · exact hz
    unfold Qr
    split
    · exact hs _ (Zkd ..)
    · exact ZiP tl _ _ _ (hs _ (Zkd ..))
theorem Zad {s : List Int} {a k : Nat} {z : Int} (h : a ≠ k) : (s.set a z).getD k 0 = s.getD k 0 := by
  rw [List.getD_eq_getElem?_getD, List.getElem?_set_ne h, List.getD_eq_getElem?_getD]
theorem Zc3 {s : List Int} {a : Nat} {z : Int} (h : a < s.length) : (s.set a z).getD a 0 = z := by
  rw [List.getD_eq_getElem?_getD, List.getElem?_set_self h]; rfl
theorem Zbq : ∀ (d s : List Int) (a : Nat) (p : Int) (k : Nat), k < a ∨ a + d.length ≤ k → (Qr s a d p).2.2.getD k 0 = s.getD k 0
  | [], s, a, p, k, h => rfl
  | b :: tl, s, a, p, k, h => by
    rw [List.length_cons] at h
    unfold Qr
    split
    · exact Zad (by omega)
    · rw [Zbq tl _ _ _ k (by omega), Zad (by omega)]
theorem ZgM : ∀ (d s : List Int) (a : Nat) (p : Int), a + d.length ≤ s.length → (Qr s a d p).2.1 = true → ∀ t, t < d.length → (Qr s a d p).2.2.getD (a + t) 0 = QJ .u8 (s.getD (a + t) 0) (d.getD t 0)
  | [], s, a, p, hl, h, t, ht => absurd ht (Nat.not_lt_zero _)
  | b :: tl, s, a, p, hl, h, t, ht => by
    rw [List.length_cons] at hl ht
    unfold Qr at h ⊢
    split at h
    · cases h
    · rename_i q
      rw [if_neg q]
      cases t with
      | zero =>
        rw [Zbq tl _ _ _ _ (by omega), Nat.add_zero, Zc3 (by omega)]; rfl
      | succ t =>
        have := ZgM tl (s.set a (QJ .u8 (s.getD a 0) b)) (a + 1) (p - 1) (by rw [List.length_set]; omega) h t (by omega)
        rw [show a + (t + 1) = a + 1 + t by omega, this, Zad (by omega)]; rfl
theorem Zie : ∀ (d s : List Int) (z : Int) (a : Nat) (p : Int), a + d.length < s.length → (Qr s a (d ++ [z]) p).2.1 = false →
    (Qr s a (d ++ [z]) p).2.2.getD (a + d.length) 0 = s.getD (a + d.length) 0 ∨ (Qr s a (d ++ [z]) p).2.2.getD (a + d.length) 0 = QJ .u8 (s.getD (a + d.length) 0) (bor .u8 z 15)
  | [], s, z, a, p, hl, h => by
    rw [List.length_nil, Nat.add_zero] at hl
    rw [List.nil_append, List.length_nil, Nat.add_zero] at *
    unfold Qr at h ⊢
    split at h
    · rename_i q
      rw [if_pos q]
      right
      exact Zc3 hl
    · unfold Qr at h; cases h
  | b :: tl, s, z, a, p, hl, h => by
    rw [List.length_cons] at hl
    rw [List.cons_append] at h ⊢
    rw [List.length_cons]
    unfold Qr at h ⊢
    split at h
    · rename_i q
      rw [if_pos q]
      left
      exact Zad (by omega)
    · rename_i q
      rw [if_neg q]
      have := Zie tl (s.set a (QJ .u8 (s.getD a 0) b)) z (a + 1) (p - 1) (by rw [List.length_set]; omega) h
      rw [Zad (by omega)] at this
      rw [show a + (tl.length + 1) = a + 1 + tl.length by omega]
      exact this
theorem Zbk {s t : List Int} (hl : s.length = t.length) (h : ∀ k, k < s.length → s.getD k 0 = t.getD k 0) : s = t := by
  apply List.ext_getElem hl
  intro i h1 h2
  have := h i h1
  rwa [List.getD_eq_getElem?_getD, List.getD_eq_getElem?_getD, List.getElem?_eq_getElem h1, List.getElem?_eq_getElem h2] at this
theorem ZdF {s : List Int} {j t : Nat} (h : 16 + j * 97 + 97 ≤ s.length) (ht : t < 97) : (slotL s j).getD t 0 = s.getD (16 + j * 97 + t) 0 := by
  unfold slotL
  rw [List.getD_eq_getElem?_getD, List.getElem?_drop, List.getElem?_take_of_lt (by omega), List.getD_eq_getElem?_getD]
theorem ZcD {s t : List Int} {j : Nat} (hl : s.length = t.length) (h1 : 16 + j * 97 + 97 ≤ s.length) (h : ∀ k, 16 + j * 97 ≤ k → k < 16 + j * 97 + 97 → s.getD k 0 = t.getD k 0) : slotL s j = slotL t j := by
  have e1 := JV h1
  have e2 := JV (s := t) (i := j) (by omega)
  refine Zbk (by omega) fun k hk => ?_
  rw [ZdF h1 (by omega), ZdF (by omega) (by omega)]
  exact h _ (by omega) (by omega)
theorem ZdA {s t : List Int} (hl : s.length = t.length) (h : ∀ k, k < 10 → s.getD k 0 = t.getD k 0) : (headV s).1 = (headV t).1 ∧ (headV s).2.2 = (headV t).2.2 := by
  unfold headV
  rw [hl]
  by_cases q : t.length < 16
  · rw [if_pos q, if_pos q]; exact ⟨rfl, rfl⟩
  · rw [if_neg q, if_neg q]
    have e : s.take 10 = t.take 10 := by
      refine Zbk (by rw [List.length_take, List.length_take]; omega) fun k hk => ?_
      rw [List.length_take] at hk
      rw [List.getD_eq_getElem?_getD, List.getElem?_take_of_lt (by omega), ← List.getD_eq_getElem?_getD, h k (by omega), List.getD_eq_getElem?_getD (l := t.take 10), List.getElem?_take_of_lt (by omega), List.getD_eq_getElem?_getD]
    simp only
    rw [h 2 (by omega), h 3 (by omega), h 4 (by omega), h 5 (by omega), e]
    split <;> exact ⟨rfl, rfl⟩
theorem ZgN {m : api_Memory} {z : Int} : ∀ {k : Nat}, z ∈ hdM m k ↔ ∃ i : Nat, i < k ∧ okM m i = true ∧ z = i
  | 0 => ⟨fun h => (by cases h), fun ⟨i, h, _⟩ => absurd h (Nat.not_lt_zero _)⟩
  | k + 1 => by
    rw [Zg6, List.mem_append, ZgN]
    constructor
    · rintro (⟨i, a, b, c⟩ | h)
      · exact ⟨i, by omega, b, c⟩
      · split at h
        · rename_i q
          exact ⟨k, by omega, q, List.mem_singleton.1 h⟩
        · cases h
    · rintro ⟨i, a, b, c⟩
      by_cases e : i = k
      · subst e
        right
        rw [if_pos b, c]; exact List.mem_singleton.2 rfl
      · exact .inl ⟨i, by omega, b, c⟩
def InS (m : api_Memory) (mi : Int) (i : Nat) (x : api_Kept) : Prop := ∃ j : Nat, (j : Int) < m.Slots ∧ stV (slotL (m.Sectors.getD i []) j) = 1 ∧ x = ⟨mi, i, (headV (m.Sectors.getD i [])).1, j, frV (m.Sectors.getD i []) j⟩
theorem JZ {m : api_Memory} (hm : memR m) (ok : MemOK m) {mi : Int} {x : api_Kept} : x ∈ keptM m mi ↔ ∃ i : Nat, i < m.Sectors.length ∧ okM m i = true ∧ InS m mi i x := by
  unfold keptM
  rw [List.mem_flatMap]
  obtain ⟨_, _, p, _⟩ := ZhA hm ok
  constructor
  · rintro ⟨z, hz, hx⟩
    obtain ⟨i, a, b, rfl⟩ := ZgN.1 (p.mem_iff.1 hz)
    obtain ⟨j, c, d, e⟩ := Zh2 hx
    exact ⟨i, a, b, j, c, d, e⟩
  · rintro ⟨i, a, b, j, c, d, rfl⟩
    refine ⟨i, p.mem_iff.2 (ZgN.2 ⟨i, a, b, rfl⟩), ?_⟩
    unfold Zer
    rw [List.mem_flatMap]
    refine ⟨j, List.mem_range.2 (by omega), ?_⟩
    simp only [Int.toNat_natCast]
    rw [if_pos d]
    exact List.mem_singleton.2 rfl
def QG (m : api_Memory) (i : Nat) (S : List Int) (W : List Int) : api_Memory := ⟨m.Slots, m.Limit, m.Sectors.set i S, W, m.Bad⟩
theorem ZeC {l : List (List Int)} {i k : Nat} {S : List Int} (hi : i < l.length) : (l.set i S).getD k [] = if k = i then S else l.getD k [] := by
  rw [List.getD_eq_getElem?_getD, List.getElem?_set]
  by_cases e : i = k
  · subst e; rw [if_pos rfl, if_pos hi, if_pos rfl]; rfl
  · rw [if_neg e, if_neg (fun q => e q.symm), List.getD_eq_getElem?_getD]
theorem ZgK {m : api_Memory} (ok : MemOK m) (hm : memR m) {i : Nat} (hi : i < m.Sectors.length) {S W : List Int} (hS : S.length = (m.Sectors.getD i []).length) (hu : u8R S) (hW : W.length = m.Wear.length) (hw : ∀ x ∈ W, 0 ≤ x ∧ x ≤ m.Limit) :
    MemOK (QG m i S W) ∧ memR (QG m i S W) := by
  refine ⟨⟨ok.slots, ok.limit, by unfold QG; simpa using ok.n, by unfold QG; simp only [List.length_set]; rw [hW]; exact ok.wear, by unfold QG; simpa using ok.bad, fun s hs => ?_, hw⟩, fun s hs => ?_⟩
  · rcases List.mem_or_eq_of_mem_set hs with q | rfl
    · exact ok.row s q
    · rw [hS]; exact ok.row _ (row_bd.getD_memL hi)
  · rcases List.mem_or_eq_of_mem_set hs with q | rfl
    · exact hm s q
    · exact hu
theorem ZfT {m : api_Memory} (ok : MemOK m) (hm : memR m) {i : Nat} (hi : i < m.Sectors.length) {S W : List Int} (hS : S.length = (m.Sectors.getD i []).length) (hu : u8R S) (hW : W.length = m.Wear.length) (hw : ∀ x ∈ W, 0 ≤ x ∧ x ≤ m.Limit)
    {mi : Int} {x : api_Kept} (hx : x ∈ keptM (QG m i S W) mi) :
    x ∈ keptM m mi ∨ ((headV S).2.2 = true ∧ m.Bad.getD i false = false ∧ ∃ j : Nat, (j : Int) < m.Slots ∧ stV (slotL S j) = 1 ∧ x = ⟨mi, i, (headV S).1, j, frV S j⟩) := by
  obtain ⟨o', r'⟩ := ZgK ok hm hi hS hu hW hw
  obtain ⟨k, k1, k2, j, j1, j2, rfl⟩ := (JZ r' o').1 hx
  have hk : k < m.Sectors.length := by simpa [QG] using k1
  have e : (QG m i S W).Sectors.getD k [] = if k = i then S else m.Sectors.getD k [] := ZeC hi
  unfold okM at k2
  rw [Bool.and_eq_true] at k2
  have hb : (QG m i S W).Bad = m.Bad := rfl
  by_cases q : k = i
  · subst q
    rw [if_pos rfl] at e
    rw [e, hb] at k2
    right
    refine ⟨k2.1, by simpa using k2.2, j, j1, by rwa [e] at j2, by rw [e]⟩
  · rw [if_neg q] at e
    left
    rw [e] at k2 j2
    exact (JZ hm ok).2 ⟨k, hk, by unfold okM; rw [Bool.and_eq_true]; exact ⟨k2.1, by rw [hb] at k2; exact k2.2⟩, j, j1, j2, by rw [e]⟩
theorem Znw {s : List Int} {p : Int} (hl : s.length ≤ 7000) (hl2 : 2 ≤ s.length) (hp : 0 ≤ p ∧ p ≤ 1000000000) : Xk s p = some (if p = 0 then (0, false, List.replicate (s.length / 2) 255 ++ s.drop (s.length / 2)) else (p - 1, true, List.replicate s.length 255)) := by
  have setf : ∀ (n : Nat), n ≤ s.length → ∀ {body : List Int → Int → Option ((List Int × Int) ⊕ List Int)}, (∀ (k : Nat) (o : List Int), k < n → o.length = s.length → body o k = some (.inl (o.set k 255, (k : Int) + 1))) → (∀ o, body o n = some (.inr o)) →
      loop (t2 body) (s, 0) = some (List.replicate n 255 ++ s.drop n) := by
    intro n hn body h1 h2
    obtain ⟨r, r1, r2⟩ := Zam (body := body) (s0 := s) (N := n) (fun k o => o = List.replicate k 255 ++ s.drop k) (fun r => r = List.replicate n 255 ++ s.drop n) (fun k o hk hI => .inl (by
      have hol : o.length = s.length := by rw [hI]; simp; omega
      refine ⟨o.set k 255, h1 k o hk hol, ?_⟩
      obtain ⟨x, hx⟩ := Xz (xs := s) (k := k) (by omega)
      rw [hI, JX hx, List.set_append, if_neg (by simp), List.length_replicate, Nat.sub_self, List.set_cons_zero, List.replicate_succ']
      simp)) (fun o hI => ⟨o, h2 o, hI⟩) (by simp)
    rw [r1, r2]
  unfold Xk
  by_cases q : p = 0
  · subst q
    have e3 : Int.tdiv (s.length : Int) 2 = ((s.length / 2 : Nat) : Int) := rfl
    rw [if_pos (by decide), Znx (by omega), Option.bind_some]
    have sl : slp s 0 ((s.length / 2 : Nat) : Int) = some () := by
      unfold slp
      have a1 : (((s.length / 2 : Nat) : Int)) ≤ (s.length : Int) := by omega
      simp [ck]
      omega
    rw [sl, Option.bind_some]
    have en : ((Int.toNat (((s.length / 2 : Nat) : Int) - 0) : Nat) : Int) = ((s.length / 2 : Nat) : Int) := by omega
    rw [setf (s.length / 2) (by omega) (fun k o hk hol => by
      unfold QL
      rw [en]
      have a0 : decide ((0 : Int) ≤ (k : Int)) = true := by simp
      have a1 : decide ((k : Int) < ((s.length / 2 : Nat) : Int)) = true := decide_eq_true (by omega)
      rw [if_pos a1, a0, a1]
      obtain ⟨x, hx⟩ := Xz (xs := o) (k := k) (by omega)
      simp only [Bool.and_self, ck, if_true, Option.bind_some, Int.zero_add, Int.toNat_natCast]
      rw [Zm hx, Option.bind_some, show i64 ((k : Int) + 1) = (k : Int) + 1 from Zh (by omega) (by omega)]) (fun o => by
      unfold QL
      rw [en, if_neg (by simp)])]
    simp only [Option.bind_some, Qx, if_true]
    rfl
  · rw [if_neg (by simpa using q), if_neg q]
    rw [setf s.length (Nat.le_refl _) (fun k o hk hol => by
      unfold QM
      obtain ⟨x, hx⟩ := Xz (xs := o) (k := k) (by omega)
      rw [if_pos (by simpa using hk), Zm hx, Option.bind_some, Int.toNat_natCast, show i64 ((k : Int) + 1) = (k : Int) + 1 from Zh (by omega) (by omega)]) (fun o => by
      unfold QM
      rw [if_neg (by simp)])]
    simp only [Option.bind_some, Qx]
    rw [show i64 (p - 1) = p - 1 from Zh (by omega) (by omega), decide_eq_true (show 0 < p by omega), List.drop_length, List.append_nil, show max (p - 1) 0 = p - 1 by omega]
end Go.Vx

namespace Go.Vx
open Go Go.RowKit
def Zaz (p : Nat → Bool) : Nat → Option Nat
  | 0 => none
  | n + 1 => match Zaz p n with
    | some k => some k
    | none => if p n = true then some n else none
theorem Zc2 {p : Nat → Bool} {k z : Nat} (h : Zaz p k = some z) : ∀ {n : Nat}, k ≤ n → Zaz p n = some z
  | 0, hn => by
    obtain rfl : k = 0 := by omega
    exact h
  | n + 1, hn => by
    by_cases e : k = n + 1
    · subst e; exact h
    · have := Zc2 h (n := n) (by omega)
      unfold Zaz; rw [this]
theorem Zf9 {p : Nat → Bool} : ∀ {n z : Nat}, Zaz p n = some z → z < n ∧ p z = true
  | 0, z, h => by cases h
  | n + 1, z, h => by
    unfold Zaz at h
    split at h
    · rename_i k hk
      cases h
      have := Zf9 hk
      exact ⟨by omega, this.2⟩
    · split at h
      · rename_i q
        cases h
        exact ⟨by omega, q⟩
      · cases h
def Zbe (m : api_Memory) (z : Nat) : Bool := !(m.Bad.getD z false) && decide (m.Wear.getD z 0 < m.Limit)
def ZaT (m : api_Memory) (sec : Int) (i : Nat) : Nat := ((sec + 1).toNat + i) % m.Sectors.length
def QK (m : api_Memory) (sec : Int) : Int := match Zaz (fun i => Zbe m (ZaT m sec i)) m.Sectors.length with
  | some i => (ZaT m sec i : Int)
  | none => -1
theorem ZdW {m : api_Memory} {sec : Int} (h : 0 ≤ QK m sec) (hn : 0 < m.Sectors.length) : QK m sec < m.Sectors.length ∧ Zbe m (QK m sec).toNat = true := by
  unfold QK at h ⊢
  split at h
  · rename_i i hi
    have := (Zf9 hi).2
    have hlt : ZaT m sec i < m.Sectors.length := Nat.mod_lt _ hn
    exact ⟨by omega, by simpa using this⟩
  · omega
theorem ZmG {b : ring_bank} {k : Nat} {m : api_Memory} {s : ring_spot} (hm : b.memories[k]? = some m) (hs : b.spots[k]? = some s) (ok : MemOK m) (h1 : -1 ≤ s.sector) (h2 : s.sector < m.Sectors.length) : Xr b (k : Int) = some (QK m s.sector) := by
  have hn := ok.n
  unfold Xr
  rw [Zm hm, Option.bind_some]
  obtain ⟨r, r1, r2⟩ := ZbC (body := X0 b (k : Int) m) (N := m.Sectors.length) (fun j => Zaz (fun i => Zbe m (ZaT m s.sector i)) j = none) (fun r => Sum.elim (fun q => q) (fun _ => (-1 : Int)) r = QK m s.sector) (fun j hj hI => by
    have hlt : ZaT m s.sector j < m.Sectors.length := Nat.mod_lt _ (by omega)
    have e1 : i64 (s.sector + 1) = s.sector + 1 := Zh (by omega) (by omega)
    have e2 : i64 (s.sector + 1 + (j : Int)) = (((s.sector + 1).toNat + j : Nat) : Int) := (Zh (by omega) (by omega)).trans (by omega)
    have e3 : rem (((s.sector + 1).toNat + j : Nat) : Int) (m.Sectors.length : Int) = some (ZaT m s.sector j : Int) := by
      unfold rem ZaT
      rw [if_neg (by omega)]
      rfl
    unfold X0
    rw [if_pos (by simpa using hj), Zm hs, Option.bind_some, e1, e2, e3, Option.bind_some, Zm (Qv (s := m.Bad) (by have := ok.bad; omega) false), Option.bind_some, show i64 ((j : Int) + 1) = (j : Int) + 1 from Zh (by omega) (by omega), Zm (Qv (s := m.Wear) (by have := ok.wear; omega) 0)]
    have hp : Zbe m (ZaT m s.sector j) = (!(m.Bad.getD (ZaT m s.sector j) false) && decide (m.Wear.getD (ZaT m s.sector j) 0 < m.Limit)) := rfl
    cases hB : m.Bad.getD (ZaT m s.sector j) false with
    | true =>
      rw [hB] at hp
      left
      refine ⟨by simp [gd], ?_⟩
      unfold Zaz
      rw [hI, hp]; rfl
    | false =>
      rw [hB] at hp
      simp only [Bool.not_false, gd, beq_self_eq_true, if_true, Option.bind_some, Bool.true_and] at hp ⊢
      by_cases q : m.Wear.getD (ZaT m s.sector j) 0 < m.Limit
      · right
        refine ⟨_, by rw [if_pos (decide_eq_true q)], ?_⟩
        have : Zaz (fun i => Zbe m (ZaT m s.sector i)) (j + 1) = some j := by
          unfold Zaz
          rw [hI, hp, decide_eq_true q]; rfl
        unfold QK
        rw [Zc2 this (by omega)]; rfl
      · left
        refine ⟨by rw [if_neg (by simpa using q)], ?_⟩
        unfold Zaz
        rw [hI, hp, decide_eq_false q]; rfl) (fun hI => ⟨.inr (), by unfold X0; rw [if_neg (by simp)], by unfold QK; rw [hI]; rfl⟩) rfl
  rw [r1]
  cases r with
  | inl q => simp only [Option.bind_some, Sum.elim_inl] at r2 ⊢; rw [← r2]
  | inr q => simp only [Option.bind_some, Sum.elim_inr] at r2 ⊢; rw [← r2]; rfl
def Zdi (m : api_Memory) (sec : Int) : Nat → Int
  | 0 => 0
  | k + 1 => if ((headV (m.Sectors.getD k [])).2.2 && !decide ((k : Int) = sec)) = true then max (Zdi m sec k) (headV (m.Sectors.getD k [])).1 else Zdi m sec k
theorem Zew (m : api_Memory) (sec : Int) : ∀ k, 0 ≤ Zdi m sec k ∧ Zdi m sec k ≤ 1073741824
  | 0 => by simp [Zdi]
  | k + 1 => by
    have h := Zew m sec k
    have := Zhq (m.Sectors.getD k [])
    unfold Zdi
    split <;> omega
def ZaQ (m : api_Memory) (sec : Int) : Int := Zdi m sec m.Sectors.length + 1
theorem ZnZ {b : ring_bank} {k : Nat} {m : api_Memory} (hm : b.memories[k]? = some m) (hR : memR m) (ok : MemOK m) (sec : Int) : Q0 b (k : Int) sec = some (ZaQ m sec) := by
  have hn := ok.n
  unfold Q0
  rw [Zm hm, Option.bind_some]
  obtain ⟨r, r1, r2⟩ := Zam (body := Xf sec m) (s0 := (0 : Int)) (N := m.Sectors.length) (fun j z => z = Zdi m sec j) (fun z => z = Zdi m sec m.Sectors.length) (fun j z hj hI => .inl (by
    unfold Xf
    rw [if_pos (by simpa using hj), Zm (Qv hj []), Option.bind_some, Zhd (ZbS hR j), Option.bind_some, show i64 ((j : Int) + 1) = (j : Int) + 1 from Zh (by omega) (by omega), hI]
    by_cases q : ((headV (m.Sectors.getD j [])).2.2 && !decide ((j : Int) = sec)) = true
    · exact ⟨_, by rw [if_pos q], by show _ = Zdi m sec (j + 1); rw [Zdi, if_pos q]⟩
    · exact ⟨_, by rw [if_neg q], by show _ = Zdi m sec (j + 1); rw [Zdi, if_neg q]⟩)) (fun z hI => ⟨z, by unfold Xf; rw [if_neg (by simp)], hI⟩) rfl
  have := Zew m sec m.Sectors.length
  rw [r1, Option.bind_some, Qx, r2, show i64 (Zdi m sec m.Sectors.length + 1) = _ from Zh (by omega) (by omega)]
  rfl
def Qa (m : api_Memory) (s : ring_spot) : Bool := decide (s.sector < 0) || decide (s.slot = m.Slots)
theorem Zjx {b : ring_bank} {k : Nat} {m : api_Memory} {s : ring_spot} (hm : b.memories[k]? = some m) (hs : b.spots[k]? = some s) : Q2 b (k : Int) = some (Qa m s) := by
  unfold Q2 Qa
  rw [Zm hs, Option.bind_some, Zm hm]
  by_cases q : s.sector < 0
  · simp [q, gd]
  · simp [q, gd]
def Zcy (s : List Int) : List Int := List.replicate (s.length / 2) 255 ++ s.drop (s.length / 2)
def QA (m : api_Memory) (s : ring_spot) (p : Int) : Int × Bool × api_Memory × ring_spot :=
  let y := QK m s.sector
  let S := m.Sectors.getD y.toNat []
  let W := m.Wear.set y.toNat (m.Wear.getD y.toNat 0 + 1)
  if p = 0 then (0, false, QG m y.toNat (Zcy S) W, s) else
  let q := Qr (List.replicate S.length 255) 0 (hdL (ZaQ m y)) (p - 1)
  (q.1, q.2.1, QG m y.toNat q.2.2 W, cond q.2.1 ⟨y, 0⟩ s)
def upd (r : ring_Recorder) (k : Nat) (m : api_Memory) (sp : List ring_spot) : ring_Recorder := ⟨⟨r.bank.memories.set k m, sp⟩, r.copies, r.frozen, r.stopped, r.last, r.some_⟩
theorem ZoK (m : api_Memory) (i : Nat) (S T : List Int) (W : List Int) : QG (QG m i S W) i T W = QG m i T W := by
  unfold QG; simp
theorem Zo9 {r : ring_Recorder} {k : Nat} {m : api_Memory} {s : ring_spot} (hm : r.bank.memories[k]? = some m) (hs : r.bank.spots[k]? = some s) (hR : memR m) (ok : MemOK m) (h1 : -1 ≤ s.sector) (h2 : s.sector < m.Sectors.length) (hx : 0 ≤ QK m s.sector) (hq : ZaQ m (QK m s.sector) ≤ 1073741824) {p : Int} (hp : 0 ≤ p ∧ p ≤ 1000000000) :
    X4 r (k : Int) p = some ((QA m s p).1, (QA m s p).2.1, upd r k (QA m s p).2.2.1 (if (QA m s p).2.1 = true then r.bank.spots.set k (QA m s p).2.2.2 else r.bank.spots)) := by
  have hn := ok.n
  obtain ⟨b1, b2⟩ := ZdW hx (by omega)
  have hkl := (List.getElem?_eq_some_iff.1 hm).1
  unfold X4
  rw [Zm hm, Option.bind_some, ZmG hm hs ok h1 h2, Option.bind_some, ZnZ hm hR ok, Option.bind_some]
  obtain ⟨y, hy⟩ := Int.eq_ofNat_of_zero_le hx
  unfold QA
  rw [hy] at b1 b2 hq ⊢
  simp only [Int.toNat_natCast] at b2 ⊢
  have hyl : y < m.Sectors.length := by omega
  have hyw : y < m.Wear.length := by have := ok.wear; omega
  have hw := ok.wr _ (JR hyw)
  have hrow := ok.row _ (row_bd.getD_memL hyl)
  have hsl := ok.slots
  have hlim := ok.limit
  rw [Zm (Qv hyw 0), Option.bind_some, Option.bind_some, Zm (Qv hyl []), Option.bind_some, Znw (by omega) (by omega) hp, Option.bind_some, show i64 (m.Wear.getD y 0 + 1) = m.Wear.getD y 0 + 1 from Zh (by omega) (by omega)]
  by_cases q : p = 0
  · rw [if_pos q, if_pos q]
    simp only [Bool.not_false, if_true, Bool.false_eq_true, if_false]
    rw [List.set_set]
    rfl
  · rw [if_neg q, if_neg q]
    simp only [Bool.not_true, Bool.false_eq_true, if_false]
    rw [List.set_set]
    have g1 : (r.bank.memories.set k (QG m y (List.replicate (m.Sectors.getD y []).length 255) (m.Wear.set y (m.Wear.getD y 0 + 1))))[k]? = some (QG m y (List.replicate (m.Sectors.getD y []).length 255) (m.Wear.set y (m.Wear.getD y 0 + 1))) := List.getElem?_set_self hkl
    have g2 : (QG m y (List.replicate (m.Sectors.getD y []).length 255) (m.Wear.set y (m.Wear.getD y 0 + 1))).Sectors[y]? = some (List.replicate (m.Sectors.getD y []).length 255) := List.getElem?_set_self hyl
    have hs1 : 1 ≤ ZaQ m (y : Int) := by have := Zew m (y : Int) m.Sectors.length; unfold ZaQ; omega
    have hput := Zlv (s := List.replicate (m.Sectors.getD y []).length 255) (d := hdL (ZaQ m (y : Int))) (a := 0) (p := p - 1) (by rw [List.length_replicate]; omega) (by rw [List.length_replicate]; simp only [hdL, List.length_cons, List.length_nil]; omega) (by omega)
    have em : api_Memory.mk m.Slots m.Limit (m.Sectors.set y (List.replicate (m.Sectors.getD y []).length 255)) (m.Wear.set y (m.Wear.getD y 0 + 1)) m.Bad = QG m y (List.replicate (m.Sectors.getD y []).length 255) (m.Wear.set y (m.Wear.getD y 0 + 1)) := rfl
    rw [em, Zm g1, Option.bind_some, Zm g2, Option.bind_some, Option.bind_some, Zjr ⟨hs1, hq⟩, Option.bind_some]
    have hput' : Q7 (List.replicate (m.Sectors.getD y []).length 255) 0 (hdL (ZaQ m (y : Int))) (p - 1) = some (Qr (List.replicate (m.Sectors.getD y []).length 255) 0 (hdL (ZaQ m (y : Int))) (p - 1)) := hput
    rw [hput', Option.bind_some]
    have e3 : ∀ P : Int × Bool × List Int, (r.bank.memories.set k (QG m y (List.replicate (m.Sectors.getD y []).length 255) (m.Wear.set y (m.Wear.getD y 0 + 1)))).set k (api_Memory.mk (QG m y (List.replicate (m.Sectors.getD y []).length 255) (m.Wear.set y (m.Wear.getD y 0 + 1))).Slots (QG m y (List.replicate (m.Sectors.getD y []).length 255) (m.Wear.set y (m.Wear.getD y 0 + 1))).Limit ((QG m y (List.replicate (m.Sectors.getD y []).length 255) (m.Wear.set y (m.Wear.getD y 0 + 1))).Sectors.set y P.2.2) (QG m y (List.replicate (m.Sectors.getD y []).length 255) (m.Wear.set y (m.Wear.getD y 0 + 1))).Wear (QG m y (List.replicate (m.Sectors.getD y []).length 255) (m.Wear.set y (m.Wear.getD y 0 + 1))).Bad) = r.bank.memories.set k (QG m y P.2.2 (m.Wear.set y (m.Wear.getD y 0 + 1))) := fun P => by
      rw [List.set_set]; unfold QG; simp
    rw [e3]
    cases hP : (Qr (List.replicate (m.Sectors.getD y []).length 255) 0 (hdL (ZaQ m (y : Int))) (p - 1)).2.1 with
    | true =>
      simp only [if_true, cond_true, Zm hs, Option.bind_some, ZnR]
      rfl
    | false =>
      simp only [Bool.false_eq_true, if_false, cond_false, Option.bind_some, ZnR]
      rfl
def Jd (m : api_Memory) (s : ring_spot) (data : List Int) (p : Int) : Int × Bool × api_Memory × ring_spot :=
  let q := Qr (m.Sectors.getD s.sector.toNat []) (16 + s.slot.toNat * 97) (data ++ [0]) p
  (q.1, q.2.1, QG m s.sector.toNat q.2.2 m.Wear, ⟨s.sector, s.slot + 1⟩)
theorem Zkp {r : ring_Recorder} {k : Nat} {m : api_Memory} {s : ring_spot} {data : List Int} {p : Int} {mems : List api_Memory} {spots : List ring_spot} (hm : mems[k]? = some m) (hs : spots[k]? = some s) (ok : MemOK m) (h1 : 0 ≤ s.sector) (h2 : s.sector < m.Sectors.length) (h3 : 0 ≤ s.slot ∧ s.slot < m.Slots) (hd : data.length = 96) (hp : 0 ≤ p ∧ p ≤ 1000000000) :
    ((idx spots (k : Int)).bind fun x => (idx mems (k : Int)).bind fun x2 => (idx x2.Sectors x.sector).bind fun x3 => (idx mems (k : Int)).bind fun x4 => (idx x2.Sectors x.sector).bind fun x5 => (apz 1 data ([0] : List Int)).bind fun l =>
      (Q7 x3 (i64 (16 + (i64 (x.slot * 97)))) l p).bind fun y3 =>
      some (y3.1, y3.2.1, (ring_Recorder.mk (ring_bank.mk (mems.set (Int.toNat (k : Int)) (api_Memory.mk x2.Slots x2.Limit (x2.Sectors.set x.sector.toNat y3.2.2) x2.Wear x2.Bad)) (spots.set (Int.toNat (k : Int)) (ring_spot.mk x.sector (i64 (x.slot + 1))))) r.copies r.frozen r.stopped r.last r.some_))) =
    some ((Jd m s data p).1, (Jd m s data p).2.1, ⟨⟨mems.set k (Jd m s data p).2.2.1, spots.set k (Jd m s data p).2.2.2⟩, r.copies, r.frozen, r.stopped, r.last, r.some_⟩) := by
  have hsl := ok.slots
  obtain ⟨i, hi⟩ := Int.eq_ofNat_of_zero_le h1
  obtain ⟨j, hj⟩ := Int.eq_ofNat_of_zero_le h3.1
  unfold Jd
  rw [Zm hs, Option.bind_some, Zm hm, Option.bind_some, hi, hj]
  have hil : i < m.Sectors.length := by omega
  have hrow := row_bd ok hil (j := j) (by omega)
  rw [Zm (Qv hil []), Option.bind_some, Option.bind_some, Option.bind_some, J4 (by simp; omega), Option.bind_some]
  rw [show i64 ((j : Int) * 97) = (j : Int) * 97 from Zh (by omega) (by omega), show i64 (16 + (j : Int) * 97) = ((16 + j * 97 : Nat) : Int) from (Zh (by omega) (by omega)).trans (by omega)]
  rw [Zlv (by omega) (by rw [List.length_append]; simp only [List.length_cons, List.length_nil]; omega) hp, Option.bind_some, show i64 ((j : Int) + 1) = (j : Int) + 1 from Zh (by omega) (by omega)]
  simp only [Int.toNat_natCast]
  rfl
def ZF (m : api_Memory) (s : ring_spot) (data : List Int) (p : Int) : Int × Bool × api_Memory × ring_spot :=
  if Qa m s = true then
    if (QA m s p).2.1 = true then Jd (QA m s p).2.2.1 (QA m s p).2.2.2 data (QA m s p).1 else ((QA m s p).1, false, (QA m s p).2.2.1, s)
  else Jd m s data p
end Go.Vx

namespace Go.Vx
open Go Go.RowKit
structure WP (m m' : api_Memory) (s' : ring_spot) (all : Bool) (f : Vector Int 64) : Prop where
  slots : m'.Slots = m.Slots
  n : m'.Sectors.length = m.Sectors.length
  ok : MemOK m'
  u8 : memR m'
  at_ : all = true → SpotOK m' s'
  kept : ∀ mi x, x ∈ keptM m' mi → x ∈ keptM m mi ∨ (all = true ∧ x.Frame = f)
theorem ZhY {n j : Nat} (h : 16 + j * 97 + 97 ≤ n) : slotL (List.replicate n (255 : Int)) j = List.replicate 97 255 := by
  unfold slotL
  rw [List.take_replicate, List.drop_replicate]
  congr 1; omega
theorem ZeP {n k : Nat} (h : k < n) : (List.replicate n (255 : Int)).getD k 0 = 255 := by
  rw [List.getD_eq_getElem?_getD, List.getElem?_replicate, if_pos h]; rfl
theorem Zmq (n : Nat) : u8R (List.replicate n 255) := fun x hx => by rw [List.eq_of_mem_replicate hx]; omega
theorem ZlY {s : List Int} (h : u8R s) : u8R (Zcy s) := fun x hx => by
  rcases List.mem_append.1 hx with q | q
  · rw [List.eq_of_mem_replicate q]; omega
  · exact h x (List.mem_of_mem_drop q)
theorem ZkO (s : List Int) : (Zcy s).length = s.length := by unfold Zcy; simp; omega
theorem Zhu {s : List Int} (h : 2 ≤ s.length) : (headV (Zcy s)).2.2 = false := by
  unfold headV
  split
  · rfl
  · simp only
    rw [if_neg]
    rintro ⟨_, _, e⟩
    have this : ((Zcy s).take 10).getD 0 0 = (hdL (Zhc ((Zcy s).getD 2 0) ((Zcy s).getD 3 0) ((Zcy s).getD 4 0) ((Zcy s).getD 5 0))).getD 0 0 := by rw [e]
    rw [List.getD_eq_getElem?_getD, List.getElem?_take_of_lt (by omega)] at this
    have e2 : (Zcy s)[0]? = some 255 := by
      unfold Zcy
      rw [List.getElem?_append_left (by simp; omega), List.getElem?_replicate, if_pos (by omega)]
    rw [e2] at this
    simp [hdL] at this
theorem Zm3 {m : api_Memory} (ok : MemOK m) {i : Nat} (hi : i < m.Sectors.length) (hx : Zbe m i = true) : (m.Wear.set i (m.Wear.getD i 0 + 1)).length = m.Wear.length ∧ ∀ x ∈ m.Wear.set i (m.Wear.getD i 0 + 1), 0 ≤ x ∧ x ≤ m.Limit := by
  refine ⟨List.length_set .., fun x hx' => ?_⟩
  unfold Zbe at hx
  rw [Bool.and_eq_true] at hx
  have h1 := of_decide_eq_true hx.2
  rcases List.mem_or_eq_of_mem_set hx' with q | rfl
  · exact ok.wr x q
  · have := ok.wr _ (JR (X := m.Wear) (t := i) (by have := ok.wear; omega)); omega
theorem Zhp {m : api_Memory} {s : ring_spot} (ok : MemOK m) (hR : memR m) (hx : 0 ≤ QK m s.sector) (p : Int) (f : Vector Int 64) :
    WP m (QA m s p).2.2.1 (QA m s p).2.2.2 (QA m s p).2.1 f ∧ (∀ mi x, x ∈ keptM (QA m s p).2.2.1 mi → x ∈ keptM m mi) ∧ ((QA m s p).2.1 = true → 0 ≤ (QA m s p).2.2.2.sector ∧ (QA m s p).2.2.2.slot = 0) := by
  have hn := ok.n
  obtain ⟨b1, b2⟩ := ZdW hx (by omega)
  obtain ⟨y, hy⟩ := Int.eq_ofNat_of_zero_le hx
  have hsl := ok.slots
  unfold QA
  rw [hy] at b1 b2 ⊢
  simp only [Int.toNat_natCast] at b2 ⊢
  have hyl : y < m.Sectors.length := by omega
  obtain ⟨w1, w2⟩ := Zm3 ok hyl b2
  have hrow := ok.row _ (row_bd.getD_memL hyl)
  by_cases q : p = 0
  · rw [if_pos q]
    have hS : (Zcy (m.Sectors.getD y [])).length = (m.Sectors.getD y []).length := ZkO _
    have hu := ZlY (ZbS hR y)
    obtain ⟨o', r'⟩ := ZgK ok hR hyl hS hu w1 w2
    have kk : ∀ mi x, x ∈ keptM (QG m y (Zcy (m.Sectors.getD y [])) (m.Wear.set y (m.Wear.getD y 0 + 1))) mi → x ∈ keptM m mi := fun mi x hx' => by
      rcases ZfT ok hR hyl hS hu w1 w2 hx' with w | ⟨w, _⟩
      · exact w
      · rw [Zhu (by omega)] at w; cases w
    exact ⟨⟨rfl, by simp [QG], o', r', (fun h => by cases h), fun mi x hx' => .inl (kk mi x hx')⟩, kk, fun h => by cases h⟩
  · rw [if_neg q]
    have hout : ∀ k, 10 ≤ k → k < (m.Sectors.getD y []).length → (Qr (List.replicate (m.Sectors.getD y []).length 255) 0 (hdL (ZaQ m (y : Int))) (p - 1)).2.2.getD k 0 = 255 := fun k h1 h2 => by
      rw [Zbq _ _ _ _ _ (.inr (by simp only [hdL, List.length_cons, List.length_nil]; omega)), ZeP h2]
    have hlen := ZbD (hdL (ZaQ m (y : Int))) (List.replicate (m.Sectors.getD y []).length 255) 0 (p - 1)
    have hu := ZiP (hdL (ZaQ m (y : Int))) (List.replicate (m.Sectors.getD y []).length 255) 0 (p - 1) (Zmq _)
    generalize Qr (List.replicate (m.Sectors.getD y []).length 255) 0 (hdL (ZaQ m (y : Int))) (p - 1) = P at hout hlen hu
    rw [List.length_replicate] at hlen
    obtain ⟨o', r'⟩ := ZgK ok hR hyl hlen hu w1 w2
    have free : ∀ j : Nat, (j : Int) < m.Slots → slotL P.2.2 j = List.replicate 97 255 := fun j hj => by
      have hb : 16 + j * 97 + 97 ≤ (m.Sectors.getD y []).length := by omega
      rw [ZcD (t := List.replicate (m.Sectors.getD y []).length 255) (by rw [hlen, List.length_replicate]) (by omega) (fun k h1 h2 => by rw [hout k (by omega) (by omega), ZeP (by omega)]), ZhY hb]
    have kk : ∀ mi x, x ∈ keptM (QG m y P.2.2 (m.Wear.set y (m.Wear.getD y 0 + 1))) mi → x ∈ keptM m mi := fun mi x hx' => by
      rcases ZfT ok hR hyl hlen hu w1 w2 hx' with w | ⟨_, _, j, j1, j2, _⟩
      · exact w
      · rw [free j j1] at j2
        have : stV (List.replicate 97 255) = 0 := by decide
        rw [this] at j2; cases j2
    refine ⟨⟨rfl, by simp [QG], o', r', fun h => ?_, fun mi x hx' => .inl (kk mi x hx')⟩, kk, fun h => ?_⟩
    · rw [show P.2.1 = true from h, cond_true]
      refine ⟨.inr ⟨by simp only; omega, by simp only [QG, List.length_set]; omega⟩, ⟨Int.le_refl _, by simp only [QG]; omega⟩, fun _ j _ hj => ?_⟩
      simp only [Int.toNat_natCast]
      rw [show (QG m y P.2.2 (m.Wear.set y (m.Wear.getD y 0 + 1))).Sectors.getD y [] = P.2.2 from (ZeC hyl).trans (by rw [if_pos rfl])]
      exact free j hj
    · rw [show P.2.1 = true from h, cond_true]; exact ⟨by simp only; omega, rfl⟩
theorem ZhZ {d e : List Int} (hd : d.length = 96) {i : Nat} (hi : i < 64) : Xt (d ++ e) i = Xt d i := by
  have g : ∀ k, k < 96 → (d ++ e).getD k 0 = d.getD k 0 := fun k hk => by
    rw [List.getD_eq_getElem?_getD, List.getElem?_append_left (by omega), ← List.getD_eq_getElem?_getD]
  unfold Xt
  rw [g _ (by omega), g _ (by omega), g _ (by omega)]
theorem Zhr {b : Int} (h : 0 ≤ b ∧ b ≤ 255) : QJ .u8 255 b = b := by
  have key : (List.range 256).all (fun n => decide (QJ .u8 255 (n : Int) = (n : Int))) = true := by decide +kernel
  obtain ⟨n, rfl⟩ := Int.eq_ofNat_of_zero_le h.1
  exact of_decide_eq_true (List.all_eq_true.1 key n (List.mem_range.2 (by omega)))
theorem Zek {m : api_Memory} {s : ring_spot} (ok : MemOK m) (hR : memR m) (hs : SpotOK m s) (h1 : 0 ≤ s.sector) (h3 : s.slot < m.Slots) {data : List Int} (hd : data.length = 96) (hu : u8R data) (p : Int) :
    WP m (Jd m s data p).2.2.1 (Jd m s data p).2.2.2 (Jd m s data p).2.1 (Zck (Xt data)) := by
  have hn := ok.n
  have hsl := ok.slots
  have h2 : s.sector < m.Sectors.length := by
    rcases hs.sec with w | w
    · omega
    · exact w.2
  have hfree := hs.free h1
  have hslot := hs.slot
  unfold Jd
  generalize hsec : s.sector = sec at *
  generalize hslt : s.slot = slt at *
  obtain ⟨i, rfl⟩ := Int.eq_ofNat_of_zero_le h1
  obtain ⟨j, rfl⟩ := Int.eq_ofNat_of_zero_le hslot.1
  simp only [Int.toNat_natCast] at hfree ⊢
  have hil : i < m.Sectors.length := by omega
  have hrow := ok.row _ (row_bd.getD_memL hil)
  have hfj := hfree j (Int.le_refl _) h3
  have hdl : (data ++ [(0 : Int)]).length = 97 := by rw [List.length_append, hd]; rfl
  have hlen := ZbD (data ++ [0]) (m.Sectors.getD i []) (16 + j * 97) p
  have hpu := ZiP (data ++ [0]) (m.Sectors.getD i []) (16 + j * 97) p (ZbS hR i)
  have hout : ∀ k, k < 16 + j * 97 ∨ 16 + j * 97 + 97 ≤ k → (Qr (m.Sectors.getD i []) (16 + j * 97) (data ++ [0]) p).2.2.getD k 0 = (m.Sectors.getD i []).getD k 0 := fun k hk => Zbq _ _ _ _ _ (by rw [hdl]; exact hk)
  have old : ∀ t, t < 97 → (m.Sectors.getD i []).getD (16 + j * 97 + t) 0 = 255 := fun t ht => by
    rw [← ZdF (by omega) ht, hfj, ZeP ht]
  have hin := ZgM (data ++ [0]) (m.Sectors.getD i []) (16 + j * 97) p (by rw [hdl]; omega)
  have hlast := Zie data (m.Sectors.getD i []) 0 (16 + j * 97) p (by omega)
  rw [hd] at hlast
  generalize Qr (m.Sectors.getD i []) (16 + j * 97) (data ++ [0]) p = P at hlen hpu hout hin hlast
  have hw : ∀ x ∈ m.Wear, 0 ≤ x ∧ x ≤ m.Limit := ok.wr
  obtain ⟨o', r'⟩ := ZgK ok hR hil hlen hpu rfl hw
  have oth : ∀ k : Nat, (k : Int) < m.Slots → k ≠ j → slotL P.2.2 k = slotL (m.Sectors.getD i []) k := fun k hk hkj => by
    refine ZcD hlen (by omega) fun z z1 z2 => hout z ?_
    rcases Nat.lt_or_ge k j with w | w
    · left; omega
    · right; omega
  have hhead := ZdA (s := P.2.2) (t := m.Sectors.getD i []) hlen (fun k hk => hout k (.inl (by omega)))
  refine ⟨rfl, by simp [QG], o', r', fun hall => ?_, fun mi x hx => ?_⟩
  · refine ⟨.inr ⟨by simp only; omega, by simp only [QG, List.length_set]; omega⟩, ⟨by simp only; omega, by simp only [QG]; omega⟩, fun _ k hk hks => ?_⟩
    simp only [Int.toNat_natCast] at hk ⊢
    rw [show (QG m i P.2.2 m.Wear).Sectors.getD i [] = P.2.2 from (ZeC hil).trans (by rw [if_pos rfl])]
    have hks' : (k : Int) < m.Slots := hks
    rw [oth k hks' (by omega)]
    exact hfree k (by omega) hks'
  · rcases ZfT ok hR hil hlen hpu rfl hw hx with w | ⟨w1, w2, k, k1, k2, rfl⟩
    · exact .inl w
    · by_cases e : k = j
      · subst e
        cases hall : P.2.1 with
        | true =>
          right
          refine ⟨rfl, ?_⟩
          have hS : slotL P.2.2 k = data ++ [0] := by
            refine Zbk (by rw [JV (by omega), hdl]) fun t ht => ?_
            rw [JV (by omega)] at ht
            rw [ZdF (by omega) ht, hin hall t (by omega), old t ht, Zhr]
            rcases Nat.lt_or_ge t 96 with q | q
            · rw [List.getD_eq_getElem?_getD, List.getElem?_append_left (by omega), ← List.getD_eq_getElem?_getD]; exact Zai hu t
            · obtain rfl : t = 96 := by omega
              rw [List.getD_eq_getElem?_getD, List.getElem?_append_right (by omega), hd]; simp
          have hF : frV P.2.2 k = Zck (Xt data) := by
            unfold frV
            rw [hS]
            exact ZgW fun z hz => by rw [Zcn _ hz, Zcn _ hz, ZhZ hd hz]
          simp only
          exact hF
        | false =>
          have h96 : (slotL P.2.2 k).getD 96 0 ≠ 0 := by
            rw [ZdF (by omega) (by omega)]
            have o96 := old 96 (by omega)
            rcases hlast hall with q | q
            · rw [q, o96]; decide
            · rw [q, o96]; decide
          unfold stV at k2
          rw [if_neg h96] at k2
          split at k2 <;> simp at k2
      · left
        rw [oth k k1 e] at k2
        refine (JZ hR ok).2 ⟨i, hil, ?_, k, k1, k2, ?_⟩
        · unfold okM
          rw [w2, ← hhead.2, w1]; rfl
        · have hF : frV P.2.2 k = frV (m.Sectors.getD i []) k := by unfold frV; rw [oth k k1 e]
          rw [hhead.1, hF]
theorem Zk2 {α : Type} {l : List α} {k : Nat} {x : α} (h : l[k]? = some x) : l.set k x = l := by
  refine List.ext_getElem? fun j => ?_
  rw [List.getElem?_set]
  split
  · rename_i e
    subst e
    rw [if_pos (List.getElem?_eq_some_iff.1 h).1, h]
  · rfl
theorem Zi5 {m : api_Memory} {s : ring_spot} {p : Int} (hp : 0 ≤ p) : 0 ≤ (QA m s p).1 ∧ (QA m s p).1 ≤ p := by
  unfold QA
  simp only
  split
  · exact ⟨Int.le_refl _, by simp only; omega⟩
  · have := Zfo (hdL (ZaQ m (QK m s.sector))) (List.replicate (m.Sectors.getD (QK m s.sector).toNat []).length 255) 0 (p - 1) (by omega)
    exact ⟨this.1, by simp only; omega⟩
theorem ZkA {r : ring_Recorder} {k : Nat} {m : api_Memory} {s : ring_spot} (hm : r.bank.memories[k]? = some m) (hs : r.bank.spots[k]? = some s) (hR : memR m) (ok : MemOK m) (hsp : SpotOK m s)
    (hl : Qa m s = true → 0 ≤ QK m s.sector ∧ ZaQ m (QK m s.sector) ≤ 1073741824) {data : List Int} (hd : data.length = 96) (hu : u8R data) {p : Int} (hp : 0 ≤ p ∧ p ≤ 1000000000) :
    JF r (k : Int) data p = some ((ZF m s data p).1, (ZF m s data p).2.1, ⟨⟨r.bank.memories.set k (ZF m s data p).2.2.1, r.bank.spots.set k (ZF m s data p).2.2.2⟩, r.copies, r.frozen, r.stopped, r.last, r.some_⟩) ∧
    WP m (ZF m s data p).2.2.1 (ZF m s data p).2.2.2 (ZF m s data p).2.1 (Zck (Xt data)) ∧ 0 ≤ (ZF m s data p).1 ∧ (ZF m s data p).1 ≤ p := by
  have hkl := (List.getElem?_eq_some_iff.1 hm).1
  have hks := (List.getElem?_eq_some_iff.1 hs).1
  have hsec : -1 ≤ s.sector ∧ s.sector < m.Sectors.length := by
    have := ok.n
    rcases hsp.sec with w | w <;> omega
  unfold JF ZF
  rw [Zjx hm hs, Option.bind_some]
  by_cases h : Qa m s = true
  · obtain ⟨x1, x2⟩ := hl h
    obtain ⟨a1, a2, a3⟩ := Zhp ok hR x1 p (Zck (Xt data))
    have a4 := Zi5 (m := m) (s := s) hp.1
    rw [if_pos h, if_pos h, Zo9 hm hs hR ok hsec.1 hsec.2 x1 x2 hp, Option.bind_some]
    generalize QA m s p = A at a1 a2 a3 a4
    cases hA : A.2.1 with
    | true =>
      obtain ⟨c1, c2⟩ := a3 hA
      have sp := a1.at_ hA
      simp only [Bool.not_true, Bool.false_eq_true, if_false, if_true, Option.bind_some, Sum.elim_inr, Zjc, upd]
      have hsl := a1.ok.slots
      have c3 : A.2.2.2.sector < A.2.2.1.Sectors.length := by
        rcases sp.sec with w | w
        · omega
        · exact w.2
      have g1 : (r.bank.memories.set k A.2.2.1)[k]? = some A.2.2.1 := List.getElem?_set_self hkl
      have g2 : (r.bank.spots.set k A.2.2.2)[k]? = some A.2.2.2 := List.getElem?_set_self hks
      have pe := Zkp (r := r) (p := A.1) (data := data) g1 g2 a1.ok c1 c3 ⟨by omega, by omega⟩ hd (by omega)
      refine ⟨?_, ?_, ?_⟩
      · refine pe.trans ?_
        rw [List.set_set, List.set_set]
      · have wp := Zek a1.ok a1.u8 sp c1 (by omega) hd hu A.1
        exact ⟨wp.slots.trans a1.slots, wp.n.trans a1.n, wp.ok, wp.u8, wp.at_, fun mi x hx => by
          rcases wp.kept mi x hx with w | w
          · exact .inl (a2 mi x w)
          · exact .inr w⟩
      · have := Zfo (data ++ [0]) (A.2.2.1.Sectors.getD A.2.2.2.sector.toNat []) (16 + A.2.2.2.slot.toNat * 97) A.1 a4.1
        unfold Jd
        exact ⟨this.1, by simp only; omega⟩
    | false =>
      simp only [Bool.not_false, if_true, Bool.false_eq_true, if_false, Option.bind_some, Sum.elim_inl, upd]
      refine ⟨by rw [Zk2 hs], ⟨a1.slots, a1.n, a1.ok, a1.u8, (fun w => by cases w), fun mi x hx => .inl (a2 mi x hx)⟩, a4⟩
  · rw [if_neg h, if_neg h]
    simp only [Option.bind_some, Sum.elim_inr, Zjc]
    have hh : ¬ s.sector < 0 ∧ ¬ s.slot = m.Slots := by
      unfold Qa at h
      rw [Bool.or_eq_true, decide_eq_true_eq, decide_eq_true_eq] at h
      exact ⟨fun w => h (.inl w), fun w => h (.inr w)⟩
    have hb := hsp.slot
    refine ⟨Zkp hm hs ok (by omega) hsec.2 ⟨hb.1, by omega⟩ hd hp, Zek ok hR hsp (by omega) (by omega) hd hu p, ?_⟩
    have := Zfo (data ++ [0]) (m.Sectors.getD s.sector.toNat []) (16 + s.slot.toNat * 97) p hp.1
    exact this
end Go.Vx

namespace Go.Vx
open Go Go.RowKit
def rbV (v : Vector Int 96) (t : Nat) : Int := v.toList.getD t 0
theorem ZgG (v : Vector Int 96) {k : Nat} (hk : k < 96) (x : Int) (t : Nat) : rbV (Qz v (k : Int) x) t = if t = k then x else rbV v t := by
  unfold rbV
  rw [ZbR, Int.toNat_natCast, List.getD_eq_getElem?_getD, List.getElem?_set, List.getD_eq_getElem?_getD]
  by_cases h : t = k
  · subst h; rw [if_pos rfl, if_pos (by simpa using hk), if_pos rfl]; rfl
  · rw [if_neg (fun q => h q.symm), if_neg h]
theorem Zht (v : Vector Int 96) {k : Nat} (hk : k < 96) : ZM v (k : Int) = some (rbV v k) := Zfs (by unfold rbV; exact Qv (by simpa using hk) 0)
def bS (f : Vector Int 64) (i t : Nat) : Int :=
  if t % 3 = 0 then (if 2 * (t / 3) < i then wd f (2 * (t / 3)) / 16 else 0) else
  if t % 3 = 1 then (if 2 * (t / 3) < i then wd f (2 * (t / 3)) % 16 * 16 else 0) + (if 2 * (t / 3) + 1 < i then wd f (2 * (t / 3) + 1) / 256 else 0) else
  (if 2 * (t / 3) + 1 < i then wd f (2 * (t / 3) + 1) % 256 else 0)
theorem ZoX : (List.range 4096).all (fun n => decide (QJ .u16 (n : Int) 15 = ((n % 16 : Nat) : Int))) = true := by decide +kernel
theorem sb1 {w : Int} (h : 0 ≤ w ∧ w ≤ 4095) : QJ .u16 w 15 = w % 16 := by
  obtain ⟨x, rfl⟩ := Int.eq_ofNat_of_zero_le h.1
  exact (of_decide_eq_true (List.all_eq_true.1 ZoX x (List.mem_range.2 (by omega)))).trans (by omega)
theorem Zn2 : (List.range 256).all (fun n => decide (bor .u8 (n : Int) (QJ .u8 0 15) = (n : Int)) && decide (bor .u8 (QJ .u8 ((n / 16 * 16 : Nat) : Int) 240) ((n % 16 : Nat) : Int) = (n : Int))) = true := by decide +kernel
theorem sb2 {x : Int} (h : 0 ≤ x ∧ x ≤ 255) : bor .u8 x (QJ .u8 0 15) = x := by
  obtain ⟨x, rfl⟩ := Int.eq_ofNat_of_zero_le h.1
  have := List.all_eq_true.1 Zn2 x (List.mem_range.2 (by omega))
  rw [Bool.and_eq_true] at this
  exact of_decide_eq_true this.1
theorem sb3 {a b : Int} (ha : 0 ≤ a ∧ a ≤ 15) (hb : 0 ≤ b ∧ b ≤ 15) : bor .u8 (QJ .u8 (a * 16) 240) b = a * 16 + b := by
  obtain ⟨a, rfl⟩ := Int.eq_ofNat_of_zero_le ha.1
  obtain ⟨b, rfl⟩ := Int.eq_ofNat_of_zero_le hb.1
  have h := List.all_eq_true.1 Zn2 (a * 16 + b) (List.mem_range.2 (by omega))
  rw [Bool.and_eq_true] at h
  have h := of_decide_eq_true h.2
  rw [show (a * 16 + b) / 16 * 16 = a * 16 by omega, show (a * 16 + b) % 16 = b by omega, show ((a * 16 : Nat) : Int) = (a : Int) * 16 by omega, show ((a * 16 + b : Nat) : Int) = (a : Int) * 16 + b by omega] at h
  exact h
theorem bS0 (f : Vector Int 64) (i k : Nat) : bS f i (3 * k) = if 2 * k < i then wd f (2 * k) / 16 else 0 := by
  unfold bS
  rw [if_pos (by omega), show 3 * k / 3 = k by omega]
theorem bS1 (f : Vector Int 64) (i k : Nat) : bS f i (3 * k + 1) = (if 2 * k < i then wd f (2 * k) % 16 * 16 else 0) + (if 2 * k + 1 < i then wd f (2 * k + 1) / 256 else 0) := by
  unfold bS
  rw [if_neg (by omega), if_pos (by omega), show (3 * k + 1) / 3 = k by omega]
theorem bS2 (f : Vector Int 64) (i k : Nat) : bS f i (3 * k + 2) = if 2 * k + 1 < i then wd f (2 * k + 1) % 256 else 0 := by
  unfold bS
  rw [if_neg (by omega), if_neg (by omega), show (3 * k + 2) / 3 = k by omega]
theorem three (t : Nat) : ∃ k, t = 3 * k ∨ t = 3 * k + 1 ∨ t = 3 * k + 2 := ⟨t / 3, by omega⟩
theorem Zk8 {f : Vector Int 64} (hf : fN f) {v : Vector Int 96} {i : Nat} (hi : i < 64) (hI : ∀ t, t < 96 → rbV v t = bS f i t) :
    ∃ v', JJ v (i : Int) (wd f i) = some v' ∧ ∀ t, t < 96 → rbV v' t = bS f (i + 1) t := by
  have hw := hf i
  unfold JJ
  rw [Znx (by omega), Option.bind_some, ZoG, Option.bind_some]
  obtain ⟨k, hk⟩ : ∃ k, i = 2 * k ∨ i = 2 * k + 1 := ⟨i / 2, by omega⟩
  have ek : i / 2 = k := by omega
  rw [ek]
  have e1 : i64 ((k : Int) * 3) = ((3 * k : Nat) : Int) := (Zh (by omega) (by omega)).trans (by omega)
  have e2 : i64 (((3 * k : Nat) : Int) + 1) = ((3 * k + 1 : Nat) : Int) := (Zh (by omega) (by omega)).trans (by omega)
  have e3 : i64 (((3 * k : Nat) : Int) + 2) = ((3 * k + 2 : Nat) : Int) := (Zh (by omega) (by omega)).trans (by omega)
  rw [e1, e2, e3]
  have k0 : 3 * k < 96 := by omega
  have k1 : 3 * k + 1 < 96 := by omega
  have k2 : 3 * k + 2 < 96 := by omega
  rcases hk with rfl | rfl
  · have s1 : shr .u16 (wd f (2 * k)) 4 = some (wd f (2 * k) / 16) := Zig (wd f (2 * k)) (k := 4) (by omega)
    have s2 : shl .u16 (wd f (2 * k) % 16) 4 = some (wd f (2 * k) % 16 * 16) := by
      unfold shl
      rw [if_neg (by decide)]
      show some (IntKind.u16.wrap (wd f (2 * k) % 16 * 2 ^ 4)) = _
      rw [show IntKind.u16.wrap (wd f (2 * k) % 16 * 2 ^ 4) = (wd f (2 * k) % 16 * 2 ^ 4) % 65536 from rfl]
      congr 1; omega
    have o1' : rbV v (3 * k + 1) = 0 := by
      rw [hI _ k1, bS1, if_neg (by omega), if_neg (by omega)]; rfl
    rw [if_pos (by simp), s1, Option.bind_some, Zht v k1, Option.bind_some, Zht v k0, Option.bind_some, sb1 hw, s2, Option.bind_some]
    have u1 : u8 (wd f (2 * k) / 16) = wd f (2 * k) / 16 := by rw [u8m]; omega
    have u2 : u8 (wd f (2 * k) % 16 * 16) = wd f (2 * k) % 16 * 16 := by rw [u8m]; omega
    rw [u1, u2, Zht (Qz v ((3 * k : Nat) : Int) (wd f (2 * k) / 16)) k1, Option.bind_some, o1', sb2 (by omega)]
    refine ⟨_, rfl, fun t ht => ?_⟩
    rw [ZgG _ k1, ZgG v k0 _ t]
    obtain ⟨q, rfl | rfl | rfl⟩ := three t
    · rw [if_neg (by omega), bS0]
      by_cases e : q = k
      · subst e; rw [if_pos rfl, if_pos (by omega)]
      · rw [if_neg (by omega), hI _ ht, bS0]
        have c : (2 * q < 2 * k) ↔ (2 * q < 2 * k + 1) := by omega
        simp only [c]
    · rw [bS1]
      by_cases e : q = k
      · subst e; rw [if_pos rfl, if_pos (by omega), if_neg (by omega), Int.add_zero]
      · rw [if_neg (by omega), if_neg (by omega), hI _ ht, bS1]
        have c : (2 * q < 2 * k) ↔ (2 * q < 2 * k + 1) := by omega
        have c' : (2 * q + 1 < 2 * k) ↔ (2 * q + 1 < 2 * k + 1) := by omega
        simp only [c, c']
    · rw [if_neg (by omega), if_neg (by omega), hI _ ht, bS2, bS2]
      have c' : (2 * q + 1 < 2 * k) ↔ (2 * q + 1 < 2 * k + 1) := by omega
      simp only [c']
  · have s1 : shr .u16 (wd f (2 * k + 1)) 8 = some (wd f (2 * k + 1) / 256) := Zig (wd f (2 * k + 1)) (k := 8) (by omega)
    have hp := hf (2 * k)
    have o1' : rbV v (3 * k + 1) = wd f (2 * k) % 16 * 16 := by
      rw [hI _ k1, bS1, if_pos (by omega), if_neg (by omega), Int.add_zero]
    have u1 : u8 (wd f (2 * k + 1) / 256) = wd f (2 * k + 1) / 256 := by rw [u8m]; omega
    rw [if_neg (by rw [decide_eq_true_eq]; omega), Zht v k1, Option.bind_some, s1, Option.bind_some, Option.bind_some, Zht _ k2, Option.bind_some, o1', u1, sb3 (by omega) (by omega), show u8 (wd f (2 * k + 1)) = wd f (2 * k + 1) % 256 from u8m _]
    refine ⟨_, rfl, fun t ht => ?_⟩
    rw [ZgG _ k2, ZgG v k1 _ t]
    obtain ⟨q, rfl | rfl | rfl⟩ := three t
    · rw [if_neg (by omega), if_neg (by omega), hI _ ht, bS0, bS0]
      have c : (2 * q < 2 * k + 1) ↔ (2 * q < 2 * k + 1 + 1) := by omega
      simp only [c]
    · rw [if_neg (by omega), bS1]
      by_cases e : q = k
      · subst e; rw [if_pos rfl, if_pos (by omega), if_pos (by omega)]
      · rw [if_neg (by omega), hI _ ht, bS1]
        have c : (2 * q < 2 * k + 1) ↔ (2 * q < 2 * k + 1 + 1) := by omega
        have c' : (2 * q + 1 < 2 * k + 1) ↔ (2 * q + 1 < 2 * k + 1 + 1) := by omega
        simp only [c, c']
    · rw [bS2]
      by_cases e : q = k
      · subst e; rw [if_pos rfl, if_pos (by omega)]
      · rw [if_neg (by omega), if_neg (by omega), hI _ ht, bS2]
        have c' : (2 * q + 1 < 2 * k + 1) ↔ (2 * q + 1 < 2 * k + 1 + 1) := by omega
        simp only [c']
def bytesF (f : Vector Int 64) : List Int := (List.range 96).map fun t => bS f 64 t
theorem Zen (f : Vector Int 64) {t : Nat} (h : t < 96) : (bytesF f).getD t 0 = bS f 64 t := by
  unfold bytesF
  rw [List.getD_eq_getElem?_getD, List.getElem?_map, List.getElem?_range h]; rfl
theorem Z3 (f : Vector Int 64) : (bytesF f).length = 96 := by simp [bytesF]
theorem ZpJ {f : Vector Int 64} (hf : fN f) (t : Nat) : 0 ≤ bS f 64 t ∧ bS f 64 t ≤ 255 := by
  have h1 := hf (2 * (t / 3))
  have h2 := hf (2 * (t / 3) + 1)
  unfold bS
  split
  · split <;> omega
  · split
    · split <;> split <;> omega
    · split <;> omega
theorem Zau {f : Vector Int 64} (hf : fN f) : u8R (bytesF f) := fun x hx => by
  obtain ⟨t, ht, rfl⟩ := List.mem_map.1 hx
  exact ZpJ hf t
theorem Zb6 {f : Vector Int 64} (hf : fN f) : Zck (Xt (bytesF f)) = f := by
  refine ZgW fun i hi => ?_
  rw [Zcn _ hi]
  show _ = wd f i
  unfold Xt
  obtain ⟨k, hk⟩ : ∃ k, i = 2 * k ∨ i = 2 * k + 1 := ⟨i / 2, by omega⟩
  have ek : i / 2 = k := by omega
  rw [ek]
  have h1 := hf (2 * k)
  have h2 := hf (2 * k + 1)
  rcases hk with rfl | rfl
  · rw [if_pos (by omega), Zen f (by omega), Zen f (by omega), bS0, bS1, if_pos (by omega), if_pos (by omega), if_pos (by omega)]
    omega
  · rw [if_neg (by omega), Zen f (by omega), Zen f (by omega), bS1, bS2, if_pos (by omega), if_pos (by omega), if_pos (by omega)]
    omega
theorem ZhX {f : Vector Int 64} (hf : fN f) : ZaW f = some (bytesF f, 0) := by
  unfold ZaW
  have hnb : Zas f = true := List.all_eq_true.2 fun k _ => by unfold Xp; exact decide_eq_true (hf k).2
  rw [Zom, hnb, Option.bind_some, if_neg (by decide)]
  unfold Zdy
  obtain ⟨v, v1, v2⟩ := Zam (body := ZaD f) (s0 := Vector.replicate 96 (0 : Int)) (N := 64) (fun i v => ∀ t, t < 96 → rbV v t = bS f i t) (fun v => ∀ t, t < 96 → rbV v t = bS f 64 t) (fun i v hi hI => .inl (by
    obtain ⟨v', w1, w2⟩ := Zk8 hf hi hI
    refine ⟨v', ?_, w2⟩
    unfold ZaD
    rw [if_pos (by simp; omega), QY f hi, Option.bind_some, w1, Option.bind_some, show i64 ((i : Int) + 1) = (i : Int) + 1 from Zh (by omega) (by omega)])) (fun v hI => ⟨v, by unfold ZaD; rw [if_neg (by decide)], hI⟩) (fun t ht => by
    have : rbV (Vector.replicate 96 (0 : Int)) t = 0 := by
      have e : (Vector.replicate 96 (0 : Int)).toList = List.replicate 96 0 := rfl
      unfold rbV
      rw [e, List.getD_eq_getElem?_getD, List.getElem?_replicate, if_pos ht]; rfl
    rw [this]
    unfold bS
    split
    · rw [if_neg (by omega)]
    · split
      · rw [if_neg (by omega), if_neg (by omega)]; rfl
      · rw [if_neg (by omega)])
  rw [v1, Option.bind_some]
  have hv : v.toList = bytesF f := Zbk (by rw [Z3]; simp) fun t ht => by
    have ht' : t < 96 := by simpa using ht
    rw [Zen f ht']; exact v2 t ht'
  rw [hv, show slc (bytesF f) 0 96 = some (bytesF f) from (Zcc (a := 0) (b := 96) (by omega) (by rw [Z3]; omega)).trans (by rw [List.take_of_length_le (by rw [Z3]; omega), List.drop_zero]), Option.bind_some]
end Go.Vx

namespace Go.Vx
open Go Go.RowKit
structure BankJ (mems : List api_Memory) (spots : List ring_spot) : Prop where
  n : 1 ≤ mems.length ∧ mems.length ≤ 8
  ok : ∀ m ∈ mems, MemOK m
  u8 : ∀ m ∈ mems, memR m
  len : spots.length = mems.length
def BankA (mems : List api_Memory) (spots : List ring_spot) : Prop := ∀ k, k < mems.length → SpotOK (mems.getD k dfM) (spots.getD k dfS)
structure RecJ (r : ring_Recorder) : Prop where
  b : BankJ r.bank.memories r.bank.spots
  a : r.stopped = false → BankA r.bank.memories r.bank.spots
  cp : 1 ≤ r.copies ∧ r.copies ≤ r.bank.memories.length
theorem Zlq {l : List api_Memory} {k : Nat} (h : k < l.length) : l[k]? = some (l.getD k dfM) := (JL h).2
theorem ZjJ {l : List ring_spot} {k : Nat} (h : k < l.length) : l[k]? = some (l.getD k dfS) := by
  rw [List.getD_eq_getElem?_getD, List.getElem?_eq_getElem h]; rfl
theorem JS {α : Type} {l : List α} {i k : Nat} {x d : α} (hi : i < l.length) : (l.set i x).getD k d = if k = i then x else l.getD k d := by
  rw [List.getD_eq_getElem?_getD, List.getElem?_set]
  by_cases e : i = k
  · subst e; rw [if_pos rfl, if_pos hi, if_pos rfl]; rfl
  · rw [if_neg e, if_neg (fun q => e q.symm), List.getD_eq_getElem?_getD]
theorem Zcw {l : List api_Memory} {x : api_Kept} : x ∈ XD l ↔ ∃ k : Nat, k < l.length ∧ x ∈ keptM (l.getD k dfM) (k : Int) := by
  unfold XD
  rw [List.mem_flatMap]
  exact ⟨fun ⟨k, a, b⟩ => ⟨k, List.mem_range.1 a, b⟩, fun ⟨k, a, b⟩ => ⟨k, List.mem_range.2 a, b⟩⟩
theorem ZmB {l : List api_Memory} {k : Nat} {m' : api_Memory} (hk : k < l.length) {P : api_Kept → Prop} (h : ∀ x, x ∈ keptM m' (k : Int) → x ∈ keptM (l.getD k dfM) (k : Int) ∨ P x) {x : api_Kept} (hx : x ∈ XD (l.set k m')) : x ∈ XD l ∨ P x := by
  obtain ⟨z, z1, z2⟩ := Zcw.1 hx
  rw [List.length_set] at z1
  rw [JS hk] at z2
  by_cases e : z = k
  · subst e
    rw [if_pos rfl] at z2
    rcases h x z2 with w | w
    · exact .inl (Zcw.2 ⟨z, z1, w⟩)
    · exact .inr w
  · rw [if_neg e] at z2
    exact .inl (Zcw.2 ⟨z, z1, z2⟩)
theorem BankJ.set {mems : List api_Memory} {spots : List ring_spot} (h : BankJ mems spots) {k : Nat} {m' : api_Memory} (ok : MemOK m') (u : memR m') {spots' : List ring_spot} (hl : spots'.length = spots.length) : BankJ (mems.set k m') spots' := by
  refine ⟨by rw [List.length_set]; exact h.n, fun m hm => ?_, fun m hm => ?_, by rw [List.length_set, hl]; exact h.len⟩
  · rcases List.mem_or_eq_of_mem_set hm with q | rfl
    · exact h.ok m q
    · exact ok
  · rcases List.mem_or_eq_of_mem_set hm with q | rfl
    · exact h.u8 m q
    · exact u
theorem ZfQ {f : Vector Int 64} (hf : fU f) (h : sndB f = true) : fN f ∧ XY f = some (numN f) ∧ 0 ≤ (numN f).1 ∧ (numN f).1 ≤ 4194303 := by
  unfold sndB at h
  rw [Bool.and_eq_true] at h
  have hn : fN f := fun i => by
    refine ⟨(hf i).1, ?_⟩
    by_cases hi : i < 64
    · exact ZfY h.1 i hi
    · have : wd f i = 0 := by
        unfold wd
        rw [List.getD_eq_getElem?_getD, List.getElem?_eq_none (by simp; omega)]; rfl
      omega
  refine ⟨hn, (Zhb hf (hn 1).2 (hn 2).2).1, ?_⟩
  have := ZgB f
  unfold numN
  split
  · simp only; omega
  · simp
def tgV (a c n : Nat) : List Int := (List.range c).map fun k => (((a + k) % n : Nat) : Int)
theorem Zh5 {a c n : Nat} (h1 : a ≤ 4194303) (h2 : 1 ≤ n ∧ n ≤ 8) (h3 : 1 ≤ c ∧ c ≤ n) : Zbr (a : Int) (n : Int) (c : Int) = some (tgV a c n) := by
  unfold Zbr
  rw [Zp1 (number := (a : Int)) (memories := (n : Int)) (copies := (c : Int)) ⟨by omega, by omega⟩ ⟨by omega, by omega⟩ ⟨by omega, by omega⟩]
  rfl
theorem ZiI {a c n k : Nat} (h : k < c) : (tgV a c n)[k]? = some (((a + k) % n : Nat) : Int) := by
  unfold tgV
  rw [List.getElem?_map, List.getElem?_range h]; rfl
theorem Zlu {a n i j : Nat} (hi : i < n) (hj : j < n) (h : (a + i) % n = (a + j) % n) : i = j := by
  rcases Nat.lt_trichotomy i j with w | w | w
  · have := Nat.sub_mod_eq_zero_of_mod_eq h.symm
    rw [show a + j - (a + i) = j - i by omega, Nat.mod_eq_of_lt (by omega)] at this
    omega
  · exact w
  · have := Nat.sub_mod_eq_zero_of_mod_eq h
    rw [show a + i - (a + j) = i - j by omega, Nat.mod_eq_of_lt (by omega)] at this
    omega
def Zcf (m : api_Memory) (s : ring_spot) : Prop := Qa m s = true → 0 ≤ QK m s.sector ∧ ZaQ m (QK m s.sector) ≤ 1073741824
theorem ZnD {m : api_Memory} {s : ring_spot} (ok : MemOK m) (h : SpotOK m s) : -1 ≤ s.sector ∧ s.sector < m.Sectors.length := by
  have := ok.n
  rcases h.sec with w | w <;> omega
theorem Zkc {b : ring_bank} (hJ : BankJ b.memories b.spots) (hA : BankA b.memories b.spots) {c n : Nat} (a : Nat) (hn : n = b.memories.length) (hc : c ≤ n) :
    ∃ e, JO b (tgV a c n) = some e ∧ (e = 0 ↔ ∀ i, i < c → Zcf (b.memories.getD ((a + i) % n) dfM) (b.spots.getD ((a + i) % n) dfS)) := by
  have hb := hJ.n
  have hlen : (tgV a c n).length = c := by simp [tgV]
  have at_ : ∀ i, i < c → ((a + i) % n) < b.memories.length := fun i hi => by rw [← hn]; exact Nat.mod_lt _ (by omega)
  have w : ∀ i, i < c → Q2 b (((a + i) % n : Nat) : Int) = some (Qa (b.memories.getD ((a + i) % n) dfM) (b.spots.getD ((a + i) % n) dfS)) ∧
      Xr b (((a + i) % n : Nat) : Int) = some (QK (b.memories.getD ((a + i) % n) dfM) (b.spots.getD ((a + i) % n) dfS).sector) ∧
      ∀ z, Q0 b (((a + i) % n : Nat) : Int) z = some (ZaQ (b.memories.getD ((a + i) % n) dfM) z) := fun i hi => by
    have h1 := Zlq (at_ i hi)
    have h2 := ZjJ (l := b.spots) (k := (a + i) % n) (by rw [hJ.len]; exact at_ i hi)
    have hm := (JL (at_ i hi)).1
    have sp := ZnD (hJ.ok _ hm) (hA _ (at_ i hi))
    exact ⟨Zjx h1 h2, ZmG h1 h2 (hJ.ok _ hm) sp.1 sp.2, fun z => ZnZ h1 (hJ.u8 _ hm) (hJ.ok _ hm) z⟩
  unfold JO
  obtain ⟨r1, e1, q1⟩ := ZbC (body := XJ b (tgV a c n)) (N := c) (fun k => ∀ i, i < k → Qa (b.memories.getD ((a + i) % n) dfM) (b.spots.getD ((a + i) % n) dfS) = true → 0 ≤ QK (b.memories.getD ((a + i) % n) dfM) (b.spots.getD ((a + i) % n) dfS).sector)
    (fun r => (∃ e, r = .inl e ∧ e ≠ 0 ∧ ∃ i, i < c ∧ Qa (b.memories.getD ((a + i) % n) dfM) (b.spots.getD ((a + i) % n) dfS) = true ∧ QK (b.memories.getD ((a + i) % n) dfM) (b.spots.getD ((a + i) % n) dfS).sector < 0) ∨ (r = .inr () ∧ ∀ i, i < c → Qa (b.memories.getD ((a + i) % n) dfM) (b.spots.getD ((a + i) % n) dfS) = true → 0 ≤ QK (b.memories.getD ((a + i) % n) dfM) (b.spots.getD ((a + i) % n) dfS).sector)) (fun k hk hI => by
      obtain ⟨w1, w2, w3⟩ := w k hk
      unfold XJ
      rw [if_pos (by rw [hlen]; simpa using hk), Zm (ZiI hk), Option.bind_some, w1, Option.bind_some, w2, show i64 ((k : Int) + 1) = (k : Int) + 1 from Zh (by omega) (by omega)]
      cases hL : Qa (b.memories.getD ((a + k) % n) dfM) (b.spots.getD ((a + k) % n) dfS) with
      | false =>
        left
        refine ⟨by simp [gd], fun i hi hLi => ?_⟩
        by_cases e : i = k
        · subst e; rw [hL] at hLi; cases hLi
        · exact hI i (by omega) hLi
      | true =>
        simp only [gd, beq_self_eq_true, if_true, Option.bind_some, Bool.true_and]
        by_cases q : QK (b.memories.getD ((a + k) % n) dfM) (b.spots.getD ((a + k) % n) dfS).sector < 0
        · right
          exact ⟨_, by rw [if_pos (decide_eq_true q)], .inl ⟨4, rfl, by decide, k, hk, hL, q⟩⟩
        · left
          refine ⟨by rw [if_neg (by rw [decide_eq_true_eq]; exact q)], fun i hi hLi => ?_⟩
          by_cases e : i = k
          · subst e; omega
          · exact hI i (by omega) hLi) (fun hI => ⟨.inr (), by unfold XJ; rw [hlen, if_neg (by simp)], .inr ⟨rfl, hI⟩⟩) (fun i hi => absurd hi (Nat.not_lt_zero _))
  rw [e1]
  rcases q1 with ⟨e, rfl, he, i, i1, i2, i3⟩ | ⟨rfl, q1⟩
  · refine ⟨e, rfl, fun q => absurd q he, fun h => ?_⟩
    have := (h i i1 i2).1
    omega
  · simp only [Option.bind_some, Sum.elim_inr, Zjp]
    obtain ⟨r2, e2, q2⟩ := ZbC (body := XI b (tgV a c n)) (N := c) (fun k => ∀ i, i < k → Zcf (b.memories.getD ((a + i) % n) dfM) (b.spots.getD ((a + i) % n) dfS))
      (fun r => (∃ e, r = .inl e ∧ e ≠ 0 ∧ ∃ i, i < c ∧ ¬ Zcf (b.memories.getD ((a + i) % n) dfM) (b.spots.getD ((a + i) % n) dfS)) ∨ (r = .inr () ∧ ∀ i, i < c → Zcf (b.memories.getD ((a + i) % n) dfM) (b.spots.getD ((a + i) % n) dfS))) (fun k hk hI => by
        obtain ⟨w1, w2, w3⟩ := w k hk
        unfold XI
        rw [if_pos (by rw [hlen]; simpa using hk), Zm (ZiI hk), Option.bind_some, w1, Option.bind_some, w2, show i64 ((k : Int) + 1) = (k : Int) + 1 from Zh (by omega) (by omega)]
        cases hL : Qa (b.memories.getD ((a + k) % n) dfM) (b.spots.getD ((a + k) % n) dfS) with
        | false =>
          left
          refine ⟨by simp [gd], fun i hi hLi => ?_⟩
          by_cases e : i = k
          · subst e; rw [hL] at hLi; cases hLi
          · exact hI i (by omega) hLi
        | true =>
          simp only [gd, beq_self_eq_true, if_true, Option.bind_some, Bool.true_and]
          rw [w3, Option.bind_some]
          by_cases q : 1073741824 < ZaQ (b.memories.getD ((a + k) % n) dfM) (QK (b.memories.getD ((a + k) % n) dfM) (b.spots.getD ((a + k) % n) dfS).sector)
          · right
            exact ⟨_, by rw [if_pos (decide_eq_true q)], .inl ⟨3, rfl, by decide, k, hk, fun h => by have := (h hL).2; omega⟩⟩
          · left
            refine ⟨by rw [if_neg (by rw [decide_eq_true_eq]; exact q)], fun i hi hLi => ?_⟩
            by_cases e : i = k
            · subst e; exact ⟨q1 i hk hL, by omega⟩
            · exact hI i (by omega) hLi) (fun hI => ⟨.inr (), by unfold XI; rw [hlen, if_neg (by simp)], .inr ⟨rfl, hI⟩⟩) (fun i hi => absurd hi (Nat.not_lt_zero _))
    rw [e2]
    rcases q2 with ⟨e, rfl, he, i, i1, i2⟩ | ⟨rfl, q2⟩
    · exact ⟨e, rfl, fun q => absurd q he, fun h => absurd (h i i1) i2⟩
    · exact ⟨0, rfl, fun _ => q2, fun _ => rfl⟩
theorem ZlS (r : ring_Recorder) (p : Int) : ∃ e, XF r p = some e ∧ (e = 0 ↔ r.stopped = false ∧ r.frozen = false ∧ 0 ≤ p ∧ p ≤ 1000000000) := by
  unfold XF
  rw [Zbw]
  cases h1 : r.stopped with
  | true => exact ⟨15, by simp, by simp⟩
  | false =>
    cases h2 : r.frozen with
    | true => exact ⟨11, by simp, by simp⟩
    | false =>
      by_cases h : 0 ≤ p ∧ p ≤ 1000000000
      · exact ⟨0, by simp [h.1, h.2], by simp [h.1, h.2]⟩
      · have hf : (decide (0 ≤ p) && decide (p ≤ 1000000000)) = false := by simpa using h
        refine ⟨9, by simp [hf], ?_⟩
        constructor
        · intro q; cases q
        · rintro ⟨_, _, q⟩; exact absurd q h
end Go.Vx

namespace Go.Vx
open Go Go.RowKit
theorem ZlM {r : ring_Recorder} (hJ : RecJ r) {f : Vector Int 64} (hf : fU f) (p : Int) :
    ∃ left all e r', Z9 r f p = some (left, all, e, r') ∧ RecJ r' ∧ r'.bank.memories.length = r.bank.memories.length ∧ r'.copies = r.copies ∧
      ∀ x ∈ XD r'.bank.memories, x ∈ XD r.bank.memories ∨ (sndB f = true ∧ x.Frame = f) := by
  obtain ⟨e, e1, e2⟩ := ZlS r p
  unfold Z9
  rw [e1, Option.bind_some]
  have same : ∀ x ∈ XD r.bank.memories, x ∈ XD r.bank.memories ∨ (sndB f = true ∧ x.Frame = f) := fun x hx => .inl hx
  by_cases h0 : e = 0
  · rw [if_neg (by simp [h0]), Zik hf, Option.bind_some]
    have hfl := Zhy hf
    by_cases hs : sndB f = false
    · rw [if_pos (by rw [decide_eq_true_eq]; have := hfl.2 hs; omega)]
      exact ⟨_, _, _, r, rfl, hJ, rfl, rfl, same⟩
    · have hs' : sndB f = true := by simpa using hs
      rw [if_neg (by rw [decide_eq_true_eq]; intro q; exact hs (hfl.1 (by omega)))]
      obtain ⟨fn, fq, fb1, fb2⟩ := ZfQ hf hs'
      obtain ⟨st, fz, hp⟩ := e2.1 h0
      have hA := hJ.a st
      have hn := hJ.b.n
      have hcp := hJ.cp
      obtain ⟨a, ha⟩ := Int.eq_ofNat_of_zero_le fb1
      obtain ⟨c, hc⟩ := Int.eq_ofNat_of_zero_le (show 0 ≤ r.copies by omega)
      obtain ⟨q, q1, q2⟩ := Zkc (b := r.bank) hJ.b hA (c := c) a rfl (by omega)
      rw [fq, Option.bind_some, ha, hc, Zh5 (by omega) hn (by omega), Option.bind_some, q1, Option.bind_some]
      by_cases hq : q = 0
      · have hr := q2.1 hq
        rw [if_neg (by simp [hq]), ZhX fn, Option.bind_some]
        have hlen : (tgV a c r.bank.memories.length).length = c := by simp [tgV]
        have at_ : ∀ i, i < c → ((a + i) % r.bank.memories.length) < r.bank.memories.length := fun i hi => Nat.mod_lt _ (by omega)
        -- round by round
        obtain ⟨z, z1, z2⟩ := ZaE (body := t9 (Zy (tgV a c r.bank.memories.length) (bytesF f, 0))) (fun s => ∃ (mems : List api_Memory) (spots : List ring_spot) (pw : Int) (k : Nat), s = (mems, spots, r.copies, r.frozen, r.stopped, r.last, r.some_, pw, (k : Int)) ∧ k ≤ c ∧ (0 ≤ pw ∧ pw ≤ 1000000000) ∧
            mems.length = r.bank.memories.length ∧ BankJ mems spots ∧ BankA mems spots ∧ (∀ i, k ≤ i → i < c → mems.getD ((a + i) % r.bank.memories.length) dfM = r.bank.memories.getD ((a + i) % r.bank.memories.length) dfM ∧ spots.getD ((a + i) % r.bank.memories.length) dfS = r.bank.spots.getD ((a + i) % r.bank.memories.length) dfS) ∧
            ∀ x ∈ XD mems, x ∈ XD r.bank.memories ∨ (sndB f = true ∧ x.Frame = f)) (fun s => c - s.2.2.2.2.2.2.2.2.toNat)
          (fun z => (∃ left all e r', z = .inl (left, all, e, r') ∧ RecJ r' ∧ r'.bank.memories.length = r.bank.memories.length ∧ r'.copies = r.copies ∧ ∀ x ∈ XD r'.bank.memories, x ∈ XD r.bank.memories ∨ (sndB f = true ∧ x.Frame = f)) ∨
            (∃ mems spots pw, z = .inr (mems, spots, r.copies, r.frozen, r.stopped, r.last, r.some_, pw) ∧ mems.length = r.bank.memories.length ∧ BankJ mems spots ∧ BankA mems spots ∧ ∀ x ∈ XD mems, x ∈ XD r.bank.memories ∨ (sndB f = true ∧ x.Frame = f))) (by
            rintro s ⟨mems, spots, pw, k, rfl, hk, hpw, hl, bJ, bA, un, kp⟩
            show (∃ s', Zy (tgV a c r.bank.memories.length) (bytesF f, 0) mems spots r.copies r.frozen r.stopped r.last r.some_ pw (k : Int) = some (.inl s') ∧ _) ∨ ∃ z, Zy (tgV a c r.bank.memories.length) (bytesF f, 0) mems spots r.copies r.frozen r.stopped r.last r.some_ pw (k : Int) = some (.inr z) ∧ _
            unfold Zy
            rcases Nat.lt_or_ge k c with hkc | hkc
            · have hlt := at_ k hkc
              have ht : ((a + k) % r.bank.memories.length) < mems.length := by rw [hl]; exact hlt
              have g1 := Zlq ht
              have g2 := ZjJ (l := spots) (k := (a + k) % r.bank.memories.length) (by rw [bJ.len]; exact ht)
              obtain ⟨u1, u2⟩ := un k (Nat.le_refl _) hkc
              have hm := (JL ht).1
              have hrd := hr k hkc
              rw [← u1, ← u2] at hrd
              obtain ⟨w1, w2, w3, w4⟩ := ZkA (r := ⟨⟨mems, spots⟩, r.copies, r.frozen, r.stopped, r.last, r.some_⟩) g1 g2 (bJ.u8 _ hm) (bJ.ok _ hm) (bA _ ht) hrd (Z3 f) (Zau fn) hpw
              rw [if_pos (by rw [hlen]; simpa using hkc), Zm (ZiI hkc), Option.bind_some,
                show slc (bytesF f) 0 ((bytesF f).length : Int) = some (bytesF f) from (Zcc (a := 0) (b := (bytesF f).length) (by omega) (Nat.le_refl _)).trans (by rw [List.take_length, List.drop_zero]), Option.bind_some, w1, Option.bind_some, show i64 ((k : Int) + 1) = (k : Int) + 1 from Zh (by omega) (by omega)]
              generalize ZF (mems.getD ((a + k) % r.bank.memories.length) dfM) (spots.getD ((a + k) % r.bank.memories.length) dfS) (bytesF f) pw = A at w2 w3 w4
              have nJ : BankJ (mems.set ((a + k) % r.bank.memories.length) A.2.2.1) (spots.set ((a + k) % r.bank.memories.length) A.2.2.2) := bJ.set w2.ok w2.u8 (List.length_set ..)
              have nk : ∀ x ∈ XD (mems.set ((a + k) % r.bank.memories.length) A.2.2.1), x ∈ XD r.bank.memories ∨ (sndB f = true ∧ x.Frame = f) := fun x hx => by
                rcases ZmB ht (P := fun x => x.Frame = f) (fun y hy => by
                  rcases w2.kept _ y hy with v | ⟨_, v⟩
                  · exact .inl v
                  · right; rw [v, Zb6 fn]) hx with v | v
                · exact kp x v
                · exact .inr ⟨hs', v⟩
              cases hall : A.2.1 with
              | false =>
                right
                refine ⟨.inl (A.1, false, 0, ⟨⟨mems.set ((a + k) % r.bank.memories.length) A.2.2.1, spots.set ((a + k) % r.bank.memories.length) A.2.2.2⟩, r.copies, r.frozen, true, r.last, r.some_⟩), by simp only [Bool.not_false, if_true], .inl ⟨A.1, false, 0, ⟨⟨mems.set ((a + k) % r.bank.memories.length) A.2.2.1, spots.set ((a + k) % r.bank.memories.length) A.2.2.2⟩, r.copies, r.frozen, true, r.last, r.some_⟩, rfl, ⟨nJ, fun q => by simp at q, ?_⟩, by simp only [List.length_set]; exact hl, rfl, nk⟩⟩
                simp only [List.length_set]; rw [hl]; exact hJ.cp
              | true =>
                left
                have sp := w2.at_ hall
                refine ⟨(mems.set ((a + k) % r.bank.memories.length) A.2.2.1, spots.set ((a + k) % r.bank.memories.length) A.2.2.2, r.copies, r.frozen, r.stopped, r.last, r.some_, A.1, (k : Int) + 1), by simp only [Bool.not_true, Bool.false_eq_true, if_false], ⟨_, _, A.1, k + 1, rfl, hkc, by omega, by rw [List.length_set]; exact hl, nJ, fun j hj => ?_, fun i hi hic => ?_, nk⟩, by simp only; omega⟩
                · rw [List.length_set] at hj
                  rw [JS ht, JS (by rw [bJ.len]; exact ht)]
                  by_cases e' : j = (a + k) % r.bank.memories.length
                  · rw [if_pos e', if_pos e']; exact sp
                  · rw [if_neg e', if_neg e']; exact bA j hj
                · have hne : (a + i) % r.bank.memories.length ≠ (a + k) % r.bank.memories.length := fun q => by
                    have := Zlu (a := a) (n := r.bank.memories.length) (by omega) (by omega) q
                    omega
                  rw [JS ht, JS (by rw [bJ.len]; exact ht), if_neg hne, if_neg hne]
                  exact un i (by omega) hic
            · have : k = c := by omega
              subst this
              right
              exact ⟨_, by rw [if_neg (by rw [hlen]; simp)], .inr ⟨mems, spots, pw, rfl, hl, bJ, bA, kp⟩⟩) (r.bank.memories, r.bank.spots, r.copies, r.frozen, r.stopped, r.last, r.some_, p, 0) ⟨_, _, p, 0, rfl, Nat.zero_le _, hp, rfl, hJ.b, hA, fun i _ _ => ⟨rfl, rfl⟩, same⟩
        have hloop : loop (t9 (Zy (tgV a c r.bank.memories.length) (bytesF f, 0))) (r.bank.memories, r.bank.spots, (c : Int), r.frozen, r.stopped, r.last, r.some_, p, 0) = some z := by rw [← hc]; exact z1
        rw [hloop, Option.bind_some]
        rcases z2 with ⟨left, all, e', r', rfl, k1, k2, k3, k4⟩ | ⟨mems, spots, pw, rfl, k1, k2, k3, k4⟩
        · exact ⟨left, all, e', r', rfl, k1, k2, k3.trans hc, k4⟩
        · simp only [Sum.elim_inr, Zjc]
          refine ⟨_, _, _, _, rfl, ⟨k2, fun _ => k3, ?_⟩, k1, hc, k4⟩
          simp only; rw [k1]; exact hJ.cp
      · rw [if_pos (by simp [hq])]
        exact ⟨_, _, _, r, rfl, hJ, rfl, hc, same⟩
  · rw [if_pos (by simp [h0])]
    exact ⟨_, _, _, r, rfl, hJ, rfl, rfl, same⟩
end Go.Vx

namespace Go.Vx
open Go Go.RowKit
theorem Zdq : ∀ (d s : List Int) (a : Nat) (p : Int), (d.length : Int) ≤ p → (Qr s a d p).2.1 = true ∧ (Qr s a d p).1 = p - d.length
  | [], s, a, p, h => ⟨rfl, by simp [Qr]⟩
  | b :: tl, s, a, p, h => by
    rw [List.length_cons] at h
    unfold Qr
    rw [if_neg (by omega)]
    obtain ⟨h1, h2⟩ := Zdq tl (s.set a (QJ .u8 (s.getD a 0) b)) (a + 1) (p - 1) (by omega)
    exact ⟨h1, by rw [h2, List.length_cons]; omega⟩
theorem Zmh {s : List Int} {v : Int} (hl : 16 ≤ s.length) (hv : 1 ≤ v ∧ v ≤ 1073741824) (h : s.take 10 = hdL v) : (headV s).1 = v ∧ (headV s).2.2 = true := by
  have g : ∀ k, k < 10 → s.getD k 0 = (hdL v).getD k 0 := fun k hk => by
    rw [← h, List.getD_eq_getElem?_getD, List.getD_eq_getElem?_getD, List.getElem?_take_of_lt hk]
  have e : Zhc (s.getD 2 0) (s.getD 3 0) (s.getD 4 0) (s.getD 5 0) = v := by
    rw [g 2 (by omega), g 3 (by omega), g 4 (by omega), g 5 (by omega)]
    show Zhc (v / 16777216 % 256) (v / 65536 % 256) (v / 256 % 256) (v % 256) = v
    unfold Zhc; omega
  unfold headV
  rw [if_neg (by omega)]
  simp only
  rw [e, if_pos ⟨hv.1, hv.2, h⟩]
  exact ⟨rfl, rfl⟩
theorem Zfg {n : Nat} (h : 16 ≤ n) : (headV (List.replicate n 255)).2.2 = false := by
  unfold headV
  split
  · rfl
  · simp only
    rw [if_neg]
    rintro ⟨_, _, e⟩
    have this : ((List.replicate n (255 : Int)).take 10).getD 0 0 = 79 := by rw [e]; rfl
    rw [List.getD_eq_getElem?_getD, List.getElem?_take_of_lt (by omega), List.getElem?_replicate, if_pos (by omega)] at this
    simp at this
def cntP (n p i : Nat) : Nat := (p + (n - 1 - i)) / n
theorem ZkZ {n p i : Nat} (hn : 0 < n) (hi : i < n) : cntP n (p + 1) i = cntP n p i + if i = p % n then 1 else 0 := by
  unfold cntP
  have hd := Nat.div_add_mod p n
  have hm := Nat.mod_lt p hn
  generalize p / n = q at hd
  generalize hr : p % n = r at *
  have e1 : p + (n - 1 - i) = n * q + (r + (n - 1 - i)) := by omega
  have e2 : p + 1 + (n - 1 - i) = n * q + (r + 1 + (n - 1 - i)) := by omega
  rw [e1, e2, Nat.mul_add_div hn, Nat.mul_add_div hn]
  by_cases h : i = r
  · rw [if_pos h, Nat.div_eq_of_lt (show r + (n - 1 - i) < n by omega)]
    rw [show r + 1 + (n - 1 - i) = n by omega, Nat.div_self hn]
  · rw [if_neg h]
    rcases Nat.lt_or_ge i r with w | w
    · have a1 : (r + (n - 1 - i)) / n = 1 := by
        rw [show r + (n - 1 - i) = n + (r - 1 - i) by omega, Nat.add_div_left _ hn, Nat.div_eq_of_lt (by omega)]
      have a2 : (r + 1 + (n - 1 - i)) / n = 1 := by
        rw [show r + 1 + (n - 1 - i) = n + (r - i) by omega, Nat.add_div_left _ hn, Nat.div_eq_of_lt (by omega)]
      rw [a1, a2]
    · rw [Nat.div_eq_of_lt (show r + (n - 1 - i) < n by omega), Nat.div_eq_of_lt (show r + 1 + (n - 1 - i) < n by omega)]
theorem Znv {n p i : Nat} (hn : 0 < n) (hi : i < n) : p / n ≤ cntP n p i ∧ cntP n p i ≤ p / n + 1 := by
  unfold cntP
  refine ⟨Nat.div_le_div_right (by omega), ?_⟩
  have : p + (n - 1 - i) ≤ p + n := by omega
  exact Nat.le_trans (Nat.div_le_div_right this) (by rw [Nat.add_div_right _ hn]; exact Nat.le_refl _)
def pgs (S t : Nat) : Nat := (t + (S - 1)) / S
theorem Zo3 {S t : Nat} (hS : 0 < S) (h : t % S ≠ 0) : pgs S t = t / S + 1 ∧ pgs S (t + 1) = t / S + 1 := by
  have hd := Nat.div_add_mod t S
  have hm := Nat.mod_lt t hS
  unfold pgs
  generalize t / S = q at *
  generalize t % S = r at *
  constructor
  · rw [show t + (S - 1) = S * q + (S + (r - 1)) by omega, Nat.mul_add_div hS, Nat.add_div_left _ hS, Nat.div_eq_of_lt (by omega)]
  · rw [show t + 1 + (S - 1) = S * q + (S + r) by omega, Nat.mul_add_div hS, Nat.add_div_left _ hS, Nat.div_eq_of_lt (by omega)]
theorem Zn4 {S t : Nat} (hS : 0 < S) (h : t % S = 0) : pgs S t = t / S ∧ pgs S (t + 1) = t / S + 1 := by
  have hd := Nat.div_add_mod t S
  unfold pgs
  generalize t / S = q at *
  constructor
  · rw [show t + (S - 1) = S * q + (S - 1) by omega, Nat.mul_add_div hS, Nat.div_eq_of_lt (by omega)]; rfl
  · rw [show t + 1 + (S - 1) = S * q + S by omega, Nat.mul_add_div hS, Nat.div_self hS]
def zF64 : Vector Int 64 := Vector.replicate 64 0
structure PgM (m0 : api_Memory) (gs : List (Vector Int 64)) (m : api_Memory) (s : ring_spot) : Prop where
  slots : m.Slots = m0.Slots
  limit : m.Limit = m0.Limit
  bad : m.Bad = m0.Bad
  n : m.Sectors.length = m0.Sectors.length
  wear : ∀ i, i < m.Sectors.length → m.Wear.getD i 0 = (cntP m.Sectors.length (pgs m.Slots.toNat gs.length) i : Int)
  head : ∀ P, pgs m.Slots.toNat gs.length < P + 1 + m.Sectors.length → P < pgs m.Slots.toNat gs.length → (m.Sectors.getD (P % m.Sectors.length) []).take 10 = hdL ((P : Int) + 1)
  row : ∀ P, pgs m.Slots.toNat gs.length < P + 1 + m.Sectors.length → P < pgs m.Slots.toNat gs.length → ∀ j, j < m.Slots.toNat → slotL (m.Sectors.getD (P % m.Sectors.length) []) j = if P * m.Slots.toNat + j < gs.length then bytesF (gs.getD (P * m.Slots.toNat + j) zF64) ++ [0] else List.replicate 97 255
  blank : ∀ i, pgs m.Slots.toNat gs.length ≤ i → i < m.Sectors.length → ∃ k, m.Sectors.getD i [] = List.replicate k 255
  spot0 : gs.length = 0 → s = ⟨-1, 0⟩
  spot : 0 < gs.length → s.sector = (((pgs m.Slots.toNat gs.length - 1) % m.Sectors.length : Nat) : Int) ∧ s.slot = ((gs.length - (pgs m.Slots.toNat gs.length - 1) * m.Slots.toNat : Nat) : Int)
end Go.Vx

namespace Go.Vx
open Go Go.RowKit
theorem Ziq {m : api_Memory} {sec B : Int} (hB : 0 ≤ B) : ∀ k : Nat, (∀ i : Nat, i < k → (i : Int) ≠ sec → (headV (m.Sectors.getD i [])).2.2 = true → (headV (m.Sectors.getD i [])).1 ≤ B) → Zdi m sec k ≤ B
  | 0, _ => hB
  | k + 1, h => by
    have ih := Ziq (m := m) (sec := sec) hB k (fun i hi => h i (by omega))
    unfold Zdi
    split
    · rename_i q
      rw [Bool.and_eq_true] at q
      have := h k (by omega) (by simpa using q.2) q.1
      omega
    · exact ih
theorem ZkE {m : api_Memory} {sec : Int} : ∀ (k i : Nat), i < k → (i : Int) ≠ sec → (headV (m.Sectors.getD i [])).2.2 = true → (headV (m.Sectors.getD i [])).1 ≤ Zdi m sec k
  | 0, i, hi, _, _ => absurd hi (Nat.not_lt_zero _)
  | k + 1, i, hi, hne, hh => by
    unfold Zdi
    by_cases e : i = k
    · subst e
      rw [if_pos (by rw [hh]; simpa using hne)]
      omega
    · have := ZkE k i (by omega) hne hh
      split <;> omega
theorem Za5 (v : Int) : (hdL v).length = 10 := rfl
theorem Zjq {n : Nat} (hn : 16 ≤ n) {v : Int} (hv : 1 ≤ v ∧ v ≤ 1073741824) {p : Int} (hp : 10 ≤ p) : (Qr (List.replicate n 255) 0 (hdL v) p).2.1 = true ∧ (Qr (List.replicate n 255) 0 (hdL v) p).1 = p - 10 ∧
    (Qr (List.replicate n 255) 0 (hdL v) p).2.2.length = n ∧ (Qr (List.replicate n 255) 0 (hdL v) p).2.2.take 10 = hdL v ∧ ∀ k, 10 ≤ k → k < n → (Qr (List.replicate n 255) 0 (hdL v) p).2.2.getD k 0 = 255 := by
  obtain ⟨h1, h2⟩ := Zdq (hdL v) (List.replicate n 255) 0 p (by rw [Za5]; exact hp)
  have hl := ZbD (hdL v) (List.replicate n 255) 0 p
  rw [List.length_replicate] at hl
  refine ⟨h1, by rw [h2, Za5]; rfl, hl, ?_, fun k k1 k2 => by rw [Zbq _ _ _ _ _ (.inr (by rw [Za5]; omega)), ZeP k2]⟩
  refine Zbk (by rw [List.length_take, hl, Za5]; omega) fun k hk => ?_
  rw [List.length_take, hl] at hk
  have := ZgM (hdL v) (List.replicate n 255) 0 p (by rw [Za5, List.length_replicate]; omega) h1 k (by rw [Za5]; omega)
  rw [Nat.zero_add, ZeP (by omega), Zhr (Zai (Zl8 v) k)] at this
  rw [List.getD_eq_getElem?_getD, List.getElem?_take_of_lt (by omega), ← List.getD_eq_getElem?_getD, this]
theorem Zg4 {S : List Int} {j : Nat} {f : Vector Int 64} (hf : fN f) (hl : 16 + j * 97 + 97 ≤ S.length) (hfree : slotL S j = List.replicate 97 255) {p : Int} (hp : 97 ≤ p) :
    (Qr S (16 + j * 97) (bytesF f ++ [0]) p).2.1 = true ∧ (Qr S (16 + j * 97) (bytesF f ++ [0]) p).1 = p - 97 ∧ slotL (Qr S (16 + j * 97) (bytesF f ++ [0]) p).2.2 j = bytesF f ++ [0] ∧
    (∀ k, k ≠ j → 16 + k * 97 + 97 ≤ S.length → slotL (Qr S (16 + j * 97) (bytesF f ++ [0]) p).2.2 k = slotL S k) ∧ (Qr S (16 + j * 97) (bytesF f ++ [0]) p).2.2.take 10 = S.take 10 := by
  have hdl : (bytesF f ++ [(0 : Int)]).length = 97 := by rw [List.length_append, Z3]; rfl
  obtain ⟨h1, h2⟩ := Zdq (bytesF f ++ [0]) S (16 + j * 97) p (by rw [hdl]; exact hp)
  have hlen := ZbD (bytesF f ++ [0]) S (16 + j * 97) p
  have hout : ∀ k, k < 16 + j * 97 ∨ 16 + j * 97 + 97 ≤ k → (Qr S (16 + j * 97) (bytesF f ++ [0]) p).2.2.getD k 0 = S.getD k 0 := fun k hk => Zbq _ _ _ _ _ (by rw [hdl]; exact hk)
  have hin := ZgM (bytesF f ++ [0]) S (16 + j * 97) p (by rw [hdl]; omega) h1
  refine ⟨h1, by rw [h2, hdl]; rfl, ?_, fun k hk hkl => ?_, ?_⟩
  · refine Zbk (by rw [JV (by omega), hdl]) fun t ht => ?_
    rw [JV (by omega)] at ht
    have old : S.getD (16 + j * 97 + t) 0 = 255 := by rw [← ZdF hl ht, hfree, ZeP ht]
    rw [ZdF (by omega) ht, hin t (by omega), old, Zhr]
    rcases Nat.lt_or_ge t 96 with q | q
    · rw [List.getD_eq_getElem?_getD, List.getElem?_append_left (by rw [Z3]; omega), ← List.getD_eq_getElem?_getD]; exact Zai (Zau hf) t
    · obtain rfl : t = 96 := by omega
      rw [List.getD_eq_getElem?_getD, List.getElem?_append_right (by rw [Z3]; omega), Z3]; simp
  · refine ZcD hlen (by omega) fun z z1 z2 => hout z ?_
    rcases Nat.lt_or_ge k j with w | w
    · left; omega
    · right; omega
  · refine Zbk (by rw [List.length_take, List.length_take, hlen]) fun k hk => ?_
    rw [List.length_take] at hk
    rw [List.getD_eq_getElem?_getD, List.getElem?_take_of_lt (by omega), ← List.getD_eq_getElem?_getD, hout k (by omega), List.getD_eq_getElem?_getD (l := S.take 10), List.getElem?_take_of_lt (by omega), List.getD_eq_getElem?_getD]
theorem Zeg {l : List (Vector Int 64)} {f : Vector Int 64} {k : Nat} : (l ++ [f]).getD k zF64 = if k = l.length then f else l.getD k zF64 := by
  rw [List.getD_eq_getElem?_getD, List.getD_eq_getElem?_getD]
  by_cases h : k = l.length
  · subst h; simp
  · rw [if_neg h]
    rcases Nat.lt_or_ge k l.length with w | w
    · rw [List.getElem?_append_left w]
    · rw [List.getElem?_eq_none (by rw [List.length_append]; simp; omega), List.getElem?_eq_none w]
theorem Zha {n P p : Nat} (h1 : P < p) (h2 : p < P + n) : P % n ≠ p % n := fun e => by
  have := Nat.sub_mod_eq_zero_of_mod_eq e.symm
  rw [Nat.mod_eq_of_lt (show p - P < n by omega)] at this
  omega
end Go.Vx

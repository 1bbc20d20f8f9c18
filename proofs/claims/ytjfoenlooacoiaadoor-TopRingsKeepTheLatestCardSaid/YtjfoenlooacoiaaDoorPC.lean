/- A text of the proof: a verified executor of the program form, or the contracts of the functions that the law reaches. -/
import Derived.Test.YtjfoenlooacoiaaDoorPB
set_option linter.all false
namespace Go.Vx
open Go Go.RowKit
theorem Zfh {V : Type} {k x : Int} {a : V} : ∀ {m : List (Int × V)}, mget kqI (Ze3 kqI m k a) x = if x = k then some a else mget kqI m x
  | [] => by rw [Zkd, Zcg]
  | (c, v) :: m => by
    rw [Zjn]
    by_cases h : k = c
    · subst h
      rw [if_pos rfl, Zcg, Zcg]
      by_cases hx : x = k
      · rw [if_pos hx, if_pos hx]
      · rw [if_neg hx, if_neg hx, if_neg hx]
    · rw [if_neg h, Zcg, Zcg, Zfh]
      by_cases hx : x = c
      · rw [if_pos hx, if_pos hx, if_neg (fun e => h (by rw [← e, hx]))]
      · rw [if_neg hx, if_neg hx]
theorem ZkL {l : List Int} (h : u8R l) (i : Nat) : 0 ≤ Xa l i ∧ Xa l i ≤ 4095 := by
  unfold Xa
  have a := JN h (3 * (i / 2))
  have b := JN h (3 * (i / 2) + 1)
  have c := JN h (3 * (i / 2) + 2)
  split <;> omega
theorem ZmK {l : List Int} (h : u8R l) (i : Nat) : 0 ≤ wd (ZbT (Xa l)) i ∧ wd (ZbT (Xa l)) i ≤ 4095 := by
  by_cases hi : i < 64
  · have : wd (ZbT (Xa l)) i = Xa l i := ZbV _ hi
    rw [this]; exact ZkL h i
  · have : wd (ZbT (Xa l)) i = 0 := by
      unfold wd
      rw [List.getD_eq_getElem?_getD, List.getElem?_eq_none (by simp; omega)]; rfl
    rw [this]; omega
def fN (f : Vector Int 64) : Prop := ∀ i, 0 ≤ wd f i ∧ wd f i ≤ 4095
theorem fN.u {f : Vector Int 64} (h : fN f) : fU f := fun i => ⟨(h i).1, by have := (h i).2; omega⟩
theorem Zhr {m : api_Memory} {mi i : Int} {x : api_Kept} (h : x ∈ ZdC m mi i) : ∃ j : Nat, (j : Int) < m.Slots ∧ stV (slotL (m.Sectors.getD i.toNat []) j) = 1 ∧ x = ⟨mi, i, (Ql (m.Sectors.getD i.toNat [])).1, j, frV (m.Sectors.getD i.toNat []) j⟩ := by
  unfold ZdC at h
  obtain ⟨j, hj, hx⟩ := List.mem_flatMap.1 h
  split at hx
  · rename_i q
    exact ⟨j, by have := List.mem_range.1 hj; omega, q, List.mem_singleton.1 hx⟩
  · cases hx
theorem Zll {l : List api_Memory} {x : api_Kept} (h : x ∈ Zbi l) : ∃ k : Nat, k < l.length ∧ ∃ i ∈ Zdw (l.getD k dfM), x ∈ ZdC (l.getD k dfM) (k : Int) i := by
  unfold Zbi at h
  obtain ⟨k, hk, hx⟩ := List.mem_flatMap.1 h
  obtain ⟨i, hi, hx⟩ := List.mem_flatMap.1 hx
  exact ⟨k, List.mem_range.1 hk, i, hi, hx⟩
theorem Zmz {l : List api_Memory} (hR : ∀ m ∈ l, memR m) : ∀ x ∈ Zbi l, fN x.Frame := by
  intro x hx
  obtain ⟨k, hk, i, hi, hx⟩ := Zll hx
  obtain ⟨j, _, _, rfl⟩ := Zhr hx
  exact ZmK (ZgB (ZbR (hR _ (X6 hk).1) _) j)
noncomputable def nmK (x : api_Kept) : Int := (numN x.Frame).1
theorem ZmI {body : Int → Option (Int ⊕ Int)} {R : List api_Kept} {n : Int} (h1 : ∀ (k : Nat) y, R[k]? = some y → body k = if n ≤ nmK y then some (.inr (k : Int)) else some (.inl ((k : Int) + 1))) (h2 : body R.length = some (.inr (R.length : Int))) :
    ∃ r : Nat, loop (t1 body) 0 = some (r : Int) ∧ r ≤ R.length ∧ (∀ k y, k < r → R[k]? = some y → nmK y < n) ∧ (∀ y, R[r]? = some y → n ≤ nmK y) := by
  obtain ⟨z, e, r, rfl, q1, q2, q3⟩ := Zbf (body := body) (N := R.length) (fun k => ∀ j y, j < k → R[j]? = some y → nmK y < n) (fun z => ∃ r : Nat, z = (r : Int) ∧ r ≤ R.length ∧ (∀ k y, k < r → R[k]? = some y → nmK y < n) ∧ (∀ y, R[r]? = some y → n ≤ nmK y)) (fun k hk hI => by
      obtain ⟨y, hy⟩ := Xd hk
      rw [h1 k y hy]
      by_cases q : n ≤ nmK y
      · right
        exact ⟨_, by rw [if_pos q], k, rfl, by omega, hI, fun y' hy' => by rw [hy] at hy'; cases hy'; exact q⟩
      · left
        refine ⟨by rw [if_neg q], fun j y' hj hy' => ?_⟩
        by_cases e : j = k
        · subst e; rw [hy] at hy'; cases hy'; omega
        · exact hI j y' (by omega) hy') (fun hI => ⟨_, h2, R.length, rfl, Nat.le_refl _, hI, fun y hy => by rw [List.getElem?_eq_none (Nat.le_refl _)] at hy; cases hy⟩) (fun j y hj => absurd hj (Nat.not_lt_zero _))
  exact ⟨r, e, q1, q2, q3⟩
structure FrI (R : List api_Kept) (M : List (Int × api_Kept)) (N : List Int) : Prop where
  srt : R.Pairwise fun a b => nmK a < nmK b
  prm : N.Perm (R.map nmK)
  get : ∀ x ∈ R, mget kqI M (nmK x) = some x
  non : ∀ n, (∀ x ∈ R, nmK x ≠ n) → mget kqI M n = none
  num : ∀ x ∈ R, fN x.Frame
theorem Zky {R : List api_Kept} {M : List (Int × api_Kept)} {N : List Int} (hI : FrI R M N) (hl : R.length ≤ 100000) {x : api_Kept} (hx : fN x.Frame) {y : (List api_Kept) × Int} {k : Nat} (hk : y.1[k]? = some x) (hy : y.1.length ≤ 100000) :
    ∃ R' M' N', Xb y M N (k : Int) = some (.inl (M', N', (k : Int) + 1)) ∧ Xs y R (k : Int) = some (.inl (R', (k : Int) + 1)) ∧ FrI R' M' N' ∧ R'.length ≤ R.length + 1 ∧ (∀ z ∈ R', z ∈ R ∨ (z = x ∧ sndB x.Frame = true)) ∧
      ((∀ y ∈ R, ∃ w ∈ R', nmK w = nmK y ∧ y.Sequence ≤ w.Sequence) ∧ (sndB x.Frame = true → ∃ y ∈ R', nmK y = nmK x ∧ x.Sequence ≤ y.Sequence)) := by
  have hlt := (List.getElem?_eq_some_iff.1 hk).1
  have ek : i64 ((k : Int) + 1) = (k : Int) + 1 := Zh (by omega) (by omega)
  have hN : N.length = R.length := by rw [hI.prm.length_eq, List.length_map]
  unfold Xb Xs
  rw [if_pos (by simpa using hlt), if_pos (by simpa using hlt), Zm hk, Option.bind_some, Option.bind_some, ek, ZjO hx.u, Zim hx.u, Option.bind_some, Option.bind_some]
  have hfl := Zio hx.u
  by_cases hs : sndB x.Frame = false
  · refine ⟨R, M, N, by rw [if_pos (by simpa using hfl.2 hs)], by rw [hs]; rfl, hI, by omega, fun z hz => .inl hz, fun y hy => ⟨y, hy, rfl, Int.le_refl _⟩, fun h => absurd h (by simp [hs])⟩
  · have hs' : sndB x.Frame = true := by simpa using hs
    have h0 : ¬ 0 < (ZiW x.Frame).length := fun q => hs (hfl.1 q)
    rw [if_neg (by rw [decide_eq_true_eq]; omega), hs']
    simp only [Bool.not_true, Bool.false_eq_true, if_false]
    have nn : ∀ f : Vector Int 64, fN f → XQ f = some (numN f) ∧ JW f = some (numN f) := fun f hf => Zij hf.u (hf 1).2 (hf 2).2
    rw [(nn _ hx).1, (nn _ hx).2, Option.bind_some, Option.bind_some, Option.bind_some]
    obtain ⟨r, q1, q2, q3, q4⟩ := ZmI (body := Za5 R (numN x.Frame)) (R := R) (n := nmK x) (fun j z hj => by
      have hjl := (List.getElem?_eq_some_iff.1 hj).1
      unfold Za5
      rw [if_pos (by simpa using hjl), Zm hj, Option.bind_some, (nn _ (hI.num z (List.mem_of_getElem? hj))).2, Option.bind_some, show i64 ((j : Int) + 1) = (j : Int) + 1 from Zh (by omega) (by omega)]
      by_cases q : nmK x ≤ nmK z
      · rw [if_pos (by simpa [nmK] using q), if_pos q]
      · rw [if_neg (by simpa [nmK] using q), if_neg q]) (by
      unfold Za5
      rw [if_neg (by simp)])
    rw [q1]
    simp only [Option.bind_some, Qp]
    have split' : R = R.take r ++ R.drop r := (List.take_append_drop ..).symm
    have lt1 : ∀ z ∈ R.take r, nmK z < nmK x := fun z hz => by
      obtain ⟨j, hj, e⟩ := List.getElem_of_mem hz
      rw [List.length_take] at hj
      refine q3 j z (by omega) ?_
      rw [← List.getElem?_take_of_lt (show j < r by omega), List.getElem?_eq_getElem (by rw [List.length_take]; exact hj), e]
    by_cases hat : ∃ z, R[r]? = some z ∧ nmK z = nmK x
    · obtain ⟨z, hz, hzn⟩ := hat
      have hrl := (List.getElem?_eq_some_iff.1 hz).1
      have zm := List.mem_of_getElem? hz
      have hg := hI.get z zm
      rw [hzn] at hg
      have hg' : mget kqI M (numN x.Frame).1 = some z := hg
      rw [hg']
      simp only [Option.isSome_some, Bool.not_true, Bool.false_eq_true, if_false, Option.bind_some, Qp, Bool.false_or, Option.getD_some]
      rw [if_pos (show decide ((r : Int) < (R.length : Int)) = true by simpa using hrl), Zm hz, Option.bind_some, (nn _ (hI.num z zm)).2, Option.bind_some, if_pos (show decide ((numN z.Frame).1 = (numN x.Frame).1) = true from decide_eq_true hzn), Option.bind_some]
      have hset : R.set r x = R.take r ++ x :: R.drop (r + 1) := List.set_eq_take_append_cons_drop .. |>.trans (by rw [if_pos hrl])
      have hR : R = R.take r ++ z :: R.drop (r + 1) := by
        have := JB hz
        rw [← this]; exact split'
      by_cases hq : z.Sequence < x.Sequence
      · refine ⟨R.set r x, Ze3 kqI M (numN x.Frame).1 x, N, by rw [if_pos (by simpa using hq)], ?_, ⟨?_, ?_, ?_, ?_, ?_⟩, by simp, fun w hw => ?_, fun y hy => ?_, fun _ => ⟨x, by rw [hset]; simp, rfl, Int.le_refl _⟩⟩
        · rw [if_pos (by simpa using hq)]
          simp only [Option.bind_some, Int.toNat_natCast, Sum.elim_inl, Qp]
        · have h := hI.srt
          rw [hR] at h
          rw [hset]
          rw [List.pairwise_append, List.pairwise_cons] at h ⊢
          refine ⟨h.1, ⟨fun b hb => by rw [← hzn]; exact h.2.1.1 b hb, h.2.1.2⟩, fun a ha b hb => ?_⟩
          rcases List.mem_cons.1 hb with rfl | hb
          · rw [← hzn]; exact h.2.2 a ha z (List.mem_cons_self ..)
          · exact h.2.2 a ha b (List.mem_cons_of_mem _ hb)
        · have : (R.set r x).map nmK = R.map nmK := by
            rw [List.map_set, ← hzn]
            refine List.ext_getElem? fun j => ?_
            rw [List.getElem?_set]
            split
            · rename_i e
              subst e
              rw [if_pos (by simpa using hrl), List.getElem?_map, hz]; rfl
            · rfl
          rw [this]; exact hI.prm
        · intro w hw
          rw [Zfh]
          rcases List.mem_or_eq_of_mem_set hw with hw' | rfl
          · by_cases e : nmK w = (numN x.Frame).1
            · rw [if_pos e]
              -- two of one number in R: the same place
              rw [hset] at hw
              rcases List.mem_append.1 hw with p | p
              · have := lt1 w p
                unfold nmK at this e; omega
              · rcases List.mem_cons.1 p with rfl | p
                · rfl
                · have h := hI.srt
                  rw [hR, List.pairwise_append, List.pairwise_cons] at h
                  have := h.2.1.1 w p
                  rw [hzn] at this
                  unfold nmK at this e; omega
            · rw [if_neg e]; exact hI.get w hw'
          · exact if_pos rfl
        · intro n hn
          rw [Zfh]
          have hxn : n ≠ (numN x.Frame).1 := fun e => hn x (by rw [hset]; simp) e.symm
          rw [if_neg hxn]
          refine hI.non n fun w hw => ?_
          rw [hR] at hw
          rcases List.mem_append.1 hw with p | p
          · exact hn w (by rw [hset]; simp [p])
          · rcases List.mem_cons.1 p with rfl | p
            · rw [hzn]; exact fun e => hxn e.symm
            · exact hn w (by rw [hset]; simp [p])
        · intro w hw
          rcases List.mem_or_eq_of_mem_set hw with hw' | rfl
          · exact hI.num w hw'
          · exact hx
        · rcases List.mem_or_eq_of_mem_set hw with p | p
          · exact .inl p
          · exact .inr ⟨p, trivial⟩
        · rw [hR] at hy
          rcases List.mem_append.1 hy with p | p
          · exact ⟨y, by rw [hset]; simp [p], rfl, Int.le_refl _⟩
          · rcases List.mem_cons.1 p with rfl | p
            · exact ⟨x, by rw [hset]; simp, hzn.symm, by omega⟩
            · exact ⟨y, by rw [hset]; simp [p], rfl, Int.le_refl _⟩
      · refine ⟨R, M, N, by rw [if_neg (by simpa using hq)], ?_, hI, by omega, fun z hz => .inl hz, fun y hy => ⟨y, hy, rfl, Int.le_refl _⟩, fun _ => ⟨z, zm, hzn, by omega⟩⟩
        rw [if_neg (by simpa using hq)]
        simp only [Option.bind_some, Sum.elim_inl, Qp]
    · have gt1 : ∀ z ∈ R.drop r, nmK x < nmK z := by
        intro z hz
        cases hd : R[r]? with
        | none =>
          have := List.getElem?_eq_none_iff.1 hd
          rw [List.drop_of_length_le this] at hz; cases hz
        | some w =>
          have hw : nmK x < nmK w := by
            have := q4 w hd
            have hne : nmK w ≠ nmK x := fun e => hat ⟨w, hd, e⟩
            omega
          rw [JB hd] at hz
          rcases List.mem_cons.1 hz with rfl | hz
          · exact hw
          · have h := hI.srt
            rw [split', JB hd, List.pairwise_append, List.pairwise_cons] at h
            have := h.2.1.1 z hz
            omega
      have hno : mget kqI M (numN x.Frame).1 = none := hI.non _ fun w hw => by
        rw [split'] at hw
        rcases List.mem_append.1 hw with p | p
        · have := lt1 w p; unfold nmK at *; omega
        · have := gt1 w p; unfold nmK at *; omega
      rw [hno]
      simp only [Option.isSome_none, Bool.not_false, if_true, Bool.true_or, Option.bind_some]
      rw [show apz 8 N [(numN x.Frame).1] = some (N ++ [(numN x.Frame).1]) from JS (by simp; omega)]
      have hmid : (if decide ((r : Int) < (R.length : Int)) = true then (idx R (r : Int)).bind fun x3 => (JW x3.Frame).bind fun y5 => if decide (y5.1 = (numN x.Frame).1) = true then (idx R (r : Int)).bind fun x4 => if decide (x4.Sequence < x.Sequence) = true then (idx R (r : Int)).bind fun x5 => some (.inl (R.set (Int.toNat (r : Int)) x)) else some (.inl R) else some (.inr ()) else some (.inr ())) = some (.inr () : List api_Kept ⊕ Unit) := by
        by_cases hr : r < R.length
        · obtain ⟨z, hz⟩ := Xd hr
          rw [if_pos (by simpa using hr), Zm hz, Option.bind_some, (nn _ (hI.num z (List.mem_of_getElem? hz))).2, Option.bind_some, if_neg]
          have : nmK z ≠ nmK x := fun e => hat ⟨z, hz, e⟩
          simpa [nmK] using this
        · rw [if_neg (by simpa using hr)]
      refine ⟨R.take r ++ x :: R.drop r, Ze3 kqI M (numN x.Frame).1 x, N ++ [(numN x.Frame).1], rfl, ?_, ⟨?_, ?_, ?_, ?_, ?_⟩, ?_, fun w hw => ?_, fun y hy => ⟨y, ?_, rfl, Int.le_refl _⟩, fun _ => ⟨x, by simp, rfl, Int.le_refl _⟩⟩
      · rw [hmid, Option.bind_some]
        simp only [Sum.elim_inr, ZjD]
        rw [show apz 160 R [x] = some (R ++ [x]) from JS (by simp; omega), Option.bind_some, show i64 ((r : Int) + 1) = ((r + 1 : Nat) : Int) from (Zh (by omega) (by omega)).trans (by omega)]
        have hL : (R ++ [x]).length = R.length + 1 := by simp
        have sq : ∀ j : Nat, j ≤ R.length + 1 → slq (R ++ [x]) (j : Int) ((R ++ [x]).length : Int) = some () := fun j hj => by
          unfold slq; rw [hL]
          have a1 : (j : Int) ≤ ((R.length + 1 : Nat) : Int) := by omega
          simp only [decide_eq_true (show (0 : Int) ≤ (j : Int) by omega), decide_eq_true a1, decide_eq_true (Nat.succ_pos _), decide_eq_true (Nat.le_refl _), Bool.and_self]
          simp [ck]
        rw [sq (r + 1) (by omega), Option.bind_some, sq r (by omega), Option.bind_some]
        have t1' : Int.toNat (((R ++ [x]).length : Int) - ((r + 1 : Nat) : Int)) = (R.length + 1) - (r + 1) := by rw [hL]; omega
        have t2' : Int.toNat (((R ++ [x]).length : Int) - (r : Int)) = (R.length + 1) - r := by rw [hL]; omega
        rw [t1', t2']
        simp only [Int.toNat_natCast]
        obtain ⟨z, hz⟩ := Xd (xs := cpy (R ++ [x]) (r + 1) ((R.length + 1) - (r + 1)) r ((R.length + 1) - r)) (k := r) (by rw [Zgc (by rw [hL]; omega) (by rw [hL]; omega), hL]; omega)
        rw [Zm hz, Option.bind_some, ZjG x q2]
        rfl
      · have h := hI.srt
        rw [split', List.pairwise_append] at h
        rw [List.pairwise_append, List.pairwise_cons]
        refine ⟨h.1, ⟨gt1, h.2.1⟩, fun a ha b hb => ?_⟩
        rcases List.mem_cons.1 hb with rfl | hb
        · exact lt1 a ha
        · exact h.2.2 a ha b hb
      · rw [List.map_append, List.map_cons]
        refine (List.Perm.append_right _ hI.prm).trans ?_
        have e : R.map nmK = (R.take r).map nmK ++ (R.drop r).map nmK := by rw [← List.map_append, List.take_append_drop]
        rw [e, List.append_assoc]
        exact List.Perm.append_left _ (List.perm_append_comm (l₁ := (R.drop r).map nmK) (l₂ := [nmK x]))
      · intro w hw
        rw [Zfh]
        rcases List.mem_append.1 hw with p | p
        · have := lt1 w p
          rw [if_neg (by unfold nmK at this ⊢; omega)]
          exact hI.get w (List.mem_of_mem_take p)
        · rcases List.mem_cons.1 p with rfl | p
          · exact if_pos rfl
          · have := gt1 w p
            rw [if_neg (by unfold nmK at this ⊢; omega)]
            exact hI.get w (List.mem_of_mem_drop p)
      · intro n hn
        rw [Zfh]
        have hxn : n ≠ (numN x.Frame).1 := fun e => hn x (by simp) e.symm
        rw [if_neg hxn]
        refine hI.non n fun w hw => ?_
        rw [split'] at hw
        rcases List.mem_append.1 hw with p | p
        · exact hn w (List.mem_append_left _ p)
        · exact hn w (List.mem_append_right _ (List.mem_cons_of_mem _ p))
      · intro w hw
        rcases List.mem_append.1 hw with p | p
        · exact hI.num w (List.mem_of_mem_take p)
        · rcases List.mem_cons.1 p with rfl | p
          · exact hx
          · exact hI.num w (List.mem_of_mem_drop p)
      · simp only [List.length_append, List.length_cons, List.length_take, List.length_drop]; omega
      · rcases List.mem_append.1 hw with p | p
        · exact .inl (List.mem_of_mem_take p)
        · rcases List.mem_cons.1 p with rfl | p
          · exact .inr ⟨rfl, trivial⟩
          · exact .inl (List.mem_of_mem_drop p)
      · rw [split'] at hy
        rcases List.mem_append.1 hy with p | p
        · exact List.mem_append_left _ p
        · exact List.mem_append_right _ (List.mem_cons_of_mem _ p)
end Go.Vx

namespace Go.Vx
open Go Go.RowKit
theorem ZlR {N : List Int} {R : List api_Kept} (hl : N.length ≤ 100000) (hp : N.Perm (R.map nmK)) (hs : R.Pairwise fun a b => nmK a < nmK b) : ZfU N = some (R.map nmK) := by
  unfold ZfU
  rw [if_pos (by omega)]
  have hR : (R.map nmK).Pairwise (· < ·) := by rw [List.pairwise_map]; exact hs
  have hm := List.mergeSort_perm N (fun x y => decide (x ≤ y))
  have ha := List.pairwise_mergeSort (le := fun x y : Int => decide (x ≤ y)) (fun a b c h1 h2 => by simp at *; omega) (fun a b => by simp; omega) N
  have hnd : (N.mergeSort fun x y => decide (x ≤ y)).Nodup := (hm.trans hp).nodup_iff.2 (hR.imp (fun h => Int.ne_of_lt h))
  have hb : Srt (fun z => z) (N.mergeSort fun x y => decide (x ≤ y)) := by
    refine (List.Pairwise.and ha hnd).imp ?_
    intro a b h
    have := of_decide_eq_true h.1
    have := h.2
    show a < b ∨ (a = b ∧ a < b)
    omega
  have hc : Srt (fun z => z) (R.map nmK) := hR.imp (fun h => .inl h)
  rw [ZeA (hm.trans hp) hb hc]
theorem Zk5 {l : List api_Memory} (hR : ∀ m ∈ l, memR m) : ∃ (c : Int) (R : List api_Kept), ZbD l = some (if c = 0 then R.map (·.Frame) else [], c) ∧ ZfV l = some (if c = 0 then R.map (·.Frame) else [], c) ∧ Q7 l = some c ∧
    (c = 0 → R.length ≤ 32768 ∧ (∀ x ∈ R, x ∈ Zbi l ∧ sndB x.Frame = true) ∧ R.Pairwise (fun a b => nmK a < nmK b) ∧ ∀ x ∈ Zbi l, sndB x.Frame = true → ∃ y ∈ R, nmK y = nmK x ∧ x.Sequence ≤ y.Sequence) := by
  obtain ⟨c, c1, c2, c3, c4, c5, c6⟩ := Zo1 hR
  refine ⟨c, ?_⟩
  unfold ZbD ZfV
  rw [c3, c4]
  simp only [Option.bind_some]
  by_cases q : c = 0
  · obtain ⟨hl, hO⟩ := c5 q
    have hlen := ZkI hl.2 hR hO
    subst q
    simp only [decide_true, Bool.not_true, Bool.false_eq_true, if_false, if_true]
    -- both loops side by side
    have key : ∀ k : Nat, k ≤ (Zbi l).length → ∃ R M N, FrI R M N ∧ R.length ≤ k ∧ (∀ x ∈ R, x ∈ Zbi l ∧ sndB x.Frame = true) ∧
        (∀ j x, j < k → (Zbi l)[j]? = some x → sndB x.Frame = true → ∃ y ∈ R, nmK y = nmK x ∧ x.Sequence ≤ y.Sequence) ∧
        loop (t3 (Xb (Zbi l, 0))) (([] : List (Int × api_Kept)), ([] : List Int), (0 : Int)) = loop (t3 (Xb (Zbi l, 0))) (M, N, (k : Int)) ∧
        loop (t2 (Xs (Zbi l, 0))) (([] : List api_Kept), (0 : Int)) = loop (t2 (Xs (Zbi l, 0))) (R, (k : Int)) := by
      intro k
      induction k with
      | zero => intro _; exact ⟨[], [], [], ⟨.nil, .refl _, (fun x h => by cases h), (fun n _ => rfl), (fun x h => by cases h)⟩, Nat.le_refl _, (fun x h => by cases h), fun j x hj => absurd hj (Nat.not_lt_zero _), rfl, rfl⟩
      | succ k ih =>
        intro hk
        obtain ⟨R, M, N, i1, i2, i3, i4, i5, i6⟩ := ih (by omega)
        obtain ⟨x, hx⟩ := Xd (xs := Zbi l) (k := k) (by omega)
        obtain ⟨R', M', N', s1, s2, s3, s4, s5, s6⟩ := Zky i1 (by omega) (Zmz hR x (List.mem_of_getElem? hx)) (y := (Zbi l, 0)) hx (by show (Zbi l).length ≤ _; omega)
        refine ⟨R', M', N', s3, by omega, fun z hz => ?_, fun j z hj hz hsz => ?_, ?_, ?_⟩
        · rcases s5 z hz with p | ⟨p, ps⟩
          · exact i3 z p
          · rw [p]; exact ⟨List.mem_of_getElem? hx, ps⟩
        · by_cases e : j = k
          · subst e
            rw [hx] at hz; cases hz
            exact s6.2 hsz
          · obtain ⟨y, y1, y2, y3⟩ := i4 j z (by omega) hz hsz
            obtain ⟨w, w1, w2, w3⟩ := s6.1 y y1
            exact ⟨w, w1, by rw [w2, y2], by omega⟩
        · rw [i5, Zed]
          simp only [Za9]
          rw [s1]; rfl
        · rw [i6, Zed]
          simp only [Qg]
          rw [s2]; rfl
    obtain ⟨R, M, N, i1, i2, i3, i4, i5, i6⟩ := key _ (Nat.le_refl _)
    have e1 : loop (t3 (Xb (Zbi l, 0))) (M, N, ((Zbi l).length : Int)) = some (M, N) := Zae (by
      simp only [Za9]
      unfold Xb
      rw [if_neg (by simp)])
    have e2 : loop (t2 (Xs (Zbi l, 0))) (R, ((Zbi l).length : Int)) = some R := Zae (by
      simp only [Qg]
      unfold Xs
      rw [if_neg (by simp)])
    have hN : N.length = R.length := by rw [i1.prm.length_eq, List.length_map]
    rw [i5, i6, e1, e2]
    simp only [Option.bind_some, Qp, Qg]
    rw [ZlR (by omega) i1.prm i1.srt]
    simp only [Option.bind_some]
    have hm : (R.map nmK).length = R.length := List.length_map ..
    refine ⟨R, ?_, ?_, c1, fun _ => ⟨by omega, i3, i1.srt, fun x hx hs => ?_⟩⟩
    · obtain ⟨o, o1, o2⟩ := JY (body := JO M (R.map nmK)) (s0 := []) (N := R.length) (fun k acc => acc = (R.take k).map (·.Frame)) (fun r => r = R.map (·.Frame)) (fun k acc hk hI => .inl (by
        obtain ⟨x, hx⟩ := Xd hk
        subst hI
        refine ⟨(R.take k).map (·.Frame) ++ [x.Frame], ?_, by rw [List.take_succ, hx]; simp⟩
        unfold JO
        rw [if_pos (by rw [hm]; simpa using hk), Zm (x := nmK x) (by rw [List.getElem?_map, hx]; rfl), Option.bind_some, i1.get x (List.mem_of_getElem? hx), Option.bind_some, JS (by simp; omega), Option.bind_some, show i64 ((k : Int) + 1) = (k : Int) + 1 from Zh (by omega) (by omega)]
        rfl)) (fun acc hI => ⟨acc, by unfold JO; rw [if_neg (by rw [hm]; simp)], by rw [hI, List.take_length]⟩) rfl
      rw [o1, o2]; rfl
    · obtain ⟨o, o1, o2⟩ := JY (body := Zbh R) (s0 := []) (N := R.length) (fun k acc => acc = (R.take k).map (·.Frame)) (fun r => r = R.map (·.Frame)) (fun k acc hk hI => .inl (by
        obtain ⟨x, hx⟩ := Xd hk
        subst hI
        refine ⟨(R.take k).map (·.Frame) ++ [x.Frame], ?_, by rw [List.take_succ, hx]; simp⟩
        unfold Zbh
        rw [if_pos (by simpa using hk), Zm hx, Option.bind_some, JS (by simp; omega), Option.bind_some, show i64 ((k : Int) + 1) = (k : Int) + 1 from Zh (by omega) (by omega)])) (fun acc hI => ⟨acc, by unfold Zbh; rw [if_neg (by simp)], by rw [hI, List.take_length]⟩) rfl
      rw [o1, o2]; rfl
    · obtain ⟨j, hj, e⟩ := List.getElem_of_mem hx
      exact i4 j x hj (by rw [List.getElem?_eq_getElem hj, e]) hs
  · refine ⟨[], ?_, ?_, c1, fun w => absurd w q⟩
    · rw [if_pos (by simp [q]), if_neg q]
    · rw [if_pos (by simp [q]), if_neg q]
end Go.Vx

namespace Go.Vx
open Go Go.RowKit
theorem Zhv {l : List api_Memory} (hl : l.length ≤ 8) (hO : ∀ m ∈ l, MemOK m) : XU l = some l := by
  unfold XU
  obtain ⟨r, h1, h2⟩ := JY (body := XN l) (s0 := []) (N := l.length) (fun k acc => acc = l.take k) (fun r => r = l) (fun k acc hk hI => .inl (by
      obtain ⟨m, hm⟩ := Xd hk
      subst hI
      refine ⟨l.take k ++ [m], ?_, by rw [List.take_succ, hm]; rfl⟩
      unfold XN
      rw [if_pos (by simpa using hk), Zm hm, Option.bind_some, ZnH (hO m (List.mem_of_getElem? hm)), Option.bind_some, JS (by simp; omega), Option.bind_some, show i64 ((k : Int) + 1) = (k : Int) + 1 from Zh (by omega) (by omega)])) (fun acc hI => ⟨acc, by unfold XN; rw [if_neg (by simp)], by rw [hI, List.take_length]⟩) rfl
  rw [h1, h2]; rfl
structure SpotOK (m : api_Memory) (s : ring_spot) : Prop where
  sec : (s.sector = -1 ∧ s.slot = 0) ∨ (0 ≤ s.sector ∧ s.sector < m.Sectors.length)
  slot : 0 ≤ s.slot ∧ s.slot ≤ m.Slots
  /-- the slots from there on are free -/
  free : 0 ≤ s.sector → ∀ j : Nat, s.slot ≤ j → (j : Int) < m.Slots → slotL (m.Sectors.getD s.sector.toNat []) j = List.replicate 97 255
def dfS : ring_spot := ⟨0, 0⟩
structure BankI (b : ring_bank) : Prop where
  n : 1 ≤ b.memories.length ∧ b.memories.length ≤ 8
  ok : ∀ m ∈ b.memories, MemOK m
  u8 : ∀ m ∈ b.memories, memR m
  len : b.spots.length = b.memories.length
  at_ : ∀ k, k < b.memories.length → SpotOK (b.memories.getD k dfM) (b.spots.getD k dfS)
structure RecI (r : ring_Recorder) : Prop where
  bank : BankI r.bank
  cp : 1 ≤ r.copies ∧ r.copies ≤ r.bank.memories.length
end Go.Vx

namespace Go.Vx
open Go Go.RowKit
theorem Zjy (a b : Int) : 0 ≤ Qt .u8 a b ∧ Qt .u8 a b ≤ 255 := by
  rw [Znd]
  have := (BitVec.ofInt 8 a &&& BitVec.ofInt 8 b).isLt
  omega
theorem ZhY : ∀ (d s : List Int) (a : Nat) (p : Int), u8R s → u8R (Xe s a d p).2.2
  | [], s, a, p, h => h
  | b :: tl, s, a, p, h => by
    have hs : ∀ z : Int, 0 ≤ z ∧ z ≤ 255 → u8R (s.set a z) := fun z hz x hx => by
      rcases List.mem_or_eq_of_mem_set hx with q | rfl
      · exact h x q
      · exact hz
    unfold Xe
    split
    · exact hs _ (Zjy ..)
    · exact ZhY tl _ _ _ (hs _ (Zjy ..))
theorem ZaS {s : List Int} {a k : Nat} {z : Int} (h : a ≠ k) : (s.set a z).getD k 0 = s.getD k 0 := by
  rw [List.getD_eq_getElem?_getD, List.getElem?_set_ne h, List.getD_eq_getElem?_getD]
theorem ZdM {s : List Int} {a : Nat} {z : Int} (h : a < s.length) : (s.set a z).getD a 0 = z := by
  rw [List.getD_eq_getElem?_getD, List.getElem?_set_self h]; rfl
theorem ZcQ : ∀ (d s : List Int) (a : Nat) (p : Int) (k : Nat), k < a ∨ a + d.length ≤ k → (Xe s a d p).2.2.getD k 0 = s.getD k 0
  | [], s, a, p, k, h => rfl
  | b :: tl, s, a, p, k, h => by
    rw [List.length_cons] at h
    unfold Xe
    split
    · exact ZaS (by omega)
    · rw [ZcQ tl _ _ _ k (by omega), ZaS (by omega)]
theorem Zgi : ∀ (d s : List Int) (a : Nat) (p : Int), a + d.length ≤ s.length → (Xe s a d p).2.1 = true → ∀ t, t < d.length → (Xe s a d p).2.2.getD (a + t) 0 = Qt .u8 (s.getD (a + t) 0) (d.getD t 0)
  | [], s, a, p, hl, h, t, ht => absurd ht (Nat.not_lt_zero _)
  | b :: tl, s, a, p, hl, h, t, ht => by
    rw [List.length_cons] at hl ht
    unfold Xe at h ⊢
    split at h
    · cases h
    · rename_i q
      rw [if_neg q]
      cases t with
      | zero =>
        rw [ZcQ tl _ _ _ _ (by omega), Nat.add_zero, ZdM (by omega)]; rfl
      | succ t =>
        have := Zgi tl (s.set a (Qt .u8 (s.getD a 0) b)) (a + 1) (p - 1) (by rw [List.length_set]; omega) h t (by omega)
        rw [show a + (t + 1) = a + 1 + t by omega, this, ZaS (by omega)]; rfl
theorem ZhA : ∀ (d s : List Int) (z : Int) (a : Nat) (p : Int), a + d.length < s.length → (Xe s a (d ++ [z]) p).2.1 = false →
    (Xe s a (d ++ [z]) p).2.2.getD (a + d.length) 0 = s.getD (a + d.length) 0 ∨ (Xe s a (d ++ [z]) p).2.2.getD (a + d.length) 0 = Qt .u8 (s.getD (a + d.length) 0) (bor .u8 z 15)
  | [], s, z, a, p, hl, h => by
    rw [List.length_nil, Nat.add_zero] at hl
    rw [List.nil_append, List.length_nil, Nat.add_zero] at *
    unfold Xe at h ⊢
    split at h
    · rename_i q
      rw [if_pos q]
      right
      exact ZdM hl
    · unfold Xe at h; cases h
  | b :: tl, s, z, a, p, hl, h => by
    rw [List.length_cons] at hl
    rw [List.cons_append] at h ⊢
    rw [List.length_cons]
    unfold Xe at h ⊢
    split at h
    · rename_i q
      rw [if_pos q]
      left
      exact ZaS (by omega)
    · rename_i q
      rw [if_neg q]
      have := ZhA tl (s.set a (Qt .u8 (s.getD a 0) b)) z (a + 1) (p - 1) (by rw [List.length_set]; omega) h
      rw [ZaS (by omega)] at this
      rw [show a + (tl.length + 1) = a + 1 + tl.length by omega]
      exact this
theorem ZaT {s t : List Int} (hl : s.length = t.length) (h : ∀ k, k < s.length → s.getD k 0 = t.getD k 0) : s = t := by
  apply List.ext_getElem hl
  intro i h1 h2
  have := h i h1
  rwa [List.getD_eq_getElem?_getD, List.getD_eq_getElem?_getD, List.getElem?_eq_getElem h1, List.getElem?_eq_getElem h2] at this
theorem Zc3 {s : List Int} {j t : Nat} (h : 16 + j * 97 + 97 ≤ s.length) (ht : t < 97) : (slotL s j).getD t 0 = s.getD (16 + j * 97 + t) 0 := by
  unfold slotL
  rw [List.getD_eq_getElem?_getD, List.getElem?_drop, List.getElem?_take_of_lt (by omega), List.getD_eq_getElem?_getD]
theorem Zc8 {s t : List Int} {j : Nat} (hl : s.length = t.length) (h1 : 16 + j * 97 + 97 ≤ s.length) (h : ∀ k, 16 + j * 97 ≤ k → k < 16 + j * 97 + 97 → s.getD k 0 = t.getD k 0) : slotL s j = slotL t j := by
  have e1 := JX h1
  have e2 := JX (s := t) (i := j) (by omega)
  refine ZaT (by omega) fun k hk => ?_
  rw [Zc3 h1 (by omega), Zc3 (by omega) (by omega)]
  exact h _ (by omega) (by omega)
theorem Zjh {s t : List Int} (hl : s.length = t.length) (h : ∀ k, k < 10 → s.getD k 0 = t.getD k 0) : (Ql s).1 = (Ql t).1 ∧ (Ql s).2.2 = (Ql t).2.2 := by
  unfold Ql
  rw [hl]
  by_cases q : t.length < 16
  · rw [if_pos q, if_pos q]; exact ⟨rfl, rfl⟩
  · rw [if_neg q, if_neg q]
    have e : s.take 10 = t.take 10 := by
      refine ZaT (by rw [List.length_take, List.length_take]; omega) fun k hk => ?_
      rw [List.length_take] at hk
      rw [List.getD_eq_getElem?_getD, List.getElem?_take_of_lt (by omega), ← List.getD_eq_getElem?_getD, h k (by omega), List.getD_eq_getElem?_getD (l := t.take 10), List.getElem?_take_of_lt (by omega), List.getD_eq_getElem?_getD]
    simp only
    rw [h 2 (by omega), h 3 (by omega), h 4 (by omega), h 5 (by omega), e]
    split <;> exact ⟨rfl, rfl⟩
theorem Zh7 {m : api_Memory} {z : Int} : ∀ {k : Nat}, z ∈ hdM m k ↔ ∃ i : Nat, i < k ∧ okM m i = true ∧ z = i
  | 0 => ⟨fun h => (by cases h), fun ⟨i, h, _⟩ => absurd h (Nat.not_lt_zero _)⟩
  | k + 1 => by
    rw [ZgQ, List.mem_append, Zh7]
    constructor
    · rintro (⟨i, a, b, c⟩ | h)
      · exact ⟨i, by omega, b, c⟩
      · split at h
        · rename_i q
          exact ⟨k, by omega, q, List.mem_singleton.1 h⟩
        · cases h
    · rintro ⟨i, a, b, c⟩
      by_cases e : i = k
      · subst e
        right
        rw [if_pos b, c]; exact List.mem_singleton.2 rfl
      · exact .inl ⟨i, by omega, b, c⟩
def InS (m : api_Memory) (mi : Int) (i : Nat) (x : api_Kept) : Prop := ∃ j : Nat, (j : Int) < m.Slots ∧ stV (slotL (m.Sectors.getD i []) j) = 1 ∧ x = ⟨mi, i, (Ql (m.Sectors.getD i [])).1, j, frV (m.Sectors.getD i []) j⟩
theorem ZcR {m : api_Memory} (hm : memR m) (ok : MemOK m) {mi : Int} {x : api_Kept} : x ∈ keptM m mi ↔ ∃ i : Nat, i < m.Sectors.length ∧ okM m i = true ∧ InS m mi i x := by
  unfold keptM
  rw [List.mem_flatMap]
  obtain ⟨_, _, p, _⟩ := Ziv hm ok
  constructor
  · rintro ⟨z, hz, hx⟩
    obtain ⟨i, a, b, rfl⟩ := Zh7.1 (p.mem_iff.1 hz)
    obtain ⟨j, c, d, e⟩ := Zhr hx
    exact ⟨i, a, b, j, c, d, e⟩
  · rintro ⟨i, a, b, j, c, d, rfl⟩
    refine ⟨i, p.mem_iff.2 (Zh7.2 ⟨i, a, b, rfl⟩), ?_⟩
    unfold ZdC
    rw [List.mem_flatMap]
    refine ⟨j, List.mem_range.2 (by omega), ?_⟩
    simp only [Int.toNat_natCast]
    rw [if_pos d]
    exact List.mem_singleton.2 rfl
def Xh (m : api_Memory) (i : Nat) (S : List Int) (W : List Int) : api_Memory := ⟨m.Slots, m.Limit, m.Sectors.set i S, W, m.Bad⟩
theorem Zeh {l : List (List Int)} {i k : Nat} {S : List Int} (hi : i < l.length) : (l.set i S).getD k [] = if k = i then S else l.getD k [] := by
  rw [List.getD_eq_getElem?_getD, List.getElem?_set]
  by_cases e : i = k
  · subst e; rw [if_pos rfl, if_pos hi, if_pos rfl]; rfl
  · rw [if_neg e, if_neg (fun q => e q.symm), List.getD_eq_getElem?_getD]
theorem Zgo {m : api_Memory} (ok : MemOK m) (hm : memR m) {i : Nat} (hi : i < m.Sectors.length) {S W : List Int} (hS : S.length = (m.Sectors.getD i []).length) (hu : u8R S) (hW : W.length = m.Wear.length) (hw : ∀ x ∈ W, 0 ≤ x ∧ x ≤ m.Limit) :
    MemOK (Xh m i S W) ∧ memR (Xh m i S W) := by
  refine ⟨⟨ok.slots, ok.limit, by unfold Xh; simpa using ok.n, by unfold Xh; simp only [List.length_set]; rw [hW]; exact ok.wear, by unfold Xh; simpa using ok.bad, fun s hs => ?_, hw⟩, fun s hs => ?_⟩
  · rcases List.mem_or_eq_of_mem_set hs with q | rfl
    · exact ok.row s q
    · rw [hS]; exact ok.row _ (row_bd.getD_memL hi)
  · rcases List.mem_or_eq_of_mem_set hs with q | rfl
    · exact hm s q
    · exact hu
theorem Zfr {m : api_Memory} (ok : MemOK m) (hm : memR m) {i : Nat} (hi : i < m.Sectors.length) {S W : List Int} (hS : S.length = (m.Sectors.getD i []).length) (hu : u8R S) (hW : W.length = m.Wear.length) (hw : ∀ x ∈ W, 0 ≤ x ∧ x ≤ m.Limit)
    {mi : Int} {x : api_Kept} (hx : x ∈ keptM (Xh m i S W) mi) :
    x ∈ keptM m mi ∨ ((Ql S).2.2 = true ∧ m.Bad.getD i false = false ∧ ∃ j : Nat, (j : Int) < m.Slots ∧ stV (slotL S j) = 1 ∧ x = ⟨mi, i, (Ql S).1, j, frV S j⟩) := by
  obtain ⟨o', r'⟩ := Zgo ok hm hi hS hu hW hw
  obtain ⟨k, k1, k2, j, j1, j2, rfl⟩ := (ZcR r' o').1 hx
  have hk : k < m.Sectors.length := by simpa [Xh] using k1
  have e : (Xh m i S W).Sectors.getD k [] = if k = i then S else m.Sectors.getD k [] := Zeh hi
  unfold okM at k2
  rw [Bool.and_eq_true] at k2
  have hb : (Xh m i S W).Bad = m.Bad := rfl
  by_cases q : k = i
  · subst q
    rw [if_pos rfl] at e
    rw [e, hb] at k2
    right
    refine ⟨k2.1, by simpa using k2.2, j, j1, by rwa [e] at j2, by rw [e]⟩
  · rw [if_neg q] at e
    left
    rw [e] at k2 j2
    exact (ZcR hm ok).2 ⟨k, hk, by unfold okM; rw [Bool.and_eq_true]; exact ⟨k2.1, by rw [hb] at k2; exact k2.2⟩, j, j1, j2, by rw [e]⟩
theorem Zmi {s : List Int} {p : Int} (hl : s.length ≤ 7000) (hl2 : 2 ≤ s.length) (hp : 0 ≤ p ∧ p ≤ 1000000000) : Q0 s p = some (if p = 0 then (0, false, List.replicate (s.length / 2) 255 ++ s.drop (s.length / 2)) else (p - 1, true, List.replicate s.length 255)) := by
  have setf : ∀ (n : Nat), n ≤ s.length → ∀ {body : List Int → Int → Option ((List Int × Int) ⊕ List Int)}, (∀ (k : Nat) (o : List Int), k < n → o.length = s.length → body o k = some (.inl (o.set k 255, (k : Int) + 1))) → (∀ o, body o n = some (.inr o)) →
      loop (t2 body) (s, 0) = some (List.replicate n 255 ++ s.drop n) := by
    intro n hn body h1 h2
    obtain ⟨r, r1, r2⟩ := JY (body := body) (s0 := s) (N := n) (fun k o => o = List.replicate k 255 ++ s.drop k) (fun r => r = List.replicate n 255 ++ s.drop n) (fun k o hk hI => .inl (by
      have hol : o.length = s.length := by rw [hI]; simp; omega
      refine ⟨o.set k 255, h1 k o hk hol, ?_⟩
      obtain ⟨x, hx⟩ := Xd (xs := s) (k := k) (by omega)
      rw [hI, JB hx, List.set_append, if_neg (by simp), List.length_replicate, Nat.sub_self, List.set_cons_zero, List.replicate_succ']
      simp)) (fun o hI => ⟨o, h2 o, hI⟩) (by simp)
    rw [r1, r2]
  unfold Q0
  by_cases q : p = 0
  · subst q
    have e3 : Int.tdiv (s.length : Int) 2 = ((s.length / 2 : Nat) : Int) := rfl
    rw [if_pos (by decide), ZmB (by omega), Option.bind_some]
    have sl : slp s 0 ((s.length / 2 : Nat) : Int) = some () := by
      unfold slp
      have a1 : (((s.length / 2 : Nat) : Int)) ≤ (s.length : Int) := by omega
      simp [ck]
      omega
    rw [sl, Option.bind_some]
    have en : ((Int.toNat (((s.length / 2 : Nat) : Int) - 0) : Nat) : Int) = ((s.length / 2 : Nat) : Int) := by omega
    rw [setf (s.length / 2) (by omega) (fun k o hk hol => by
      unfold Qw
      rw [en]
      have a0 : decide ((0 : Int) ≤ (k : Int)) = true := by simp
      have a1 : decide ((k : Int) < ((s.length / 2 : Nat) : Int)) = true := decide_eq_true (by omega)
      rw [if_pos a1, a0, a1]
      obtain ⟨x, hx⟩ := Xd (xs := o) (k := k) (by omega)
      simp only [Bool.and_self, ck, if_true, Option.bind_some, Int.zero_add, Int.toNat_natCast]
      rw [Zm hx, Option.bind_some, show i64 ((k : Int) + 1) = (k : Int) + 1 from Zh (by omega) (by omega)]) (fun o => by
      unfold Qw
      rw [en, if_neg (by simp)])]
    simp only [Option.bind_some, Qp, if_true]
    rfl
  · rw [if_neg (by simpa using q), if_neg q]
    rw [setf s.length (Nat.le_refl _) (fun k o hk hol => by
      unfold Qx
      obtain ⟨x, hx⟩ := Xd (xs := o) (k := k) (by omega)
      rw [if_pos (by simpa using hk), Zm hx, Option.bind_some, Int.toNat_natCast, show i64 ((k : Int) + 1) = (k : Int) + 1 from Zh (by omega) (by omega)]) (fun o => by
      unfold Qx
      rw [if_neg (by simp)])]
    simp only [Option.bind_some, Qp]
    rw [show i64 (p - 1) = p - 1 from Zh (by omega) (by omega), decide_eq_true (show 0 < p by omega), List.drop_length, List.append_nil, show max (p - 1) 0 = p - 1 by omega]
end Go.Vx

namespace Go.Vx
open Go Go.RowKit
def ZaF (p : Nat → Bool) : Nat → Option Nat
  | 0 => none
  | n + 1 => match ZaF p n with
    | some k => some k
    | none => if p n = true then some n else none
theorem ZdJ {p : Nat → Bool} {k z : Nat} (h : ZaF p k = some z) : ∀ {n : Nat}, k ≤ n → ZaF p n = some z
  | 0, hn => by
    obtain rfl : k = 0 := by omega
    exact h
  | n + 1, hn => by
    by_cases e : k = n + 1
    · subst e; exact h
    · have := ZdJ h (n := n) (by omega)
      unfold ZaF; rw [this]
theorem ZfS {p : Nat → Bool} : ∀ {n z : Nat}, ZaF p n = some z → z < n ∧ p z = true
  | 0, z, h => by cases h
  | n + 1, z, h => by
    unfold ZaF at h
    split at h
    · rename_i k hk
      cases h
      have := ZfS hk
      exact ⟨by omega, this.2⟩
    · split at h
      · rename_i q
        cases h
        exact ⟨by omega, q⟩
      · cases h
def ZcK (m : api_Memory) (z : Nat) : Bool := !(m.Bad.getD z false) && decide (m.Wear.getD z 0 < m.Limit)
def ZbF (m : api_Memory) (sec : Int) (i : Nat) : Nat := ((sec + 1).toNat + i) % m.Sectors.length
def Jg (m : api_Memory) (sec : Int) : Int := match ZaF (fun i => ZcK m (ZbF m sec i)) m.Sectors.length with
  | some i => (ZbF m sec i : Int)
  | none => -1
theorem Ziq {m : api_Memory} {sec : Int} (h : 0 ≤ Jg m sec) (hn : 0 < m.Sectors.length) : Jg m sec < m.Sectors.length ∧ ZcK m (Jg m sec).toNat = true := by
  unfold Jg at h ⊢
  split at h
  · rename_i i hi
    have := (ZfS hi).2
    have hlt : ZbF m sec i < m.Sectors.length := Nat.mod_lt _ hn
    exact ⟨by omega, by simpa using this⟩
  · omega
theorem Zlw {b : ring_bank} {k : Nat} {m : api_Memory} {s : ring_spot} (hm : b.memories[k]? = some m) (hs : b.spots[k]? = some s) (ok : MemOK m) (h1 : -1 ≤ s.sector) (h2 : s.sector < m.Sectors.length) : Xc b (k : Int) = some (Jg m s.sector) := by
  have hn := ok.n
  unfold Xc
  rw [Zm hm, Option.bind_some]
  obtain ⟨r, r1, r2⟩ := Zbf (body := XP b (k : Int) m) (N := m.Sectors.length) (fun j => ZaF (fun i => ZcK m (ZbF m s.sector i)) j = none) (fun r => Sum.elim (fun q => q) (fun _ => (-1 : Int)) r = Jg m s.sector) (fun j hj hI => by
    have hlt : ZbF m s.sector j < m.Sectors.length := Nat.mod_lt _ (by omega)
    have e1 : i64 (s.sector + 1) = s.sector + 1 := Zh (by omega) (by omega)
    have e2 : i64 (s.sector + 1 + (j : Int)) = (((s.sector + 1).toNat + j : Nat) : Int) := (Zh (by omega) (by omega)).trans (by omega)
    have e3 : rem (((s.sector + 1).toNat + j : Nat) : Int) (m.Sectors.length : Int) = some (ZbF m s.sector j : Int) := by
      unfold rem ZbF
      rw [if_neg (by omega)]
      rfl
    unfold XP
    rw [if_pos (by simpa using hj), Zm hs, Option.bind_some, e1, e2, e3, Option.bind_some, Zm (QL (s := m.Bad) (by have := ok.bad; omega) false), Option.bind_some, show i64 ((j : Int) + 1) = (j : Int) + 1 from Zh (by omega) (by omega), Zm (QL (s := m.Wear) (by have := ok.wear; omega) 0)]
    have hp : ZcK m (ZbF m s.sector j) = (!(m.Bad.getD (ZbF m s.sector j) false) && decide (m.Wear.getD (ZbF m s.sector j) 0 < m.Limit)) := rfl
    cases hB : m.Bad.getD (ZbF m s.sector j) false with
    | true =>
      rw [hB] at hp
      left
      refine ⟨by simp [gd], ?_⟩
      unfold ZaF
      rw [hI, hp]; rfl
    | false =>
      rw [hB] at hp
      simp only [Bool.not_false, gd, beq_self_eq_true, if_true, Option.bind_some, Bool.true_and] at hp ⊢
      by_cases q : m.Wear.getD (ZbF m s.sector j) 0 < m.Limit
      · right
        refine ⟨_, by rw [if_pos (decide_eq_true q)], ?_⟩
        have : ZaF (fun i => ZcK m (ZbF m s.sector i)) (j + 1) = some j := by
          unfold ZaF
          rw [hI, hp, decide_eq_true q]; rfl
        unfold Jg
        rw [ZdJ this (by omega)]; rfl
      · left
        refine ⟨by rw [if_neg (by simpa using q)], ?_⟩
        unfold ZaF
        rw [hI, hp, decide_eq_false q]; rfl) (fun hI => ⟨.inr (), by unfold XP; rw [if_neg (by simp)], by unfold Jg; rw [hI]; rfl⟩) rfl
  rw [r1]
  cases r with
  | inl q => simp only [Option.bind_some, Sum.elim_inl] at r2 ⊢; rw [← r2]
  | inr q => simp only [Option.bind_some, Sum.elim_inr] at r2 ⊢; rw [← r2]; rfl
def ZcV (m : api_Memory) (sec : Int) : Nat → Int
  | 0 => 0
  | k + 1 => if ((Ql (m.Sectors.getD k [])).2.2 && !decide ((k : Int) = sec)) = true then max (ZcV m sec k) (Ql (m.Sectors.getD k [])).1 else ZcV m sec k
theorem Zgf (m : api_Memory) (sec : Int) : ∀ k, 0 ≤ ZcV m sec k ∧ ZcV m sec k ≤ 1073741824
  | 0 => by simp [ZcV]
  | k + 1 => by
    have h := Zgf m sec k
    have := ZgE (m.Sectors.getD k [])
    unfold ZcV
    split <;> omega
def ZcS (m : api_Memory) (sec : Int) : Int := ZcV m sec m.Sectors.length + 1
theorem Znf {b : ring_bank} {k : Nat} {m : api_Memory} (hm : b.memories[k]? = some m) (hR : memR m) (ok : MemOK m) (sec : Int) : QB b (k : Int) sec = some (ZcS m sec) := by
  have hn := ok.n
  unfold QB
  rw [Zm hm, Option.bind_some]
  obtain ⟨r, r1, r2⟩ := JY (body := QY sec m) (s0 := (0 : Int)) (N := m.Sectors.length) (fun j z => z = ZcV m sec j) (fun z => z = ZcV m sec m.Sectors.length) (fun j z hj hI => .inl (by
    unfold QY
    rw [if_pos (by simpa using hj), Zm (QL hj []), Option.bind_some, ZhD (ZbR hR j), Option.bind_some, show i64 ((j : Int) + 1) = (j : Int) + 1 from Zh (by omega) (by omega), hI]
    by_cases q : ((Ql (m.Sectors.getD j [])).2.2 && !decide ((j : Int) = sec)) = true
    · exact ⟨_, by rw [if_pos q], by show _ = ZcV m sec (j + 1); rw [ZcV, if_pos q]⟩
    · exact ⟨_, by rw [if_neg q], by show _ = ZcV m sec (j + 1); rw [ZcV, if_neg q]⟩)) (fun z hI => ⟨z, by unfold QY; rw [if_neg (by simp)], hI⟩) rfl
  have := Zgf m sec m.Sectors.length
  rw [r1, Option.bind_some, Qp, r2, show i64 (ZcV m sec m.Sectors.length + 1) = _ from Zh (by omega) (by omega)]
  rfl
def Q6 (m : api_Memory) (s : ring_spot) : Bool := decide (s.sector < 0) || decide (s.slot = m.Slots)
theorem Zip {b : ring_bank} {k : Nat} {m : api_Memory} {s : ring_spot} (hm : b.memories[k]? = some m) (hs : b.spots[k]? = some s) : QD b (k : Int) = some (Q6 m s) := by
  unfold QD Q6
  rw [Zm hs, Option.bind_some, Zm hm]
  by_cases q : s.sector < 0
  · simp [q, gd]
  · simp [q, gd]
def Zcx (s : List Int) : List Int := List.replicate (s.length / 2) 255 ++ s.drop (s.length / 2)
def ZbE (m : api_Memory) (s : ring_spot) (p : Int) : Int × Bool × api_Memory × ring_spot :=
  let y := Jg m s.sector
  let S := m.Sectors.getD y.toNat []
  let W := m.Wear.set y.toNat (m.Wear.getD y.toNat 0 + 1)
  if p = 0 then (0, false, Xh m y.toNat (Zcx S) W, s) else
  let q := Xe (List.replicate S.length 255) 0 (hdL (ZcS m y)) (p - 1)
  (q.1, q.2.1, Xh m y.toNat q.2.2 W, cond q.2.1 ⟨y, 0⟩ s)
def upd (r : ring_Recorder) (k : Nat) (m : api_Memory) (sp : List ring_spot) : ring_Recorder := ⟨⟨r.bank.memories.set k m, sp⟩, r.copies, r.frozen, r.stopped, r.last, r.some_⟩
theorem ZnB (m : api_Memory) (i : Nat) (S T : List Int) (W : List Int) : Xh (Xh m i S W) i T W = Xh m i T W := by
  unfold Xh; simp
theorem ZoQ {r : ring_Recorder} {k : Nat} {m : api_Memory} {s : ring_spot} (hm : r.bank.memories[k]? = some m) (hs : r.bank.spots[k]? = some s) (hR : memR m) (ok : MemOK m) (h1 : -1 ≤ s.sector) (h2 : s.sector < m.Sectors.length) (hx : 0 ≤ Jg m s.sector) (hq : ZcS m (Jg m s.sector) ≤ 1073741824) {p : Int} (hp : 0 ≤ p ∧ p ≤ 1000000000) :
    XR r (k : Int) p = some ((ZbE m s p).1, (ZbE m s p).2.1, upd r k (ZbE m s p).2.2.1 (if (ZbE m s p).2.1 = true then r.bank.spots.set k (ZbE m s p).2.2.2 else r.bank.spots)) := by
  have hn := ok.n
  obtain ⟨b1, b2⟩ := Ziq hx (by omega)
  have hkl := (List.getElem?_eq_some_iff.1 hm).1
  unfold XR
  rw [Zm hm, Option.bind_some, Zlw hm hs ok h1 h2, Option.bind_some, Znf hm hR ok, Option.bind_some]
  obtain ⟨y, hy⟩ := Int.eq_ofNat_of_zero_le hx
  unfold ZbE
  rw [hy] at b1 b2 hq ⊢
  simp only [Int.toNat_natCast] at b2 ⊢
  have hyl : y < m.Sectors.length := by omega
  have hyw : y < m.Wear.length := by have := ok.wear; omega
  have hw := ok.wr _ (Zan hyw)
  have hrow := ok.row _ (row_bd.getD_memL hyl)
  have hsl := ok.slots
  have hlim := ok.limit
  rw [Zm (QL hyw 0), Option.bind_some, Option.bind_some, Zm (QL hyl []), Option.bind_some, Zmi (by omega) (by omega) hp, Option.bind_some, show i64 (m.Wear.getD y 0 + 1) = m.Wear.getD y 0 + 1 from Zh (by omega) (by omega)]
  by_cases q : p = 0
  · rw [if_pos q, if_pos q]
    simp only [Bool.not_false, if_true, Bool.false_eq_true, if_false]
    rw [List.set_set]
    rfl
  · rw [if_neg q, if_neg q]
    simp only [Bool.not_true, Bool.false_eq_true, if_false]
    rw [List.set_set]
    have g1 : (r.bank.memories.set k (Xh m y (List.replicate (m.Sectors.getD y []).length 255) (m.Wear.set y (m.Wear.getD y 0 + 1))))[k]? = some (Xh m y (List.replicate (m.Sectors.getD y []).length 255) (m.Wear.set y (m.Wear.getD y 0 + 1))) := List.getElem?_set_self hkl
    have g2 : (Xh m y (List.replicate (m.Sectors.getD y []).length 255) (m.Wear.set y (m.Wear.getD y 0 + 1))).Sectors[y]? = some (List.replicate (m.Sectors.getD y []).length 255) := List.getElem?_set_self hyl
    have hs1 : 1 ≤ ZcS m (y : Int) := by have := Zgf m (y : Int) m.Sectors.length; unfold ZcS; omega
    have hput := Zk4 (s := List.replicate (m.Sectors.getD y []).length 255) (d := hdL (ZcS m (y : Int))) (a := 0) (p := p - 1) (by rw [List.length_replicate]; omega) (by rw [List.length_replicate]; simp only [hdL, List.length_cons, List.length_nil]; omega) (by omega)
    have em : api_Memory.mk m.Slots m.Limit (m.Sectors.set y (List.replicate (m.Sectors.getD y []).length 255)) (m.Wear.set y (m.Wear.getD y 0 + 1)) m.Bad = Xh m y (List.replicate (m.Sectors.getD y []).length 255) (m.Wear.set y (m.Wear.getD y 0 + 1)) := rfl
    rw [em, Zm g1, Option.bind_some, Zm g2, Option.bind_some, Option.bind_some, Zik ⟨hs1, hq⟩, Option.bind_some]
    have hput' : QI (List.replicate (m.Sectors.getD y []).length 255) 0 (hdL (ZcS m (y : Int))) (p - 1) = some (Xe (List.replicate (m.Sectors.getD y []).length 255) 0 (hdL (ZcS m (y : Int))) (p - 1)) := hput
    rw [hput', Option.bind_some]
    have e3 : ∀ P : Int × Bool × List Int, (r.bank.memories.set k (Xh m y (List.replicate (m.Sectors.getD y []).length 255) (m.Wear.set y (m.Wear.getD y 0 + 1)))).set k (api_Memory.mk (Xh m y (List.replicate (m.Sectors.getD y []).length 255) (m.Wear.set y (m.Wear.getD y 0 + 1))).Slots (Xh m y (List.replicate (m.Sectors.getD y []).length 255) (m.Wear.set y (m.Wear.getD y 0 + 1))).Limit ((Xh m y (List.replicate (m.Sectors.getD y []).length 255) (m.Wear.set y (m.Wear.getD y 0 + 1))).Sectors.set y P.2.2) (Xh m y (List.replicate (m.Sectors.getD y []).length 255) (m.Wear.set y (m.Wear.getD y 0 + 1))).Wear (Xh m y (List.replicate (m.Sectors.getD y []).length 255) (m.Wear.set y (m.Wear.getD y 0 + 1))).Bad) = r.bank.memories.set k (Xh m y P.2.2 (m.Wear.set y (m.Wear.getD y 0 + 1))) := fun P => by
      rw [List.set_set]; unfold Xh; simp
    rw [e3]
    cases hP : (Xe (List.replicate (m.Sectors.getD y []).length 255) 0 (hdL (ZcS m (y : Int))) (p - 1)).2.1 with
    | true =>
      simp only [if_true, cond_true, Zm hs, Option.bind_some, ZmW]
      rfl
    | false =>
      simp only [Bool.false_eq_true, if_false, cond_false, Option.bind_some, ZmW]
      rfl
def Zem (m : api_Memory) (s : ring_spot) (data : List Int) (p : Int) : Int × Bool × api_Memory × ring_spot :=
  let q := Xe (m.Sectors.getD s.sector.toNat []) (16 + s.slot.toNat * 97) (data ++ [0]) p
  (q.1, q.2.1, Xh m s.sector.toNat q.2.2 m.Wear, ⟨s.sector, s.slot + 1⟩)
theorem Zjs {r : ring_Recorder} {k : Nat} {m : api_Memory} {s : ring_spot} {data : List Int} {p : Int} {mems : List api_Memory} {spots : List ring_spot} (hm : mems[k]? = some m) (hs : spots[k]? = some s) (ok : MemOK m) (h1 : 0 ≤ s.sector) (h2 : s.sector < m.Sectors.length) (h3 : 0 ≤ s.slot ∧ s.slot < m.Slots) (hd : data.length = 96) (hp : 0 ≤ p ∧ p ≤ 1000000000) :
    ((idx spots (k : Int)).bind fun x => (idx mems (k : Int)).bind fun x2 => (idx x2.Sectors x.sector).bind fun x3 => (idx mems (k : Int)).bind fun x4 => (idx x2.Sectors x.sector).bind fun x5 => (apz 1 data ([0] : List Int)).bind fun l =>
      (QI x3 (i64 (16 + (i64 (x.slot * 97)))) l p).bind fun y3 =>
      some (y3.1, y3.2.1, (ring_Recorder.mk (ring_bank.mk (mems.set (Int.toNat (k : Int)) (api_Memory.mk x2.Slots x2.Limit (x2.Sectors.set x.sector.toNat y3.2.2) x2.Wear x2.Bad)) (spots.set (Int.toNat (k : Int)) (ring_spot.mk x.sector (i64 (x.slot + 1))))) r.copies r.frozen r.stopped r.last r.some_))) =
    some ((Zem m s data p).1, (Zem m s data p).2.1, ⟨⟨mems.set k (Zem m s data p).2.2.1, spots.set k (Zem m s data p).2.2.2⟩, r.copies, r.frozen, r.stopped, r.last, r.some_⟩) := by
  have hsl := ok.slots
  obtain ⟨i, hi⟩ := Int.eq_ofNat_of_zero_le h1
  obtain ⟨j, hj⟩ := Int.eq_ofNat_of_zero_le h3.1
  unfold Zem
  rw [Zm hs, Option.bind_some, Zm hm, Option.bind_some, hi, hj]
  have hil : i < m.Sectors.length := by omega
  have hrow := row_bd ok hil (j := j) (by omega)
  rw [Zm (QL hil []), Option.bind_some, Option.bind_some, Option.bind_some, JS (by simp; omega), Option.bind_some]
  rw [show i64 ((j : Int) * 97) = (j : Int) * 97 from Zh (by omega) (by omega), show i64 (16 + (j : Int) * 97) = ((16 + j * 97 : Nat) : Int) from (Zh (by omega) (by omega)).trans (by omega)]
  rw [Zk4 (by omega) (by rw [List.length_append]; simp only [List.length_cons, List.length_nil]; omega) hp, Option.bind_some, show i64 ((j : Int) + 1) = (j : Int) + 1 from Zh (by omega) (by omega)]
  simp only [Int.toNat_natCast]
  rfl
def Q3 (m : api_Memory) (s : ring_spot) (data : List Int) (p : Int) : Int × Bool × api_Memory × ring_spot :=
  if Q6 m s = true then
    if (ZbE m s p).2.1 = true then Zem (ZbE m s p).2.2.1 (ZbE m s p).2.2.2 data (ZbE m s p).1 else ((ZbE m s p).1, false, (ZbE m s p).2.2.1, s)
  else Zem m s data p
end Go.Vx

namespace Go.Vx
open Go Go.RowKit
structure WP (m m' : api_Memory) (s' : ring_spot) (all : Bool) (f : Vector Int 64) : Prop where
  slots : m'.Slots = m.Slots
  n : m'.Sectors.length = m.Sectors.length
  ok : MemOK m'
  u8 : memR m'
  at_ : all = true → SpotOK m' s'
  kept : ∀ mi x, x ∈ keptM m' mi → x ∈ keptM m mi ∨ (all = true ∧ x.Frame = f)
theorem ZhB {n j : Nat} (h : 16 + j * 97 + 97 ≤ n) : slotL (List.replicate n (255 : Int)) j = List.replicate 97 255 := by
  unfold slotL
  rw [List.take_replicate, List.drop_replicate]
  congr 1; omega
theorem ZfT {n k : Nat} (h : k < n) : (List.replicate n (255 : Int)).getD k 0 = 255 := by
  rw [List.getD_eq_getElem?_getD, List.getElem?_replicate, if_pos h]; rfl
theorem Zli (n : Nat) : u8R (List.replicate n 255) := fun x hx => by rw [List.eq_of_mem_replicate hx]; omega
theorem ZlH {s : List Int} (h : u8R s) : u8R (Zcx s) := fun x hx => by
  rcases List.mem_append.1 hx with q | q
  · rw [List.eq_of_mem_replicate q]; omega
  · exact h x (List.mem_of_mem_drop q)
theorem Zkp (s : List Int) : (Zcx s).length = s.length := by unfold Zcx; simp; omega
theorem ZiU {s : List Int} (h : 2 ≤ s.length) : (Ql (Zcx s)).2.2 = false := by
  unfold Ql
  split
  · rfl
  · simp only
    rw [if_neg]
    rintro ⟨_, _, e⟩
    have this : ((Zcx s).take 10).getD 0 0 = (hdL (Zg0 ((Zcx s).getD 2 0) ((Zcx s).getD 3 0) ((Zcx s).getD 4 0) ((Zcx s).getD 5 0))).getD 0 0 := by rw [e]
    rw [List.getD_eq_getElem?_getD, List.getElem?_take_of_lt (by omega)] at this
    have e2 : (Zcx s)[0]? = some 255 := by
      unfold Zcx
      rw [List.getElem?_append_left (by simp; omega), List.getElem?_replicate, if_pos (by omega)]
    rw [e2] at this
    simp [hdL] at this
theorem Zma {m : api_Memory} (ok : MemOK m) {i : Nat} (hi : i < m.Sectors.length) (hx : ZcK m i = true) : (m.Wear.set i (m.Wear.getD i 0 + 1)).length = m.Wear.length ∧ ∀ x ∈ m.Wear.set i (m.Wear.getD i 0 + 1), 0 ≤ x ∧ x ≤ m.Limit := by
  refine ⟨List.length_set .., fun x hx' => ?_⟩
  unfold ZcK at hx
  rw [Bool.and_eq_true] at hx
  have h1 := of_decide_eq_true hx.2
  rcases List.mem_or_eq_of_mem_set hx' with q | rfl
  · exact ok.wr x q
  · have := ok.wr _ (Zan (X := m.Wear) (t := i) (by have := ok.wear; omega)); omega
theorem ZnO {m : api_Memory} {s : ring_spot} (ok : MemOK m) (hR : memR m) (hx : 0 ≤ Jg m s.sector) (p : Int) (f : Vector Int 64) :
    WP m (ZbE m s p).2.2.1 (ZbE m s p).2.2.2 (ZbE m s p).2.1 f ∧ (∀ mi x, x ∈ keptM (ZbE m s p).2.2.1 mi → x ∈ keptM m mi) ∧ ((ZbE m s p).2.1 = true → 0 ≤ (ZbE m s p).2.2.2.sector ∧ (ZbE m s p).2.2.2.slot = 0) := by
  have hn := ok.n
  obtain ⟨b1, b2⟩ := Ziq hx (by omega)
  obtain ⟨y, hy⟩ := Int.eq_ofNat_of_zero_le hx
  have hsl := ok.slots
  unfold ZbE
  rw [hy] at b1 b2 ⊢
  simp only [Int.toNat_natCast] at b2 ⊢
  have hyl : y < m.Sectors.length := by omega
  obtain ⟨w1, w2⟩ := Zma ok hyl b2
  have hrow := ok.row _ (row_bd.getD_memL hyl)
  by_cases q : p = 0
  · rw [if_pos q]
    have hS : (Zcx (m.Sectors.getD y [])).length = (m.Sectors.getD y []).length := Zkp _
    have hu := ZlH (ZbR hR y)
    obtain ⟨o', r'⟩ := Zgo ok hR hyl hS hu w1 w2
    have kk : ∀ mi x, x ∈ keptM (Xh m y (Zcx (m.Sectors.getD y [])) (m.Wear.set y (m.Wear.getD y 0 + 1))) mi → x ∈ keptM m mi := fun mi x hx' => by
      rcases Zfr ok hR hyl hS hu w1 w2 hx' with w | ⟨w, _⟩
      · exact w
      · rw [ZiU (by omega)] at w; cases w
    exact ⟨⟨rfl, by simp [Xh], o', r', (fun h => by cases h), fun mi x hx' => .inl (kk mi x hx')⟩, kk, fun h => by cases h⟩
  · rw [if_neg q]
    have hout : ∀ k, 10 ≤ k → k < (m.Sectors.getD y []).length → (Xe (List.replicate (m.Sectors.getD y []).length 255) 0 (hdL (ZcS m (y : Int))) (p - 1)).2.2.getD k 0 = 255 := fun k h1 h2 => by
      rw [ZcQ _ _ _ _ _ (.inr (by simp only [hdL, List.length_cons, List.length_nil]; omega)), ZfT h2]
    have hlen := ZdI (hdL (ZcS m (y : Int))) (List.replicate (m.Sectors.getD y []).length 255) 0 (p - 1)
    have hu := ZhY (hdL (ZcS m (y : Int))) (List.replicate (m.Sectors.getD y []).length 255) 0 (p - 1) (Zli _)
    generalize Xe (List.replicate (m.Sectors.getD y []).length 255) 0 (hdL (ZcS m (y : Int))) (p - 1) = P at hout hlen hu
    rw [List.length_replicate] at hlen
    obtain ⟨o', r'⟩ := Zgo ok hR hyl hlen hu w1 w2
    have free : ∀ j : Nat, (j : Int) < m.Slots → slotL P.2.2 j = List.replicate 97 255 := fun j hj => by
      have hb : 16 + j * 97 + 97 ≤ (m.Sectors.getD y []).length := by omega
      rw [Zc8 (t := List.replicate (m.Sectors.getD y []).length 255) (by rw [hlen, List.length_replicate]) (by omega) (fun k h1 h2 => by rw [hout k (by omega) (by omega), ZfT (by omega)]), ZhB hb]
    have kk : ∀ mi x, x ∈ keptM (Xh m y P.2.2 (m.Wear.set y (m.Wear.getD y 0 + 1))) mi → x ∈ keptM m mi := fun mi x hx' => by
      rcases Zfr ok hR hyl hlen hu w1 w2 hx' with w | ⟨_, _, j, j1, j2, _⟩
      · exact w
      · rw [free j j1] at j2
        have : stV (List.replicate 97 255) = 0 := by decide
        rw [this] at j2; cases j2
    refine ⟨⟨rfl, by simp [Xh], o', r', fun h => ?_, fun mi x hx' => .inl (kk mi x hx')⟩, kk, fun h => ?_⟩
    · rw [show P.2.1 = true from h, cond_true]
      refine ⟨.inr ⟨by simp only; omega, by simp only [Xh, List.length_set]; omega⟩, ⟨Int.le_refl _, by simp only [Xh]; omega⟩, fun _ j _ hj => ?_⟩
      simp only [Int.toNat_natCast]
      rw [show (Xh m y P.2.2 (m.Wear.set y (m.Wear.getD y 0 + 1))).Sectors.getD y [] = P.2.2 from (Zeh hyl).trans (by rw [if_pos rfl])]
      exact free j hj
    · rw [show P.2.1 = true from h, cond_true]; exact ⟨by simp only; omega, rfl⟩
theorem Zhy {d e : List Int} (hd : d.length = 96) {i : Nat} (hi : i < 64) : Xa (d ++ e) i = Xa d i := by
  have g : ∀ k, k < 96 → (d ++ e).getD k 0 = d.getD k 0 := fun k hk => by
    rw [List.getD_eq_getElem?_getD, List.getElem?_append_left (by omega), ← List.getD_eq_getElem?_getD]
  unfold Xa
  rw [g _ (by omega), g _ (by omega), g _ (by omega)]
theorem ZgW {b : Int} (h : 0 ≤ b ∧ b ≤ 255) : Qt .u8 255 b = b := by
  have key : (List.range 256).all (fun n => decide (Qt .u8 255 (n : Int) = (n : Int))) = true := by decide +kernel
  obtain ⟨n, rfl⟩ := Int.eq_ofNat_of_zero_le h.1
  exact of_decide_eq_true (List.all_eq_true.1 key n (List.mem_range.2 (by omega)))
theorem Zlb {m : api_Memory} {s : ring_spot} (ok : MemOK m) (hR : memR m) (hs : SpotOK m s) (h1 : 0 ≤ s.sector) (h3 : s.slot < m.Slots) {data : List Int} (hd : data.length = 96) (hu : u8R data) (p : Int) :
    WP m (Zem m s data p).2.2.1 (Zem m s data p).2.2.2 (Zem m s data p).2.1 (ZbT (Xa data)) := by
  have hn := ok.n
  have hsl := ok.slots
  have h2 : s.sector < m.Sectors.length := by
    rcases hs.sec with w | w
    · omega
    · exact w.2
  have hfree := hs.free h1
  have hslot := hs.slot
  unfold Zem
  generalize hsec : s.sector = sec at *
  generalize hslt : s.slot = slt at *
  obtain ⟨i, rfl⟩ := Int.eq_ofNat_of_zero_le h1
  obtain ⟨j, rfl⟩ := Int.eq_ofNat_of_zero_le hslot.1
  simp only [Int.toNat_natCast] at hfree ⊢
  have hil : i < m.Sectors.length := by omega
  have hrow := ok.row _ (row_bd.getD_memL hil)
  have hfj := hfree j (Int.le_refl _) h3
  have hdl : (data ++ [(0 : Int)]).length = 97 := by rw [List.length_append, hd]; rfl
  have hlen := ZdI (data ++ [0]) (m.Sectors.getD i []) (16 + j * 97) p
  have hpu := ZhY (data ++ [0]) (m.Sectors.getD i []) (16 + j * 97) p (ZbR hR i)
  have hout : ∀ k, k < 16 + j * 97 ∨ 16 + j * 97 + 97 ≤ k → (Xe (m.Sectors.getD i []) (16 + j * 97) (data ++ [0]) p).2.2.getD k 0 = (m.Sectors.getD i []).getD k 0 := fun k hk => ZcQ _ _ _ _ _ (by rw [hdl]; exact hk)
  have old : ∀ t, t < 97 → (m.Sectors.getD i []).getD (16 + j * 97 + t) 0 = 255 := fun t ht => by
    rw [← Zc3 (by omega) ht, hfj, ZfT ht]
  have hin := Zgi (data ++ [0]) (m.Sectors.getD i []) (16 + j * 97) p (by rw [hdl]; omega)
  have hlast := ZhA data (m.Sectors.getD i []) 0 (16 + j * 97) p (by omega)
  rw [hd] at hlast
  generalize Xe (m.Sectors.getD i []) (16 + j * 97) (data ++ [0]) p = P at hlen hpu hout hin hlast
  have hw : ∀ x ∈ m.Wear, 0 ≤ x ∧ x ≤ m.Limit := ok.wr
  obtain ⟨o', r'⟩ := Zgo ok hR hil hlen hpu rfl hw
  have oth : ∀ k : Nat, (k : Int) < m.Slots → k ≠ j → slotL P.2.2 k = slotL (m.Sectors.getD i []) k := fun k hk hkj => by
    refine Zc8 hlen (by omega) fun z z1 z2 => hout z ?_
    rcases Nat.lt_or_ge k j with w | w
    · left; omega
    · right; omega
  have hhead := Zjh (s := P.2.2) (t := m.Sectors.getD i []) hlen (fun k hk => hout k (.inl (by omega)))
  refine ⟨rfl, by simp [Xh], o', r', fun hall => ?_, fun mi x hx => ?_⟩
  · refine ⟨.inr ⟨by simp only; omega, by simp only [Xh, List.length_set]; omega⟩, ⟨by simp only; omega, by simp only [Xh]; omega⟩, fun _ k hk hks => ?_⟩
    simp only [Int.toNat_natCast] at hk ⊢
    rw [show (Xh m i P.2.2 m.Wear).Sectors.getD i [] = P.2.2 from (Zeh hil).trans (by rw [if_pos rfl])]
    have hks' : (k : Int) < m.Slots := hks
    rw [oth k hks' (by omega)]
    exact hfree k (by omega) hks'
  · rcases Zfr ok hR hil hlen hpu rfl hw hx with w | ⟨w1, w2, k, k1, k2, rfl⟩
    · exact .inl w
    · by_cases e : k = j
      · subst e
        cases hall : P.2.1 with
        | true =>
          right
          refine ⟨rfl, ?_⟩
          have hS : slotL P.2.2 k = data ++ [0] := by
            refine ZaT (by rw [JX (by omega), hdl]) fun t ht => ?_
            rw [JX (by omega)] at ht
            rw [Zc3 (by omega) ht, hin hall t (by omega), old t ht, ZgW]
            rcases Nat.lt_or_ge t 96 with q | q
            · rw [List.getD_eq_getElem?_getD, List.getElem?_append_left (by omega), ← List.getD_eq_getElem?_getD]; exact JN hu t
            · obtain rfl : t = 96 := by omega
              rw [List.getD_eq_getElem?_getD, List.getElem?_append_right (by omega), hd]; simp
          have hF : frV P.2.2 k = ZbT (Xa data) := by
            unfold frV
            rw [hS]
            exact ZgL fun z hz => by rw [ZbV _ hz, ZbV _ hz, Zhy hd hz]
          simp only
          exact hF
        | false =>
          have h96 : (slotL P.2.2 k).getD 96 0 ≠ 0 := by
            rw [Zc3 (by omega) (by omega)]
            have o96 := old 96 (by omega)
            rcases hlast hall with q | q
            · rw [q, o96]; decide
            · rw [q, o96]; decide
          unfold stV at k2
          rw [if_neg h96] at k2
          split at k2 <;> simp at k2
      · left
        rw [oth k k1 e] at k2
        refine (ZcR hR ok).2 ⟨i, hil, ?_, k, k1, k2, ?_⟩
        · unfold okM
          rw [w2, ← hhead.2, w1]; rfl
        · have hF : frV P.2.2 k = frV (m.Sectors.getD i []) k := by unfold frV; rw [oth k k1 e]
          rw [hhead.1, hF]
theorem Zkl {α : Type} {l : List α} {k : Nat} {x : α} (h : l[k]? = some x) : l.set k x = l := by
  refine List.ext_getElem? fun j => ?_
  rw [List.getElem?_set]
  split
  · rename_i e
    subst e
    rw [if_pos (List.getElem?_eq_some_iff.1 h).1, h]
  · rfl
theorem Zk3 {m : api_Memory} {s : ring_spot} {p : Int} (hp : 0 ≤ p) : 0 ≤ (ZbE m s p).1 ∧ (ZbE m s p).1 ≤ p := by
  unfold ZbE
  simp only
  split
  · exact ⟨Int.le_refl _, by simp only; omega⟩
  · have := Ze2 (hdL (ZcS m (Jg m s.sector))) (List.replicate (m.Sectors.getD (Jg m s.sector).toNat []).length 255) 0 (p - 1) (by omega)
    exact ⟨this.1, by simp only; omega⟩
theorem ZmL {r : ring_Recorder} {k : Nat} {m : api_Memory} {s : ring_spot} (hm : r.bank.memories[k]? = some m) (hs : r.bank.spots[k]? = some s) (hR : memR m) (ok : MemOK m) (hsp : SpotOK m s)
    (hl : Q6 m s = true → 0 ≤ Jg m s.sector ∧ ZcS m (Jg m s.sector) ≤ 1073741824) {data : List Int} (hd : data.length = 96) (hu : u8R data) {p : Int} (hp : 0 ≤ p ∧ p ≤ 1000000000) :
    Jv r (k : Int) data p = some ((Q3 m s data p).1, (Q3 m s data p).2.1, ⟨⟨r.bank.memories.set k (Q3 m s data p).2.2.1, r.bank.spots.set k (Q3 m s data p).2.2.2⟩, r.copies, r.frozen, r.stopped, r.last, r.some_⟩) ∧
    WP m (Q3 m s data p).2.2.1 (Q3 m s data p).2.2.2 (Q3 m s data p).2.1 (ZbT (Xa data)) ∧ 0 ≤ (Q3 m s data p).1 ∧ (Q3 m s data p).1 ≤ p := by
  have hkl := (List.getElem?_eq_some_iff.1 hm).1
  have hks := (List.getElem?_eq_some_iff.1 hs).1
  have hsec : -1 ≤ s.sector ∧ s.sector < m.Sectors.length := by
    have := ok.n
    rcases hsp.sec with w | w <;> omega
  unfold Jv Q3
  rw [Zip hm hs, Option.bind_some]
  by_cases h : Q6 m s = true
  · obtain ⟨x1, x2⟩ := hl h
    obtain ⟨a1, a2, a3⟩ := ZnO ok hR x1 p (ZbT (Xa data))
    have a4 := Zk3 (m := m) (s := s) hp.1
    rw [if_pos h, if_pos h, ZoQ hm hs hR ok hsec.1 hsec.2 x1 x2 hp, Option.bind_some]
    generalize ZbE m s p = A at a1 a2 a3 a4
    cases hA : A.2.1 with
    | true =>
      obtain ⟨c1, c2⟩ := a3 hA
      have sp := a1.at_ hA
      simp only [Bool.not_true, Bool.false_eq_true, if_false, if_true, Option.bind_some, Sum.elim_inr, ZjZ, upd]
      have hsl := a1.ok.slots
      have c3 : A.2.2.2.sector < A.2.2.1.Sectors.length := by
        rcases sp.sec with w | w
        · omega
        · exact w.2
      have g1 : (r.bank.memories.set k A.2.2.1)[k]? = some A.2.2.1 := List.getElem?_set_self hkl
      have g2 : (r.bank.spots.set k A.2.2.2)[k]? = some A.2.2.2 := List.getElem?_set_self hks
      have pe := Zjs (r := r) (p := A.1) (data := data) g1 g2 a1.ok c1 c3 ⟨by omega, by omega⟩ hd (by omega)
      refine ⟨?_, ?_, ?_⟩
      · refine pe.trans ?_
        rw [List.set_set, List.set_set]
      · have wp := Zlb a1.ok a1.u8 sp c1 (by omega) hd hu A.1
        exact ⟨wp.slots.trans a1.slots, wp.n.trans a1.n, wp.ok, wp.u8, wp.at_, fun mi x hx => by
          rcases wp.kept mi x hx with w | w
          · exact .inl (a2 mi x w)
          · exact .inr w⟩
      · have := Ze2 (data ++ [0]) (A.2.2.1.Sectors.getD A.2.2.2.sector.toNat []) (16 + A.2.2.2.slot.toNat * 97) A.1 a4.1
        unfold Zem
        exact ⟨this.1, by simp only; omega⟩
    | false =>
      simp only [Bool.not_false, if_true, Bool.false_eq_true, if_false, Option.bind_some, Sum.elim_inl, upd]
      refine ⟨by rw [Zkl hs], ⟨a1.slots, a1.n, a1.ok, a1.u8, (fun w => by cases w), fun mi x hx => .inl (a2 mi x hx)⟩, a4⟩
  · rw [if_neg h, if_neg h]
    simp only [Option.bind_some, Sum.elim_inr, ZjZ]
    have hh : ¬ s.sector < 0 ∧ ¬ s.slot = m.Slots := by
      unfold Q6 at h
      rw [Bool.or_eq_true, decide_eq_true_eq, decide_eq_true_eq] at h
      exact ⟨fun w => h (.inl w), fun w => h (.inr w)⟩
    have hb := hsp.slot
    refine ⟨Zjs hm hs ok (by omega) hsec.2 ⟨hb.1, by omega⟩ hd hp, Zlb ok hR hsp (by omega) (by omega) hd hu p, ?_⟩
    have := Ze2 (data ++ [0]) (m.Sectors.getD s.sector.toNat []) (16 + s.slot.toNat * 97) p hp.1
    exact this
end Go.Vx

namespace Go.Vx
open Go Go.RowKit
def rbV (v : Vector Int 96) (t : Nat) : Int := v.toList.getD t 0
theorem Zgj (v : Vector Int 96) {k : Nat} (hk : k < 96) (x : Int) (t : Nat) : rbV (Qo v (k : Int) x) t = if t = k then x else rbV v t := by
  unfold rbV
  rw [Zbo, Int.toNat_natCast, List.getD_eq_getElem?_getD, List.getElem?_set, List.getD_eq_getElem?_getD]
  by_cases h : t = k
  · subst h; rw [if_pos rfl, if_pos (by simpa using hk), if_pos rfl]; rfl
  · rw [if_neg (fun q => h q.symm), if_neg h]
theorem ZgN (v : Vector Int 96) {k : Nat} (hk : k < 96) : ZH v (k : Int) = some (rbV v k) := ZeY (by unfold rbV; exact QL (by simpa using hk) 0)
def bS (f : Vector Int 64) (i t : Nat) : Int :=
  if t % 3 = 0 then (if 2 * (t / 3) < i then wd f (2 * (t / 3)) / 16 else 0) else
  if t % 3 = 1 then (if 2 * (t / 3) < i then wd f (2 * (t / 3)) % 16 * 16 else 0) + (if 2 * (t / 3) + 1 < i then wd f (2 * (t / 3) + 1) / 256 else 0) else
  (if 2 * (t / 3) + 1 < i then wd f (2 * (t / 3) + 1) % 256 else 0)
theorem ZnN : (List.range 4096).all (fun n => decide (Qt .u16 (n : Int) 15 = ((n % 16 : Nat) : Int))) = true := by decide +kernel
theorem sb1 {w : Int} (h : 0 ≤ w ∧ w ≤ 4095) : Qt .u16 w 15 = w % 16 := by
  obtain ⟨x, rfl⟩ := Int.eq_ofNat_of_zero_le h.1
  exact (of_decide_eq_true (List.all_eq_true.1 ZnN x (List.mem_range.2 (by omega)))).trans (by omega)
theorem Zm6 : (List.range 256).all (fun n => decide (bor .u8 (n : Int) (Qt .u8 0 15) = (n : Int)) && decide (bor .u8 (Qt .u8 ((n / 16 * 16 : Nat) : Int) 240) ((n % 16 : Nat) : Int) = (n : Int))) = true := by decide +kernel
theorem sb2 {x : Int} (h : 0 ≤ x ∧ x ≤ 255) : bor .u8 x (Qt .u8 0 15) = x := by
  obtain ⟨x, rfl⟩ := Int.eq_ofNat_of_zero_le h.1
  have := List.all_eq_true.1 Zm6 x (List.mem_range.2 (by omega))
  rw [Bool.and_eq_true] at this
  exact of_decide_eq_true this.1
theorem sb3 {a b : Int} (ha : 0 ≤ a ∧ a ≤ 15) (hb : 0 ≤ b ∧ b ≤ 15) : bor .u8 (Qt .u8 (a * 16) 240) b = a * 16 + b := by
  obtain ⟨a, rfl⟩ := Int.eq_ofNat_of_zero_le ha.1
  obtain ⟨b, rfl⟩ := Int.eq_ofNat_of_zero_le hb.1
  have h := List.all_eq_true.1 Zm6 (a * 16 + b) (List.mem_range.2 (by omega))
  rw [Bool.and_eq_true] at h
  have h := of_decide_eq_true h.2
  rw [show (a * 16 + b) / 16 * 16 = a * 16 by omega, show (a * 16 + b) % 16 = b by omega, show ((a * 16 : Nat) : Int) = (a : Int) * 16 by omega, show ((a * 16 + b : Nat) : Int) = (a : Int) * 16 + b by omega] at h
  exact h
theorem bS0 (f : Vector Int 64) (i k : Nat) : bS f i (3 * k) = if 2 * k < i then wd f (2 * k) / 16 else 0 := by
  unfold bS
  rw [if_pos (by omega), show 3 * k / 3 = k by omega]
theorem bS1 (f : Vector Int 64) (i k : Nat) : bS f i (3 * k + 1) = (if 2 * k < i then wd f (2 * k) % 16 * 16 else 0) + (if 2 * k + 1 < i then wd f (2 * k + 1) / 256 else 0) := by
  unfold bS
  rw [if_neg (by omega), if_pos (by omega), show (3 * k + 1) / 3 = k by omega]
theorem bS2 (f : Vector Int 64) (i k : Nat) : bS f i (3 * k + 2) = if 2 * k + 1 < i then wd f (2 * k + 1) % 256 else 0 := by
  unfold bS
  rw [if_neg (by omega), if_neg (by omega), show (3 * k + 2) / 3 = k by omega]
theorem three (t : Nat) : ∃ k, t = 3 * k ∨ t = 3 * k + 1 ∨ t = 3 * k + 2 := ⟨t / 3, by omega⟩
theorem Zj8 {f : Vector Int 64} (hf : fN f) {v : Vector Int 96} {i : Nat} (hi : i < 64) (hI : ∀ t, t < 96 → rbV v t = bS f i t) :
    ∃ v', Jr v (i : Int) (wd f i) = some v' ∧ ∀ t, t < 96 → rbV v' t = bS f (i + 1) t := by
  have hw := hf i
  unfold Jr
  rw [ZmB (by omega), Option.bind_some, ZnJ, Option.bind_some]
  obtain ⟨k, hk⟩ : ∃ k, i = 2 * k ∨ i = 2 * k + 1 := ⟨i / 2, by omega⟩
  have ek : i / 2 = k := by omega
  rw [ek]
  have e1 : i64 ((k : Int) * 3) = ((3 * k : Nat) : Int) := (Zh (by omega) (by omega)).trans (by omega)
  have e2 : i64 (((3 * k : Nat) : Int) + 1) = ((3 * k + 1 : Nat) : Int) := (Zh (by omega) (by omega)).trans (by omega)
  have e3 : i64 (((3 * k : Nat) : Int) + 2) = ((3 * k + 2 : Nat) : Int) := (Zh (by omega) (by omega)).trans (by omega)
  rw [e1, e2, e3]
  have k0 : 3 * k < 96 := by omega
  have k1 : 3 * k + 1 < 96 := by omega
  have k2 : 3 * k + 2 < 96 := by omega
  rcases hk with rfl | rfl
  · have s1 : shr .u16 (wd f (2 * k)) 4 = some (wd f (2 * k) / 16) := Zh4 (wd f (2 * k)) (k := 4) (by omega)
    have s2 : shl .u16 (wd f (2 * k) % 16) 4 = some (wd f (2 * k) % 16 * 16) := by
      unfold shl
      rw [if_neg (by decide)]
      show some (IntKind.u16.wrap (wd f (2 * k) % 16 * 2 ^ 4)) = _
      rw [show IntKind.u16.wrap (wd f (2 * k) % 16 * 2 ^ 4) = (wd f (2 * k) % 16 * 2 ^ 4) % 65536 from rfl]
      congr 1; omega
    have o1' : rbV v (3 * k + 1) = 0 := by
      rw [hI _ k1, bS1, if_neg (by omega), if_neg (by omega)]; rfl
    rw [if_pos (by simp), s1, Option.bind_some, ZgN v k1, Option.bind_some, ZgN v k0, Option.bind_some, sb1 hw, s2, Option.bind_some]
    have u1 : u8 (wd f (2 * k) / 16) = wd f (2 * k) / 16 := by rw [u8m]; omega
    have u2 : u8 (wd f (2 * k) % 16 * 16) = wd f (2 * k) % 16 * 16 := by rw [u8m]; omega
    rw [u1, u2, ZgN (Qo v ((3 * k : Nat) : Int) (wd f (2 * k) / 16)) k1, Option.bind_some, o1', sb2 (by omega)]
    refine ⟨_, rfl, fun t ht => ?_⟩
    rw [Zgj _ k1, Zgj v k0 _ t]
    obtain ⟨q, rfl | rfl | rfl⟩ := three t
    · rw [if_neg (by omega), bS0]
      by_cases e : q = k
      · subst e; rw [if_pos rfl, if_pos (by omega)]
      · rw [if_neg (by omega), hI _ ht, bS0]
        have c : (2 * q < 2 * k) ↔ (2 * q < 2 * k + 1) := by omega
        simp only [c]
    · rw [bS1]
      by_cases e : q = k
      · subst e; rw [if_pos rfl, if_pos (by omega), if_neg (by omega), Int.add_zero]
      · rw [if_neg (by omega), if_neg (by omega), hI _ ht, bS1]
        have c : (2 * q < 2 * k) ↔ (2 * q < 2 * k + 1) := by omega
        have c' : (2 * q + 1 < 2 * k) ↔ (2 * q + 1 < 2 * k + 1) := by omega
        simp only [c, c']
    · rw [if_neg (by omega), if_neg (by omega), hI _ ht, bS2, bS2]
      have c' : (2 * q + 1 < 2 * k) ↔ (2 * q + 1 < 2 * k + 1) := by omega
      simp only [c']
  · have s1 : shr .u16 (wd f (2 * k + 1)) 8 = some (wd f (2 * k + 1) / 256) := Zh4 (wd f (2 * k + 1)) (k := 8) (by omega)
    have hp := hf (2 * k)
    have o1' : rbV v (3 * k + 1) = wd f (2 * k) % 16 * 16 := by
      rw [hI _ k1, bS1, if_pos (by omega), if_neg (by omega), Int.add_zero]
    have u1 : u8 (wd f (2 * k + 1) / 256) = wd f (2 * k + 1) / 256 := by rw [u8m]; omega
    rw [if_neg (by rw [decide_eq_true_eq]; omega), ZgN v k1, Option.bind_some, s1, Option.bind_some, Option.bind_some, ZgN _ k2, Option.bind_some, o1', u1, sb3 (by omega) (by omega), show u8 (wd f (2 * k + 1)) = wd f (2 * k + 1) % 256 from u8m _]
    refine ⟨_, rfl, fun t ht => ?_⟩
    rw [Zgj _ k2, Zgj v k1 _ t]
    obtain ⟨q, rfl | rfl | rfl⟩ := three t
    · rw [if_neg (by omega), if_neg (by omega), hI _ ht, bS0, bS0]
      have c : (2 * q < 2 * k + 1) ↔ (2 * q < 2 * k + 1 + 1) := by omega
      simp only [c]
    · rw [if_neg (by omega), bS1]
      by_cases e : q = k
      · subst e; rw [if_pos rfl, if_pos (by omega), if_pos (by omega)]
      · rw [if_neg (by omega), hI _ ht, bS1]
        have c : (2 * q < 2 * k + 1) ↔ (2 * q < 2 * k + 1 + 1) := by omega
        have c' : (2 * q + 1 < 2 * k + 1) ↔ (2 * q + 1 < 2 * k + 1 + 1) := by omega
        simp only [c, c']
    · rw [bS2]
      by_cases e : q = k
      · subst e; rw [if_pos rfl, if_pos (by omega)]
      · rw [if_neg (by omega), if_neg (by omega), hI _ ht, bS2]
        have c' : (2 * q + 1 < 2 * k + 1) ↔ (2 * q + 1 < 2 * k + 1 + 1) := by omega
        simp only [c']
def bytesF (f : Vector Int 64) : List Int := (List.range 96).map fun t => bS f 64 t
theorem ZdT (f : Vector Int 64) {t : Nat} (h : t < 96) : (bytesF f).getD t 0 = bS f 64 t := by
  unfold bytesF
  rw [List.getD_eq_getElem?_getD, List.getElem?_map, List.getElem?_range h]; rfl
theorem Xx (f : Vector Int 64) : (bytesF f).length = 96 := by simp [bytesF]
theorem ZoZ {f : Vector Int 64} (hf : fN f) (t : Nat) : 0 ≤ bS f 64 t ∧ bS f 64 t ≤ 255 := by
  have h1 := hf (2 * (t / 3))
  have h2 := hf (2 * (t / 3) + 1)
  unfold bS
  split
  · split <;> omega
  · split
    · split <;> split <;> omega
    · split <;> omega
theorem Zhj {f : Vector Int 64} (hf : fN f) : u8R (bytesF f) := fun x hx => by
  obtain ⟨t, ht, rfl⟩ := List.mem_map.1 hx
  exact ZoZ hf t
theorem ZfY {f : Vector Int 64} (hf : fN f) : ZbT (Xa (bytesF f)) = f := by
  refine ZgL fun i hi => ?_
  rw [ZbV _ hi]
  show _ = wd f i
  unfold Xa
  obtain ⟨k, hk⟩ : ∃ k, i = 2 * k ∨ i = 2 * k + 1 := ⟨i / 2, by omega⟩
  have ek : i / 2 = k := by omega
  rw [ek]
  have h1 := hf (2 * k)
  have h2 := hf (2 * k + 1)
  rcases hk with rfl | rfl
  · rw [if_pos (by omega), ZdT f (by omega), ZdT f (by omega), bS0, bS1, if_pos (by omega), if_pos (by omega), if_pos (by omega)]
    omega
  · rw [if_neg (by omega), ZdT f (by omega), ZdT f (by omega), bS1, bS2, if_pos (by omega), if_pos (by omega), if_pos (by omega)]
    omega
theorem Zks {f : Vector Int 64} (hf : fN f) : Zaq f = some (bytesF f, 0) := by
  unfold Zaq
  have hnb : Zaa f = true := List.all_eq_true.2 fun k _ => by unfold Q5; exact decide_eq_true (hf k).2
  rw [Zoa, hnb, Option.bind_some, if_neg (by decide)]
  unfold Zdm
  obtain ⟨v, v1, v2⟩ := JY (body := Zag f) (s0 := Vector.replicate 96 (0 : Int)) (N := 64) (fun i v => ∀ t, t < 96 → rbV v t = bS f i t) (fun v => ∀ t, t < 96 → rbV v t = bS f 64 t) (fun i v hi hI => .inl (by
    obtain ⟨v', w1, w2⟩ := Zj8 hf hi hI
    refine ⟨v', ?_, w2⟩
    unfold Zag
    rw [if_pos (by simp; omega), QJ f hi, Option.bind_some, w1, Option.bind_some, show i64 ((i : Int) + 1) = (i : Int) + 1 from Zh (by omega) (by omega)])) (fun v hI => ⟨v, by unfold Zag; rw [if_neg (by decide)], hI⟩) (fun t ht => by
    have : rbV (Vector.replicate 96 (0 : Int)) t = 0 := by
      have e : (Vector.replicate 96 (0 : Int)).toList = List.replicate 96 0 := rfl
      unfold rbV
      rw [e, List.getD_eq_getElem?_getD, List.getElem?_replicate, if_pos ht]; rfl
    rw [this]
    unfold bS
    split
    · rw [if_neg (by omega)]
    · split
      · rw [if_neg (by omega), if_neg (by omega)]; rfl
      · rw [if_neg (by omega)])
  rw [v1, Option.bind_some]
  have hv : v.toList = bytesF f := ZaT (by rw [Xx]; simp) fun t ht => by
    have ht' : t < 96 := by simpa using ht
    rw [ZdT f ht']; exact v2 t ht'
  rw [hv, show slc (bytesF f) 0 96 = some (bytesF f) from (Zce (a := 0) (b := 96) (by omega) (by rw [Xx]; omega)).trans (by rw [List.take_of_length_le (by rw [Xx]; omega), List.drop_zero]), Option.bind_some]
end Go.Vx

namespace Go.Vx
open Go Go.RowKit
structure BankJ (mems : List api_Memory) (spots : List ring_spot) : Prop where
  n : 1 ≤ mems.length ∧ mems.length ≤ 8
  ok : ∀ m ∈ mems, MemOK m
  u8 : ∀ m ∈ mems, memR m
  len : spots.length = mems.length
def BankA (mems : List api_Memory) (spots : List ring_spot) : Prop := ∀ k, k < mems.length → SpotOK (mems.getD k dfM) (spots.getD k dfS)
structure RecJ (r : ring_Recorder) : Prop where
  b : BankJ r.bank.memories r.bank.spots
  a : r.stopped = false → BankA r.bank.memories r.bank.spots
  cp : 1 ≤ r.copies ∧ r.copies ≤ r.bank.memories.length
theorem Zm3 {l : List api_Memory} {k : Nat} (h : k < l.length) : l[k]? = some (l.getD k dfM) := (X6 h).2
theorem ZkV {l : List ring_spot} {k : Nat} (h : k < l.length) : l[k]? = some (l.getD k dfS) := by
  rw [List.getD_eq_getElem?_getD, List.getElem?_eq_getElem h]; rfl
theorem Zeg {α : Type} {l : List α} {i k : Nat} {x d : α} (hi : i < l.length) : (l.set i x).getD k d = if k = i then x else l.getD k d := by
  rw [List.getD_eq_getElem?_getD, List.getElem?_set]
  by_cases e : i = k
  · subst e; rw [if_pos rfl, if_pos hi, if_pos rfl]; rfl
  · rw [if_neg e, if_neg (fun q => e q.symm), List.getD_eq_getElem?_getD]
theorem Zhl {l : List api_Memory} {x : api_Kept} : x ∈ Zbi l ↔ ∃ k : Nat, k < l.length ∧ x ∈ keptM (l.getD k dfM) (k : Int) := by
  unfold Zbi
  rw [List.mem_flatMap]
  exact ⟨fun ⟨k, a, b⟩ => ⟨k, List.mem_range.1 a, b⟩, fun ⟨k, a, b⟩ => ⟨k, List.mem_range.2 a, b⟩⟩
theorem BankJ.set {mems : List api_Memory} {spots : List ring_spot} (h : BankJ mems spots) {k : Nat} {m' : api_Memory} (ok : MemOK m') (u : memR m') {spots' : List ring_spot} (hl : spots'.length = spots.length) : BankJ (mems.set k m') spots' := by
  refine ⟨by rw [List.length_set]; exact h.n, fun m hm => ?_, fun m hm => ?_, by rw [List.length_set, hl]; exact h.len⟩
  · rcases List.mem_or_eq_of_mem_set hm with q | rfl
    · exact h.ok m q
    · exact ok
  · rcases List.mem_or_eq_of_mem_set hm with q | rfl
    · exact h.u8 m q
    · exact u
theorem Zog {f : Vector Int 64} (hf : fU f) (h : sndB f = true) : fN f ∧ XQ f = some (numN f) ∧ 0 ≤ (numN f).1 ∧ (numN f).1 ≤ 4194303 := by
  unfold sndB at h
  rw [Bool.and_eq_true] at h
  have hn : fN f := fun i => by
    refine ⟨(hf i).1, ?_⟩
    by_cases hi : i < 64
    · exact Zfm h.1 i hi
    · have : wd f i = 0 := by
        unfold wd
        rw [List.getD_eq_getElem?_getD, List.getElem?_eq_none (by simp; omega)]; rfl
      omega
  refine ⟨hn, (Zij hf (hn 1).2 (hn 2).2).1, ?_⟩
  have := Zgn f
  unfold numN
  split
  · simp only; omega
  · simp
def tgV (a c n : Nat) : List Int := (List.range c).map fun k => (((a + k) % n : Nat) : Int)
theorem Zka {a c n : Nat} (h1 : a ≤ 4194303) (h2 : 1 ≤ n ∧ n ≤ 8) (h3 : 1 ≤ c ∧ c ≤ n) : Zbc (a : Int) (n : Int) (c : Int) = some (tgV a c n) := by
  unfold Zbc
  rw [Zo7 (number := (a : Int)) (memories := (n : Int)) (copies := (c : Int)) ⟨by omega, by omega⟩ ⟨by omega, by omega⟩ ⟨by omega, by omega⟩]
  rfl
theorem ZiX {a c n k : Nat} (h : k < c) : (tgV a c n)[k]? = some (((a + k) % n : Nat) : Int) := by
  unfold tgV
  rw [List.getElem?_map, List.getElem?_range h]; rfl
theorem Zof {a n i j : Nat} (hi : i < n) (hj : j < n) (h : (a + i) % n = (a + j) % n) : i = j := by
  rcases Nat.lt_trichotomy i j with w | w | w
  · have := Nat.sub_mod_eq_zero_of_mod_eq h.symm
    rw [show a + j - (a + i) = j - i by omega, Nat.mod_eq_of_lt (by omega)] at this
    omega
  · exact w
  · have := Nat.sub_mod_eq_zero_of_mod_eq h
    rw [show a + i - (a + j) = i - j by omega, Nat.mod_eq_of_lt (by omega)] at this
    omega
def ZeC (m : api_Memory) (s : ring_spot) : Prop := Q6 m s = true → 0 ≤ Jg m s.sector ∧ ZcS m (Jg m s.sector) ≤ 1073741824
theorem Zmt {m : api_Memory} {s : ring_spot} (ok : MemOK m) (h : SpotOK m s) : -1 ≤ s.sector ∧ s.sector < m.Sectors.length := by
  have := ok.n
  rcases h.sec with w | w <;> omega
theorem Zmp {b : ring_bank} (hJ : BankJ b.memories b.spots) (hA : BankA b.memories b.spots) {c n : Nat} (a : Nat) (hn : n = b.memories.length) (hc : c ≤ n) :
    ∃ e, Jt b (tgV a c n) = some e ∧ (e = 0 ↔ ∀ i, i < c → ZeC (b.memories.getD ((a + i) % n) dfM) (b.spots.getD ((a + i) % n) dfS)) := by
  have hb := hJ.n
  have hlen : (tgV a c n).length = c := by simp [tgV]
  have at_ : ∀ i, i < c → ((a + i) % n) < b.memories.length := fun i hi => by rw [← hn]; exact Nat.mod_lt _ (by omega)
  have w : ∀ i, i < c → QD b (((a + i) % n : Nat) : Int) = some (Q6 (b.memories.getD ((a + i) % n) dfM) (b.spots.getD ((a + i) % n) dfS)) ∧
      Xc b (((a + i) % n : Nat) : Int) = some (Jg (b.memories.getD ((a + i) % n) dfM) (b.spots.getD ((a + i) % n) dfS).sector) ∧
      ∀ z, QB b (((a + i) % n : Nat) : Int) z = some (ZcS (b.memories.getD ((a + i) % n) dfM) z) := fun i hi => by
    have h1 := Zm3 (at_ i hi)
    have h2 := ZkV (l := b.spots) (k := (a + i) % n) (by rw [hJ.len]; exact at_ i hi)
    have hm := (X6 (at_ i hi)).1
    have sp := Zmt (hJ.ok _ hm) (hA _ (at_ i hi))
    exact ⟨Zip h1 h2, Zlw h1 h2 (hJ.ok _ hm) sp.1 sp.2, fun z => Znf h1 (hJ.u8 _ hm) (hJ.ok _ hm) z⟩
  unfold Jt
  obtain ⟨r1, e1, q1⟩ := Zbf (body := Xy b (tgV a c n)) (N := c) (fun k => ∀ i, i < k → Q6 (b.memories.getD ((a + i) % n) dfM) (b.spots.getD ((a + i) % n) dfS) = true → 0 ≤ Jg (b.memories.getD ((a + i) % n) dfM) (b.spots.getD ((a + i) % n) dfS).sector)
    (fun r => (∃ e, r = .inl e ∧ e ≠ 0 ∧ ∃ i, i < c ∧ Q6 (b.memories.getD ((a + i) % n) dfM) (b.spots.getD ((a + i) % n) dfS) = true ∧ Jg (b.memories.getD ((a + i) % n) dfM) (b.spots.getD ((a + i) % n) dfS).sector < 0) ∨ (r = .inr () ∧ ∀ i, i < c → Q6 (b.memories.getD ((a + i) % n) dfM) (b.spots.getD ((a + i) % n) dfS) = true → 0 ≤ Jg (b.memories.getD ((a + i) % n) dfM) (b.spots.getD ((a + i) % n) dfS).sector)) (fun k hk hI => by
      obtain ⟨w1, w2, w3⟩ := w k hk
      unfold Xy
      rw [if_pos (by rw [hlen]; simpa using hk), Zm (ZiX hk), Option.bind_some, w1, Option.bind_some, w2, show i64 ((k : Int) + 1) = (k : Int) + 1 from Zh (by omega) (by omega)]
      cases hL : Q6 (b.memories.getD ((a + k) % n) dfM) (b.spots.getD ((a + k) % n) dfS) with
      | false =>
        left
        refine ⟨by simp [gd], fun i hi hLi => ?_⟩
        by_cases e : i = k
        · subst e; rw [hL] at hLi; cases hLi
        · exact hI i (by omega) hLi
      | true =>
        simp only [gd, beq_self_eq_true, if_true, Option.bind_some, Bool.true_and]
        by_cases q : Jg (b.memories.getD ((a + k) % n) dfM) (b.spots.getD ((a + k) % n) dfS).sector < 0
        · right
          exact ⟨_, by rw [if_pos (decide_eq_true q)], .inl ⟨4, rfl, by decide, k, hk, hL, q⟩⟩
        · left
          refine ⟨by rw [if_neg (by rw [decide_eq_true_eq]; exact q)], fun i hi hLi => ?_⟩
          by_cases e : i = k
          · subst e; omega
          · exact hI i (by omega) hLi) (fun hI => ⟨.inr (), by unfold Xy; rw [hlen, if_neg (by simp)], .inr ⟨rfl, hI⟩⟩) (fun i hi => absurd hi (Nat.not_lt_zero _))
  rw [e1]
  rcases q1 with ⟨e, rfl, he, i, i1, i2, i3⟩ | ⟨rfl, q1⟩
  · refine ⟨e, rfl, fun q => absurd q he, fun h => ?_⟩
    have := (h i i1 i2).1
    omega
  · simp only [Option.bind_some, Sum.elim_inr, ZjD]
    obtain ⟨r2, e2, q2⟩ := Zbf (body := Xz b (tgV a c n)) (N := c) (fun k => ∀ i, i < k → ZeC (b.memories.getD ((a + i) % n) dfM) (b.spots.getD ((a + i) % n) dfS))
      (fun r => (∃ e, r = .inl e ∧ e ≠ 0 ∧ ∃ i, i < c ∧ ¬ ZeC (b.memories.getD ((a + i) % n) dfM) (b.spots.getD ((a + i) % n) dfS)) ∨ (r = .inr () ∧ ∀ i, i < c → ZeC (b.memories.getD ((a + i) % n) dfM) (b.spots.getD ((a + i) % n) dfS))) (fun k hk hI => by
        obtain ⟨w1, w2, w3⟩ := w k hk
        unfold Xz
        rw [if_pos (by rw [hlen]; simpa using hk), Zm (ZiX hk), Option.bind_some, w1, Option.bind_some, w2, show i64 ((k : Int) + 1) = (k : Int) + 1 from Zh (by omega) (by omega)]
        cases hL : Q6 (b.memories.getD ((a + k) % n) dfM) (b.spots.getD ((a + k) % n) dfS) with
        | false =>
          left
          refine ⟨by simp [gd], fun i hi hLi => ?_⟩
          by_cases e : i = k
          · subst e; rw [hL] at hLi; cases hLi
          · exact hI i (by omega) hLi
        | true =>
          simp only [gd, beq_self_eq_true, if_true, Option.bind_some, Bool.true_and]
          rw [w3, Option.bind_some]
          by_cases q : 1073741824 < ZcS (b.memories.getD ((a + k) % n) dfM) (Jg (b.memories.getD ((a + k) % n) dfM) (b.spots.getD ((a + k) % n) dfS).sector)
          · right
            exact ⟨_, by rw [if_pos (decide_eq_true q)], .inl ⟨3, rfl, by decide, k, hk, fun h => by have := (h hL).2; omega⟩⟩
          · left
            refine ⟨by rw [if_neg (by rw [decide_eq_true_eq]; exact q)], fun i hi hLi => ?_⟩
            by_cases e : i = k
            · subst e; exact ⟨q1 i hk hL, by omega⟩
            · exact hI i (by omega) hLi) (fun hI => ⟨.inr (), by unfold Xz; rw [hlen, if_neg (by simp)], .inr ⟨rfl, hI⟩⟩) (fun i hi => absurd hi (Nat.not_lt_zero _))
    rw [e2]
    rcases q2 with ⟨e, rfl, he, i, i1, i2⟩ | ⟨rfl, q2⟩
    · exact ⟨e, rfl, fun q => absurd q he, fun h => absurd (h i i1) i2⟩
    · exact ⟨0, rfl, fun _ => q2, fun _ => rfl⟩
theorem Zn6 (r : ring_Recorder) (p : Int) : ∃ e, Xu r p = some e ∧ (e = 0 ↔ r.stopped = false ∧ r.frozen = false ∧ 0 ≤ p ∧ p ≤ 1000000000) := by
  unfold Xu
  rw [ZbH]
  cases h1 : r.stopped with
  | true => exact ⟨15, by simp, by simp⟩
  | false =>
    cases h2 : r.frozen with
    | true => exact ⟨11, by simp, by simp⟩
    | false =>
      by_cases h : 0 ≤ p ∧ p ≤ 1000000000
      · exact ⟨0, by simp [h.1, h.2], by simp [h.1, h.2]⟩
      · have hf : (decide (0 ≤ p) && decide (p ≤ 1000000000)) = false := by simpa using h
        refine ⟨9, by simp [hf], ?_⟩
        constructor
        · intro q; cases q
        · rintro ⟨_, _, q⟩; exact absurd q h
end Go.Vx

namespace Go.Vx
open Go Go.RowKit
end Go.Vx

namespace Go.Vx
open Go Go.RowKit
theorem Zgu : ∀ (d s : List Int) (a : Nat) (p : Int), (d.length : Int) ≤ p → (Xe s a d p).2.1 = true ∧ (Xe s a d p).1 = p - d.length
  | [], s, a, p, h => ⟨rfl, by simp [Xe]⟩
  | b :: tl, s, a, p, h => by
    rw [List.length_cons] at h
    unfold Xe
    rw [if_neg (by omega)]
    obtain ⟨h1, h2⟩ := Zgu tl (s.set a (Qt .u8 (s.getD a 0) b)) (a + 1) (p - 1) (by omega)
    exact ⟨h1, by rw [h2, List.length_cons]; omega⟩
theorem Zna {s : List Int} {v : Int} (hl : 16 ≤ s.length) (hv : 1 ≤ v ∧ v ≤ 1073741824) (h : s.take 10 = hdL v) : (Ql s).1 = v ∧ (Ql s).2.2 = true := by
  have g : ∀ k, k < 10 → s.getD k 0 = (hdL v).getD k 0 := fun k hk => by
    rw [← h, List.getD_eq_getElem?_getD, List.getD_eq_getElem?_getD, List.getElem?_take_of_lt hk]
  have e : Zg0 (s.getD 2 0) (s.getD 3 0) (s.getD 4 0) (s.getD 5 0) = v := by
    rw [g 2 (by omega), g 3 (by omega), g 4 (by omega), g 5 (by omega)]
    show Zg0 (v / 16777216 % 256) (v / 65536 % 256) (v / 256 % 256) (v % 256) = v
    unfold Zg0; omega
  unfold Ql
  rw [if_neg (by omega)]
  simp only
  rw [e, if_pos ⟨hv.1, hv.2, h⟩]
  exact ⟨rfl, rfl⟩
theorem ZgI {n : Nat} (h : 16 ≤ n) : (Ql (List.replicate n 255)).2.2 = false := by
  unfold Ql
  split
  · rfl
  · simp only
    rw [if_neg]
    rintro ⟨_, _, e⟩
    have this : ((List.replicate n (255 : Int)).take 10).getD 0 0 = 79 := by rw [e]; rfl
    rw [List.getD_eq_getElem?_getD, List.getElem?_take_of_lt (by omega), List.getElem?_replicate, if_pos (by omega)] at this
    simp at this
def cntP (n p i : Nat) : Nat := (p + (n - 1 - i)) / n
theorem Zki {n p i : Nat} (hn : 0 < n) (hi : i < n) : cntP n (p + 1) i = cntP n p i + if i = p % n then 1 else 0 := by
  unfold cntP
  have hd := Nat.div_add_mod p n
  have hm := Nat.mod_lt p hn
  generalize p / n = q at hd
  generalize hr : p % n = r at *
  have e1 : p + (n - 1 - i) = n * q + (r + (n - 1 - i)) := by omega
  have e2 : p + 1 + (n - 1 - i) = n * q + (r + 1 + (n - 1 - i)) := by omega
  rw [e1, e2, Nat.mul_add_div hn, Nat.mul_add_div hn]
  by_cases h : i = r
  · rw [if_pos h, Nat.div_eq_of_lt (show r + (n - 1 - i) < n by omega)]
    rw [show r + 1 + (n - 1 - i) = n by omega, Nat.div_self hn]
  · rw [if_neg h]
    rcases Nat.lt_or_ge i r with w | w
    · have a1 : (r + (n - 1 - i)) / n = 1 := by
        rw [show r + (n - 1 - i) = n + (r - 1 - i) by omega, Nat.add_div_left _ hn, Nat.div_eq_of_lt (by omega)]
      have a2 : (r + 1 + (n - 1 - i)) / n = 1 := by
        rw [show r + 1 + (n - 1 - i) = n + (r - i) by omega, Nat.add_div_left _ hn, Nat.div_eq_of_lt (by omega)]
      rw [a1, a2]
    · rw [Nat.div_eq_of_lt (show r + (n - 1 - i) < n by omega), Nat.div_eq_of_lt (show r + 1 + (n - 1 - i) < n by omega)]
theorem ZjN {n p i : Nat} (hn : 0 < n) (hi : i < n) : p / n ≤ cntP n p i ∧ cntP n p i ≤ p / n + 1 := by
  unfold cntP
  refine ⟨Nat.div_le_div_right (by omega), ?_⟩
  have : p + (n - 1 - i) ≤ p + n := by omega
  exact Nat.le_trans (Nat.div_le_div_right this) (by rw [Nat.add_div_right _ hn]; exact Nat.le_refl _)
def pgs (S t : Nat) : Nat := (t + (S - 1)) / S
theorem ZnI {S t : Nat} (hS : 0 < S) (h : t % S ≠ 0) : pgs S t = t / S + 1 ∧ pgs S (t + 1) = t / S + 1 := by
  have hd := Nat.div_add_mod t S
  have hm := Nat.mod_lt t hS
  unfold pgs
  generalize t / S = q at *
  generalize t % S = r at *
  constructor
  · rw [show t + (S - 1) = S * q + (S + (r - 1)) by omega, Nat.mul_add_div hS, Nat.add_div_left _ hS, Nat.div_eq_of_lt (by omega)]
  · rw [show t + 1 + (S - 1) = S * q + (S + r) by omega, Nat.mul_add_div hS, Nat.add_div_left _ hS, Nat.div_eq_of_lt (by omega)]
theorem Zm2 {S t : Nat} (hS : 0 < S) (h : t % S = 0) : pgs S t = t / S ∧ pgs S (t + 1) = t / S + 1 := by
  have hd := Nat.div_add_mod t S
  unfold pgs
  generalize t / S = q at *
  constructor
  · rw [show t + (S - 1) = S * q + (S - 1) by omega, Nat.mul_add_div hS, Nat.div_eq_of_lt (by omega)]; rfl
  · rw [show t + 1 + (S - 1) = S * q + S by omega, Nat.mul_add_div hS, Nat.div_self hS]
def zF64 : Vector Int 64 := Vector.replicate 64 0
structure PgM (m0 : api_Memory) (gs : List (Vector Int 64)) (m : api_Memory) (s : ring_spot) : Prop where
  slots : m.Slots = m0.Slots
  limit : m.Limit = m0.Limit
  bad : m.Bad = m0.Bad
  n : m.Sectors.length = m0.Sectors.length
  wear : ∀ i, i < m.Sectors.length → m.Wear.getD i 0 = (cntP m.Sectors.length (pgs m.Slots.toNat gs.length) i : Int)
  head : ∀ P, pgs m.Slots.toNat gs.length < P + 1 + m.Sectors.length → P < pgs m.Slots.toNat gs.length → (m.Sectors.getD (P % m.Sectors.length) []).take 10 = hdL ((P : Int) + 1)
  row : ∀ P, pgs m.Slots.toNat gs.length < P + 1 + m.Sectors.length → P < pgs m.Slots.toNat gs.length → ∀ j, j < m.Slots.toNat → slotL (m.Sectors.getD (P % m.Sectors.length) []) j = if P * m.Slots.toNat + j < gs.length then bytesF (gs.getD (P * m.Slots.toNat + j) zF64) ++ [0] else List.replicate 97 255
  blank : ∀ i, pgs m.Slots.toNat gs.length ≤ i → i < m.Sectors.length → ∃ k, m.Sectors.getD i [] = List.replicate k 255
  spot0 : gs.length = 0 → s = ⟨-1, 0⟩
  spot : 0 < gs.length → s.sector = (((pgs m.Slots.toNat gs.length - 1) % m.Sectors.length : Nat) : Int) ∧ s.slot = ((gs.length - (pgs m.Slots.toNat gs.length - 1) * m.Slots.toNat : Nat) : Int)
end Go.Vx

namespace Go.Vx
open Go Go.RowKit
theorem ZjI {m : api_Memory} {sec B : Int} (hB : 0 ≤ B) : ∀ k : Nat, (∀ i : Nat, i < k → (i : Int) ≠ sec → (Ql (m.Sectors.getD i [])).2.2 = true → (Ql (m.Sectors.getD i [])).1 ≤ B) → ZcV m sec k ≤ B
  | 0, _ => hB
  | k + 1, h => by
    have ih := ZjI (m := m) (sec := sec) hB k (fun i hi => h i (by omega))
    unfold ZcV
    split
    · rename_i q
      rw [Bool.and_eq_true] at q
      have := h k (by omega) (by simpa using q.2) q.1
      omega
    · exact ih
theorem ZjY {m : api_Memory} {sec : Int} : ∀ (k i : Nat), i < k → (i : Int) ≠ sec → (Ql (m.Sectors.getD i [])).2.2 = true → (Ql (m.Sectors.getD i [])).1 ≤ ZcV m sec k
  | 0, i, hi, _, _ => absurd hi (Nat.not_lt_zero _)
  | k + 1, i, hi, hne, hh => by
    unfold ZcV
    by_cases e : i = k
    · subst e
      rw [if_pos (by rw [hh]; simpa using hne)]
      omega
    · have := ZjY k i (by omega) hne hh
      split <;> omega
theorem Zef (v : Int) : (hdL v).length = 10 := rfl
theorem Zl2 {n : Nat} (hn : 16 ≤ n) {v : Int} (hv : 1 ≤ v ∧ v ≤ 1073741824) {p : Int} (hp : 10 ≤ p) : (Xe (List.replicate n 255) 0 (hdL v) p).2.1 = true ∧ (Xe (List.replicate n 255) 0 (hdL v) p).1 = p - 10 ∧
    (Xe (List.replicate n 255) 0 (hdL v) p).2.2.length = n ∧ (Xe (List.replicate n 255) 0 (hdL v) p).2.2.take 10 = hdL v ∧ ∀ k, 10 ≤ k → k < n → (Xe (List.replicate n 255) 0 (hdL v) p).2.2.getD k 0 = 255 := by
  obtain ⟨h1, h2⟩ := Zgu (hdL v) (List.replicate n 255) 0 p (by rw [Zef]; exact hp)
  have hl := ZdI (hdL v) (List.replicate n 255) 0 p
  rw [List.length_replicate] at hl
  refine ⟨h1, by rw [h2, Zef]; rfl, hl, ?_, fun k k1 k2 => by rw [ZcQ _ _ _ _ _ (.inr (by rw [Zef]; omega)), ZfT k2]⟩
  refine ZaT (by rw [List.length_take, hl, Zef]; omega) fun k hk => ?_
  rw [List.length_take, hl] at hk
  have := Zgi (hdL v) (List.replicate n 255) 0 p (by rw [Zef, List.length_replicate]; omega) h1 k (by rw [Zef]; omega)
  rw [Nat.zero_add, ZfT (by omega), ZgW (JN (ZlN v) k)] at this
  rw [List.getD_eq_getElem?_getD, List.getElem?_take_of_lt (by omega), ← List.getD_eq_getElem?_getD, this]
theorem Zis {S : List Int} {j : Nat} {f : Vector Int 64} (hf : fN f) (hl : 16 + j * 97 + 97 ≤ S.length) (hfree : slotL S j = List.replicate 97 255) {p : Int} (hp : 97 ≤ p) :
    (Xe S (16 + j * 97) (bytesF f ++ [0]) p).2.1 = true ∧ (Xe S (16 + j * 97) (bytesF f ++ [0]) p).1 = p - 97 ∧ slotL (Xe S (16 + j * 97) (bytesF f ++ [0]) p).2.2 j = bytesF f ++ [0] ∧
    (∀ k, k ≠ j → 16 + k * 97 + 97 ≤ S.length → slotL (Xe S (16 + j * 97) (bytesF f ++ [0]) p).2.2 k = slotL S k) ∧ (Xe S (16 + j * 97) (bytesF f ++ [0]) p).2.2.take 10 = S.take 10 := by
  have hdl : (bytesF f ++ [(0 : Int)]).length = 97 := by rw [List.length_append, Xx]; rfl
  obtain ⟨h1, h2⟩ := Zgu (bytesF f ++ [0]) S (16 + j * 97) p (by rw [hdl]; exact hp)
  have hlen := ZdI (bytesF f ++ [0]) S (16 + j * 97) p
  have hout : ∀ k, k < 16 + j * 97 ∨ 16 + j * 97 + 97 ≤ k → (Xe S (16 + j * 97) (bytesF f ++ [0]) p).2.2.getD k 0 = S.getD k 0 := fun k hk => ZcQ _ _ _ _ _ (by rw [hdl]; exact hk)
  have hin := Zgi (bytesF f ++ [0]) S (16 + j * 97) p (by rw [hdl]; omega) h1
  refine ⟨h1, by rw [h2, hdl]; rfl, ?_, fun k hk hkl => ?_, ?_⟩
  · refine ZaT (by rw [JX (by omega), hdl]) fun t ht => ?_
    rw [JX (by omega)] at ht
    have old : S.getD (16 + j * 97 + t) 0 = 255 := by rw [← Zc3 hl ht, hfree, ZfT ht]
    rw [Zc3 (by omega) ht, hin t (by omega), old, ZgW]
    rcases Nat.lt_or_ge t 96 with q | q
    · rw [List.getD_eq_getElem?_getD, List.getElem?_append_left (by rw [Xx]; omega), ← List.getD_eq_getElem?_getD]; exact JN (Zhj hf) t
    · obtain rfl : t = 96 := by omega
      rw [List.getD_eq_getElem?_getD, List.getElem?_append_right (by rw [Xx]; omega), Xx]; simp
  · refine Zc8 hlen (by omega) fun z z1 z2 => hout z ?_
    rcases Nat.lt_or_ge k j with w | w
    · left; omega
    · right; omega
  · refine ZaT (by rw [List.length_take, List.length_take, hlen]) fun k hk => ?_
    rw [List.length_take] at hk
    rw [List.getD_eq_getElem?_getD, List.getElem?_take_of_lt (by omega), ← List.getD_eq_getElem?_getD, hout k (by omega), List.getD_eq_getElem?_getD (l := S.take 10), List.getElem?_take_of_lt (by omega), List.getD_eq_getElem?_getD]
theorem ZdR {l : List (Vector Int 64)} {f : Vector Int 64} {k : Nat} : (l ++ [f]).getD k zF64 = if k = l.length then f else l.getD k zF64 := by
  rw [List.getD_eq_getElem?_getD, List.getD_eq_getElem?_getD]
  by_cases h : k = l.length
  · subst h; simp
  · rw [if_neg h]
    rcases Nat.lt_or_ge k l.length with w | w
    · rw [List.getElem?_append_left w]
    · rw [List.getElem?_eq_none (by rw [List.length_append]; simp; omega), List.getElem?_eq_none w]
theorem ZhF {n P p : Nat} (h1 : P < p) (h2 : p < P + n) : P % n ≠ p % n := fun e => by
  have := Nat.sub_mod_eq_zero_of_mod_eq e.symm
  rw [Nat.mod_eq_of_lt (show p - P < n by omega)] at this
  omega
end Go.Vx

namespace Go.Vx
open Go Go.RowKit
set_option maxHeartbeats 1000000
theorem ZlE {m : api_Memory} {s : ring_spot} (h1 : 0 ≤ s.sector) (h2 : s.slot ≠ m.Slots) : Q6 m s = false := by
  unfold Q6
  rw [decide_eq_false (show ¬ s.sector < 0 by omega), decide_eq_false h2]; rfl
theorem Zcn {m : api_Memory} {i k : Nat} {S W : List Int} (hi : i < m.Sectors.length) : (Xh m i S W).Sectors.getD k [] = if k = i then S else m.Sectors.getD k [] := Zeh hi
theorem Zlr {m0 m : api_Memory} {gs : List (Vector Int 64)} {s : ring_spot} (h : PgM m0 gs m s) (ok : MemOK m) (ht : gs.length % m.Slots.toNat ≠ 0) {f : Vector Int 64} (hf : fN f) {p : Int} (hp : 1000 ≤ p) :
    Q6 m s = false ∧ (Q3 m s (bytesF f) p).2.1 = true ∧ (Q3 m s (bytesF f) p).1 = p - 97 ∧ PgM m0 (gs ++ [f]) (Q3 m s (bytesF f) p).2.2.1 (Q3 m s (bytesF f) p).2.2.2 := by
  have hn := ok.n
  have hsl := ok.slots
  have hS : 0 < m.Slots.toNat := by omega
  obtain ⟨g1, g2⟩ := ZnI hS ht
  have hd := Nat.div_add_mod gs.length m.Slots.toNat
  have hm := Nat.mod_lt gs.length hS
  have hpos : 0 < gs.length := by
    rcases Nat.eq_zero_or_pos gs.length with w | w
    · rw [w] at ht; simp at ht
    · exact w
  obtain ⟨s1, s2⟩ := h.spot hpos
  rw [g1] at s1 s2
  rw [Nat.add_sub_cancel] at s1 s2
  have hrow := h.row (gs.length / m.Slots.toNat) (by rw [g1]; omega) (by rw [g1]; omega)
  have hcomm : gs.length / m.Slots.toNat * m.Slots.toNat = m.Slots.toNat * (gs.length / m.Slots.toNat) := Nat.mul_comm ..
  generalize hP : gs.length / m.Slots.toNat = P at *
  generalize hj : gs.length % m.Slots.toNat = j at *
  have hsj : s.slot = (j : Int) := by rw [s2]; omega
  have hil : P % m.Sectors.length < m.Sectors.length := Nat.mod_lt _ (by omega)
  have hL : Q6 m s = false := ZlE (by rw [s1]; omega) (by rw [hsj]; omega)
  have hrl := ok.row _ (row_bd.getD_memL hil)
  have hfree := hrow j hm
  rw [if_neg (by omega)] at hfree
  have jb : 16 + j * 97 + 97 ≤ (m.Sectors.getD (P % m.Sectors.length) []).length := by omega
  obtain ⟨w1, w2, w3, w4, w5⟩ := Zis hf jb hfree (p := p) (by omega)
  have hwr : Q3 m s (bytesF f) p = Zem m s (bytesF f) p := by unfold Q3; rw [hL]; rfl
  refine ⟨hL, ?_⟩
  rw [hwr]
  unfold Zem
  rw [s1, hsj]
  simp only [Int.toNat_natCast]
  generalize Xe (m.Sectors.getD (P % m.Sectors.length) []) (16 + j * 97) (bytesF f ++ [0]) p = Q at w1 w2 w3 w4 w5
  have en : (Xh m (P % m.Sectors.length) Q.2.2 m.Wear).Sectors.length = m.Sectors.length := by simp [Xh]
  have es : (Xh m (P % m.Sectors.length) Q.2.2 m.Wear).Slots = m.Slots := rfl
  have el : (gs ++ [f]).length = gs.length + 1 := by simp
  refine ⟨w1, w2, ⟨h.slots, h.limit, h.bad, en.trans h.n, fun i hi => ?_, fun P' q1 q2 => ?_, fun P' q1 q2 k hk => ?_, fun i q1 q2 => ?_, fun q => by rw [el] at q; omega, fun _ => ?_⟩⟩
  · rw [en] at hi ⊢
    rw [es, el, g2]
    have := h.wear i hi
    rw [g1] at this
    exact this
  · rw [es, el, g2] at q1 q2
    rw [en] at q1 ⊢
    rw [Zcn hil]
    have old := h.head P' (by rw [g1]; exact q1) (by rw [g1]; exact q2)
    by_cases e : P' % m.Sectors.length = P % m.Sectors.length
    · rw [if_pos e, w5, ← e]; exact old
    · rw [if_neg e]; exact old
  · rw [es, el, g2] at q1 q2
    rw [en] at q1 ⊢
    rw [es] at hk ⊢
    rw [el, Zcn hil]
    have old := h.row P' (by rw [g1]; exact q1) (by rw [g1]; exact q2) k hk
    by_cases e : P' = P
    · subst e
      rw [if_pos rfl]
      by_cases ek : k = j
      · subst ek
        rw [w3, if_pos (by omega), ZdR, if_pos (by omega)]
      · rw [w4 k ek (by omega), old]
        by_cases c : P' * m.Slots.toNat + k < gs.length
        · rw [if_pos c, if_pos (by omega), ZdR, if_neg (by omega)]
        · rw [if_neg c, if_neg (by omega)]
    · have hlt : P' < P := by omega
      rw [if_neg (ZhF hlt (by omega)), old]
      have hmul : P' * m.Slots.toNat + m.Slots.toNat ≤ P * m.Slots.toNat := by
        have := Nat.mul_le_mul_right m.Slots.toNat (show P' + 1 ≤ P from hlt)
        rw [Nat.add_mul, Nat.one_mul] at this; exact this
      rw [if_pos (by omega), if_pos (by omega), ZdR, if_neg (by omega)]
  · rw [es, el, g2] at q1
    rw [en] at q2
    rw [Zcn hil, if_neg (by have := Nat.mod_le P m.Sectors.length; omega)]
    exact h.blank i (by rw [g1]; exact q1) q2
  · rw [es, el, g2, en]
    simp only
    rw [Nat.add_sub_cancel]
    exact ⟨rfl, by omega⟩
theorem Zl7 {m0 m : api_Memory} {gs : List (Vector Int 64)} {s : ring_spot} (h : PgM m0 gs m s) (ok : MemOK m) (hb : ∀ i, m0.Bad.getD i false = false) (hlim : 100 ≤ m0.Limit) (hlt : gs.length < 100) (ht : gs.length % m.Slots.toNat = 0) :
    Q6 m s = true ∧ Jg m s.sector = ((gs.length / m.Slots.toNat % m.Sectors.length : Nat) : Int) ∧ ZcS m ((gs.length / m.Slots.toNat % m.Sectors.length : Nat) : Int) = ((gs.length / m.Slots.toNat : Nat) : Int) + 1 := by
  have hn := ok.n
  have hsl := ok.slots
  have hS : 0 < m.Slots.toNat := by omega
  obtain ⟨g1, g2⟩ := Zm2 hS ht
  have hd := Nat.div_add_mod gs.length m.Slots.toNat
  have hq : gs.length / m.Slots.toNat ≤ gs.length := Nat.div_le_self ..
  rw [ht, Nat.add_zero] at hd
  have hwear := h.wear
  have hhead := h.head
  have hblank := h.blank
  have hspot := h.spot
  rw [g1] at hwear hhead hblank hspot
  have hspot0 := h.spot0
  generalize gs.length / m.Slots.toNat = q at *
  have hnpos : 0 < m.Sectors.length := by omega
  have hi : q % m.Sectors.length < m.Sectors.length := Nat.mod_lt _ hnpos
  have hx : Q6 m s = true ∧ ZbF m s.sector 0 = q % m.Sectors.length := by
    rcases Nat.eq_zero_or_pos gs.length with w | w
    · have hs := hspot0 w
      have hq0 : q = 0 := by
        rcases Nat.eq_zero_or_pos q with z | z
        · exact z
        · have := Nat.mul_le_mul hS z; omega
      rw [hs]
      refine ⟨by unfold Q6; simp, ?_⟩
      unfold ZbF
      rw [hq0]; rfl
    · obtain ⟨s1, s2⟩ := hspot w
      have hq1 : 0 < q := by
        rcases Nat.eq_zero_or_pos q with z | z
        · rw [z, Nat.mul_zero] at hd; omega
        · exact z
      have e : (q - 1) * m.Slots.toNat + m.Slots.toNat = gs.length := by
        have : (q - 1 + 1) * m.Slots.toNat = gs.length := by rw [show q - 1 + 1 = q by omega, Nat.mul_comm]; exact hd
        rw [Nat.add_mul, Nat.one_mul] at this; exact this
      refine ⟨?_, ?_⟩
      · unfold Q6
        rw [decide_eq_true (show s.slot = m.Slots by rw [s2]; omega), Bool.or_true]
      · unfold ZbF
        rw [s1, Nat.add_zero, show (((((q - 1) % m.Sectors.length : Nat) : Int) + 1).toNat) = (q - 1) % m.Sectors.length + 1 by omega, Nat.mod_add_mod, show q - 1 + 1 = q by omega]
  have hok : ZcK m (q % m.Sectors.length) = true := by
    unfold ZcK
    have hw := hwear _ hi
    have hc := (ZjN (p := q) hnpos hi).2
    have hdiv : q / m.Sectors.length ≤ q / 2 := Nat.div_le_div_left hn.1 (by omega)
    rw [h.bad, hb, hw, h.limit]
    simp only [Bool.not_false, Bool.true_and, decide_eq_true_eq]
    omega
  refine ⟨hx.1, ?_, ?_⟩
  · unfold Jg
    have : ZaF (fun i => ZcK m (ZbF m s.sector i)) 1 = some 0 := by
      unfold ZaF ZaF
      simp only
      rw [hx.2, if_pos hok]
    rw [ZdJ this (by omega)]
    simp only
    rw [hx.2]
  · unfold ZcS
    congr 1
    have page : ∀ i, i < m.Sectors.length → i < q → ∃ P, P < q ∧ q < P + 1 + m.Sectors.length ∧ P % m.Sectors.length = i := fun i hi' hiq => by
      refine ⟨i + m.Sectors.length * ((q - 1 - i) / m.Sectors.length), ?_, ?_, ?_⟩
      · have := Nat.div_mul_le_self (q - 1 - i) m.Sectors.length
        rw [Nat.mul_comm] at this; omega
      · have a := Nat.div_add_mod (q - 1 - i) m.Sectors.length
        have b := Nat.mod_lt (q - 1 - i) hnpos
        omega
      · rw [Nat.add_mul_mod_self_left, Nat.mod_eq_of_lt hi']
    have key : ∀ P, P < q → q < P + 1 + m.Sectors.length → (Ql (m.Sectors.getD (P % m.Sectors.length) [])).1 = (P : Int) + 1 ∧ (Ql (m.Sectors.getD (P % m.Sectors.length) [])).2.2 = true := fun P h1 h2 => by
      have hr := ok.row _ (row_bd.getD_memL (show P % m.Sectors.length < m.Sectors.length from Nat.mod_lt _ hnpos))
      exact Zna (by omega) (by omega) (hhead P h2 h1)
    have up : ZcV m ((q % m.Sectors.length : Nat) : Int) m.Sectors.length ≤ (q : Int) := ZjI (by omega) _ fun i hi' hne hh => by
      rcases Nat.lt_or_ge i q with w | w
      · obtain ⟨P, p1, p2, rfl⟩ := page i hi' w
        rw [(key P p1 p2).1]; omega
      · obtain ⟨k, hk⟩ := hblank i w hi'
        have hr := ok.row _ (row_bd.getD_memL hi')
        rw [hk, List.length_replicate] at hr
        rw [hk, ZgI (by omega)] at hh; cases hh
    have lo : (q : Int) ≤ ZcV m ((q % m.Sectors.length : Nat) : Int) m.Sectors.length := by
      rcases Nat.eq_zero_or_pos q with w | w
      · have := Zgf m ((q % m.Sectors.length : Nat) : Int) m.Sectors.length; omega
      · obtain ⟨k1, k2⟩ := key (q - 1) (by omega) (by omega)
        have hne : (q - 1) % m.Sectors.length ≠ q % m.Sectors.length := ZhF (by omega) (by omega)
        have := ZjY (m := m) (sec := ((q % m.Sectors.length : Nat) : Int)) m.Sectors.length ((q - 1) % m.Sectors.length) (Nat.mod_lt _ hnpos) (by omega) k2
        rw [k1] at this; omega
    omega
theorem Zlv {m0 m : api_Memory} {gs : List (Vector Int 64)} {s : ring_spot} (h : PgM m0 gs m s) (ok : MemOK m) (hb : ∀ i, m0.Bad.getD i false = false) (hlim : 100 ≤ m0.Limit) (hlt : gs.length < 100) (ht : gs.length % m.Slots.toNat = 0) {f : Vector Int 64} (hf : fN f) {p : Int} (hp : 1000 ≤ p) :
    ZeC m s ∧ (Q3 m s (bytesF f) p).2.1 = true ∧ (Q3 m s (bytesF f) p).1 = p - 108 ∧ PgM m0 (gs ++ [f]) (Q3 m s (bytesF f) p).2.2.1 (Q3 m s (bytesF f) p).2.2.2 := by
  have hn := ok.n
  have hsl := ok.slots
  have hS : 0 < m.Slots.toNat := by omega
  obtain ⟨hL, hN, hQ⟩ := Zl7 h ok hb hlim hlt ht
  obtain ⟨g1, g2⟩ := Zm2 hS ht
  have hd := Nat.div_add_mod gs.length m.Slots.toNat
  rw [ht, Nat.add_zero] at hd
  have hcomm : gs.length / m.Slots.toNat * m.Slots.toNat = m.Slots.toNat * (gs.length / m.Slots.toNat) := Nat.mul_comm ..
  have hq : gs.length / m.Slots.toNat ≤ gs.length := Nat.div_le_self ..
  generalize gs.length / m.Slots.toNat = q at *
  have hi : q % m.Sectors.length < m.Sectors.length := Nat.mod_lt _ (by omega)
  have hrl := ok.row _ (row_bd.getD_memL hi)
  refine ⟨fun _ => by rw [hN, hQ]; exact ⟨by omega, by omega⟩, ?_⟩
  obtain ⟨a1, a2, a3, a4, a5⟩ := Zl2 (n := (m.Sectors.getD (q % m.Sectors.length) []).length) (by omega) (v := (q : Int) + 1) (by omega) (p := p - 1) (by omega)
  have hA : ZbE m s p = ((Xe (List.replicate (m.Sectors.getD (q % m.Sectors.length) []).length 255) 0 (hdL ((q : Int) + 1)) (p - 1)).1, (Xe (List.replicate (m.Sectors.getD (q % m.Sectors.length) []).length 255) 0 (hdL ((q : Int) + 1)) (p - 1)).2.1,
      Xh m (q % m.Sectors.length) (Xe (List.replicate (m.Sectors.getD (q % m.Sectors.length) []).length 255) 0 (hdL ((q : Int) + 1)) (p - 1)).2.2 (m.Wear.set (q % m.Sectors.length) (m.Wear.getD (q % m.Sectors.length) 0 + 1)), ⟨((q % m.Sectors.length : Nat) : Int), 0⟩) := by
    unfold ZbE
    simp only
    rw [if_neg (by omega), hN]
    simp only [Int.toNat_natCast]
    rw [hQ, a1]; rfl
  generalize Xe (List.replicate (m.Sectors.getD (q % m.Sectors.length) []).length 255) 0 (hdL ((q : Int) + 1)) (p - 1) = A at a1 a2 a3 a4 a5 hA
  have hwr : Q3 m s (bytesF f) p = Zem (Xh m (q % m.Sectors.length) A.2.2 (m.Wear.set (q % m.Sectors.length) (m.Wear.getD (q % m.Sectors.length) 0 + 1))) ⟨((q % m.Sectors.length : Nat) : Int), 0⟩ (bytesF f) A.1 := by
    unfold Q3
    rw [hL, if_pos rfl, hA, if_pos (show A.2.1 = true from a1)]
  rw [hwr]
  unfold Zem
  simp only [Int.toNat_natCast, Int.toNat_zero, Nat.zero_mul, Nat.add_zero]
  have e2 : ∀ T, Xh (Xh m (q % m.Sectors.length) A.2.2 (m.Wear.set (q % m.Sectors.length) (m.Wear.getD (q % m.Sectors.length) 0 + 1))) (q % m.Sectors.length) T (Xh m (q % m.Sectors.length) A.2.2 (m.Wear.set (q % m.Sectors.length) (m.Wear.getD (q % m.Sectors.length) 0 + 1))).Wear = Xh m (q % m.Sectors.length) T (m.Wear.set (q % m.Sectors.length) (m.Wear.getD (q % m.Sectors.length) 0 + 1)) := fun T => ZnB ..
  rw [Zcn hi, if_pos rfl, e2]
  have free0 : ∀ j, 16 + j * 97 + 97 ≤ A.2.2.length → slotL A.2.2 j = List.replicate 97 255 := fun j hj => by
    rw [Zc8 (t := List.replicate A.2.2.length 255) (by rw [List.length_replicate]) hj (fun k h1 h2 => by rw [a5 k (by omega) (by omega), ZfT (by omega)]), ZhB hj]
  obtain ⟨w1, w2, w3, w4, w5⟩ := Zis (S := A.2.2) (j := 0) hf (by omega) (free0 0 (by omega)) (p := A.1) (by omega)
  rw [Nat.zero_mul, Nat.add_zero] at w1 w2 w3 w4 w5
  generalize Xe A.2.2 16 (bytesF f ++ [0]) A.1 = Q at w1 w2 w3 w4 w5
  have en : (Xh m (q % m.Sectors.length) Q.2.2 (m.Wear.set (q % m.Sectors.length) (m.Wear.getD (q % m.Sectors.length) 0 + 1))).Sectors.length = m.Sectors.length := by simp [Xh]
  have es : (Xh m (q % m.Sectors.length) Q.2.2 (m.Wear.set (q % m.Sectors.length) (m.Wear.getD (q % m.Sectors.length) 0 + 1))).Slots = m.Slots := rfl
  have el : (gs ++ [f]).length = gs.length + 1 := by simp
  have hwear := h.wear
  have hhead := h.head
  have hrow := h.row
  have hblank := h.blank
  rw [g1] at hwear hhead hrow hblank
  refine ⟨w1, by rw [w2, a2]; omega, ⟨h.slots, h.limit, h.bad, en.trans h.n, fun i hi' => ?_, fun P' q1 q2 => ?_, fun P' q1 q2 k hk => ?_, fun i q1 q2 => ?_, fun z => by rw [el] at z; omega, fun _ => ?_⟩⟩
  · rw [en] at hi' ⊢
    rw [es, el, g2, Zki (by omega) hi']
    show (m.Wear.set (q % m.Sectors.length) (m.Wear.getD (q % m.Sectors.length) 0 + 1)).getD i 0 = _
    by_cases e : i = q % m.Sectors.length
    · rw [if_pos e, ← e, ZdM (by have := ok.wear; omega), hwear i hi']; omega
    · rw [if_neg e, ZaS (fun w => e w.symm), hwear i hi', Nat.add_zero]
  · rw [es, el, g2] at q1 q2
    rw [en] at q1 ⊢
    rw [Zcn hi]
    by_cases e : P' = q
    · subst e
      rw [if_pos rfl, w5, a4]
    · rw [if_neg (ZhF (by omega) (by omega))]
      exact hhead P' (by omega) (by omega)
  · rw [es, el, g2] at q1 q2
    rw [en] at q1 ⊢
    rw [es] at hk ⊢
    rw [el, Zcn hi]
    by_cases e : P' = q
    · subst e
      rw [if_pos rfl]
      by_cases ek : k = 0
      · subst ek
        rw [w3, if_pos (by omega), ZdR, if_pos (by omega)]
      · rw [w4 k ek (by omega), free0 k (by omega), if_neg (by omega)]
    · have hlt' : P' < q := by omega
      rw [if_neg (ZhF hlt' (by omega)), hrow P' (by omega) hlt' k hk]
      have hmul : P' * m.Slots.toNat + m.Slots.toNat ≤ q * m.Slots.toNat := by
        have := Nat.mul_le_mul_right m.Slots.toNat (show P' + 1 ≤ q from hlt')
        rw [Nat.add_mul, Nat.one_mul] at this; exact this
      rw [if_pos (by omega), if_pos (by omega), ZdR, if_neg (by omega)]
  · rw [es, el, g2] at q1
    rw [en] at q2
    rw [Zcn hi, if_neg (by have := Nat.mod_le q m.Sectors.length; omega)]
    exact hblank i (by omega) q2
  · rw [es, el, g2, en]
    simp only
    rw [Nat.add_sub_cancel]
    exact ⟨rfl, by omega⟩
end Go.Vx

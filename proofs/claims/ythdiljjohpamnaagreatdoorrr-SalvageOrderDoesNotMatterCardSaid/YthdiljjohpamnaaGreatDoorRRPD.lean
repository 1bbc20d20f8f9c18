/- A text of the proof: a verified executor of the program form, or the contracts of the functions that the law reaches. -/
import Derived.Test.YthdiljjohpamnaaGreatDoorRRPC
set_option linter.all false
namespace Go.Vx
open Go Go.RowKit
noncomputable def md (r : api_Rest) : api_Rest := (XE r).getD r
theorem ZrO {r : api_Rest} (h : ZpN r) : XE r = some (md r) ∧ Zcq r = some (md r) := by
  obtain ⟨o, h1, h2⟩ := Zpf h.1 h.2
  have : md r = o := by unfold md; rw [h1]; rfl
  rw [this]
  exact ⟨h1, h2⟩
noncomputable def tlS (y4 : List api_Rest) : Option (List api_Rest × Int) :=
  (gd ((decide (0 < (y4.length : Int))) == true) (api_Rest.mk 0 (Vector.replicate 64 0) (Vector.replicate 64 0) false 0 false) (idx y4 (i64 ((y4.length : Int) - 1)))).bind fun x3 =>
  (gd ((decide (0 < (y4.length : Int))) == true) (api_Rest.mk 0 (Vector.replicate 64 0) (Vector.replicate 64 0) false 0 false) (idx y4 0)).bind fun x4 =>
  if ((decide (0 < (y4.length : Int))) && (decide (100000 < (i64 (x3.Number - x4.Number))))) = true then
  some ([], 3)
  else
  some (y4.map md, 0)
theorem ZoE {y : List api_Rest} (hy : ∀ r ∈ y, ZpN r) (hl : y.length ≤ 1000000000) : loop (t2 (QZ y)) (y, 0) = some (y.map md) ∧ loop (t2 (JT y)) (y, 0) = some (y.map md) := by
  constructor
  · refine Zl9 (body := QZ y) md (fun k x acc hx hal hax => ⟨_, ?_, rfl⟩) (fun acc => by unfold QZ; rw [if_neg (by simp)])
    have hk := (List.getElem?_eq_some_iff.1 hx).1
    unfold QZ
    rw [if_pos (by simp; omega), Z2 hax, Option.bind_some, (ZrO (hy x (List.mem_of_getElem? hx))).1, Option.bind_some, Option.bind_some, XO hk (by omega), Int.toNat_natCast]
  · refine Zl9 (body := JT y) md (fun k x acc hx hal hax => ⟨_, ?_, rfl⟩) (fun acc => by unfold JT; rw [if_neg (by simp)])
    have hk := (List.getElem?_eq_some_iff.1 hx).1
    unfold JT
    rw [if_pos (by simp; omega), Z2 hax, Option.bind_some, (ZrO (hy x (List.mem_of_getElem? hx))).2, Option.bind_some, Option.bind_some, XO hk (by omega), Int.toNat_natCast]
theorem ZrN {y : List api_Rest} (hl : y.length ≤ 1000000000) : ∃ o, tlS y = some o ∧ o.1.length ≤ 1000000000 := by
  have key : ∀ a b : api_Rest, ∃ o : List api_Rest × Int, (if ((decide (0 < (y.length : Int))) && (decide (100000 < (i64 (a.Number - b.Number))))) = true then some ([], 3) else some (y.map md, 0)) = some o ∧ o.1.length ≤ 1000000000 := fun a b => by
    split
    · exact ⟨_, rfl, by simp⟩
    · exact ⟨_, rfl, by simpa using hl⟩
  unfold tlS
  by_cases h : 0 < y.length
  · obtain ⟨a, ha⟩ := ZT (xs := y) (k := y.length - 1) (by omega)
    obtain ⟨b, hb⟩ := ZT (xs := y) (k := 0) (by omega)
    have e : i64 ((y.length : Int) - 1) = ((y.length - 1 : Nat) : Int) := by rw [Z7 (by omega) (by omega)]; omega
    have hb' : idx y 0 = some b := Z2 (k := 0) hb
    have hd : decide (0 < (y.length : Int)) = true := decide_eq_true (by omega)
    obtain ⟨o, h1, h2⟩ := key a b
    rw [hd] at h1 ⊢
    refine ⟨o, ?_, h2⟩
    rw [e, Z2 ha, Zcu, Option.bind_some, hb', Zcu, Option.bind_some]
    exact h1
  · have hd : decide (0 < (y.length : Int)) = false := decide_eq_false (by omega)
    obtain ⟨o, h1, h2⟩ := key ⟨0, Vector.replicate 64 0, Vector.replicate 64 0, false, 0, false⟩ ⟨0, Vector.replicate 64 0, Vector.replicate 64 0, false, 0, false⟩
    rw [hd] at h1 ⊢
    exact ⟨o, h1, h2⟩
theorem Zll {l : List api_Piece} (hw : wfL XV l) (hl : l.length ≤ 200) (hc : ∀ p ∈ l, Zft p = 0) :
    ∃ out, GR (l.flatMap ZdZ) out ∧ QF l = tlS out ∧ JY l = tlS out ∧ out.length ≤ 1000000000 := by
  obtain ⟨p1, p2, p3⟩ := Zob hw hl hc
  obtain ⟨out, g1, g2, g3⟩ := Zil p3 (List.Perm.refl _)
  have hlen : out.length ≤ 1000000000 := Nat.le_trans (Zrm g3) p3.len
  obtain ⟨m1, m2⟩ := ZoE (fun r hr => g3.nice p3 hr) hlen
  have hf : Zeh ZiR l = none := by
    cases h : Zeh ZiR l with
    | none => rfl
    | some e =>
      obtain ⟨x, hx, he⟩ := Zhq h
      unfold ZiR at he
      rw [if_pos (hc x hx)] at he
      cases he
  obtain ⟨c1, c2⟩ := ZoZ hw hl
  rw [hf] at c1 c2
  refine ⟨out, g3, ?_, ?_, hlen⟩
  · unfold QF tlS
    rw [if_neg (by simp; omega), c1, Option.bind_some]
    simp only [ZhL, Sum.elim_inr, t0]
    rw [p1, Option.bind_some, QN, g1, Option.bind_some, m1]; rfl
  · unfold JY Js tlS
    rw [if_neg (by simp; omega), c2, Option.bind_some]
    simp only [ZhL, Sum.elim_inr, t0, Option.bind_some]
    rw [if_neg (by simp), p2, Option.bind_some, QN, g2, Option.bind_some, m2]; rfl
theorem Zmi {l : List api_Piece} (hw : wfL XV l) (h : ¬ (l.length ≤ 200 ∧ ∀ p ∈ l, Zft p = 0)) :
    ∃ e : Int, e ≠ 0 ∧ QF l = some ([], e) ∧ JY l = some ([], e) := by
  by_cases hl : l.length ≤ 200
  · have : ∃ e, Zeh ZiR l = some e := by
      cases hf : Zeh ZiR l with
      | some e => exact ⟨e, rfl⟩
      | none =>
        refine (h ⟨hl, fun p hp => ?_⟩).elim
        have := ZjS hf p hp
        unfold ZiR at this
        split at this
        · assumption
        · cases this
    obtain ⟨e, he⟩ := this
    have hne : e ≠ 0 := by
      obtain ⟨x, _, hx⟩ := Zhq he
      unfold ZiR at hx
      split at hx
      · cases hx
      · cases hx; assumption
    obtain ⟨c1, c2⟩ := ZoZ hw hl
    rw [he] at c1 c2
    refine ⟨e, hne, ?_, ?_⟩
    · unfold QF
      rw [if_neg (by simp; omega), c1]; rfl
    · unfold JY Js
      rw [if_neg (by simp; omega), c2, Option.bind_some]
      simp only [ZhL, Sum.elim_inl, Option.bind_some]
      rw [if_pos (by simpa using hne)]
  · refine ⟨3, by decide, ?_, ?_⟩
    · unfold QF
      rw [if_pos (by simp; omega)]
    · unfold JY Js
      rw [if_pos (by simp; omega)]; rfl
theorem ZrM (s : List api_Piece) (hs : s.length ≤ 1000000000) : Z5 s = some s.reverse := by
  unfold Z5
  obtain ⟨r, e1, e2⟩ := Zeq (body := t3 ZV)
    (fun q => ∃ k : Nat, q.2.1 = k ∧ q.2.2 = (s.length : Int) - 1 - k ∧ 2 * k ≤ s.length + 1 ∧ q.1.length = s.length ∧ ∀ m, m < s.length → q.1[m]? = if m < k ∨ s.length - 1 - m < k then s[s.length - 1 - m]? else s[m]?)
    (fun q => s.length + 1 - q.2.1.toNat) (fun r => r = s.reverse)
    (by
      rintro ⟨o, i, j⟩ ⟨k, hi, hj, hk2, hol, ho⟩
      simp only at hi hj hol ho
      subst hi hj
      rw [Znc]
      unfold ZV
      by_cases hlt : (k : Int) < (s.length : Int) - 1 - k
      · left
        have hk : k < s.length := by omega
        obtain ⟨x, hx⟩ := ZT (xs := o) (k := s.length - 1 - k) (by omega)
        obtain ⟨z, hz⟩ := ZT (xs := o) (k := k) (by omega)
        have ej : (s.length : Int) - 1 - k = ((s.length - 1 - k : Nat) : Int) := by omega
        have hx1 : s[s.length - 1 - k]? = some x := by
          have := ho (s.length - 1 - k) (by omega)
          rw [if_neg (by omega), hx] at this
          exact this.symm
        have hz1 : s[k]? = some z := by
          have := ho k (by omega)
          rw [if_neg (by omega), hz] at this
          exact this.symm
        have hx2 : (o.set k x)[s.length - 1 - k]? = some x := by rw [List.getElem?_set_ne (by omega), hx]
        refine ⟨((o.set k x).set (s.length - 1 - k) z, (k : Int) + 1, ((s.length - 1 - k : Nat) : Int) - 1), ?_, ⟨k + 1, by push_cast; rfl, by simp only; omega, by omega, by simpa using hol, fun m hm => ?_⟩, by simp only; omega⟩
        · rw [if_pos (by simpa using hlt), ej, Z2 hx, Option.bind_some, Z2 hz, Option.bind_some, Option.bind_some, Int.toNat_natCast, Z2 hx2, Option.bind_some, Int.toNat_natCast, Z7 (by omega) (by omega), Z7 (by omega) (by omega)]
        · simp only
          by_cases m1 : m = s.length - 1 - k
          · subst m1
            rw [List.getElem?_set_self (by simp; omega), if_pos (by omega), show s.length - 1 - (s.length - 1 - k) = k by omega, hz1]
          · rw [List.getElem?_set_ne (Ne.symm m1)]
            by_cases m2 : m = k
            · subst m2
              rw [List.getElem?_set_self (by omega), if_pos (by omega), hx1]
            · rw [List.getElem?_set_ne (Ne.symm m2), ho m hm]
              by_cases hc : m < k ∨ s.length - 1 - m < k
              · rw [if_pos hc, if_pos (by omega)]
              · rw [if_neg hc, if_neg (by omega)]
      · right
        refine ⟨o, by rw [if_neg (by simpa using hlt)], ?_⟩
        refine List.ext_getElem? fun m => ?_
        by_cases hm : m < s.length
        · rw [ho m hm, List.getElem?_reverse hm]
          split
          · rfl
          · rw [show s.length - 1 - m = m by omega]
        · rw [List.getElem?_eq_none (by omega), List.getElem?_eq_none (by simp; omega)])
    (s, 0, i64 ((s.length : Int) - 1)) ⟨0, rfl, by rw [Z7 (by omega) (by omega)]; simp, by omega, rfl, fun m hm => by rw [if_neg (by omega)]⟩
  rw [e1, e2]
theorem ZmO (l : List api_Piece) (hw : wfL XV l) : Q9 l = some true := by
  have hsv := Zqo
  unfold Q9
  by_cases h : l.length ≤ 200 ∧ ∀ p ∈ l, Zft p = 0
  · obtain ⟨hl, hc⟩ := h
    obtain ⟨out, g1, g2, g3, g4⟩ := Zll hw hl hc
    have hwr : wfL XV l.reverse := ⟨by simpa using hw.1, fun x hx => hw.2 x (List.mem_reverse.1 hx)⟩
    obtain ⟨out', k1, k2, k3, k4⟩ := Zll hwr (by simpa using hl) (fun p hp => hc p (List.mem_reverse.1 hp))
    have hp : (l.flatMap ZdZ).Perm (l.reverse.flatMap ZdZ) := List.Perm.flatMap_right ZdZ (List.reverse_perm l).symm
    have := GR.uniq hp g1 k1
    subst this
    obtain ⟨o, t1, t2⟩ := ZrN g4
    rw [g2, g3, t1, Option.bind_some, Option.bind_some, decide_eq_true rfl]
    simp only [Bool.not_true, show (false == false) = true from rfl, Zdm]
    rw [ZkH _ (by omega), Option.bind_some, if_neg (by decide)]
    by_cases h0 : o.2 = 0
    · rw [if_neg (by simpa using h0)]
      have hcl : Znp l = some l := by unfold Znp; rw [XP (by simp; omega)]; rfl
      rw [hcl, Option.bind_some, ZrM l (by omega), Option.bind_some, k2, t1, Option.bind_some, decide_eq_true h0, Zcu, ZkH _ (by omega), Option.bind_some]
      simp only [Bool.and_self, Zcu, hsv, Option.bind_some]
    · rw [if_pos (by simpa using h0), hsv, Option.bind_some]
  · obtain ⟨e, e0, e1, e2⟩ := Zmi hw h
    rw [e1, e2, Option.bind_some, Option.bind_some, decide_eq_true rfl]
    simp only [Bool.not_true, show (false == false) = true from rfl, Zdm]
    rw [ZkH _ (by simp), Option.bind_some, if_neg (by decide), if_pos (by simpa using e0), hsv, Option.bind_some]
end Go.Vx

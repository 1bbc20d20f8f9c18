/- A text of the proof: a verified executor of the program form, or the contracts of the functions that the law reaches. -/
import Derived.Test.YtdacciininlfmaaGreatDoorPB
import Derived.Test.YtdacciininlfmaaGreatDoorPA
import Derived.Test.YtdacciininlfmaaGreatDoorShT
set_option linter.all false
namespace Go.Vx
open Go Go.RowKit
def JC (m : api_Map) (c : api_Cell) : api_Param := (m.Params[c.Param.toNat]?).getD ⟨[], 0, [], 0, 0, 0, 0, []⟩
def Znd (m : api_Map) (c : api_Cell) (v : Int) : WL := wc (enc (JC m c) v).toNat c.Places
def Zc1 (m : api_Map) : List api_Cell → List Int → WL
  | c :: cs, v :: vs => Znd m c v ++ Zc1 m cs vs
  | _, _ => []
def inV (m : api_Map) (c : api_Cell) (v : Int) : Bool := wiL v (lims (JC m c)).1 (lims (JC m c)).2
def allIn (m : api_Map) : List api_Cell → List Int → Bool
  | c :: cs, v :: vs => inV m c v && allIn m cs vs
  | _, _ => true
theorem Ze5 {m : api_Map} (h : MapOK m) {c : api_Cell} (hc : c ∈ allC 0 m.Params) : idx m.Params c.Param = some (JC m c) ∧ ParOK (JC m c) ∧ c.Places.length ≤ 8 ∧ (∀ q ∈ c.Places, placeR q) ∧ sB c.Places ≤ 40 ∧ bitsN (JC m c) = (sB c.Places : Int) ∧ 2 * HH (JC m c) = 2 ^ sB c.Places := by
  obtain ⟨j, x, h1, hx, h2, f, t, h3, h4, _, h5⟩ := Zjt h hc
  obtain ⟨x', g1, g2, g3, g4, g5, g6, _⟩ := Zlt h (Vector.replicate 16 []) hc
  have e : JC m c = x' := by unfold JC; rw [g2]; rfl
  have e2 : x' = x := by rw [h2, Int.toNat_natCast, h1] at g2; exact (Option.some.inj g2).symm
  have hsB : bitsN x = (sB c.Places : Int) := by
    have key : ∀ ps : List api_Part, (∀ y ∈ ps, ZbD y = true) → ((sB (ps.map (Ju x f t)) : Nat) : Int) = (ps.map (·.Bits)).sum := by
      intro ps
      induction ps with
      | nil => intro _; rfl
      | cons y ps ih =>
        intro hy
        have := JQ.1 (hy y List.mem_cons_self)
        have ih := ih fun z hz => hy z (List.mem_cons_of_mem _ hz)
        have e : sB ((y :: ps).map (Ju x f t)) = y.Bits.toNat + sB (ps.map (Ju x f t)) := by simp [sB, Ju]
        rw [e, List.map_cons, List.sum_cons]
        push_cast
        omega
    rw [h5]
    exact (key _ hx.len.2).symm
  subst e2
  rw [e]
  refine ⟨g1, g3, g4, g5, g6, hsB, ?_⟩
  rw [← (Zij g3).2.2, hsB]; congr 1
theorem ZlN {m : api_Map} (h : MapOK m) {c : api_Cell} (hc : c ∈ allC 0 m.Params) {v : Int} (hv : inV m c v = true) : ((enc (JC m c) v).toNat : Int) = enc (JC m c) v ∧ (enc (JC m c) v).toNat < 2 ^ sB c.Places ∧ (enc (JC m c) v).toNat < 2 ^ 40 ∧ dec (JC m c) (enc (JC m c) v) = (v, true) := by
  obtain ⟨_, hx, _, _, h40, _, hH⟩ := Ze5 h hc
  obtain ⟨a, b⟩ := Zcw.1 hv
  obtain ⟨e1, e2, e3⟩ := ZmW hx a b
  rw [hH] at e2
  have ep : ((2 ^ sB c.Places : Nat) : Int) = (2 : Int) ^ sB c.Places := by push_cast; rfl
  have h2 : 2 ^ sB c.Places ≤ 2 ^ 40 := Nat.pow_le_pow_right (by decide) h40
  exact ⟨by omega, by omega, by omega, e3⟩
theorem Zk8 (m : api_Map) : ∀ (cs : List api_Cell) (vs : List Int), cs.length = vs.length → (Zc1 m cs vs).map (·.1) = cs.flatMap fun c => c.Places
  | [], [], _ => rfl
  | c :: cs, v :: vs, h => by
    simp only [Zc1, List.map_append, List.flatMap_cons]
    rw [Zk8 m cs vs (by simpa using h)]
    unfold Znd
    rw [Zok]
theorem Zor : ∀ {K : List layout_bit} {l : List api_Place}, okB K (Q6 l) = true → l.Pairwise disj
  | K, [], _ => List.Pairwise.nil
  | K, q :: l, h => by
    have e : Q6 (q :: l) = Zal q ++ Q6 l := by simp [Q6]
    rw [e, Zcu, Bool.and_eq_true] at h
    refine List.pairwise_cons.2 ⟨fun r hr x hx => ?_, Zor h.2⟩
    cases hxr : ZiR x r with
    | false => rfl
    | true =>
      have hm : x ∈ Q6 l := by
        unfold Q6
        exact List.mem_flatMap.2 ⟨r, hr, Zja.2 hxr⟩
      exact absurd (List.mem_append_right _ (Zja.2 hx)) (Zjj h.2 x hm)
def ZjS (m : api_Map) : List Int := (List.replicate 58 (0 : Int)).set 0 m.Version
def ZcL (m : api_Map) : Vector (List Int) 16 := Vector.replicate 16 (ZjS m)
theorem ZqR (m : api_Map) : loop (t2 (Zau m)) ((Vector.replicate 16 []), 0) = some (ZcL m) := by
  have key : ∀ (n k : Nat) (o : Vector (List Int) 16), k + n = 16 → (∀ i : Nat, i < k → o.toList[i]? = some (ZjS m)) → loop (t2 (Zau m)) (o, (k : Int)) = some (ZcL m) := by
    intro n
    induction n with
    | zero =>
      intro k o hk ho
      have : k = 16 := by omega
      subst this
      rw [ZN]
      have e : o = ZcL m := by
        apply Vector.toList_inj.1
        apply List.ext_getElem?
        intro i
        by_cases hi : i < 16
        · have eo : (ZcL m).toList = List.replicate 16 (ZjS m) := rfl
          rw [ho i hi, eo, List.getElem?_replicate, if_pos hi]
        · rw [List.getElem?_eq_none (by simp; omega), List.getElem?_eq_none (by simp; omega)]
      rw [e]
      rfl
    | succ n ih =>
      intro k o hk ho
      have h16 : o.toList.length = 16 := by simp
      have hlt : (k : Int) < 16 := by omega
      obtain ⟨x, hx⟩ := ZU (xs := o.toList) (k := k) (by omega)
      have hm : mks 58 (0 : Int) = some (List.replicate 58 0) := rfl
      have hs1 : (Qd o (k : Int) (List.replicate 58 (0 : Int))).toList = o.toList.set k (List.replicate 58 0) := by simp [Qd]
      have hv1 : ZI (Qd o (k : Int) (List.replicate 58 (0 : Int))) (k : Int) = some (List.replicate 58 0) := Zjq (by rw [hs1, List.getElem?_set_self (by omega)])
      have hi0 : idx (List.replicate 58 (0 : Int)) 0 = some 0 := rfl
      have e3 : ((k : Nat) : Int) + 1 = ((k + 1 : Nat) : Int) := by push_cast; rfl
      rw [ZN]
      simp only [J3, Zau, hlt, decide_true, if_true, hm, Option.bind_some, Zjq hx, hv1, hi0]
      rw [ZX (by omega) (by omega), e3]
      refine ih (k + 1) _ (by omega) (fun i hi => ?_)
      have hs2 : (Qd (Qd o (k : Int) (List.replicate 58 (0 : Int))) (k : Int) ((List.replicate 58 (0 : Int)).set (Int.toNat 0) m.Version)).toList = (o.toList.set k (List.replicate 58 0)).set k (ZjS m) := by
        simp [Qd, ZjS]
      rw [hs2, List.getElem?_set]
      by_cases hik : k = i
      · subst hik; rw [if_pos rfl, if_pos (by simp; omega)]
      · rw [if_neg hik, List.getElem?_set_ne hik]; exact ho i (by omega)
  exact key 16 0 _ (by omega) (fun i hi => by omega)
theorem Zh4 {m : api_Map} {x : List Int} (hx : x ∈ (ZcL m).toList) : x = ZjS m := by
  simp [ZcL] at hx; exact hx
theorem Znl (m : api_Map) (w : Nat) (hw : 1 ≤ w) : (ZjS m).getD w 0 = 0 := by
  unfold ZjS
  rw [List.getD_eq_getElem?_getD, List.getElem?_set_ne (by omega), List.getElem?_replicate]
  split <;> rfl
theorem Zq6 {m : api_Map} (h : MapOK m) {l : List Int} (hl : (allC 0 m.Params).length = l.length) : Pre (ZcL m) (Zc1 m (allC 0 m.Params) l) m.Version := by
  have hfst := Zk8 m (allC 0 m.Params) l hl
  have hpl : ∀ w ∈ Zc1 m (allC 0 m.Params) l, placeR w.1 := by
    intro w hw
    have : w.1 ∈ (Zc1 m (allC 0 m.Params) l).map (·.1) := List.mem_map.2 ⟨w, hw, rfl⟩
    rw [hfst] at this
    obtain ⟨c, hc, hq⟩ := List.mem_flatMap.1 this
    exact (Ze5 h hc).2.2.2.1 _ hq
  have hval : ∀ (cs : List api_Cell) (vs : List Int), ∀ w ∈ Zc1 m cs vs, w.2 < 2 ^ w.1.Bits.toNat := by
    intro cs
    induction cs with
    | nil => intro vs w hw; cases hw
    | cons c cs ih =>
      intro vs w hw
      cases vs with
      | nil => cases hw
      | cons v vs =>
        rcases List.mem_append.1 hw with hw | hw
        · have : ∀ (e : Nat) (ps : List api_Place), ∀ w ∈ wc e ps, w.2 < 2 ^ w.1.Bits.toNat := by
            intro e ps
            induction ps with
            | nil => intro w hw; cases hw
            | cons q tl ih2 =>
              intro w hw
              rcases List.mem_cons.1 hw with rfl | hw
              · exact Nat.mod_lt _ (Nat.two_pow_pos _)
              · exact ih2 w hw
          exact this _ _ w hw
        · exact ih vs w hw
  refine ⟨fun x hx => ?_, fun w hw => ⟨hpl w hw, hval _ _ w hw, ?_⟩, ?_, fun x hx => ?_⟩
  · rw [Zh4 hx]
    refine ⟨by simp [ZjS], fun d hd => ?_⟩
    rcases List.mem_or_eq_of_mem_set hd with hd | rfl
    · have := (List.mem_replicate.1 hd).2; omega
    · exact h.ver
  · have hq := hpl w hw
    have hm := ZgC (l := ZcL m) hq
    have hr := Zh4 (List.mem_of_getElem? hm)
    have hd : ZaO (ZcL m) w.1 = 0 := by
      have : ZaO (ZcL m) w.1 = ((Zhl (ZcL m) w.1).getD (w.1.Word - 3).toNat 0).toNat := rfl
      obtain ⟨_, a, _⟩ := hq
      rw [this, hr, Znl m _ (by omega)]; rfl
    unfold chunk
    rw [hd]; simp
  · have hu : okB [] (Q6 ((allC 0 m.Params).flatMap fun c => c.Places)) = true := by
      have e : Q6 ((allC 0 m.Params).flatMap fun c => c.Places) = bitsC (allC 0 m.Params) := by
        simp [Q6, bitsC, List.flatMap_assoc]
      rw [e]; exact h.uniq
    have hd := Zor hu
    rw [← hfst] at hd
    exact List.pairwise_map.1 hd
  · rw [Zh4 hx]; rfl
theorem Zm4 {m : api_Map} (h : MapOK m) {l : List Int} (hl : (allC 0 m.Params).length = l.length) : ∀ (n k : Nat) (out : Vector (List Int) 16), k + n = l.length → Pre out (Zc1 m ((allC 0 m.Params).drop k) (l.drop k)) m.Version →
    loop (t2 (Jz m l (allC 0 m.Params))) (out, (k : Int)) = some (cond (allIn m ((allC 0 m.Params).drop k) (l.drop k)) (.inr (wrF out (Zc1 m ((allC 0 m.Params).drop k) (l.drop k)))) (.inl ((Vector.replicate 16 []), 9))) := by
  have hcnt := h.cnt
  intro n
  induction n with
  | zero =>
    intro k out hk _
    have : k = l.length := by omega
    subst this
    have e : (allC 0 m.Params).drop l.length = [] := List.drop_eq_nil_of_le (by omega)
    rw [ZN, e]
    have : ¬ (l.length : Int) < ((allC 0 m.Params).length : Int) := by omega
    simp [Jz, hl, Zc1, wrF, allIn]
  | succ n ih =>
    intro k out hk hP
    obtain ⟨c, hc⟩ := ZU (xs := allC 0 m.Params) (k := k) (by omega)
    obtain ⟨v, hv⟩ := ZU (xs := l) (k := k) (by omega)
    have hcm := List.mem_of_getElem? hc
    have hlt := Xh hc
    obtain ⟨g1, hx, g4, g5, g6, g7, _⟩ := Ze5 h hcm
    obtain ⟨num, n1, n2⟩ := ZfZ hx
    rw [ZO hc, ZO hv] at hP ⊢
    simp only [Zc1, allIn] at hP ⊢
    rw [ZN]
    simp only [J3, Jz, hlt, decide_true, if_true, ZE hc, Option.bind_some, g1, n1, ZE hv, ZcB, n2.low, n2.high]
    have hin : wiL v (lims (JC m c)).1 (lims (JC m c)).2 = inV m c v := rfl
    rw [hin]
    cases hI : inV m c v with
    | false => rfl
    | true =>
      obtain ⟨a, b⟩ := Zcw.1 hI
      obtain ⟨e1, e2, e3, e4⟩ := ZlN h hcm hI
      have e5 : ((k : Nat) : Int) + 1 = ((k + 1 : Nat) : Int) := by push_cast; rfl
      simp only [Bool.not_true, Bool.false_eq_true, if_false, n2.encode v a b, Option.bind_some, ZgU hx.len, g7]
      rw [← e1, Zq0 g4 g6 e3 out hP.left, ZX (by omega) (by omega), e5]
      have := ih (k + 1) _ (by omega) hP.app
      rw [← ZlQ] at this
      exact this
def Zmg (m : api_Map) (l : List Int) : Vector (List Int) 16 × Int :=
  if Zcf m = 0 then (if (allC 0 m.Params).length = l.length then (if allIn m (allC 0 m.Params) l = true then (wrF (ZcL m) (Zc1 m (allC 0 m.Params) l), 0) else (Vector.replicate 16 [], 9)) else (Vector.replicate 16 [], 3)) else (Vector.replicate 16 [], Zcf m)
theorem Zqs (m : api_Map) (l : List Int) : Zca m l = some (Zmg m l) := by
  obtain ⟨a, hc⟩ := Zh7 m
  unfold Zca Zmg
  rw [hc, Option.bind_some]
  by_cases h : Zcf m = 0
  · have hm := ZeH h
    rw [if_neg (by simp [h]), if_pos h, Zj9 hm, Option.bind_some]
    by_cases hl : (allC 0 m.Params).length = l.length
    · have hl' : ((l.length : Nat) : Int) = ((allC 0 m.Params).length : Int) := by omega
      rw [if_neg (by simpa using hl'), if_pos hl, ZqR]
      simp only [Option.bind_some, t1]
      have := Zm4 hm hl l.length 0 (ZcL m) (by omega) (Zq6 hm hl)
      have this' : loop (t2 (Jz m l (allC 0 m.Params))) (ZcL m, 0) = _ := this
      rw [this', List.drop_zero, List.drop_zero]
      cases allIn m (allC 0 m.Params) l <;> rfl
    · have hl' : ¬ ((l.length : Nat) : Int) = ((allC 0 m.Params).length : Int) := by omega
      rw [if_pos (by simpa using hl'), if_neg hl]
  · rw [if_pos (Zkw h), if_neg h]
end Go.Vx

namespace Go.Vx
open Go Go.RowKit
theorem Zk2 {p : api_Param} (h1 : 1 ≤ p.Every) : ∀ (n : Nat) (f : Int), (stL p n f).Pairwise (· < ·) ∧ ∀ x ∈ stL p n f, f ≤ x
  | 0, f => ⟨.nil, fun x h => by cases h⟩
  | n + 1, f => by
    obtain ⟨a, b⟩ := Zk2 h1 n (f + p.Every)
    unfold stL
    split
    · split
      · refine ⟨List.pairwise_cons.2 ⟨fun x hx => by have := b x hx; omega, a⟩, fun x hx => ?_⟩
        rcases List.mem_cons.1 hx with rfl | hx
        · omega
        · have := b x hx; omega
      · exact ⟨a, fun x hx => by have := b x hx; omega⟩
    · exact ⟨.nil, fun x h => by cases h⟩
def tmN (p : api_Param) (first : Int) (c : api_Cell) : Int := 64 * (first + c.Frame) + 64 * (c.Index % p.Times) / p.Times
structure CellInv (p : api_Param) (first : Int) (fs : List Int) (out : List api_Cell) : Prop where
  mod : ∃ q : Nat, out.length = q * p.Times.toNat
  low : ∀ c ∈ out, ∀ f ∈ fs, c.Frame < f
  idx : ∀ (k : Nat) c, out[k]? = some c → (c.Index % p.Times) = (((out.take k).countP fun d => decide (d.Frame = c.Frame) : Nat) : Int)
  sort : (out.map (tmN p first)).Pairwise (· < ·)
  pos : ∀ c ∈ out, 0 ≤ c.Index
theorem ZjB {x T : Int} (hT : 1 ≤ T) (h0 : 0 ≤ x) (h1 : x < T) : 0 ≤ 64 * x / T ∧ 64 * x / T < 64 := by
  refine ⟨Int.ediv_nonneg (by omega) (by omega), Int.ediv_lt_of_lt_mul (by omega) (by omega)⟩
theorem ZqW {x y T : Int} (hT : 1 ≤ T) (hT2 : T ≤ 64) (h : x < y) : 64 * x / T < 64 * y / T := by
  have h1 : (64 * x + T * 1) / T = 64 * x / T + 1 := Int.add_mul_ediv_left _ _ (by omega)
  have h2 : (64 * x + T * 1) / T ≤ 64 * y / T := Int.ediv_le_ediv (by omega) (by omega)
  omega
theorem ZoG {number : Int} {p : api_Param} {first : Int} (hT : 1 ≤ p.Times ∧ p.Times ≤ 57) {f : Int} {fs : List Int} {out : List api_Cell} (hf : (f :: fs).Pairwise (· < ·)) (h : CellInv p first (f :: fs) out) : CellInv p first fs (Zcd number p out f) := by
  obtain ⟨q, hq⟩ := h.mod
  have hTN : p.Times = (p.Times.toNat : Int) := by omega
  obtain ⟨T, hTe⟩ : ∃ T, T = p.Times.toNat := ⟨_, rfl⟩
  rw [← hTe] at hTN hq
  have hmod : ∀ j : Nat, j < T → ((out.length + j : Nat) : Int) % p.Times = (j : Int) := fun j hj => by
    rw [hTN, ← Int.natCast_emod, hq, Nat.mul_comm, Nat.mul_add_mod, Nat.mod_eq_of_lt hj]
  have hrow : ∀ j : Nat, ((List.range T).map fun j => Zbk number p ((out.length + j : Nat) : Int) f j)[j]? = if j < T then some (Zbk number p ((out.length + j : Nat) : Int) f j) else none := fun j => by
    rw [List.getElem?_map]
    by_cases hj : j < T
    · rw [if_pos hj, List.getElem?_range hj]; rfl
    · rw [if_neg hj, List.getElem?_eq_none (by simpa using hj)]; rfl
  have hlow : ∀ c ∈ out, c.Frame < f := fun c hc => h.low c hc f (List.mem_cons_self ..)
  have htm : ∀ j : Nat, j < T → tmN p first (Zbk number p ((out.length + j : Nat) : Int) f j) = 64 * (first + f) + 64 * (j : Int) / p.Times := fun j hj => by
    unfold tmN Zbk
    simp only
    rw [hmod j hj]
  unfold Zcd
  rw [← hTe]
  refine ⟨⟨q + 1, by simp [hq, ← hTe, Nat.add_mul]⟩, fun c hc g hg => ?_, fun k c hk => ?_, ?_, fun c hc => ?_⟩
  · rcases List.mem_append.1 hc with hc | hc
    · exact h.low c hc g (List.mem_cons_of_mem _ hg)
    · obtain ⟨j, _, rfl⟩ := List.mem_map.1 hc
      exact (List.pairwise_cons.1 hf).1 g hg
  · rcases Nat.lt_or_ge k out.length with hl | hl
    · rw [List.getElem?_append_left hl] at hk
      rw [List.take_append_of_le_length (Nat.le_of_lt hl)]
      exact h.idx k c hk
    · obtain ⟨j, rfl⟩ : ∃ j, k = out.length + j := ⟨k - out.length, by omega⟩
      rw [List.getElem?_append_right (by omega), Nat.add_sub_cancel_left, hrow] at hk
      by_cases hj : j < T
      · rw [if_pos hj] at hk
        cases hk
        rw [List.take_append, List.countP_append, List.take_of_length_le (by omega), Nat.add_sub_cancel_left]
        have e1 : (out.countP fun d => decide (d.Frame = (Zbk number p ((out.length + j : Nat) : Int) f j).Frame)) = 0 := by
          rw [List.countP_eq_zero]
          intro d hd
          have := hlow d hd
          show ¬ decide (d.Frame = f) = true
          rw [decide_eq_true_eq]
          omega
        have e2 : ((((List.range T).map fun j => Zbk number p ((out.length + j : Nat) : Int) f j).take j).countP fun d => decide (d.Frame = (Zbk number p ((out.length + j : Nat) : Int) f j).Frame)) = j := by
          have : ∀ d ∈ (((List.range T).map fun j => Zbk number p ((out.length + j : Nat) : Int) f j).take j), decide (d.Frame = (Zbk number p ((out.length + j : Nat) : Int) f j).Frame) = true := by
            intro d hd
            obtain ⟨i, _, rfl⟩ := List.mem_map.1 (List.mem_of_mem_take hd)
            simp [Zbk]
          rw [List.countP_eq_length.2 this]
          simp; omega
        rw [e1, e2, Nat.zero_add]
        exact hmod j hj
      · rw [if_neg hj] at hk; cases hk
  · rw [List.map_append, List.pairwise_append]
    refine ⟨h.sort, ?_, fun a ha b hb => ?_⟩
    · rw [List.map_map, List.pairwise_map]
      refine (List.pairwise_lt_range (n := T)).imp_of_mem fun {i j} hi hj hij => ?_
      have hi := List.mem_range.1 hi
      have hj := List.mem_range.1 hj
      simp only [Function.comp]
      rw [htm i hi, htm j hj]
      have := ZqW (x := (i : Int)) (y := (j : Int)) hT.1 (by omega) (by omega)
      omega
    · obtain ⟨c, hc, rfl⟩ := List.mem_map.1 ha
      obtain ⟨d, hd, rfl⟩ := List.mem_map.1 hb
      obtain ⟨j, hj, rfl⟩ := List.mem_map.1 hd
      have hj := List.mem_range.1 hj
      rw [htm j hj]
      have h1 := hlow c hc
      have h2 := ZjB (x := c.Index % p.Times) (T := p.Times) hT.1 (Int.emod_nonneg _ (by omega)) (Int.emod_lt_of_pos _ (by omega))
      have h3 := ZjB (x := (j : Int)) (T := p.Times) hT.1 (by omega) (by omega)
      unfold tmN
      omega
  · rcases List.mem_append.1 hc with hc | hc
    · exact h.pos c hc
    · obtain ⟨j, _, rfl⟩ := List.mem_map.1 hc
      show (0 : Int) ≤ ((out.length + j : Nat) : Int)
      omega
theorem ZkE {number : Int} {p : api_Param} {first : Int} (hT : 1 ≤ p.Times ∧ p.Times ≤ 57) : ∀ (fs : List Int) (out : List api_Cell), fs.Pairwise (· < ·) → CellInv p first fs out → CellInv p first [] (fs.foldl (Zcd number p) out)
  | [], out, _, h => h
  | f :: fs, out, hf, h => ZkE hT fs _ (List.pairwise_cons.1 hf).2 (ZoG hT hf h)
theorem Zjo {p : api_Param} (h : ParOK p) (number first : Int) : CellInv p first [] (cellsN number p) := by
  obtain ⟨hE, hF, hT, _⟩ := Xw h.tim
  have h0 : CellInv p first (Jm p) [] := { mod := ⟨0, by simp⟩, low := (fun c hc => by cases hc), idx := (fun k c hk => by simp at hk), sort := List.Pairwise.nil, pos := (fun c hc => by cases hc) }
  exact ZkE hT _ _ (Zk2 (by omega) 17 p.First).1 h0
end Go.Vx

namespace Go.Vx
open Go Go.RowKit
abbrev Smp := api_Sample
def wi (n lo hi : Int) : Bool := decide (lo ≤ n) && decide (n ≤ hi)
theorem ZbG (n a b : Int) : ZF n a b = some (wi n a b) := rfl
theorem ZgN (n a b : Int) : Qp n a b = some (!wi n a b) := by
  simp only [Qp, wi, Option.some.injEq]
  rw [Bool.eq_iff_iff]; simp [Int.not_le]
theorem ZcI {n a b : Int} : wi n a b = true ↔ a ≤ n ∧ n ≤ b := by simp [wi]
def ZaQ (x : Smp) : Option Int := if !(wi x.At 0 1099511627776 && wi x.N (-1125899906842624) 1125899906842624 && wi x.Mark 0 4) then some 9 else if !decide (x.N = 0) && decide (x.Mark ≤ 1) then some 2 else none
def Zm8 (xs : List Smp) (k : Nat) : Option Smp := if k = 0 then none else xs[k - 1]?
def ZfL (p : Option Smp) (x : Smp) : Bool := match p with | none => false | some q => decide (x.At ≤ q.At)
def Zha : Option Smp → Nat → List Smp → Int × Int
  | _, _, [] => (-1, 0)
  | p, k, x :: tl => match ZaQ x with | some e => ((k : Int), e) | none => if ZfL p x then ((k : Int), 10) else Zha (some x) (k + 1) tl
def chk (s : api_Series) : Int × Int := if wi s.Den 1 1000000 then (if (s.Samples.length : Int) ≤ 20000 then Zha none 0 s.Samples else (-1, 3)) else (-1, 9)
theorem Zm5 {xs : List Smp} {k : Nat} {x : Smp} (h : xs[k]? = some x) : Zm8 xs (k + 1) = some x := by simp [Zm8, h]
theorem ZoU {xs : List Smp} {k : Nat} (hk : 0 < k) (h : k ≤ xs.length) : ∃ y, xs[k - 1]? = some y ∧ Zm8 xs k = some y ∧ idx xs ((k : Int) - 1) = some y := by
  obtain ⟨y, hy⟩ := ZU (xs := xs) (k := k - 1) (by omega)
  refine ⟨y, hy, by simp [Zm8, hy]; omega, ?_⟩
  have : ((k : Int) - 1) = ((k - 1 : Nat) : Int) := by omega
  rw [this, ZE hy]
theorem Zlw (s : api_Series) (h : (s.Samples.length : Int) ≤ 20000) :
    loop (t1 (JX s)) 0 = some ((fun r : Int × Int => if r.2 = 0 then Sum.inr () else Sum.inl r) (Zha none 0 s.Samples)) := by
  refine Zf2 (xs := s.Samples) (fun k => (fun r : Int × Int => if r.2 = 0 then Sum.inr () else Sum.inl r) (Zha (Zm8 s.Samples k) k (s.Samples.drop k))) (fun k x hx => ?_) ?_
  · have hlt := Xh hx
    rw [ZO hx, Zha]
    simp only [JX, ZE hx, hlt, decide_true, if_true, Option.bind_some, ZbG]
    by_cases hb : (wi x.At 0 1099511627776 && wi x.N (-1125899906842624) 1125899906842624 && wi x.Mark 0 4) = true
    · simp only [Bool.and_eq_true] at hb
      obtain ⟨⟨h1, h2⟩, h3⟩ := hb
      by_cases hh : (!decide (x.N = 0) && decide (x.Mark ≤ 1)) = true
      · right
        simp [ZaQ, h1, h2, h3, hh]
      · have hs : ZaQ x = none := by simp only [ZaQ, h1, h2, h3]; simp [hh]
        rw [hs]
        rcases Nat.eq_zero_or_pos k with rfl | hk
        · left
          simp [h1, h2, h3, hh, ZcP, Zm8, ZfL, hx]
        · obtain ⟨y, hy, hp, hi⟩ := ZoU (xs := s.Samples) hk (by omega)
          have hk' : (0 : Int) < k := by omega
          rw [hp]
          have hw : IntKind.i64.wrap ((k : Int) - 1) = (k : Int) - 1 := ZcP (by omega) (by omega)
          have hw2 : IntKind.i64.wrap ((k : Int) + 1) = (k : Int) + 1 := ZcP (by omega) (by omega)
          by_cases ho : x.At ≤ y.At
          · right; simp [h1, h2, h3, hh, hw, hi, hk, ZfL, ho]
          · left; simp [h1, h2, h3, hh, hw, hw2, hi, hk, ZfL, ho, Zm5 hx]
    · right
      have hs : ZaQ x = some 9 := by
        simp only [ZaQ]
        rw [if_pos (by cases h1 : wi x.At 0 1099511627776 <;> cases h2 : wi x.N (-1125899906842624) 1125899906842624 <;> cases h3 : wi x.Mark 0 4 <;> simp_all)]
      rw [hs]
      simp only [Bool.and_eq_true, not_and, Bool.not_eq_true] at hb
      cases h1 : wi x.At 0 1099511627776 <;> cases h2 : wi x.N (-1125899906842624) 1125899906842624 <;> cases h3 : wi x.Mark 0 4 <;> simp_all
  · simp [JX, List.drop_length, Zha]
theorem ZhY : ∀ (p : Option Smp) (k : Nat) (xs : List Smp), Zha p k xs = (-1, 0) ∨ (Zha p k xs).2 ≠ 0
  | _, _, [] => .inl rfl
  | p, k, x :: tl => by
    rw [Zha]
    split
    · rename_i e he; right; unfold ZaQ at he; split at he
      · cases he; simp
      · split at he <;> cases he; simp
    · split
      · right; simp
      · exact ZhY _ _ tl
theorem ZpC (s : api_Series) : Zbz s = some (chk s) := by
  simp only [Zbz, ZbG, Option.bind_some, chk]
  cases hd : wi s.Den 1 1000000 with
  | false => simp
  | true =>
    by_cases hl : (s.Samples.length : Int) ≤ 20000
    · rw [Zlw s hl]
      simp only [show ¬ 20000 < (s.Samples.length : Int) by omega, hl, decide_false, if_true, if_false, Bool.not_true, Option.bind_some, Bool.false_eq_true]
      rcases ZhY none 0 s.Samples with h | h
      · simp [h]
      · simp [h]
    · simp [hl, show 20000 < (s.Samples.length : Int) by omega]
theorem Zlk {x : Smp} {e : Int} (h : ZaQ x = some e) : e = 9 ∨ e = 2 := by
  unfold ZaQ at h; split at h
  · cases h; simp
  · split at h <;> cases h; simp
theorem Zpy (s : api_Series) : ZbA s = some (chk s).2 := by simp [ZbA, ZpC]
structure SerOK (s : api_Series) : Prop where
  den : 1 ≤ s.Den ∧ s.Den ≤ 1000000
  len : (s.Samples.length : Int) ≤ 20000
  at' : ∀ (k : Nat) x, s.Samples[k]? = some x → (0 ≤ x.At ∧ x.At ≤ 1099511627776) ∧ (-1125899906842624 ≤ x.N ∧ x.N ≤ 1125899906842624) ∧ (0 ≤ x.Mark ∧ x.Mark ≤ 4) ∧ (x.N ≠ 0 → 2 ≤ x.Mark)
  rise : ∀ (i j : Nat) x y, i < j → s.Samples[i]? = some x → s.Samples[j]? = some y → x.At < y.At
theorem Zi9 : ∀ (p : Option Smp) (k : Nat) (xs : List Smp), (Zha p k xs).2 = 0 →
    (∀ (j : Nat) x, xs[j]? = some x → ZaQ x = none ∧ ∀ q, p = some q → q.At < x.At) ∧ (∀ (i j : Nat) x y, i < j → xs[i]? = some x → xs[j]? = some y → x.At < y.At)
  | _, _, [], _ => ⟨fun j x h => by simp at h, fun i j x y _ h => by simp at h⟩
  | p, k, x :: tl, h => by
    rw [Zha] at h
    cases hs : ZaQ x with
    | some e => rw [hs] at h; rcases Zlk hs with rfl | rfl <;> simp at h
    | none =>
      rw [hs] at h
      simp only at h
      split at h
      · simp at h
      · rename_i ho
        obtain ⟨h1, h2⟩ := Zi9 _ _ tl h
        have hpx : ∀ q, p = some q → q.At < x.At := fun q hq => by subst hq; simpa [ZfL] using ho
        refine ⟨fun j y hy => ?_, fun i j u v hij hu hv => ?_⟩
        · cases j with
          | zero => simp at hy; subst hy; exact ⟨hs, hpx⟩
          | succ j =>
            have hy' : tl[j]? = some y := by simpa using hy
            obtain ⟨g1, g2⟩ := h1 j y hy'
            exact ⟨g1, fun q hq => Int.lt_trans (hpx q hq) (g2 x rfl)⟩
        · cases j with
          | zero => omega
          | succ j =>
            have hv' : tl[j]? = some v := by simpa using hv
            cases i with
            | zero => simp at hu; subst hu; exact (h1 j v hv').2 x rfl
            | succ i => exact h2 i j u v (by omega) (by simpa using hu) hv'
theorem Znx {s : api_Series} (h : (chk s).2 = 0) : SerOK s := by
  unfold chk at h
  split at h
  · rename_i hd
    split at h
    · rename_i hl
      obtain ⟨h1, h2⟩ := Zi9 none 0 s.Samples h
      refine ⟨ZcI.1 hd, hl, fun k x hx => ?_, h2⟩
      have := (h1 k x hx).1
      unfold ZaQ at this
      split at this
      · cases this
      · rename_i hb
        split at this
        · cases this
        · rename_i hh
          simp only [Bool.not_eq_true', Bool.not_eq_false, Bool.and_eq_true, ZcI] at hb
          simp only [Bool.and_eq_true, Bool.not_eq_true', decide_eq_false_iff_not, decide_eq_true_eq] at hh
          exact ⟨hb.1.1, hb.1.2, hb.2, fun h0 => by omega⟩
    · simp at h
  · simp at h
end Go.Vx

namespace Go.Vx
open Go Go.RowKit
def z0 : Smp := api_Sample.mk 0 0 0
end Go.Vx

namespace Go.Vx
open Go Go.RowKit
end Go.Vx

namespace Go.Vx
open Go Go.RowKit
end Go.Vx

namespace Go.Vx
open Go Go.RowKit Go.Lib
end Go.Vx

namespace Go.Vx
open Go Go.RowKit
theorem Zr6 {a b : Int} (h0 : 0 ≤ a) (hb : 1 ≤ b) : rem a b = some (a % b) := by
  unfold rem
  rw [if_neg (by omega), Int.tmod_eq_emod_of_nonneg h0]
theorem Zr8 {a b : Int} (h0 : 0 ≤ a) (ha : a ≤ 9223372036854775807) (hb : 1 ≤ b) : quo .i64 a b = some (a / b) := by
  unfold quo
  rw [if_neg (by omega), Int.tdiv_eq_ediv_of_nonneg h0]
  have h1 : 0 ≤ a / b := Int.ediv_nonneg h0 (by omega)
  have h2 : a / b ≤ a := Int.ediv_le_self _ h0
  congr 1
  exact ZX (by omega) (by omega)
structure TmOK (p : api_Param) (first : Int) (cells : List api_Cell) : Prop where
  len : cells.length ≤ 1000
  fr : ∀ c ∈ cells, 0 ≤ c.Frame ∧ c.Frame ≤ 15
  inv : CellInv p first [] cells
  tim : 1 ≤ p.Times ∧ p.Times ≤ 57
  fst : 0 ≤ first ∧ first ≤ 4294967296
theorem ZiL {p : api_Param} {first : Int} {cells : List api_Cell} (h : TmOK p first cells) : XN p cells first = some (cells.map (tmN p first)) := by
  have hl := h.len
  have hT := h.tim
  have hf := h.fst
  have := ZeI (xs := cells) (body := QZ p cells first) (I := fun acc k => acc.length = k) (F := fun acc k => acc ++ (cells.drop k).map (tmN p first))
    (fun acc k c hI hx => by
      have hlt := Xh hx
      have hc := List.mem_of_getElem? hx
      have hfr := h.fr c hc
      have hp := h.inv.pos c hc
      have hb := ZjB (x := c.Index % p.Times) (T := p.Times) hT.1 (Int.emod_nonneg _ (by omega)) (Int.emod_lt_of_pos _ (by omega))
      have hm0 : 0 ≤ c.Index % p.Times := Int.emod_nonneg _ (by omega)
      have hm1 : c.Index % p.Times < p.Times := Int.emod_lt_of_pos _ (by omega)
      left
      refine ⟨acc ++ [tmN p first c], ?_, by simp [hI], by rw [ZO hx]; simp⟩
      simp only [QZ, hlt, decide_true, if_true, ZE hx, Option.bind_some]
      rw [Zr6 hp hT.1, Option.bind_some, ZX (by omega) (by omega), Zr8 (by omega) (by omega) hT.1, Option.bind_some, ZX (z := first + c.Frame) (by omega) (by omega), ZX (z := 64 * (first + c.Frame)) (by omega) (by omega), ZX (by omega) (by omega), Zb0 (by simp; omega), Option.bind_some, ZX (by omega) (by omega)]
      rfl)
    (fun acc hI => by simp [QZ]) (a0 := []) rfl
  unfold XN
  rw [this]
  simp
theorem ZnA {p : api_Param} (h : Ze6 p = 0) : Zcf ⟨0, [p]⟩ = 0 := by
  have hp := Zg6 h
  have h9 := Zav (number := 0) hp.toPartsOK
  have e : allC 0 [p] = cellsN 0 p := by simp [allC]
  unfold Zcf
  simp only
  rw [if_pos (by decide), if_pos (by simp), e]
  have hf : ZY (g1M [p]) 0 [p] = none := by simp [ZY, g1M, h]
  rw [hf]
  simp only [ZdR]
  rw [if_pos (by omega), if_pos hp.uniq]
theorem ZdB {p : api_Param} (h : ParOK p) (number : Int) : ∀ c ∈ cellsN number p, (0 ≤ c.Frame ∧ c.Frame ≤ 15) ∧ c.Param = number := by
  intro c hc
  obtain ⟨hE, hF, _⟩ := Xw h.tim
  obtain ⟨i, f, j, hf, hj, rfl⟩ := Zd1 hc
  have := Zgg (p := p) (by omega) 17 p.First f hF.1 hf
  exact ⟨⟨this.1, by have := this.2.1; simp only [Zbk]; omega⟩, rfl⟩
theorem Zsi {p : api_Param} (h : ParOK p) (number : Int) {first : Int} (hf : 0 ≤ first ∧ first ≤ 4294967296) : TmOK p first (cellsN number p) where
  len := by have := Zav (number := number) h.toPartsOK; omega
  fr := fun c hc => (ZdB h number c hc).1
  inv := Zjo h number first
  tim := (Xw h.tim).2.2.1
  fst := hf
theorem Zos (m : api_Map) (hs : ZcU m) : ZcT m = some (if Zcf m = 0 then (allC 0 m.Params, 0) else ([], Zcf m)) := by
  obtain ⟨a, hc⟩ := ZnY m hs
  unfold ZcT
  rw [hc, Option.bind_some]
  by_cases h : Zcf m = 0
  · rw [if_neg (by simp [h]), if_pos h, ZmC (ZeH h)]; rfl
  · rw [if_pos (Zkw h), if_neg h]
end Go.Vx

namespace Go.Vx
open Go Go.RowKit
def zr : api_Rest := api_Rest.mk 0 (Vector.replicate 64 0) (Vector.replicate 64 0) false 0 false
structure RSrt (l : List api_Rest) : Prop where
  len : l.length ≤ 5000
  num : ∀ r ∈ l, 0 ≤ r.Number ∧ r.Number ≤ 4194303
  srt : l.Pairwise fun a b => a.Number < b.Number
def below (x : Int) (r : api_Rest) : Bool := decide (r.Number < x)
def JA (l : List api_Rest) (x : Int) : Nat := (l.filter (below x)).length
theorem Zkv : ∀ {l : List api_Rest} (x : Int), (l.Pairwise fun a b => a.Number < b.Number) → l.take (JA l x) = l.filter (below x) ∧ l.drop (JA l x) = l.filter (fun r => !below x r)
  | [], x, _ => by simp [JA]
  | a :: tl, x, h => by
    obtain ⟨h1, h2⟩ := List.pairwise_cons.1 h
    obtain ⟨i1, i2⟩ := Zkv x h2
    unfold JA at *
    cases hb : below x a
    · have hnil : tl.filter (below x) = [] := by
        rw [List.filter_eq_nil_iff]
        intro r hr
        have := h1 r hr
        unfold below at hb ⊢
        simp only [decide_eq_false_iff_not, decide_eq_true_eq] at hb ⊢
        omega
      have e : (a :: tl).filter (below x) = [] := by rw [List.filter_cons, hb]; simpa using hnil
      have e2 : tl.filter (fun r => !below x r) = tl := by
        rw [List.filter_eq_self]
        intro r hr
        have := List.filter_eq_nil_iff.1 hnil r hr
        simpa using this
      rw [e, List.length_nil, List.take_zero, List.drop_zero, List.filter_cons, hb, e2]
      exact ⟨rfl, rfl⟩
    · rw [List.filter_cons, List.filter_cons, hb]
      simp only [if_true, Bool.not_true, Bool.false_eq_true, if_false, List.length_cons, List.take_succ_cons, List.drop_succ_cons]
      exact ⟨by rw [i1], i2⟩
theorem Zjv {l : List api_Rest} (h : l.Pairwise fun a b => a.Number < b.Number) {x : Int} {k : Nat} {r : api_Rest} (hr : l[k]? = some r) : r.Number < x ↔ k < JA l x := by
  obtain ⟨t1, t2⟩ := Zkv x h
  have hl := (List.getElem?_eq_some_iff.1 hr).1
  constructor
  · intro hx
    rcases Nat.lt_or_ge k (JA l x) with hk | hk
    · exact hk
    · have hd : (l.drop (JA l x))[k - JA l x]? = some r := by rw [List.getElem?_drop, show JA l x + (k - JA l x) = k by omega]; exact hr
      rw [t2] at hd
      have := (List.mem_filter.1 (List.mem_of_getElem? hd)).2
      unfold below at this
      rw [decide_eq_true hx] at this
      cases this
  · intro hk
    have hd : (l.take (JA l x))[k]? = some r := by rw [List.getElem?_take, if_pos hk]; exact hr
    rw [t1] at hd
    have := (List.mem_filter.1 (List.mem_of_getElem? hd)).2
    unfold below at this
    simpa using this
theorem Zpg (l : List api_Rest) (x : Int) : JA l x ≤ l.length := List.length_filter_le _ _
theorem Znr {l : List api_Rest} {x y : Int} (h : x ≤ y) : JA l x ≤ JA l y := by
  unfold JA
  induction l with
  | nil => exact Nat.le_refl _
  | cons a tl ih =>
    rw [List.filter_cons, List.filter_cons]
    unfold below at *
    by_cases h1 : a.Number < x
    · rw [if_pos (by simpa using h1), if_pos (by simp; omega)]; simp only [List.length_cons]; omega
    · rw [if_neg (by simpa using h1)]
      split
      · simp only [List.length_cons]; omega
      · exact ih
def ZfR (l : List api_Rest) (s : Int) : List api_Rest := (l.take (JA l (16 * s + 16))).drop (JA l (16 * s))
theorem ZiG {l : List api_Rest} (h : RSrt l) {s : Int} {r : api_Rest} (hr : r ∈ ZfR l s) : 16 * s ≤ r.Number ∧ r.Number < 16 * s + 16 ∧ r ∈ l := by
  unfold ZfR at hr
  obtain ⟨k, hk⟩ := List.getElem?_of_mem hr
  rw [List.getElem?_drop, List.getElem?_take] at hk
  split at hk
  · rename_i hlt
    have h1 := Zjv h.srt (x := 16 * s + 16) hk
    have h2 := Zjv h.srt (x := 16 * s) hk
    refine ⟨?_, h1.2 hlt, List.mem_of_getElem? hk⟩
    rcases Int.lt_or_le r.Number (16 * s) with hc | hc
    · have := h2.1 hc; omega
    · exact hc
  · cases hk
theorem ZnP {l : List api_Rest} (h : RSrt l) (s : Int) : (ZfR l s).Pairwise fun a b => a.Number < b.Number :=
  (h.srt.sublist (List.take_sublist _ _)).sublist (List.drop_sublist _ _)
def QV (L : List api_Rest) (f : Int) : api_Rest := (L.find? fun r => decide (r.Number % 16 = f)).getD zr
def ZkG (v : Vector api_Rest 16) (r : api_Rest) : Vector api_Rest 16 := Qd v (r.Number % 16) r
def ZgP (L : List api_Rest) : Vector api_Rest 16 := L.foldl ZkG (Vector.replicate 16 zr)
theorem Zol (v : Vector api_Rest 16) (r : api_Rest) {f : Nat} (hf : f < 16) : (ZkG v r).toList.getD f zr = if r.Number % 16 = (f : Int) then r else v.toList.getD f zr := by
  unfold ZkG
  rw [ZcD, List.getD_eq_getElem?_getD, List.getElem?_set, List.getD_eq_getElem?_getD]
  by_cases h : r.Number % 16 = (f : Int)
  · rw [if_pos (by omega), if_pos (by simp; omega), if_pos h]; rfl
  · rw [if_neg (by omega), if_neg h]
theorem ZkI : ∀ (L : List api_Rest) (v : Vector api_Rest 16) {s : Int}, (∀ r ∈ L, 16 * s ≤ r.Number ∧ r.Number < 16 * s + 16) → (L.Pairwise fun a b => a.Number < b.Number) → ∀ f : Nat, f < 16 →
    (L.foldl ZkG v).toList.getD f zr = (L.find? fun r => decide (r.Number % 16 = (f : Int))).getD (v.toList.getD f zr)
  | [], _, _, _, _, _, _ => rfl
  | r :: tl, v, s, hb, hp, f, hf => by
    obtain ⟨h1, h2⟩ := List.pairwise_cons.1 hp
    have hr := hb r List.mem_cons_self
    rw [List.foldl_cons, ZkI tl (ZkG v r) (fun q hq => hb q (List.mem_cons_of_mem _ hq)) h2 f hf, Zol v r hf, List.find?_cons]
    by_cases h : r.Number % 16 = (f : Int)
    · rw [decide_eq_true h, if_pos h]
      have : (tl.find? fun q => decide (q.Number % 16 = (f : Int))) = none := by
        rw [List.find?_eq_none]
        intro q hq hc
        have b1 := hb q (List.mem_cons_of_mem _ hq)
        have b2 := h1 q hq
        simp only [decide_eq_true_eq] at hc
        omega
      rw [this]; rfl
    · rw [decide_eq_false h, if_neg h]
theorem ZpQ {L : List api_Rest} {s : Int} (hb : ∀ r ∈ L, 16 * s ≤ r.Number ∧ r.Number < 16 * s + 16) (hp : L.Pairwise fun a b => a.Number < b.Number) {f : Int} (hf : 0 ≤ f ∧ f ≤ 15) : ZI (ZgP L) f = some (QV L f) := by
  obtain ⟨k, rfl⟩ : ∃ k : Nat, f = k := ⟨f.toNat, by omega⟩
  have := ZkI L (Vector.replicate 16 zr) hb hp k (by omega)
  have hz : (Vector.replicate 16 zr).toList.getD k zr = zr := by
    rw [Vector.toList_replicate, List.getD_eq_getElem?_getD, List.getElem?_replicate]; split <;> rfl
  rw [hz] at this
  unfold ZI
  rw [if_pos (by omega), Int.toNat_natCast]
  obtain ⟨x, hx⟩ := ZU (xs := (ZgP L).toList) (k := k) (by simp; omega)
  rw [List.getD_eq_getElem?_getD] at this
  unfold ZgP at hx ⊢
  rw [hx] at this ⊢
  exact congrArg some this
end Go.Vx

namespace Go.Vx
open Go Go.RowKit
theorem ZmL {l : List api_Rest} (h : RSrt l) {s : Int} (hs : 0 ≤ s ∧ s ≤ 300000) :
    loop (t2 (Z1 s)) (l.drop (JA l (16 * s)), Vector.replicate 16 zr) = some (l.drop (JA l (16 * s + 16)), ZgP (ZfR l s)) := by
  have hm := Znr (l := l) (show 16 * s ≤ 16 * s + 16 by omega)
  have hc := Zpg l (16 * s + 16)
  have hl := h.len
  refine Za5 (body := t2 (Z1 s)) (fun p => ∃ k : Nat, JA l (16 * s) ≤ k ∧ k ≤ JA l (16 * s + 16) ∧ p = (l.drop k, ((l.take k).drop (JA l (16 * s))).foldl ZkG (Vector.replicate 16 zr))) (fun p => p.1.length) (fun _ => (l.drop (JA l (16 * s + 16)), ZgP (ZfR l s))) ?_ _ ⟨JA l (16 * s), Nat.le_refl _, hm, ?_⟩
  · rintro _ ⟨k, h1, h2, rfl⟩
    show (∃ s', Z1 s (l.drop k) _ = _ ∧ _) ∨ Z1 s (l.drop k) _ = _
    generalize hv : ((l.take k).drop (JA l (16 * s))).foldl ZkG (Vector.replicate 16 zr) = v
    show (∃ s', Z1 s (l.drop k) v = _ ∧ _) ∨ Z1 s (l.drop k) v = _
    rcases Nat.lt_or_ge k l.length with hlt | hge
    · obtain ⟨r, hr⟩ := ZU hlt
      have hb := h.num r (List.mem_of_getElem? hr)
      have i1 := Zjv h.srt (x := 16 * s + 16) hr
      have i2 := Zjv h.srt (x := 16 * s) hr
      have hdl : (l.drop k).length = l.length - k := List.length_drop
      have hpos : decide (0 < ((l.drop k).length : Int)) = true := by rw [decide_eq_true_eq, hdl]; omega
      have h0 : idx (l.drop k) 0 = some r := by rw [ZO hr]; rfl
      have hq : quo .i64 r.Number 16 = some (r.Number / 16) := by
        unfold quo
        rw [if_neg (by decide), Int.tdiv_eq_ediv_of_nonneg hb.1, w64 (by omega) (by omega)]
      have hrem : rem r.Number 16 = some (r.Number % 16) := Ziv hb.1 _ (by decide)
      obtain ⟨x5, hx5⟩ : ∃ x, ZI v (r.Number % 16) = some x := by
        unfold ZI
        rw [if_pos (by omega)]
        exact ZU (by simp; omega)
      have hsl : slc (l.drop k) 1 ((l.drop k).length : Int) = some (l.drop (k + 1)) := by
        have := ZrH (l := l.drop k) (a := 1) (b := (l.drop k).length) (by omega) (Nat.le_refl _)
        rw [show ((1 : Nat) : Int) = 1 from rfl] at this
        rw [this, List.take_of_length_le (Nat.le_refl _), List.drop_drop]
      unfold Z1
      rw [hpos, ZkA, h0, Option.bind_some, ZkA, hq, Option.bind_some, Bool.true_and]
      by_cases hx : r.Number / 16 ≤ s
      · left
        have hk := i1.1 (by omega)
        have hge2 : 16 * s ≤ r.Number := by
          rcases Int.lt_or_le r.Number (16 * s) with hc2 | hc2
          · have := i2.1 hc2; omega
          · exact hc2
        have he : r.Number / 16 = s := by omega
        refine ⟨(l.drop (k + 1), ZkG v r), ?_, ⟨k + 1, by omega, by omega, ?_⟩, ?_, rfl⟩
        · rw [if_pos (by simpa using hx), Option.bind_some, hq, Option.bind_some, if_pos (by simpa using he), Option.bind_some, hrem, Option.bind_some, Option.bind_some, hx5, Option.bind_some, hsl, Option.bind_some]
          rfl
        · have : (l.take (k + 1)).drop (JA l (16 * s)) = (l.take k).drop (JA l (16 * s)) ++ [r] := by
            rw [List.take_add_one, hr, List.drop_append_of_le_length (by rw [List.length_take]; omega)]; rfl
          rw [this, List.foldl_append, hv]; rfl
        · show (l.drop (k + 1)).length < (l.drop k).length
          rw [List.length_drop, List.length_drop]; omega
      · right
        have hkk : k = JA l (16 * s + 16) := by
          rcases Nat.lt_or_ge k (JA l (16 * s + 16)) with hq2 | hq2
          · have := i1.2 hq2; omega
          · omega
        rw [if_neg (by simpa using hx), ← hv, hkk]; rfl
    · right
      have hkk : k = JA l (16 * s + 16) := by omega
      have hd : l.drop k = [] := List.drop_eq_nil_of_le hge
      unfold Z1
      rw [hd, List.length_nil]
      rw [show decide ((0 : Int) < ((0 : Nat) : Int)) = false from rfl, show (false == true) = false from rfl, ZrE, Option.bind_some, ZrE, Option.bind_some, Bool.false_and, if_neg Bool.false_ne_true, ← hv, ← hkk, hd]
      unfold ZfR ZgP
      rw [← hkk]
  · have hnil : (l.take (JA l (16 * s))).drop (JA l (16 * s)) = [] := List.drop_eq_nil_of_le (by rw [List.length_take]; omega)
    rw [hnil]; rfl
def ZiK (L : List api_Rest) (q : api_Place) : Nat := (wd (QV L q.Frame).Frame q.Word.toNat % 2048).toNat
def Zgi (L : List api_Rest) : Nat → List api_Place → Nat
  | n, [] => n
  | n, q :: tl => Zgi L (n * 2 ^ q.Bits.toNat + ZiK L q / 2 ^ q.Low.toNat % 2 ^ q.Bits.toNat) tl
theorem Zmr (L : List api_Rest) : ∀ (ps : List api_Place) (n s : Nat), n < 2 ^ s → Zgi L n ps < 2 ^ (s + sB ps)
  | [], n, s, h => by simpa [Zgi, sB] using h
  | q :: tl, n, s, h => by
    have hm : ZiK L q / 2 ^ q.Low.toNat % 2 ^ q.Bits.toNat < 2 ^ q.Bits.toNat := Nat.mod_lt _ (Nat.two_pow_pos _)
    have h1 : (n + 1) * 2 ^ q.Bits.toNat ≤ 2 ^ s * 2 ^ q.Bits.toNat := Nat.mul_le_mul_right _ h
    rw [← Nat.pow_add, Nat.add_mul, Nat.one_mul] at h1
    have := Zmr L tl (n * 2 ^ q.Bits.toNat + ZiK L q / 2 ^ q.Low.toNat % 2 ^ q.Bits.toNat) (s + q.Bits.toNat) (by omega)
    have e : s + sB (q :: tl) = s + q.Bits.toNat + sB tl := by simp [sB]; omega
    rw [e, Zgi]; exact this
def stP (L : List api_Rest) (q : api_Place) : Int := min (wd (QV L q.Frame).States q.Word.toNat) (wd (QV L q.Frame).States 3)
def Zei (L : List api_Rest) : Int → List api_Place → Int
  | a, [] => a
  | a, q :: tl => Zei L (min a (stP L q)) tl
def Zj7 (L : List api_Rest) (ver : Int) (q : api_Place) : Bool := !decide (wd (QV L q.Frame).Frame 3 % 2048 = ver)
structure CellR (c : api_Cell) : Prop where
  len : c.Places.length ≤ 8
  pl : ∀ q ∈ c.Places, placeR q
  bits : sB c.Places ≤ 40
def RFr (L : List api_Rest) : Prop := ∀ r ∈ L, fU r.Frame
theorem Zis {L : List api_Rest} (h : RFr L) (f : Int) : fU (QV L f).Frame := by
  unfold QV
  cases hf : L.find? (fun r => decide (r.Number % 16 = f)) with
  | none =>
    intro i
    have z1 : wd zr.Frame i = 0 := by
      show (Vector.replicate 64 (0 : Int)).toList.getD i 0 = 0
      rw [Vector.toList_replicate, List.getD_eq_getElem?_getD, List.getElem?_replicate]; split <;> rfl
    show 0 ≤ wd zr.Frame i ∧ wd zr.Frame i ≤ 65535
    rw [z1]; exact ⟨by decide, by decide⟩
  | some r => exact h r (List.mem_of_find?_eq_some hf)
theorem ZpD {x : Int} (h : 0 ≤ x ∧ x ≤ 65535) {lo bi : Nat} (hb : lo + bi ≤ 11) : (x / (2 : Int) ^ lo) % (2 : Int) ^ bi = (((x % 2048).toNat / 2 ^ lo % 2 ^ bi : Nat) : Int) := by
  obtain ⟨n, rfl⟩ : ∃ n : Nat, x = n := ⟨x.toNat, by omega⟩
  have e1 : (n : Int) / (2 : Int) ^ lo = ((n / 2 ^ lo : Nat) : Int) := by push_cast; rfl
  have e2 : ((n / 2 ^ lo : Nat) : Int) % (2 : Int) ^ bi = ((n / 2 ^ lo % 2 ^ bi : Nat) : Int) := by push_cast; rfl
  have e11 : (2 : Nat) ^ 11 = 2048 := by decide
  have e3 : ((n : Int) % 2048).toNat = n % 2 ^ 11 := by rw [e11]; omega
  rw [e1, e2, e3]
  congr 1
  refine Nat.eq_of_testBit_eq fun i => ?_
  rw [Nat.testBit_mod_two_pow, Nat.testBit_mod_two_pow, Nat.testBit_div_two_pow, Nat.testBit_div_two_pow, Nat.testBit_mod_two_pow]
  by_cases hi : i < bi
  · rw [decide_eq_true hi, decide_eq_true (show i + lo < 11 by omega)]; simp
  · rw [decide_eq_false hi]; simp
end Go.Vx

namespace Go.Vx
open Go Go.RowKit
theorem Zo3 (L : List api_Rest) (q : api_Place) : ZiK L q ≤ 2047 := by unfold ZiK; omega
theorem Zro {q : api_Place} (hq : placeR q) : i64 (((2 ^ q.Bits.toNat : Nat) : Int) - 1) = (2 : Int) ^ q.Bits.toNat - 1 := by
  obtain ⟨_, _, h3, h4, h5⟩ := hq
  have ep : ((2 ^ q.Bits.toNat : Nat) : Int) = (2 : Int) ^ q.Bits.toNat := by push_cast; rfl
  have : 2 ^ q.Bits.toNat ≤ 2 ^ 11 := Nat.pow_le_pow_right (by decide) (by omega)
  rw [show (2 : Nat) ^ 11 = 2048 by decide] at this
  have hp := Nat.two_pow_pos q.Bits.toNat
  rw [Xu (by omega) (by omega), ep]
theorem Zm3 {L : List api_Rest} (hU : RFr L) {q : api_Place} (hq : placeR q) :
    XJ .i64 (wd (QV L q.Frame).Frame q.Word.toNat / (2 : Int) ^ q.Low.toNat) (i64 (((2 ^ q.Bits.toNat : Nat) : Int) - 1)) = XJ .i64 ((ZiK L q / 2 ^ q.Low.toNat : Nat) : Int) (i64 (((2 ^ q.Bits.toNat : Nat) : Int) - 1)) := by
  have hw := Zis hU q.Frame q.Word.toNat
  have hq' := hq
  obtain ⟨_, _, h3, h4, h5⟩ := hq'
  rw [Zro hq, Zbr (by omega), Zbr (by omega), ZpD hw (by omega)]
  unfold ZiK
  push_cast; rfl
theorem Zpu {x : Int} {q : api_Place} (hq : placeR q) : shr .i64 x q.Low = some (x / (2 : Int) ^ q.Low.toNat) := by
  obtain ⟨_, _, h3, _⟩ := hq
  have := ZjE x (k := q.Low.toNat) (by omega)
  rw [show ((q.Low.toNat : Nat) : Int) = q.Low by omega] at this
  exact this
structure SecOK (L : List api_Rest) (s : Int) : Prop where
  num : ∀ r ∈ L, 16 * s ≤ r.Number ∧ r.Number < 16 * s + 16
  srt : L.Pairwise fun a b => a.Number < b.Number
  fr : RFr L
  len : L.length ≤ 5000
theorem Zna {L : List api_Rest} {s : Int} (h : SecOK L s) {m : api_Map} {c : api_Cell} (hc : CellR c) :
    loop (t4 (Qn m c (ZgP L))) (3, 0, false, 0) = some (Zei L 3 c.Places, ((Zgi L 0 c.Places : Nat) : Int), c.Places.any (Zj7 L m.Version)) := by
  have hl8 := hc.len
  have := Za5 (body := t4 (Qn m c (ZgP L))) (fun p => ∃ (k n b : Nat), p.2.2.2 = (k : Int) ∧ k ≤ c.Places.length ∧ p.2.1 = (n : Int) ∧ n < 2 ^ b ∧ b + sB (c.Places.drop k) ≤ 40) (fun p => c.Places.length - p.2.2.2.toNat)
    (fun p => (Zei L p.1 (c.Places.drop p.2.2.2.toNat), ((Zgi L p.2.1.toNat (c.Places.drop p.2.2.2.toNat) : Nat) : Int), p.2.2.1 || (c.Places.drop p.2.2.2.toNat).any (Zj7 L m.Version))) (by
    rintro ⟨a, raw, o, i⟩ ⟨k, n, b, hi, hk, hraw, hn, hb⟩
    simp only at hi hraw
    subst hi hraw
    show (∃ s', Qn m c (ZgP L) a (n : Int) o (k : Int) = _ ∧ _) ∨ Qn m c (ZgP L) a (n : Int) o (k : Int) = _
    simp only [Int.toNat_natCast]
    rcases Nat.lt_or_ge k c.Places.length with hlt | hge
    · obtain ⟨q, hq⟩ := ZU hlt
      have hpq := hc.pl q (List.mem_of_getElem? hq)
      have hpq' := hpq
      obtain ⟨p1, p2, p3, p4, p5⟩ := hpq'
      rw [ZO hq] at hb
      have e : sB (q :: c.Places.drop (k + 1)) = q.Bits.toNat + sB (c.Places.drop (k + 1)) := by simp [sB]
      rw [e] at hb
      obtain ⟨s1, s2, s3, s4, _, _, s7⟩ := ZnX hpq hn (by omega) (Zo3 L q)
      have hw := Zis h.fr q.Frame q.Word.toNat
      have hw3 := Zis h.fr q.Frame 3
      obtain ⟨j, hj⟩ : ∃ j : Nat, q.Word = j := ⟨q.Word.toNat, by omega⟩
      have v1 : ZI (QV L q.Frame).States q.Word = some (wd (QV L q.Frame).States q.Word.toNat) := by rw [hj, Int.toNat_natCast]; exact Q1 _ (by omega)
      have v2 : ZI (QV L q.Frame).Frame q.Word = some (wd (QV L q.Frame).Frame q.Word.toNat) := by rw [hj, Int.toNat_natCast]; exact Q1 _ (by omega)
      have v3 : ZI (QV L q.Frame).States 3 = some (wd (QV L q.Frame).States 3) := Q1 _ (i := 3) (by decide)
      have v4 : ZI (QV L q.Frame).Frame 3 = some (wd (QV L q.Frame).Frame 3) := Q1 _ (i := 3) (by decide)
      have hd3 : i64 (XJ .u16 (wd (QV L q.Frame).Frame 3) 2047) = wd (QV L q.Frame).Frame 3 % 2048 := Option.some.inj (ZfW hw3)
      have hold : ∃ x5, (gd (o == false) 0 (ZI (QV L q.Frame).Frame 3)) = some x5 ∧ (o || (!decide (i64 (XJ .u16 x5 2047) = m.Version))) = (o || Zj7 L m.Version q) := by
        cases o
        · exact ⟨_, by rw [v4]; rfl, by rw [hd3]; rfl⟩
        · exact ⟨0, rfl, rfl⟩
      obtain ⟨x5, o1, o2⟩ := hold
      left
      refine ⟨(min (min a (wd (QV L q.Frame).States q.Word.toNat)) (wd (QV L q.Frame).States 3), ((n * 2 ^ q.Bits.toNat + ZiK L q / 2 ^ q.Low.toNat % 2 ^ q.Bits.toNat : Nat) : Int), (o || Zj7 L m.Version q), (k : Int) + 1), ?_, ⟨k + 1, _, b + q.Bits.toNat, by push_cast; rfl, hlt, rfl, s7, by omega⟩, by simp only; omega, ?_⟩
      · unfold Qn
        rw [if_pos (by simp; omega), ZE hq, Option.bind_some, ZpQ h.num h.srt p1, Option.bind_some, v1, Option.bind_some, v3, Option.bind_some, o1, Option.bind_some, s1, Option.bind_some, v2, Option.bind_some, Xu (z := wd (QV L q.Frame).Frame q.Word.toNat) (by omega) (by omega), Zpu hpq, Option.bind_some, s3, Option.bind_some, Zm3 h.fr hpq, s4, o2, Xu (z := (k : Int) + 1) (by omega) (by omega)]
      · simp only
        rw [ZO hq, show ((k : Int) + 1).toNat = k + 1 by omega, Int.toNat_natCast, Zei, Zgi, List.any_cons, Bool.or_assoc]
        unfold stP
        rw [← Int.min_assoc]
    · right
      have hd : c.Places.drop k = [] := List.drop_eq_nil_of_le hge
      unfold Qn
      rw [if_neg (by simp; omega), hd]
      simp [Zei, Zgi]) (3, 0, false, 0) ⟨0, 0, 0, rfl, Nat.zero_le _, rfl, by decide, by have := hc.bits; simpa using this⟩
  simpa using this
end Go.Vx

namespace Go.Vx
open Go Go.RowKit
theorem Zg5 (L : List api_Rest) : ∀ (ps : List api_Place) (a z : Int), z ≤ Zei L a ps ↔ z ≤ a ∧ ∀ q ∈ ps, z ≤ stP L q
  | [], a, z => by simp [Zei]
  | q :: tl, a, z => by
    rw [Zei, Zg5 L tl, Int.le_min]
    constructor
    · rintro ⟨⟨h1, h2⟩, h3⟩
      exact ⟨h1, fun q' hq' => by rcases List.mem_cons.1 hq' with rfl | h; exact h2; exact h3 q' h⟩
    · rintro ⟨h1, h2⟩
      exact ⟨⟨h1, h2 q List.mem_cons_self⟩, fun q' hq' => h2 q' (List.mem_cons_of_mem _ hq')⟩
end Go.Vx

namespace Go.Vx
open Go Go.RowKit
def smpV (ver : Int) (p : api_Param) (L : List api_Rest) (ps : List api_Place) : Int × Int :=
  if Zei L 3 ps = 0 ∨ ps.any (Zj7 L ver) = true then (0, 0) else if (dec p ((Zgi L 0 ps : Nat) : Int)).2 = true then ((dec p ((Zgi L 0 ps : Nat) : Int)).1, Zei L 3 ps + 1) else (0, 1)
def RSt (L : List api_Rest) : Prop := ∀ r ∈ L, ∀ i, i < 64 → 0 ≤ wd r.States i
theorem ZkJ {L : List api_Rest} (h : RSt L) (f : Int) (i : Nat) (hi : i < 64) : 0 ≤ wd (QV L f).States i := by
  unfold QV
  cases hf : L.find? (fun r => decide (r.Number % 16 = f)) with
  | none =>
    have z1 : wd zr.States i = 0 := by
      show (Vector.replicate 64 (0 : Int)).toList.getD i 0 = 0
      rw [Vector.toList_replicate, List.getD_eq_getElem?_getD, List.getElem?_replicate]; split <;> rfl
    show 0 ≤ wd zr.States i
    rw [z1]; decide
  | some r => exact h r (List.mem_of_find?_eq_some hf) i hi
theorem Znu {L : List api_Rest} (h : RSt L) {ps : List api_Place} (hp : ∀ q ∈ ps, placeR q) : 0 ≤ Zei L 3 ps ∧ Zei L 3 ps ≤ 3 := by
  refine ⟨(Zg5 L ps 3 0).2 ⟨by decide, fun q hq => ?_⟩, ((Zg5 L ps 3 (Zei L 3 ps)).1 (Int.le_refl _)).1⟩
  obtain ⟨_, p2, _⟩ := hp q hq
  unfold stP
  exact Int.le_min.2 ⟨ZkJ h _ _ (by omega), ZkJ h _ _ (by decide)⟩
theorem Zri {p : api_Param} (hp : ParOK p) (L : List api_Rest) {c : api_Cell} (hb : (sB c.Places : Int) = bitsN p) : ((Zgi L 0 c.Places : Nat) : Int) < 2 * HH p := by
  have hlt := Zmr L c.Places 0 0 (by decide)
  rw [Nat.zero_add] at hlt
  have e2 : (bitsN p).toNat = sB c.Places := by omega
  rw [← (Zij hp).2.2, e2]
  have : ((2 ^ sB c.Places : Nat) : Int) = (2 : Int) ^ sB c.Places := by push_cast; rfl
  omega
theorem Zrh {z : Int} (h0 : 0 ≤ z) (h1 : z ≤ 3) (hz : z ≠ 0) : (ZaW kqI ([(1, 2), (2, 3), (3, 4)] : List (Int × Int)) z).getD 0 = z + 1 := by
  have : z = 1 ∨ z = 2 ∨ z = 3 := by omega
  rcases this with rfl | rfl | rfl <;> decide
theorem ZqN {L : List api_Rest} {s : Int} (h : SecOK L s) (hst : RSt L) {m : api_Map} {p : api_Param} (hp : ParOK p) {c : api_Cell} (hc : CellR c) (hb : (sB c.Places : Int) = bitsN p) :
    JY m p c (ZgP L) = some (smpV m.Version p L c.Places) := by
  obtain ⟨l0, l3⟩ := Znu hst hc.pl
  unfold JY smpV
  rw [Zna h hc, Option.bind_some, Zgz]
  by_cases hz : Zei L 3 c.Places = 0 ∨ c.Places.any (Zj7 L m.Version) = true
  · rw [if_pos hz, if_pos (by rw [Bool.or_eq_true, decide_eq_true_eq]; exact hz)]
  · rw [if_neg hz, if_neg (by rw [Bool.or_eq_true, decide_eq_true_eq]; exact hz)]
    unfold ZbN
    rw [ZmG hp (Int.natCast_nonneg _) (Zri hp L hb), Option.bind_some, Option.bind_some]
    simp only
    rw [Zrh l0 l3 (fun e => hz (.inl e)), Option.bind_some]
    cases (dec p ((Zgi L 0 c.Places : Nat) : Int)).2 <;> simp
end Go.Vx

namespace Go.Vx
open Go Go.RowKit
theorem Zow {r : api_Rest} (h : ZhZ r = 0) : (0 ≤ r.Number ∧ r.Number ≤ 4194303) ∧ stF r = none := by
  unfold ZhZ at h
  split at h
  · cases h
  · refine ⟨by omega, ?_⟩
    cases hf : stF r with
    | none => rfl
    | some e =>
      rw [hf] at h
      exfalso
      have h : e = 0 := h
      subst h
      unfold stF at hf
      obtain ⟨k, _, hk⟩ := List.exists_of_findSome?_eq_some hf
      unfold stE at hk
      split at hk
      · cases hk
      · split at hk <;> cases hk
theorem Zq5 {l : List api_Rest} (h : RSrt l) (hw : ∀ r ∈ l, Zbl r) (s : Int) : SecOK (ZfR l s) s where
  num := fun r hr => by have := ZiG h hr; exact ⟨this.1, this.2.1⟩
  srt := ZnP h s
  fr := fun r hr => Zp9 (hw r (ZiG h hr).2.2).2.1
  len := by
    have := h.len
    unfold ZfR
    rw [List.length_drop, List.length_take]; omega
theorem ZqV {l : List api_Rest} (h : RSrt l) (hc : ∀ r ∈ l, ZhZ r = 0) (s : Int) : RSt (ZfR l s) := fun r hr i hi => (Zig (Zow (hc r (ZiG h hr).2.2)).2 i hi).1
theorem Zo6 (m : api_Map) (hl : m.Params.length ≤ 200) (name : Str) : ∃ y : Int, ZB m.Params (fun z0 => QE z0 name) = some y ∧ Zat m name = some y ∧ (y < 0 ∨ ∃ (j : Nat) (p : api_Param), y = (j : Int) ∧ m.Params[j]? = some p) := by
  have e1 : ZaZ m name = Zv m.Params (fun z0 => QE z0 name) := rfl
  unfold ZB Zat
  rw [e1]
  obtain ⟨r, hr, hq⟩ := Zdz (body := t1 (Zv m.Params (fun z0 => QE z0 name))) (fun i => ∃ k : Nat, i = k ∧ k ≤ m.Params.length) (fun i => m.Params.length - i.toNat)
    (fun r => r = .inr () ∨ ∃ (j : Nat) (p : api_Param), r = .inl (j : Int) ∧ m.Params[j]? = some p) (by
    rintro i ⟨k, rfl, hk⟩
    rw [ZaN]
    unfold Zv QE
    rcases Nat.lt_or_ge k m.Params.length with hlt | hge
    · obtain ⟨x, hx⟩ := ZU hlt
      rw [if_pos (by simp; omega), ZE hx, Option.bind_some, Option.bind_some, Xu (by omega) (by omega)]
      split
      · exact .inr ⟨_, rfl, .inr ⟨k, x, rfl, hx⟩⟩
      · exact .inl ⟨_, rfl, ⟨k + 1, by push_cast; rfl, hlt⟩, by omega⟩
    · rw [if_neg (by simp; omega)]
      exact .inr ⟨_, rfl, .inl rfl⟩) 0 ⟨0, rfl, Nat.zero_le _⟩
  rw [hr, Option.bind_some]
  rcases hq with rfl | ⟨j, p, rfl, hp⟩
  · exact ⟨-1, rfl, rfl, .inl (by decide)⟩
  · exact ⟨j, rfl, rfl, .inr ⟨j, p, rfl, hp⟩⟩
def ZpA (n : Int) (c : api_Cell) : api_Cell := ⟨n, c.Index, c.Frame, c.Places⟩
theorem Zld (n : Int) (p : api_Param) : cellsN n p = (cellsN 0 p).map (ZpA n) := by
  have key : ∀ (fs : List Int) (out : List api_Cell), fs.foldl (Zcd n p) (out.map (ZpA n)) = (fs.foldl (Zcd 0 p) out).map (ZpA n) := by
    intro fs
    induction fs with
    | nil => intro out; rfl
    | cons f tl ih =>
      intro out
      rw [List.foldl_cons, List.foldl_cons, ← ih]
      congr 1
      unfold Zcd
      rw [List.map_append, List.map_map, List.length_map]
      rfl
  exact key (Jm p) []
theorem Zjp : ∀ (l : List api_Param) (k j : Nat) {x : api_Param}, (∀ y ∈ l, ParOK y) → l[j]? = some x → ((allC k l).filter fun c => decide (c.Param = ((k + j : Nat) : Int))) = cellsN ((k + j : Nat) : Int) x
  | [], _, _, _, _, h => by simp at h
  | y :: tl, k, j, x, hp, h => by
    have hy := hp y List.mem_cons_self
    have htl : ∀ z ∈ tl, ParOK z := fun z hz => hp z (List.mem_cons_of_mem _ hz)
    rw [allC, List.filter_append]
    cases j with
    | zero =>
      have hyx : y = x := by simpa using h
      subst hyx
      have h1 : (cellsN (k : Int) y).filter (fun c => decide (c.Param = ((k + 0 : Nat) : Int))) = cellsN (k : Int) y := by
        rw [List.filter_eq_self]
        intro c hc
        have := (ZdB hy (k : Int) c hc).2
        simpa using this
      have h2 : (allC (k + 1) tl).filter (fun c => decide (c.Param = ((k + 0 : Nat) : Int))) = [] := by
        rw [List.filter_eq_nil_iff]
        intro c hc hcp
        obtain ⟨j, z, hz, hcz⟩ := Zjr (k + 1) tl htl c hc
        have := (ZdB (htl z (List.mem_of_getElem? hz)) _ c hcz).2
        simp only [decide_eq_true_eq] at hcp
        omega
      rw [h1, h2, List.append_nil]; rfl
    | succ j =>
      have h1 : (cellsN (k : Int) y).filter (fun c => decide (c.Param = ((k + (j + 1) : Nat) : Int))) = [] := by
        rw [List.filter_eq_nil_iff]
        intro c hc hcp
        have := (ZdB hy (k : Int) c hc).2
        simp only [decide_eq_true_eq] at hcp
        omega
      have h2 := Zjp tl (k + 1) j htl (by simpa using h)
      rw [h1, List.nil_append]
      rw [show k + (j + 1) = k + 1 + j by omega]
      exact h2
theorem ZqJ {p : api_Param} (hp : ParOK p) {c : api_Cell} (hc : c ∈ cellsN 0 p) : CellR c ∧ (sB c.Places : Int) = bitsN p := by
  obtain ⟨i, f, t, h3, h4, rfl⟩ := Zd1 hc
  have key : ∀ ps : List api_Part, (∀ y ∈ ps, ZbD y = true) → ((sB (ps.map (Ju p f t)) : Nat) : Int) = (ps.map (·.Bits)).sum := by
    intro ps
    induction ps with
    | nil => intro _; rfl
    | cons y ps ih =>
      intro hy
      have := JQ.1 (hy y List.mem_cons_self)
      have ih := ih fun z hz => hy z (List.mem_cons_of_mem _ hz)
      have e : sB ((y :: ps).map (Ju p f t)) = y.Bits.toNat + sB (ps.map (Ju p f t)) := by simp [sB, Ju]
      rw [e, List.map_cons, List.sum_cons]
      push_cast
      omega
  have hsB : (sB (Zbk 0 p i f t).Places : Int) = bitsN p := key _ hp.len.2
  have hb := hp.bits
  have h8 := hp.len.1
  exact ⟨⟨by simpa [Zbk] using h8, fun q hq => Zkf hp h3 h4 hq, by omega⟩, hsB⟩
theorem ZhQ {m : api_Map} (h : Zcf m = 0) {j : Nat} {x : api_Param} (hx : m.Params[j]? = some x) : Ze6 x = 0 := by
  unfold Zcf at h
  by_cases h1 : wiL m.Version 0 2047 = true
  case neg => rw [if_neg h1] at h; cases h
  rw [if_pos h1] at h
  by_cases h2 : m.Params.length ≤ 200
  case neg => rw [if_neg h2] at h; cases h
  rw [if_pos h2] at h
  have key : ∀ (l : List api_Param) (k : Nat) (tl : List api_Param), (∀ e, ZY (g1M l) k tl = some e → e.2 = 0) → ∀ (j : Nat) (x : api_Param), tl[j]? = some x → Ze6 x = 0 := by
    intro l k tl
    induction tl generalizing k with
    | nil => intro _ j x h; simp at h
    | cons y tl ih =>
      intro he j x hx
      simp only [ZY] at he
      cases hg : g1M l k y with
      | some e' =>
        rw [hg] at he
        have := he e' rfl
        unfold g1M at hg
        split at hg
        · split at hg
          · cases hg; cases this
          · cases hg
        · rename_i hne
          cases hg
          exact (hne this).elim
      | none =>
        rw [hg] at he
        have hy : Ze6 y = 0 := by
          unfold g1M at hg
          split at hg
          · assumption
          · cases hg
        cases j with
        | zero => have : y = x := by simpa using hx
                  subst this; exact hy
        | succ j => exact ih (k + 1) he j x (by simpa using hx)
  refine key m.Params 0 m.Params (fun e he => ?_) j x hx
  rw [he] at h
  exact h
end Go.Vx

namespace Go.Vx
open Go Go.RowKit
end Go.Vx

namespace Go.Vx
open Go Go.RowKit
end Go.Vx

namespace Go.Vx
open Go Go.RowKit
def bad (e : Int) : api_Series × Int := (⟨0, []⟩, e)
end Go.Vx

namespace Go.Vx
open Go Go.RowKit
abbrev Lin := api_Line
def ZbM (p : Option Lin) (x : Lin) : Option Int :=
  if !(wi x.From (-1099511627776) 1099511627776 && wi x.To (-1099511627776) 1099511627776 && decide (x.From ≤ x.To) && wi x.A_ (-1048576) 1048576 && wi x.B (-1125899906842624) 1125899906842624) then some 9 else
  match p with | none => none | some q => if x.From ≤ q.To then some 10 else none
theorem ZqQ (c : api_Calibration) (h : (c.Lines.length : Int) ≤ 50) : loop (t1 (ZQ c)) 0 = some (Jk (fun e => Sum.inl e) (Sum.inr ()) (ZgA ZbM none c.Lines)) := by
  refine ZnZ (xs := c.Lines) (body := ZQ c) ZbM (fun e => Sum.inl e) (Sum.inr ()) (fun k x hx => ?_) (by simp [ZQ])
  have hlt := Xh hx
  simp only [ZQ, ZE hx, hlt, decide_true, if_true, Option.bind_some, ZbG]
  unfold ZbM
  have e1 : i64 ((k : Int) + 1) = (k : Int) + 1 := ZcP (by omega) (by omega)
  have e2 : i64 ((k : Int) - 1) = (k : Int) - 1 := ZcP (by omega) (by omega)
  rw [e1, e2]
  by_cases h3 : x.To < x.From
  · have h3' : ¬ x.From ≤ x.To := by omega
    cases wi x.From (-1099511627776) 1099511627776 <;> cases wi x.To (-1099511627776) 1099511627776 <;> simp [h3, h3']
  · have h3' : x.From ≤ x.To := by omega
    rcases Nat.eq_zero_or_pos k with rfl | hk
    · cases wi x.From (-1099511627776) 1099511627776 <;> cases wi x.To (-1099511627776) 1099511627776 <;> cases wi x.A_ (-1048576) 1048576 <;> cases wi x.B (-1125899906842624) 1125899906842624 <;> simp [h3, h3', Zht]
    · obtain ⟨y, hy, hp, hi⟩ := ZmR (xs := c.Lines) hk (by omega)
      have hk' : (0 : Int) < k := by omega
      rw [hp, hi]
      by_cases h4 : x.From ≤ y.To <;> cases wi x.From (-1099511627776) 1099511627776 <;> cases wi x.To (-1099511627776) 1099511627776 <;> cases wi x.A_ (-1048576) 1048576 <;> cases wi x.B (-1125899906842624) 1125899906842624 <;> simp [h3, h3', hk, hk', h4]
theorem Zpx (c : api_Calibration) : Q8 c = ZQ c := by
  funext i
  simp only [Q8, ZQ, ZgN, ZbG, Option.bind_some]
  congr 1
  congr 1
  funext x
  cases wi x.From (-1099511627776) 1099511627776 <;> cases wi x.To (-1099511627776) 1099511627776 <;> cases wi x.A_ (-1048576) 1048576 <;> cases wi x.B (-1125899906842624) 1125899906842624 <;> by_cases h : x.To < x.From <;> simp [h]
def num (x : Lin) (v : Int) : Int := i64 (i64 (x.A_ * v) + x.B)
def Zh8 (x : Lin) : Option Int := if wi (num x x.From) (-1125899906842624) 1125899906842624 && wi (num x x.To) (-1125899906842624) 1125899906842624 then none else some 9
theorem Zrd (c : api_Calibration) (h : (c.Lines.length : Int) ≤ 50) : loop (t1 (ZP c)) 0 = some (Jk (fun e => Sum.inl e) (Sum.inr ()) (ZbS Zh8 c.Lines)) := by
  refine Zfd (xs := c.Lines) (body := ZP c) Zh8 (fun e => Sum.inl e) (Sum.inr ()) (fun k x hx => ?_) (by simp [ZP])
  have hlt := Xh hx
  simp only [ZP, ZE hx, hlt, decide_true, if_true, Option.bind_some, ZbG, QL]
  unfold Zh8 num
  have e1 : i64 ((k : Int) + 1) = (k : Int) + 1 := ZcP (by omega) (by omega)
  rw [e1]
  cases h1 : wi (i64 (i64 (x.A_ * x.From) + x.B)) (-1125899906842624) 1125899906842624 <;> cases h2 : wi (i64 (i64 (x.A_ * x.To) + x.B)) (-1125899906842624) 1125899906842624 <;> simp [h1, h2]
theorem ZpK (c : api_Calibration) : Xc c = ZP c := by
  funext i
  simp only [Xc, ZP, ZgN, ZbG, Option.bind_some, QL]
  congr 1
  congr 1
  funext x
  cases h1 : wi (i64 (i64 (x.A_ * x.From) + x.B)) (-1125899906842624) 1125899906842624 <;> cases h2 : wi (i64 (i64 (x.A_ * x.To) + x.B)) (-1125899906842624) 1125899906842624 <;> simp [h1, h2]
def Zgn (c : api_Calibration) : Int :=
  if !(wi c.Den 1 1000000) then 9 else if c.Lines.length = 0 then 13 else if 50 < c.Lines.length then 3 else
  (match ZgA ZbM none c.Lines with
   | some e => e
   | none => (match ZbS Zh8 c.Lines with
     | some e => e
     | none => if !(wi c.Low (-1125899906842624) 1125899906842624 && wi c.High (-1125899906842624) 1125899906842624 && decide (c.Low ≤ c.High)) then 9 else 0))
theorem Zd4 (c : api_Calibration) : Z0 c = some (Zgn c) := by
  unfold Z0 Zgn
  simp only [ZbG, Option.bind_some]
  cases h1 : wi c.Den 1 1000000 with
  | false => simp
  | true =>
    by_cases h2 : c.Lines.length = 0
    · simp [h2]
    · have h2' : ¬ (c.Lines.length : Int) = 0 := by omega
      by_cases h3 : 50 < c.Lines.length
      · have h3' : (50 : Int) < c.Lines.length := by omega
        simp [h2, h2', h3, h3']
      · have h3' : ¬ (50 : Int) < c.Lines.length := by omega
        rw [ZqQ c (by omega), Zrd c (by omega)]
        cases ZgA ZbM none c.Lines with
        | some e => simp [h2, h2', h3, h3']
        | none =>
          cases ZbS Zh8 c.Lines with
          | some e => simp [h2, h2', h3, h3']
          | none =>
            by_cases h4 : c.High < c.Low
            · have h4' : ¬ c.Low ≤ c.High := by omega
              cases wi c.Low (-1125899906842624) 1125899906842624 <;> cases wi c.High (-1125899906842624) 1125899906842624 <;> simp [h2, h2', h3, h3', h4, h4']
            · have h4' : c.Low ≤ c.High := by omega
              cases wi c.Low (-1125899906842624) 1125899906842624 <;> cases wi c.High (-1125899906842624) 1125899906842624 <;> simp [h2, h2', h3, h3', h4, h4']
theorem Zkg (c : api_Calibration) : QY c = some (Zgn c) := by
  rw [← Zd4]
  unfold QY Z0
  simp only [Zpx, ZpK, ZbG, ZgN, Option.bind_some]
  cases wi c.Low (-1125899906842624) 1125899906842624 <;> cases wi c.High (-1125899906842624) 1125899906842624 <;> simp
theorem Zlq {c : api_Calibration} (h : Zgn c = 0) : (c.Lines.length ≤ 50) ∧ (∀ (k : Nat) x, c.Lines[k]? = some x → x.From ≤ x.To) ∧ ∀ (i j : Nat) x y, i < j → c.Lines[i]? = some x → c.Lines[j]? = some y → x.To < y.From := by
  unfold Zgn at h
  split at h
  · cases h
  · split at h
    · cases h
    · split at h
      · cases h
      · rename_i h3
        cases he : ZgA ZbM none c.Lines with
        | some e =>
          rw [he] at h
          simp only at h
          exfalso
          subst h
          have : ∀ (p : Option Lin) xs, ZgA ZbM p xs ≠ some 0 := by
            intro p xs
            induction xs generalizing p with
            | nil => simp [ZgA]
            | cons x tl ih =>
              simp only [ZgA]
              cases hl : ZbM p x with
              | none => exact ih _
              | some e =>
                simp only [ZbM] at hl
                split at hl
                · cases hl; simp
                · cases p with
                  | none => cases hl
                  | some q =>
                    simp only at hl
                    split at hl
                    · cases hl; simp
                    · cases hl
          exact this _ _ he
        | none =>
          have hn := Zjh he
          have h1 : ∀ (k : Nat) x, c.Lines[k]? = some x → x.From ≤ x.To := by
            intro k x hx
            have := hn k x hx
            simp only [ZbM] at this
            split at this
            · cases this
            · rename_i hb
              simp only [Bool.not_eq_true', Bool.not_eq_false, Bool.and_eq_true, decide_eq_true_iff] at hb
              exact hb.1.1.2
          have h2 : ∀ (k : Nat) x y, c.Lines[k]? = some x → c.Lines[k + 1]? = some y → x.To < y.From := by
            intro k x y hx hy
            have := hn (k + 1) y hy
            rw [if_neg (by omega)] at this
            rw [show k + 1 - 1 = k by omega, hx] at this
            simp only [ZbM] at this
            split at this
            · cases this
            · split at this
              · cases this
              · omega
          refine ⟨by omega, h1, ?_⟩
          intro i j x y hij hx hy
          obtain ⟨d, rfl⟩ : ∃ d, j = i + 1 + d := ⟨j - i - 1, by omega⟩
          induction d generalizing y with
          | zero => exact h2 i x y hx (by simpa using hy)
          | succ d ih =>
            obtain ⟨z, hz⟩ := ZU (xs := c.Lines) (k := i + 1 + d) (by have := (List.getElem?_eq_some_iff.1 hy).1; omega)
            have e1 := ih z (by omega) hz
            have e2 := h2 (i + 1 + d) z y hz (by simpa [Nat.add_assoc] using hy)
            have e3 := h1 _ z hz
            omega
def hit (c : api_Calibration) (v : Int) (x : Lin) : Option (Int × Bool) := if wi v x.From x.To && wi (num x v) c.Low c.High then some (num x v, true) else none
def Zg9 (c : api_Calibration) (v : Int) : Int × Bool := (ZbS (hit c v) c.Lines).getD (0, false)
theorem Zmi (c : api_Calibration) (v : Int) (h : c.Lines.length ≤ 50) : ZaJ c v = some (Zg9 c v) := by
  unfold ZaJ Zg9
  rw [Zfd (xs := c.Lines) (body := JP c v) (hit c v) (fun e => Sum.inl e) (Sum.inr ()) (fun k x hx => ?_) (by simp [JP])]
  · cases ZbS (hit c v) c.Lines <;> simp
  · have hlt := Xh hx
    simp only [JP, ZE hx, hlt, decide_true, if_true, Option.bind_some, ZbG, QL]
    unfold hit num
    have e1 : i64 ((k : Int) + 1) = (k : Int) + 1 := ZcP (by omega) (by omega)
    rw [e1]
    cases h1 : wi v x.From x.To <;> cases h2 : wi (i64 (i64 (x.A_ * v) + x.B)) c.Low c.High <;> simp [h1, h2]
end Go.Vx

namespace Go.Vx
open Go Go.RowKit
theorem Zrm {c : api_Calibration} {v : Int} (h : (Zg9 c v).2 = false) : (Zg9 c v).1 = 0 := by
  unfold Zg9 at h ⊢
  have : ∀ xs : List Lin, ∀ r, ZbS (hit c v) xs = some r → r.2 = true := by
    intro xs
    induction xs with
    | nil => intro r hr; cases hr
    | cons x tl ih =>
      intro r hr
      simp only [ZbS] at hr
      cases hx : hit c v x with
      | none => rw [hx] at hr; exact ih r hr
      | some q =>
        rw [hx] at hr
        cases hr
        unfold hit at hx
        split at hx
        · cases hx; rfl
        · cases hx
  cases hf : ZbS (hit c v) c.Lines with
  | none => rfl
  | some r =>
    rw [hf] at h
    have := this _ _ hf
    simp [this] at h
def Zet (c : api_Calibration) (x : Smp) : Smp := if x.Mark < 2 then x else ⟨x.At, (Zg9 c x.N).1, if (Zg9 c x.N).2 then x.Mark else 1⟩
def ZgY (s : api_Series) (c : api_Calibration) : api_Series × Int :=
  if (chk s).2 ≠ 0 then bad (chk s).2 else if Zgn c ≠ 0 then bad (Zgn c) else if s.Den ≠ 1 then bad 2 else (⟨c.Den, s.Samples.map (Zet c)⟩, 0)
theorem ZoQ {s : api_Series} {c : api_Calibration} (hs : SerOK s) (hc : Zgn c = 0) : loop (t2 (Qt c s.Samples)) (s.Samples, 0) = some (s.Samples.map (Zet c)) := by
  have hl := hs.len
  refine Zoc (xs := s.Samples) (body := Qt c s.Samples) (Zet c) (fun k x acc hx ha hax => ?_) (fun acc => by simp [Qt])
  have hlt := Xh hx
  have e1 : i64 ((k : Int) + 1) = (k : Int) + 1 := ZcP (by omega) (by omega)
  simp only [Qt, hlt, decide_true, if_true, ZE hax, Option.bind_some, e1, Zmi c x.N (Zlq hc).1]
  unfold Zet
  by_cases h : x.Mark < 2
  · refine ⟨acc, by simp [h], ?_⟩
    rw [if_pos h]
    obtain ⟨hk, he⟩ := List.getElem?_eq_some_iff.1 hax
    rw [← he, List.set_getElem_self]
  · rw [if_neg h]
    cases hm : (Zg9 c x.N).2 with
    | true => exact ⟨_, by simp [h], rfl⟩
    | false => exact ⟨acc.set k ⟨x.At, 0, 1⟩, by simp [h], by rw [Zrm hm]; rfl⟩
theorem Zhn (s : api_Series) (c : api_Calibration) : Jr s c = some (ZgY s c) := by
  unfold Jr ZgY bad
  simp only [Zpy, Zd4, Option.bind_some]
  by_cases h0 : (chk s).2 = 0
  · by_cases h1 : Zgn c = 0
    · by_cases h2 : s.Den = 1
      · have hl := (Znx h0).len
        have ec : Zl6 s.Samples = some s.Samples := by unfold Zl6; rw [Zb0 (by simp; omega)]; rfl
        simp [h0, h1, h2, ec, ZoQ (Znx h0) h1]
      · simp [h0, h1, h2]
    · simp [h0, h1]
  · simp [h0]
end Go.Vx

namespace Go.Vx
open Go Go.RowKit
def Zdi (ver : Int) (p : api_Param) (L : List api_Rest) (s : Int) (c : api_Cell) : api_Sample := api_Sample.mk (tmN p (16 * s) c) (smpV ver p L c.Places).1 (smpV ver p L c.Places).2
def ZhL (ver : Int) (p : api_Param) (l : List api_Rest) (s : Int) : List api_Sample := (cellsN 0 p).map (Zdi ver p (ZfR l s) s)
theorem ZrS {l l4 : List api_Rest} (h : RSrt l) (hw : ∀ r ∈ l, Zbl r) (hc : ∀ r ∈ l, ZhZ r = 0) {m : api_Map} {p : api_Param} (hp : ParOK p) {s : Int} (hs : 0 ≤ s ∧ s ≤ 300000) (out : List api_Sample) (ho : out.length ≤ 100000) :
    loop (t2 (QT m p (cellsN 0 p) l4 (ZgP (ZfR l s)) ((cellsN 0 p).map (tmN p (16 * s))))) (out, 0) = some (l4, out ++ ZhL m.Version p l s) := by
  have hlen := Zav (number := 0) hp.toPartsOK
  have hsl : (ZhL m.Version p l s).length = (cellsN 0 p).length := by unfold ZhL; rw [List.length_map]
  have := Zcy (body := QT m p (cellsN 0 p) l4 (ZgP (ZfR l s)) ((cellsN 0 p).map (tmN p (16 * s)))) (fun k => out ++ (ZhL m.Version p l s).take k) (l4, out ++ ZhL m.Version p l s) (a := 0) (b := (cellsN 0 p).length) (Nat.zero_le _) (fun k _ hk => by
    obtain ⟨c, hcx⟩ := ZU hk
    obtain ⟨cr, cb⟩ := ZqJ hp (List.mem_of_getElem? hcx)
    have h7 : ((cellsN 0 p).map (tmN p (16 * s)))[k]? = some (tmN p (16 * s) c) := by rw [List.getElem?_map, hcx]; rfl
    have h8 : (ZhL m.Version p l s)[k]? = some (Zdi m.Version p (ZfR l s) s c) := by unfold ZhL; rw [List.getElem?_map, hcx]; rfl
    have htl : ((ZhL m.Version p l s).take k).length ≤ k := by rw [List.length_take]; omega
    unfold QT
    rw [if_pos (by simp; omega), ZE hcx, Option.bind_some, ZqN (Zq5 h hw s) (ZqV h hc s) hp cr cb, Option.bind_some, ZE h7, Option.bind_some, Zb0 (by rw [List.length_append]; simp; omega), Option.bind_some, Xu (by omega) (by omega), List.take_add_one, h8, List.append_assoc]
    rfl) (by
    unfold QT
    rw [if_neg (by simp), List.take_of_length_le (by omega)])
  simpa using this
def Zh6 (ver : Int) (p : api_Param) (l : List api_Rest) (q : Int) : Nat → List api_Sample
  | 0 => []
  | k + 1 => Zh6 ver p l q k ++ ZhL ver p l (q + k)
theorem Zk1 (ver : Int) (p : api_Param) (l : List api_Rest) (q : Int) : ∀ k, (Zh6 ver p l q k).length = k * (cellsN 0 p).length
  | 0 => by simp [Zh6]
  | k + 1 => by
    rw [Zh6, List.length_append, Zk1 ver p l q k, Nat.add_mul, Nat.one_mul]
    unfold ZhL
    rw [List.length_map]
theorem Zqr {l : List api_Rest} (h : RSrt l) (hw : ∀ r ∈ l, Zbl r) (hc : ∀ r ∈ l, ZhZ r = 0) {m : api_Map} {p : api_Param} (hp : ParOK p) {q : Int} {n : Nat} (hq : 0 ≤ q ∧ q + n ≤ 270000) (h0 : JA l (16 * q) = 0) (hcnt : n * (cellsN 0 p).length ≤ 20000) :
    Js m p (cellsN 0 p) l q (q + n - 1) = some (Zh6 m.Version p l q n) := by
  have := ZcC (ε := Unit) (body := t3 (Qr m p (cellsN 0 p) (q + n - 1))) (fun k => (l.drop (JA l (16 * (q + k))), Zh6 m.Version p l q k, q + (k : Int))) (fun _ => none) (fun _ => []) (Zh6 m.Version p l q n) (b := n) (fun k hk => by
    refine .inr ⟨rfl, ?_⟩
    show Qr m p (cellsN 0 p) (q + n - 1) (l.drop (JA l (16 * (q + k)))) (Zh6 m.Version p l q k) (q + (k : Int)) = _
    have hal := Zk1 m.Version p l q k
    have hmul : k * (cellsN 0 p).length ≤ n * (cellsN 0 p).length := Nat.mul_le_mul_right _ (by omega)
    unfold Qr
    rw [if_pos (by rw [decide_eq_true_eq]; omega)]
    have ez : (api_Rest.mk 0 (Vector.replicate 64 0) (Vector.replicate 64 0) false 0 false) = zr := rfl
    rw [ez, ZmL h (s := q + k) (by omega), Option.bind_some, J3, Xu (z := (q + (k : Int)) * 16) (by omega) (by omega), show (q + (k : Int)) * 16 = 16 * (q + k) by omega, ZiL (Zsi hp 0 (by omega)), Option.bind_some, ZrS h hw hc hp (s := q + k) (by omega) _ (by omega), Option.bind_some, J3, Xu (by omega) (by omega)]
    rw [Zh6, show 16 * (q + ((k + 1 : Nat) : Int)) = 16 * (q + k) + 16 by push_cast; omega, show q + ((k + 1 : Nat) : Int) = q + k + 1 by push_cast; omega]) (by
    show Qr m p (cellsN 0 p) (q + n - 1) _ _ (q + (n : Int)) = _
    unfold Qr
    rw [if_neg (by rw [decide_eq_true_eq]; omega)])
  have hsel : ((List.range' 0 n).findSome? (fun _ => (none : Option Unit))) = none := by rw [List.findSome?_eq_none_iff]; intro _ _; rfl
  rw [hsel] at this
  have e0 : (l.drop (JA l (16 * (q + ((0 : Nat) : Int)))), Zh6 m.Version p l q 0, q + ((0 : Nat) : Int)) = (l, [], q) := by
    rw [show q + ((0 : Nat) : Int) = q by omega, h0, List.drop_zero]; rfl
  rw [e0] at this
  unfold Js
  rw [this]; rfl
end Go.Vx

namespace Go.Vx
open Go Go.RowKit
theorem Zp6 {x : Int} (h0 : 0 ≤ x) (h1 : x ≤ 100000000) : quo .i64 x 16 = some (x / 16) := by
  unfold quo
  rw [if_neg (by decide), Int.tdiv_eq_ediv_of_nonneg h0, w64 (by omega) (by omega)]
end Go.Vx

namespace Go.Vx
open Go Go.RowKit
noncomputable def mkF (n : Int) (data : List Int) : Vector Int 64 := match J7 n data with
  | some r => r.1
  | none => Vector.replicate 64 0
theorem Zqf {n : Int} {data : List Int} (hn : 0 ≤ n ∧ n < 4194304) (hl : data.length = 58) (hd : ∀ d ∈ data, 0 ≤ d ∧ d ≤ 2047) : J7 n data = some (mkF n data, 0) ∧ Made (mkF n data) n data := by
  obtain ⟨f, h1, h2⟩ := Zr4 hn hl hd
  unfold mkF
  rw [h1]
  exact ⟨rfl, h2⟩
def ent {α : Type} (z : α) (D : Vector α 16) (i : Nat) : α := D.toList.getD i z
theorem ZkF {α : Type} (z : α) (D : Vector α 16) {i : Nat} (hi : i < 16) : D.toList[i]? = some (ent z D i) ∧ ZI D (i : Int) = some (ent z D i) := by
  obtain ⟨x, hx⟩ := ZU (xs := D.toList) (k := i) (by simp; omega)
  have e : ent z D i = x := by unfold ent; rw [List.getD_eq_getElem?_getD, hx]; rfl
  rw [e]
  exact ⟨hx, Zjq hx⟩
theorem ZpG {α : Type} (z : α) (D : Vector α 16) {i : Nat} (x : α) (hi : i < 16) (j : Nat) : ent z (Qd D (i : Int) x) j = if j = i then x else ent z D j := by
  unfold ent
  rw [ZcD, Int.toNat_natCast, List.getD_eq_getElem?_getD, List.getElem?_set]
  by_cases h : i = j
  · subst h
    rw [if_pos rfl, if_pos (by simp; omega), if_pos rfl]; rfl
  · rw [if_neg h, if_neg (fun e => h e.symm), List.getD_eq_getElem?_getD]
noncomputable def Zhe (first : Int) (D : Vector (List Int) 16) : Nat → Vector (Vector Int 64) 16
  | 0 => Vector.replicate 16 (Vector.replicate 64 0)
  | k + 1 => Qd (Zhe first D k) (k : Int) (mkF (first + k) (ent [] D k))
abbrev zF : Vector Int 64 := Vector.replicate 64 0
theorem Zkq (first : Int) (D : Vector (List Int) 16) (j : Nat) : ∀ k, k ≤ 16 → j < k → ent zF (Zhe first D k) j = mkF (first + j) (ent [] D j)
  | 0, _, h => by omega
  | k + 1, hk, h => by
    rw [Zhe, ZpG _ _ _ (by omega)]
    by_cases e : j = k
    · subst e; rw [if_pos rfl]
    · rw [if_neg e]; exact Zkq first D j k (by omega) (by omega)
theorem Zmp {D : Vector (List Int) 16} (h : DatOK D) {i : Nat} (hi : i < 16) : (ent [] D i).length = 58 ∧ ∀ d ∈ ent [] D i, 0 ≤ d ∧ d ≤ 2047 := h _ (List.mem_of_getElem? (ZkF [] D hi).1)
theorem ZlH {first : Int} {D : Vector (List Int) 16} (hf : 0 ≤ first ∧ first ≤ 4194288) (hD : DatOK D) (e : Int) : loop (t2 (X0 first (D, e))) (Vector.replicate 16 (Vector.replicate 64 0), 0) = some (Zhe first D 16) := by
  have L := Zcy (body := X0 first (D, e)) (Zhe first D) (Zhe first D 16) (a := 0) (b := 16) (by decide) (fun k _ hk => by
    obtain ⟨d1, d2⟩ := Zmp hD hk
    obtain ⟨m1, _⟩ := Zqf (n := first + k) (by omega) d1 d2
    unfold X0
    rw [if_pos (by rw [decide_eq_true_eq]; omega)]
    simp only
    rw [(ZkF [] D hk).2, Option.bind_some, Xu (z := first + (k : Int)) (by omega) (by omega), m1, Option.bind_some, (ZkF zF (Zhe first D k) hk).2, Option.bind_some, Xu (by omega) (by omega)]
    rfl) (by
    unfold X0
    rw [if_neg (by decide)])
  exact L
theorem Zqt {m : api_Map} (h : MapOK m) {l : List Int} (hl : (allC 0 m.Params).length = l.length) : Pre (wrF (ZcL m) (Zc1 m (allC 0 m.Params) l)) [] m.Version :=
  Pre.app (W2 := []) (by rw [List.append_nil]; exact Zq6 h hl)
theorem Zpq {m : api_Map} (hk : Zcf m = 0) {first : Int} (hf : 0 ≤ first ∧ first ≤ 4194288) (hr : first % 16 = 0) {l : List Int} (hl : (allC 0 m.Params).length = l.length) (hA : allIn m (allC 0 m.Params) l = true) :
    Zbp m first l = some (Zhe first (wrF (ZcL m) (Zc1 m (allC 0 m.Params) l)) 16, 0) := by
  have hP := Zqt (ZeH hk) hl
  have ho : Zmg m l = (wrF (ZcL m) (Zc1 m (allC 0 m.Params) l), 0) := by unfold Zmg; rw [if_pos hk, if_pos hl, if_pos hA]
  have hw : Z6 first 0 4194288 = some true := by
    unfold Z6
    rw [decide_eq_true hf.1, decide_eq_true hf.2]; rfl
  unfold Zbp
  rw [Zqs, ho, Option.bind_some]
  simp only
  rw [if_neg (by decide), hw, Option.bind_some, if_neg (by decide), Ziv hf.1 16 (by decide), Option.bind_some, hr, if_neg (by decide), ZlH hf hP.dat 0, Option.bind_some, ZaN]
def Zbo (wo : List Int) (i : Int) : Bool := wo.any fun x => decide (x = i)
theorem Zrj {wo : List Int} (hl : wo.length ≤ 9223372036854775807) (i : Int) : loop (t2 (Zac wo i)) (false, 0) = some (Zbo wo i) := by
  have L := Zcy (body := Zac wo i) (fun k => (wo.take k).any fun x => decide (x = i)) (Zbo wo i) (a := 0) (b := wo.length) (Nat.zero_le _) (fun k _ hk => by
    obtain ⟨x, hx⟩ := ZU hk
    unfold Zac
    rw [if_pos (by rw [decide_eq_true_eq]; omega), ZE hx, List.take_add_one, hx, Option.toList_some, List.any_append, List.any_cons, List.any_nil, Bool.or_false, Xu (by omega) (by omega)]
    cases (wo.take k).any fun x => decide (x = i)
    · rfl
    · rfl) (by
    unfold Zac
    rw [if_neg (by simp), List.take_length]; rfl)
  exact L
noncomputable def gdS : Nat → Vector Int 64
  | 0 => Vector.replicate 64 0
  | k + 1 => Qd (gdS k) (k : Int) 3
theorem Zgr (j : Nat) : ∀ k, k ≤ 64 → wd (gdS k) j = if j < k then 3 else 0
  | 0, _ => by rw [gdS, ZjH, if_neg (by omega)]
  | k + 1, hk => by
    rw [gdS, Zd2 _ _ (by omega), Zgr j k (by omega)]
    by_cases e : j = k
    · rw [if_pos e, if_pos (by omega)]
    · rw [if_neg e]
      by_cases h : j < k
      · rw [if_pos h, if_pos (by omega)]
      · rw [if_neg h, if_neg (by omega)]
theorem ZoD : loop (t2 Zag) (Vector.replicate 64 0, 0) = some (gdS 64) := by
  have L := Zcy (body := Zag) gdS (gdS 64) (a := 0) (b := 64) (by decide) (fun k _ hk => by
    unfold Zag
    rw [if_pos (by rw [decide_eq_true_eq]; omega), Q1 _ hk, Option.bind_some, Xu (by omega) (by omega)]
    rfl) (by
    unfold Zag
    rw [if_neg (by decide)])
  exact L
noncomputable def Zdu (first : Int) (F : Vector (Vector Int 64) 16) (i : Nat) : api_Rest := ⟨first + i, ent zF F i, gdS 64, true, 1, false⟩
noncomputable def Xi (first : Int) (F : Vector (Vector Int 64) 16) (wo : List Int) (k : Nat) : List api_Rest := ((List.range k).filter fun i : Nat => !Zbo wo (i : Int)).map (Zdu first F)
theorem ZiD (first : Int) (F : Vector (Vector Int 64) 16) (wo : List Int) (k : Nat) : (Xi first F wo k).length ≤ k := by
  unfold Xi
  rw [List.length_map]
  exact Nat.le_trans (List.length_filter_le _ _) (by rw [List.length_range]; exact Nat.le_refl _)
theorem ZnS {first : Int} (hf : 0 ≤ first ∧ first ≤ 4194288) (F : Vector (Vector Int 64) 16) {wo : List Int} (hl : wo.length ≤ 9223372036854775807) : ZcJ F first wo = some (Xi first F wo 16) := by
  have L := Zcy (body := Zad F first wo) (Xi first F wo) (Xi first F wo 16) (a := 0) (b := 16) (by decide) (fun k _ hk => by
    have hle := ZiD first F wo k
    have es : Xi first F wo (k + 1) = if Zbo wo (k : Int) = true then Xi first F wo k else Xi first F wo k ++ [Zdu first F k] := by
      unfold Xi
      rw [List.range_succ, List.filter_append, List.map_append]
      cases hg : Zbo wo (k : Int)
      · rw [List.filter_cons_of_pos (by simp [hg])]; rfl
      · rw [List.filter_cons_of_neg (by simp [hg])]; simp
    unfold Zad
    rw [if_pos (by rw [decide_eq_true_eq]; omega), Zrj hl, Option.bind_some, ZaN, es]
    cases hg : Zbo wo (k : Int)
    · rw [if_neg Bool.false_ne_true, (ZkF zF F hk).2, Option.bind_some, ZoD, Option.bind_some, ZaN, Zb0 (by simp; omega), Option.bind_some, Xu (z := first + (k : Int)) (by omega) (by omega), Xu (by omega) (by omega), if_neg Bool.false_ne_true]
      rfl
    · rw [if_pos rfl, if_pos rfl, Xu (by omega) (by omega)]) (by
    unfold Zad
    rw [if_neg (by decide)])
  have L' : loop (t2 (Zad F first wo)) ([], 0) = some (Xi first F wo 16) := L
  unfold ZcJ
  rw [L', Option.bind_some, ZaN]
theorem ZbJ {first : Int} {F : Vector (Vector Int 64) 16} {wo : List Int} {r : api_Rest} : r ∈ Xi first F wo 16 ↔ ∃ i : Nat, i < 16 ∧ Zbo wo (i : Int) = false ∧ r = Zdu first F i := by
  unfold Xi
  rw [List.mem_map]
  constructor
  · rintro ⟨i, hi, rfl⟩
    rw [List.mem_filter, List.mem_range] at hi
    exact ⟨i, hi.1, by simpa using hi.2, rfl⟩
  · rintro ⟨i, h1, h2, rfl⟩
    exact ⟨i, by rw [List.mem_filter, List.mem_range]; exact ⟨h1, by simp [h2]⟩, rfl⟩
theorem ZnC (first : Int) (F : Vector (Vector Int 64) 16) (wo : List Int) : (Xi first F wo 16).Pairwise fun a b => a.Number < b.Number := by
  unfold Xi
  rw [List.pairwise_map]
  refine List.Pairwise.imp ?_ (List.Pairwise.filter _ (List.pairwise_lt_range (n := 16)))
  intro a b h
  show first + (a : Int) < first + (b : Int)
  omega
structure Frs (F : Vector (Vector Int 64) 16) (first : Int) (D : Vector (List Int) 16) : Prop where
  ok : ∀ i, i < 16 → Made (ent zF F i) (first + i) (ent [] D i)
theorem Zon {first : Int} (hf : 0 ≤ first ∧ first ≤ 4194288) {D : Vector (List Int) 16} (hD : DatOK D) : Frs (Zhe first D 16) first D where
  ok := fun i hi => by
    rw [Zkq first D i 16 (by decide) hi]
    obtain ⟨d1, d2⟩ := Zmp hD hi
    exact (Zqf (n := first + i) (by omega) d1 d2).2
theorem Zp4 {f : Vector Int 64} {k : IntKind} (h : ∀ i, i < 64 → wfI k (wd f i)) : wfV (wfI k) f := by
  intro x hx
  obtain ⟨i, hi⟩ := List.getElem?_of_mem hx
  have h64 : i < 64 := by
    have := (List.getElem?_eq_some_iff.1 hi).1
    simpa using this
  have e : wd f i = x := by unfold wd; rw [List.getD_eq_getElem?_getD, hi]; rfl
  rw [← e]; exact h i h64
theorem ZjV {n : Int} (h1 : -9223372036854775808 ≤ n) (h2 : n ≤ 9223372036854775807) : wfI .i64 n := by
  show (decide (IntKind.i64.min ≤ n) && decide (n ≤ IntKind.i64.max)) = true
  have e1 : IntKind.i64.min = -9223372036854775808 := by decide
  have e2 : IntKind.i64.max = 9223372036854775807 := by decide
  rw [e1, e2, decide_eq_true h1, decide_eq_true h2]; rfl
theorem Zpi {n : Int} (h1 : 0 ≤ n) (h2 : n ≤ 65535) : wfI .u16 n := by
  show (decide (IntKind.u16.min ≤ n) && decide (n ≤ IntKind.u16.max)) = true
  have e1 : IntKind.u16.min = 0 := by decide
  have e2 : IntKind.u16.max = 65535 := by decide
  rw [e1, e2, decide_eq_true h1, decide_eq_true h2]; rfl
theorem Zqp {first : Int} (hf : 0 ≤ first ∧ first ≤ 4194288) {F : Vector (Vector Int 64) 16} {D : Vector (List Int) 16} (h : Frs F first D) {i : Nat} (hi : i < 16) : Zbl (Zdu first F i) := by
  have hm := h.ok i hi
  refine ⟨ZjV (by show -9223372036854775808 ≤ first + (i : Int); omega) (by show first + (i : Int) ≤ 9223372036854775807; omega), Zp4 fun j hj => ?_, Zp4 fun j hj => ?_, trivial, (ZjV (by decide) (by decide) : wfI .i64 1), trivial, trivial⟩
  · have := hm.u j
    exact Zpi this.1 this.2
  · have e : wd (Zdu first F i).States j = 3 := by
      show wd (gdS 64) j = 3
      rw [Zgr j 64 (by decide), if_pos hj]
    rw [e]; exact ZjV (by decide) (by decide)
theorem Zpk {first : Int} (hf : 0 ≤ first ∧ first ≤ 4194288) {F : Vector (Vector Int 64) 16} {D : Vector (List Int) 16} (h : Frs F first D) {i : Nat} (hi : i < 16) : ZhZ (Zdu first F i) = 0 := by
  have hm := h.ok i hi
  have hs : ∀ j, j < 64 → wd (Zdu first F i).States j = 3 := fun j hj => by
    show wd (gdS 64) j = 3
    rw [Zgr j 64 (by decide), if_pos hj]
  have hst : stF (Zdu first F i) = none := by
    unfold stF
    rw [List.findSome?_eq_none_iff]
    intro j hj
    obtain ⟨q, hq, rfl⟩ := List.mem_range'.1 hj
    have h64 : 0 + 1 * q < 64 := by omega
    have hnr := hm.nar (0 + 1 * q)
    have e := hs _ h64
    unfold stE
    rw [if_neg (by omega), if_neg]
    rintro (⟨a, _⟩ | a)
    · omega
    · have : wd (Zdu first F i).Frame (0 + 1 * q) = wd (ent zF F i) (0 + 1 * q) := rfl
      omega
  have hany : ZkW (Zdu first F i) 0 1 = false := by
    unfold ZkW
    rw [← Bool.not_eq_true]
    intro hc
    obtain ⟨j, hj, hx⟩ := (ZqK (Zdu first F i).States _).1 hc
    rw [hs j hj] at hx
    revert hx; decide
  have hsas : Zlu (Zdu first F i).Frame (Zdu first F i).Number = true := by
    unfold Zlu
    show (sndB (ent zF F i) && decide ((numN (ent zF F i)).1 = first + (i : Int))) = true
    rw [hm.snd, hm.num, decide_eq_true rfl]; rfl
  unfold ZhZ
  rw [if_neg (by show ¬ (first + (i : Int) < 0 ∨ 4194304 ≤ first + (i : Int)); omega), hst]
  show (if ((Zdu first F i).Sound && (!Zlu (Zdu first F i).Frame (Zdu first F i).Number || ZkW (Zdu first F i) 0 1)) = true then (2 : Int) else _) = 0
  rw [hsas, hany]
  rfl
theorem Zn3 {first : Int} (hf : 0 ≤ first ∧ first ≤ 4194288) {F : Vector (Vector Int 64) 16} {D : Vector (List Int) 16} (h : Frs F first D) (wo : List Int) : RSrt (Xi first F wo 16) ∧ (∀ r ∈ Xi first F wo 16, ZhZ r = 0) ∧ ∀ r ∈ Xi first F wo 16, Zbl r := by
  refine ⟨⟨?_, ?_, ZnC first F wo⟩, ?_, ?_⟩
  · have := ZiD first F wo 16; omega
  · intro r hr
    obtain ⟨i, h1, _, rfl⟩ := ZbJ.1 hr
    show 0 ≤ first + (i : Int) ∧ first + (i : Int) ≤ 4194303
    omega
  · intro r hr
    obtain ⟨i, h1, _, rfl⟩ := ZbJ.1 hr
    exact Zpk hf h h1
  · intro r hr
    obtain ⟨i, h1, _, rfl⟩ := ZbJ.1 hr
    exact Zqp hf h h1
theorem ZqI {l : List api_Rest} (hR : RSrt l) (hc : ∀ r ∈ l, ZhZ r = 0) (hw : ∀ r ∈ l, Zbl r) : Jg l = some 0 := by
  have hl := hR.len
  have hU : ∀ r ∈ l, fU r.Frame := fun r hr => Zp9 (hw r hr).2.1
  have none' : ∀ n, ((List.range' 0 n).findSome? (fun _ => (none : Option Int))) = none := fun n => by rw [List.findSome?_eq_none_iff]; intro _ _; rfl
  have L1 := ZcC (body := t1 (QG l)) (fun k => (k : Int)) (fun _ => none) (fun e => (.inl e : Int ⊕ Unit)) (.inr ()) (b := l.length) (fun k hk => by
    obtain ⟨x, hx⟩ := ZU hk
    have hm := List.mem_of_getElem? hx
    refine .inr ⟨rfl, ?_⟩
    rw [ZaN]
    unfold QG
    rw [if_pos (by rw [decide_eq_true_eq]; omega), ZE hx, Option.bind_some, ZkQ (hU x hm), Option.bind_some, hc x hm, if_neg (by decide), Xu (by omega) (by omega)]
    push_cast; rfl) (by
    rw [ZaN]
    unfold QG
    rw [if_neg (by simp)])
  have L2 := ZcC (body := t1 (QI l)) (fun k => (k : Int) + 1) (fun _ => none) (fun e => (.inl e : Int ⊕ Unit)) (.inr ()) (b := l.length - 1) (fun k hk => by
    obtain ⟨x, hx⟩ := ZU (xs := l) (k := k) (by omega)
    obtain ⟨y, hy⟩ := ZU (xs := l) (k := k + 1) (by omega)
    have hlt : x.Number < y.Number := by
      obtain ⟨a, rfl⟩ := List.getElem?_eq_some_iff.1 hx
      obtain ⟨b, rfl⟩ := List.getElem?_eq_some_iff.1 hy
      exact List.pairwise_iff_getElem.1 hR.srt k (k + 1) a b (by omega)
    refine .inr ⟨rfl, ?_⟩
    rw [ZaN]
    unfold QI
    rw [if_pos (by rw [decide_eq_true_eq]; omega), show (k : Int) + 1 = ((k + 1 : Nat) : Int) by push_cast; rfl, ZE hy, Option.bind_some, Xu (z := ((k + 1 : Nat) : Int) - 1) (by omega) (by omega), show ((k + 1 : Nat) : Int) - 1 = (k : Int) by omega, ZE hx, Option.bind_some, if_neg (by rw [decide_eq_true_eq]; omega), Xu (by omega) (by omega)]) (by
    rw [ZaN]
    unfold QI
    rw [if_neg (by simp; omega)])
  rw [none'] at L1 L2
  have L1' : loop (t1 (QG l)) 0 = some (.inr ()) := L1
  have L2' : loop (t1 (QI l)) 1 = some (.inr ()) := L2
  unfold Jg
  rw [if_neg (by rw [decide_eq_true_eq]; omega), L1', Option.bind_some, Sum.elim_inr, t0, L2', Option.bind_some, Sum.elim_inr, t0]
end Go.Vx

namespace Go.Vx
open Go Go.RowKit
section
variable {first q : Int} {F : Vector (Vector Int 64) 16} {D : Vector (List Int) 16} {wo : List Int}
theorem Zlv (hq : first = 16 * q) {r : api_Rest} (hr : r ∈ Xi first F wo 16) : 16 * q ≤ r.Number ∧ r.Number < 16 * q + 16 := by
  obtain ⟨i, h1, _, rfl⟩ := ZbJ.1 hr
  show 16 * q ≤ first + (i : Int) ∧ first + (i : Int) < 16 * q + 16
  omega
theorem Zng (hq : first = 16 * q) : JA (Xi first F wo 16) (16 * q) = 0 := by
  unfold JA
  rw [List.length_eq_zero_iff, List.filter_eq_nil_iff]
  intro r hr
  have := Zlv hq hr
  unfold below
  rw [decide_eq_true_eq]; omega
theorem Zrl (hq : first = 16 * q) : JA (Xi first F wo 16) (16 * q + 16) = (Xi first F wo 16).length := by
  unfold JA
  have : (Xi first F wo 16).filter (below (16 * q + 16)) = Xi first F wo 16 := by
    rw [List.filter_eq_self]
    intro r hr
    have := Zlv hq hr
    unfold below
    rw [decide_eq_true_eq]; omega
  rw [this]
theorem Zpr (hq : first = 16 * q) : ZfR (Xi first F wo 16) q = Xi first F wo 16 := by
  unfold ZfR
  rw [Zng hq, Zrl hq, List.take_length, List.drop_zero]
theorem Zmf (hq : first = 16 * q) {i : Nat} (hi : i < 16) : QV (Xi first F wo 16) (i : Int) = if Zbo wo (i : Int) = true then zr else Zdu first F i := by
  unfold QV
  cases hg : Zbo wo (i : Int)
  · rw [if_neg Bool.false_ne_true]
    have hm : Zdu first F i ∈ Xi first F wo 16 := ZbJ.2 ⟨i, hi, hg, rfl⟩
    cases hf : (Xi first F wo 16).find? (fun r => decide (r.Number % 16 = (i : Int))) with
    | none =>
      have := List.find?_eq_none.1 hf _ hm
      exfalso; apply this
      show decide ((first + (i : Int)) % 16 = (i : Int)) = true
      rw [decide_eq_true_eq]; omega
    | some r =>
      have h1 := List.find?_some hf
      obtain ⟨j, hj, _, rfl⟩ := ZbJ.1 (List.mem_of_find?_eq_some hf)
      have h1 : (first + (j : Int)) % 16 = (i : Int) := of_decide_eq_true h1
      have : j = i := by omega
      subst this; rfl
  · rw [if_pos rfl]
    have : (Xi first F wo 16).find? (fun r => decide (r.Number % 16 = (i : Int))) = none := by
      rw [List.find?_eq_none]
      intro r hr hc
      obtain ⟨j, hj, hgj, rfl⟩ := ZbJ.1 hr
      have h1 : (first + (j : Int)) % 16 = (i : Int) := of_decide_eq_true hc
      have : j = i := by omega
      subst this
      rw [hg] at hgj; cases hgj
    rw [this]; rfl
theorem ZpX (hq : first = 16 * q) {i j : Nat} (hi : i < 16) (hj : j < 64) : wd (QV (Xi first F wo 16) (i : Int)).States j = if Zbo wo (i : Int) = true then 0 else 3 := by
  rw [Zmf hq hi]
  split
  · show wd (Vector.replicate 64 (0 : Int)) j = 0
    exact ZjH j
  · show wd (gdS 64) j = 3
    rw [Zgr j 64 (by decide), if_pos hj]
theorem Zns (hq : first = 16 * q) {y : api_Place} (hy : placeR y) : stP (Xi first F wo 16) y = if Zbo wo y.Frame = true then 0 else 3 := by
  obtain ⟨p1, p2, _⟩ := hy
  obtain ⟨i, hi⟩ : ∃ i : Nat, y.Frame = i := ⟨y.Frame.toNat, by omega⟩
  unfold stP
  rw [hi, ZpX hq (by omega) (by omega), ZpX hq (by omega) (by decide), Int.min_self]
theorem ZoY (hf : 0 ≤ first ∧ first ≤ 4194288) (hq : first = 16 * q) (hF : Frs F first D) {ps : List api_Place} (hp : ∀ y ∈ ps, placeR y) (hg : ∃ y ∈ ps, Zbo wo y.Frame = true) : Zei (Xi first F wo 16) 3 ps = 0 := by
  obtain ⟨y, hy, hgy⟩ := hg
  have h1 := (Zg5 (Xi first F wo 16) ps 3 (Zei (Xi first F wo 16) 3 ps)).1 (Int.le_refl _)
  have h2 := h1.2 y hy
  rw [Zns hq (hp y hy), if_pos hgy] at h2
  have hst : RSt (Xi first F wo 16) := fun r hr i hi => by
    obtain ⟨k, _, _, rfl⟩ := ZbJ.1 hr
    show 0 ≤ wd (gdS 64) i
    rw [Zgr i 64 (by decide), if_pos hi]; decide
  have h3 := (Znu hst hp).1
  omega
theorem ZnL (hq : first = 16 * q) {ps : List api_Place} (hp : ∀ y ∈ ps, placeR y) (hg : ∀ y ∈ ps, Zbo wo y.Frame = false) : Zei (Xi first F wo 16) 3 ps = 3 := by
  have h1 := (Zg5 (Xi first F wo 16) ps 3 (Zei (Xi first F wo 16) 3 ps)).1 (Int.le_refl _)
  have h2 := (Zg5 (Xi first F wo 16) ps 3 3).2 ⟨Int.le_refl _, fun y hy => by rw [Zns hq (hp y hy), hg y hy]; decide⟩
  omega
theorem Zn7 (hq : first = 16 * q) (hF : Frs F first D) {i j : Nat} (hi : i < 16) (hj : j < 58) (hg : Zbo wo (i : Int) = false) : wd (QV (Xi first F wo 16) (i : Int)).Frame (3 + j) % 2048 = (ent [] D i).getD j 0 := by
  rw [Zmf hq hi, hg, if_neg Bool.false_ne_true]
  exact (hF.ok i hi).dat j hj
theorem Zka (hq : first = 16 * q) (hF : Frs F first D) : ∀ (ps : List api_Place) (n : Nat), (∀ y ∈ ps, placeR y) → (∀ y ∈ ps, Zbo wo y.Frame = false) → Zgi (Xi first F wo 16) n ps = Zh2 D n ps
  | [], _, _, _ => rfl
  | y :: tl, n, hp, hg => by
    have e : ZiK (Xi first F wo 16) y = ZaO D y := by
      obtain ⟨p1, p2, _⟩ := hp y List.mem_cons_self
      obtain ⟨i, hi⟩ : ∃ i : Nat, y.Frame = i := ⟨y.Frame.toNat, by omega⟩
      have hgy := hg y List.mem_cons_self
      rw [hi] at hgy
      have := Zn7 hq hF (j := (y.Word - 3).toNat) (by omega) (by omega) hgy
      unfold ZiK ZaO
      rw [hi, show y.Word.toNat = 3 + (y.Word - 3).toNat by omega, this]
      rfl
    rw [Zgi, Zh2, e]
    exact Zka hq hF tl _ (fun z hz => hp z (List.mem_cons_of_mem _ hz)) (fun z hz => hg z (List.mem_cons_of_mem _ hz))
theorem ZoV (hq : first = 16 * q) (hF : Frs F first D) {ver : Int} (hv : ∀ x ∈ D.toList, x.getD 0 0 = ver) {ps : List api_Place} (hp : ∀ y ∈ ps, placeR y) (hg : ∀ y ∈ ps, Zbo wo y.Frame = false) : ps.any (Zj7 (Xi first F wo 16) ver) = false := by
  rw [List.any_eq_false]
  intro y hy
  obtain ⟨p1, p2, _⟩ := hp y hy
  obtain ⟨i, hi⟩ : ∃ i : Nat, y.Frame = i := ⟨y.Frame.toNat, by omega⟩
  have hgy := hg y hy
  rw [hi] at hgy
  have := Zn7 hq hF (j := 0) (i := i) (by omega) (by decide) hgy
  unfold Zj7
  rw [hi, this, hv _ (List.mem_of_getElem? (ZkF [] D (i := i) (by omega)).1)]
  simp
end
theorem Zml {m : api_Map} : ∀ (cs : List api_Cell) (vs : List Int) (k : Nat) (c : api_Cell) (v : Int), cs[k]? = some c → vs[k]? = some v → (∀ w ∈ Znd m c v, w ∈ Zc1 m cs vs) ∧ (allIn m cs vs = true → inV m c v = true)
  | [], _, k, c, v, h, _ => by simp at h
  | _ :: _, [], k, c, v, _, h => by simp at h
  | a :: cs, b :: vs, k, c, v, h1, h2 => by
    cases k with
    | zero =>
      simp at h1 h2
      subst h1 h2
      exact ⟨fun w hw => List.mem_append_left _ hw, fun h => by simp only [allIn, Bool.and_eq_true] at h; exact h.1⟩
    | succ k =>
      obtain ⟨g1, g2⟩ := Zml (m := m) cs vs k c v (by simpa using h1) (by simpa using h2)
      exact ⟨fun w hw => List.mem_append_right _ (g1 w hw), fun h => by simp only [allIn, Bool.and_eq_true] at h; exact g2 h.2⟩
theorem ZkZ {m : api_Map} (h : MapOK m) {l : List Int} (hl : (allC 0 m.Params).length = l.length) (hA : allIn m (allC 0 m.Params) l = true) {k : Nat} {c : api_Cell} {v : Int} (hc : (allC 0 m.Params)[k]? = some c) (hv : l[k]? = some v) :
    dec (JC m c) ((Zh2 (wrF (ZcL m) (Zc1 m (allC 0 m.Params) l)) 0 c.Places : Nat) : Int) = (v, true) ∧ inV m c v = true := by
  have hcm := List.mem_of_getElem? hc
  obtain ⟨w1, w2⟩ := Zml (m := m) _ _ k c v hc hv
  have hI := w2 hA
  obtain ⟨e1, e2, e3, e4⟩ := ZlN h hcm hI
  have hr := ZlY (l := wrF (ZcL m) (Zc1 m (allC 0 m.Params) l)) (enc (JC m c) v).toNat c.Places 0 (fun w hw => Zmq (Zq6 h hl) w (w1 w hw))
  rw [Nat.zero_mul, Nat.zero_add, Nat.mod_eq_of_lt e2] at hr
  rw [hr, e1, e4]
  exact ⟨rfl, hI⟩
theorem Zjs {p : api_Param} (h : ParOK p) : -1099511627776 ≤ (lims p).1 ∧ (lims p).2 ≤ 1099511627776 ∧ (lims p).1 ≤ (lims p).2 := by
  obtain ⟨h1, h2, _⟩ := Zij h
  have hk := h.kind
  unfold lims
  by_cases k1 : p.Kind = 1
  · rw [if_pos k1]; simp only; omega
  rw [if_neg k1]
  by_cases k5 : p.Kind = 5
  · rw [if_pos k5]; simp only; omega
  rw [if_neg k5]
  by_cases k6 : p.Kind = 6
  · have := h.k6 k6
    rw [if_pos k6]; simp only; omega
  rw [if_neg k6]
  by_cases k2 : p.Kind = 2
  · rw [if_pos k2]; simp only; omega
  rw [if_neg k2]
  by_cases k3 : p.Kind = 3
  · rw [if_pos k3]; simp only; omega
  rw [if_neg k3]
  have hN := (Zoo h (by omega)).2.2
  have := Zf4 hN
  simp only; omega
theorem ZoO {m : api_Map} (h : MapOK m) {l : List Int} (hl : (allC 0 m.Params).length = l.length) (hA : allIn m (allC 0 m.Params) l = true) {first q : Int} (hf : 0 ≤ first ∧ first ≤ 4194288) (hq : first = 16 * q) (wo : List Int) {k : Nat} {c : api_Cell} {v : Int} (hc : (allC 0 m.Params)[k]? = some c) (hv : l[k]? = some v) :
    let L := Xi first (Zhe first (wrF (ZcL m) (Zc1 m (allC 0 m.Params) l)) 16) wo 16
    smpV m.Version (JC m c) L c.Places = (v, 4) ∨ (wo ≠ [] ∧ smpV m.Version (JC m c) L c.Places = (0, 0)) := by
  intro L
  have hP := Zqt h hl
  have hF := Zon hf hP.dat
  have hcm := List.mem_of_getElem? hc
  obtain ⟨_, _, c3, c4, _⟩ := Ze5 h hcm
  obtain ⟨d1, d2⟩ := ZkZ h hl hA hc hv
  by_cases hg : ∃ y ∈ c.Places, Zbo wo y.Frame = true
  · refine .inr ⟨fun e => ?_, ?_⟩
    · obtain ⟨y, _, hy⟩ := hg
      rw [e] at hy; cases hy
    · unfold smpV
      rw [if_pos (.inl (ZoY hf hq hF c4 hg))]
  · have hk : ∀ y ∈ c.Places, Zbo wo y.Frame = false := fun y hy => by
      cases hgy : Zbo wo y.Frame with
      | false => rfl
      | true => exact (hg ⟨y, hy, hgy⟩).elim
    left
    unfold smpV
    rw [ZnL hq c4 hk, ZoV hq hF hP.ver c4 hk, Zka hq hF _ _ c4 hk, d1]
    rfl
theorem ZqY {m : api_Map} {name : Str} (hk : Zcf m = 0) {j : Nat} {p : api_Param} (hn : Zat m name = some (j : Int)) (hj : m.Params[j]? = some p) {first q : Int} (hf : 0 ≤ first ∧ first ≤ 4194288) (hq : first = 16 * q)
    {F : Vector (Vector Int 64) 16} {D : Vector (List Int) 16} (hF : Frs F first D) (wo : List Int) :
    Jq m name (Xi first F wo 16) = some (if Xi first F wo 16 = [] then (api_Series.mk 1 [], 0) else (api_Series.mk 1 ((cellsN 0 p).map (Zdi m.Version p (Xi first F wo 16) q) ++ [api_Sample.mk ((q + 1) * 1024) 0 0]), 0)) := by
  obtain ⟨hR, hc, hw⟩ := Zn3 hf hF wo
  have hok := ZeH hk
  have hqq := ZhQ hk hj
  have hp := Zg6 hqq
  obtain ⟨a, ha⟩ := Zh7 m
  have hC : Zbt m = some (max a 0, Zcf m) := by unfold Zbt; rw [ha]; rfl
  obtain ⟨y, y1, y2, _⟩ := Zo6 m hok.len name
  rw [hn] at y2
  obtain rfl : (j : Int) = y := Option.some.inj y2
  unfold Jq
  rw [hC, Option.bind_some]
  simp only
  rw [hk, if_neg (by simp), y1, Option.bind_some, if_neg (by rw [decide_eq_true_eq]; omega), ZqI hR hc hw, Option.bind_some, if_neg (by decide)]
  have hin := fun r hr => Zlv (first := first) (q := q) (F := F) (wo := wo) (r := r) hq hr
  have hlo := Zng (first := first) (q := q) (F := F) (wo := wo) hq
  have hsa := Zpr (first := first) (q := q) (F := F) (wo := wo) hq
  have hlen := ZiD first F wo 16
  generalize Xi first F wo 16 = l at *
  by_cases hl0 : l = []
  · rw [if_pos hl0, if_pos (by rw [hl0]; decide)]
  · have hpos : 0 < l.length := List.length_pos_iff.2 hl0
    rw [if_neg hl0, if_neg (by rw [decide_eq_true_eq]; omega)]
    obtain ⟨r0, h0⟩ := ZU (xs := l) (k := 0) (by omega)
    obtain ⟨r1, h1⟩ := ZU (xs := l) (k := l.length - 1) (by omega)
    have b0 := hin r0 (List.mem_of_getElem? h0)
    have b1 := hin r1 (List.mem_of_getElem? h1)
    have i0 : idx l 0 = some r0 := ZE (k := 0) h0
    have i1 : idx l (i64 ((l.length : Int) - 1)) = some r1 := by
      rw [Xu (by omega) (by omega), show (l.length : Int) - 1 = ((l.length - 1 : Nat) : Int) by omega]
      exact ZE h1
    have hcl : JM ⟨0, [p]⟩ = some (cellsN 0 p, 0) := by
      rw [Zmo, if_pos (ZnA hqq)]
      simp [allC]
    have hlc := Zav (number := 0) hp.toPartsOK
    have q0 : r0.Number / 16 = q := by omega
    have q1 : r1.Number / 16 = q := by omega
    have x1 : i64 (q - q) = 0 := by rw [Xu (by omega) (by omega)]; omega
    have x2 : i64 ((0 : Int) + 1) = 1 := by rw [Xu (by omega) (by omega)]; omega
    have x3 : i64 (1 * ((cellsN 0 p).length : Int)) = ((cellsN 0 p).length : Int) := by rw [Xu (by omega) (by omega)]; omega
    have x4 : i64 (((cellsN 0 p).length : Int) + 1) = ((cellsN 0 p).length : Int) + 1 := Xu (by omega) (by omega)
    have s1 := Zqr hR hw hc (m := m) hp (q := q) (n := 1) (by omega) hlo (by omega)
    have e1 : q + ((1 : Nat) : Int) - 1 = q := by omega
    have e2 : Zh6 m.Version p l q 1 = (cellsN 0 p).map (Zdi m.Version p l q) := by
      show [] ++ ZhL m.Version p l (q + ((0 : Nat) : Int)) = _
      rw [show q + ((0 : Nat) : Int) = q by omega, List.nil_append]
      unfold ZhL
      rw [hsa]
    rw [e1, e2] at s1
    have w1 : i64 (q + 1) = q + 1 := Xu (by omega) (by omega)
    have w2 : i64 ((q + 1) * 1024) = (q + 1) * 1024 := Xu (by omega) (by omega)
    rw [ZE hj, Option.bind_some, hcl, Option.bind_some, i0, Option.bind_some, Zp6 (by omega) (by omega), Option.bind_some, i1, Option.bind_some, Zp6 (by omega) (by omega), Option.bind_some, q0, q1]
    simp only
    rw [x1, x2, x3, x4, if_neg (by rw [decide_eq_true_eq]; omega), s1, Option.bind_some, w1, w2, Zb0 (by rw [List.length_map, List.length_singleton]; omega), Option.bind_some]
end Go.Vx

namespace Go.Vx
open Go Go.RowKit
theorem Zgl {a b : Int} (h : b ≠ 0) : ∃ z, Xa a b = some z := by
  unfold Xa quo rem
  rw [if_neg h, if_neg h, Option.bind_some, Option.bind_some]
  split <;> exact ⟨_, rfl⟩
theorem Zrn {a : Int} (h1 : -9223372036854775808 ≤ a) (h2 : a < 0) : i64 (-a) ≠ 0 := by
  by_cases h : a = -9223372036854775808
  · rw [h]; decide
  · rw [Xu (by omega) (by omega)]; omega
theorem Zla (c : api_Calibration) (l : api_Line) (hl : Zda l) : ∃ z, JZ c l = some z := by
  have hA := Zqw hl.2.2.1
  unfold JZ
  by_cases h0 : l.A_ = 0
  · rw [if_pos (by rw [decide_eq_true_eq]; exact h0)]
    unfold ZF
    exact ⟨_, rfl⟩
  · rw [if_neg (by rw [decide_eq_true_eq]; exact h0)]
    by_cases hp : 0 < l.A_
    · rw [if_pos (by rw [decide_eq_true_eq]; exact hp)]
      obtain ⟨z1, h1⟩ := Zgl (a := i64 (l.B - c.Low)) h0
      obtain ⟨z2, h2⟩ := Zgl (a := i64 (c.High - l.B)) h0
      rw [h1, Option.bind_some, h2, Option.bind_some]
      exact ⟨_, rfl⟩
    · rw [if_neg (by rw [decide_eq_true_eq]; exact hp)]
      have hn := Zrn hA.1 (show l.A_ < 0 by omega)
      obtain ⟨z1, h1⟩ := Zgl (a := i64 (c.High - l.B)) hn
      obtain ⟨z2, h2⟩ := Zgl (a := i64 (l.B - c.Low)) hn
      rw [h1, Option.bind_some, h2, Option.bind_some]
      exact ⟨_, rfl⟩
theorem Zpd (n : Int) (x : api_Line) (y : Int × Int × Bool) (at_ b l : Int) : ∃ z, loop (t3 (QM n x y at_)) (b, l, 0) = some z := by
  obtain ⟨r, h, _⟩ := Zdz (body := t3 (QM n x y at_)) (fun s => ∃ k : Nat, s.2.2 = k ∧ k ≤ 2) (fun s => 2 - s.2.2.toNat) (fun _ => True) (by
    rintro ⟨b, l, i⟩ ⟨k, hk, h2⟩
    simp only at hk
    subst hk
    show (∃ s', QM n x y at_ b l (k : Int) = some (.inl s') ∧ _) ∨ ∃ r, QM n x y at_ b l (k : Int) = some (.inr r) ∧ _
    unfold QM QL Zc4
    rcases Nat.lt_or_ge k 2 with h | h
    · rw [if_pos (by rw [decide_eq_true_eq]; omega)]
      have hv : ∃ w, ZI (#v[(min (max at_ y.1) y.2.1), (min (max (i64 (at_ + 1)) y.1) y.2.1)] : Vector Int 2) (k : Int) = some w := by
        rcases (show k = 0 ∨ k = 1 by omega) with rfl | rfl <;> exact ⟨_, rfl⟩
      obtain ⟨w, hw⟩ := hv
      rw [hw, Option.bind_some, Option.bind_some, Option.bind_some, Xu (z := (k : Int) + 1) (by omega) (by omega)]
      left
      split
      · exact ⟨_, rfl, ⟨k + 1, by push_cast; rfl, by omega⟩, by simp only; omega⟩
      · exact ⟨_, rfl, ⟨k + 1, by push_cast; rfl, by omega⟩, by simp only; omega⟩
    · rw [if_neg (by rw [decide_eq_true_eq]; omega)]
      exact .inr ⟨_, rfl, trivial⟩) (b, l, 0) ⟨0, rfl, by decide⟩
  exact ⟨r, h⟩
theorem Zmx {c : api_Calibration} (hc : Zgn c = 0) (hw : JN c) (n : Int) : ∃ z, series_Nearest c n = some z := by
  have h50 := (Zlq hc).1
  unfold series_Nearest
  rw [Zd4, Option.bind_some, hc, if_neg (by decide)]
  unfold ZF
  rw [Option.bind_some]
  split
  · exact ⟨_, rfl⟩
  obtain ⟨r, h, _⟩ := Zdz (body := t3 (Xs c n)) (fun s => ∃ k : Nat, s.2.2 = k ∧ k ≤ c.Lines.length) (fun s => c.Lines.length - s.2.2.toNat) (fun _ => True) (by
    rintro ⟨b, l, i⟩ ⟨k, hk, h2⟩
    simp only at hk
    subst hk
    show (∃ s', Xs c n b l (k : Int) = some (.inl s') ∧ _) ∨ ∃ r, Xs c n b l (k : Int) = some (.inr r) ∧ _
    unfold Xs
    rcases Nat.lt_or_ge k c.Lines.length with h | h
    · obtain ⟨x, hx⟩ := ZU h
      have hwx := hw.2.1.2 x (List.mem_of_getElem? hx)
      obtain ⟨y3, hy⟩ := Zla c x hwx
      rw [if_pos (by rw [decide_eq_true_eq]; omega), ZE hx, Option.bind_some, hy, Option.bind_some, Xu (z := (k : Int) + 1) (by omega) (by omega)]
      left
      split
      · exact ⟨_, rfl, ⟨k + 1, by push_cast; rfl, by omega⟩, by simp only; omega⟩
      · have : ∃ at_, (if (!decide (x.A_ = 0)) = true then (Xa (i64 (n - x.B)) x.A_).bind fun y4 => some y4 else some y3.1) = some at_ := by
          by_cases h0 : x.A_ = 0
          · rw [if_neg (by simp [h0])]; exact ⟨_, rfl⟩
          · obtain ⟨z, hz⟩ := Zgl (a := i64 (n - x.B)) h0
            rw [if_pos (by simp [h0]), hz]; exact ⟨_, rfl⟩
        obtain ⟨at_, ha⟩ := this
        obtain ⟨⟨b3, l3⟩, hz⟩ := Zpd n x y3 at_ b l
        rw [ha, Option.bind_some, ZaN, hz, Option.bind_some]
        exact ⟨(b3, l3, (k : Int) + 1), rfl, ⟨k + 1, by push_cast; rfl, by omega⟩, by simp only; omega⟩
    · rw [if_neg (by rw [decide_eq_true_eq]; omega)]
      exact .inr ⟨_, rfl, trivial⟩) (0, -1, 0) ⟨0, rfl, Nat.zero_le _⟩
  obtain ⟨b, l⟩ := r
  rw [h, Option.bind_some, J3]
  split <;> exact ⟨_, rfl⟩
theorem ZjK {c : api_Calibration} (hc : Zgn c = 0) (v : Int) : JJ c v = some ((Zg9 c v).1, (Zg9 c v).2, 0) := by
  unfold JJ
  rw [Zd4, Option.bind_some, hc, if_neg (by decide), Zmi c v (Zlq hc).1, Option.bind_some]
theorem ZnK {p : api_Param} (h : Ze6 p = 0) : ZaE p = some ((lims p).1, (lims p).2, 0) := by
  obtain ⟨n, h1, h2⟩ := ZfZ (Zg6 h)
  unfold ZaE
  rw [Zgf, Option.bind_some, h, if_neg (by decide), h1, Option.bind_some, h2.low, h2.high]
theorem ZnD : ∀ (xs : List Smp) (p : Option Smp) (k : Nat), (∀ x ∈ xs, ZaQ x = none) → (xs.Pairwise fun a b => a.At < b.At) → (∀ y, p = some y → ∀ x ∈ xs, y.At < x.At) → (Zha p k xs).2 = 0
  | [], _, _, _, _, _ => rfl
  | x :: tl, p, k, h1, h2, h3 => by
    have ho : ZfL p x = false := by
      unfold ZfL
      split
      · rfl
      · rename_i y
        have := h3 y rfl x List.mem_cons_self
        rw [decide_eq_false_iff_not]; omega
    rw [Zha, h1 x List.mem_cons_self]
    simp only
    rw [ho, if_neg Bool.false_ne_true]
    have h2 := List.pairwise_cons.1 h2
    exact ZnD tl (some x) (k + 1) (fun y hy => h1 y (List.mem_cons_of_mem _ hy)) h2.2 (fun y hy z hz => by
      have : x = y := Option.some.inj hy
      subst this
      exact h2.1 z hz)
def ZiU (j : Int) (cs : List api_Cell) (vs : List Int) : List (api_Cell × Int) := (cs.zip vs).filter fun z => decide (z.1.Param = j)
def wantL (j : Int) (cs : List api_Cell) (vs : List Int) : List Int := (ZiU j cs vs).map (·.2)
theorem Zkd (j : Int) : ∀ (cs : List api_Cell) (vs : List Int), cs.length = vs.length → (ZiU j cs vs).map (·.1) = cs.filter fun c => decide (c.Param = j)
  | [], [], _ => rfl
  | c :: cs, v :: vs, h => by
    have ih := Zkd j cs vs (by simpa using h)
    unfold ZiU at ih ⊢
    rw [List.zip_cons_cons, List.filter_cons, List.filter_cons]
    split
    · rw [List.map_cons, ih]
    · exact ih
theorem ZiZ (j : Int) {cs : List api_Cell} {vs : List Int} (h : cs.length = vs.length) (c : api_Cell) (v : Int) : ZiU j (cs ++ [c]) (vs ++ [v]) = ZiU j cs vs ++ if c.Param = j then [(c, v)] else [] := by
  unfold ZiU
  rw [List.zip_append h, List.filter_append]
  congr 1
  by_cases hc : c.Param = j
  · rw [if_pos hc]; simp [hc]
  · rw [if_neg hc]; simp [hc]
theorem ZfI (m : api_Map) : ∀ (cs : List api_Cell) (vs : List Int) (c : api_Cell) (v : Int), cs.length = vs.length → allIn m (cs ++ [c]) (vs ++ [v]) = (allIn m cs vs && inV m c v)
  | [], [], c, v, _ => by simp [allIn]
  | a :: cs, b :: vs, c, v, h => by
    rw [List.cons_append, List.cons_append, allIn, allIn, ZfI m cs vs c v (by simpa using h), Bool.and_assoc]
theorem ZgX (j : Int) (cs : List api_Cell) (vs : List Int) : (wantL j cs vs).length ≤ vs.length := by
  unfold wantL ZiU
  rw [List.length_map]
  refine Nat.le_trans (List.length_filter_le _ _) ?_
  rw [List.length_zip]; omega
structure Vals (m : api_Map) (c : api_Calibration) (given : List Int) (j : Int) (lo hi : Int) (cs : List api_Cell) (vs want : List Int) : Prop where
  len : cs.length = vs.length
  ins : allIn m cs vs = true
  wnt : want = wantL j cs vs
  near : ∀ (t : Nat) x, want[t]? = some x → ∃ g w, given[t]? = some g ∧ series_Nearest c g = some (w, 0) ∧ x = min (max w lo) hi
theorem Zmv {m : api_Map} (hk : Zcf m = 0) (h400 : (allC 0 m.Params).length ≤ 400) {c : api_Calibration} (hc : Zgn c = 0) (hw : JN c) (given : List Int) {j : Nat} {p : api_Param} (hj : m.Params[j]? = some p) (e0 : Int) :
    ∃ r, loop (t3 (ZJ m c given (allC 0 m.Params, e0) (j : Int) ((lims p).1, (lims p).2, 0))) ([], [], 0) = some r ∧ (r = .inl true ∨ ∃ vs want, r = .inr (vs, want) ∧ Vals m c given (j : Int) (lims p).1 (lims p).2 (allC 0 m.Params) vs want) := by
  have hm := ZeH hk
  have hp := Zg6 (ZhQ hk hj)
  have hlb := Zjs hp
  refine Zdz (body := t3 (ZJ m c given (allC 0 m.Params, e0) (j : Int) ((lims p).1, (lims p).2, 0))) (fun s => ∃ k : Nat, s.2.2 = k ∧ k ≤ (allC 0 m.Params).length ∧ Vals m c given (j : Int) (lims p).1 (lims p).2 ((allC 0 m.Params).take k) s.1 s.2.1) (fun s => (allC 0 m.Params).length - s.2.2.toNat) _ ?_ ([], [], 0) ⟨0, rfl, Nat.zero_le _, ⟨rfl, rfl, rfl, fun t x h => by simp at h⟩⟩
  rintro ⟨vs, want, i⟩ ⟨k, hki, hkn, hV⟩
  simp only at hki hV
  subst hki
  show (∃ s', ZJ m c given (allC 0 m.Params, e0) (j : Int) ((lims p).1, (lims p).2, 0) vs want (k : Int) = some (.inl s') ∧ _) ∨ ∃ r, ZJ m c given (allC 0 m.Params, e0) (j : Int) ((lims p).1, (lims p).2, 0) vs want (k : Int) = some (.inr r) ∧ _
  unfold ZJ
  simp only
  rcases Nat.lt_or_ge k (allC 0 m.Params).length with h | h
  case inr =>
    rw [if_neg (by rw [decide_eq_true_eq]; omega)]
    rw [List.take_of_length_le h] at hV
    exact .inr ⟨_, rfl, .inr ⟨vs, want, rfl, hV⟩⟩
  obtain ⟨x, hx⟩ := ZU h
  have hlen := hV.len
  rw [List.length_take, Nat.min_eq_left hkn] at hlen
  have hwl : want.length ≤ k := by
    have := ZgX (j : Int) ((allC 0 m.Params).take k) vs
    rw [hV.wnt]; omega
  have hxm := List.mem_of_getElem? hx
  obtain ⟨c1, c2, _⟩ := Ze5 hm hxm
  rw [if_pos (by rw [decide_eq_true_eq]; omega), ZE hx, Option.bind_some]
  have htk : (allC 0 m.Params).take (k + 1) = (allC 0 m.Params).take k ++ [x] := by rw [List.take_add_one, hx]; rfl
  by_cases hpj : x.Param = (j : Int)
  · rw [if_pos (by rw [decide_eq_true_eq]; exact hpj)]
    have hpar : JC m x = p := by
      unfold JC
      rw [hpj, Int.toNat_natCast, hj]; rfl
    by_cases hg : (given.length : Int) ≤ (want.length : Int)
    · rw [if_pos (by rw [decide_eq_true_eq]; exact hg)]
      exact .inr ⟨_, rfl, .inl rfl⟩
    rw [if_neg (by rw [decide_eq_true_eq]; exact hg)]
    obtain ⟨g, hgx⟩ := ZU (xs := given) (k := want.length) (by omega)
    obtain ⟨⟨w, e⟩, hN⟩ := Zmx hc hw g
    rw [ZE hgx, Option.bind_some, hN, Option.bind_some]
    by_cases he : e = 0
    case neg =>
      rw [if_pos (by simp [he])]
      exact .inr ⟨_, rfl, .inl rfl⟩
    subst he
    rw [if_neg (by simp), Zb0 (by rw [List.length_singleton]; omega), Option.bind_some, Option.bind_some, Sum.elim_inr, J3, Zb0 (by rw [List.length_singleton]; omega), Option.bind_some, Xu (by omega) (by omega)]
    refine .inl ⟨_, rfl, ⟨k + 1, by push_cast; rfl, h, ?_⟩, by simp only; omega⟩
    simp only
    rw [htk]
    refine ⟨by rw [List.length_append, List.length_append, hV.len]; rfl, ?_, ?_, fun t y hy => ?_⟩
    · rw [ZfI m _ _ _ _ hV.len, hV.ins]
      unfold inV
      rw [hpar, Bool.true_and]
      exact Zcw.2 ⟨by omega, by omega⟩
    · unfold wantL
      rw [ZiZ _ hV.len, if_pos hpj, List.map_append]
      have := hV.wnt
      unfold wantL at this
      rw [← this]; rfl
    · rcases Nat.lt_or_ge t want.length with ht | ht
      · rw [List.getElem?_append_left ht] at hy
        exact hV.near t y hy
      · rw [List.getElem?_append_right ht] at hy
        have ht0 : t - want.length = 0 := by
          rcases Nat.eq_zero_or_pos (t - want.length) with e | e
          · exact e
          · rw [List.getElem?_eq_none (by simp; omega)] at hy; cases hy
        rw [ht0] at hy
        have : t = want.length := by omega
        subst this
        exact ⟨g, w, hgx, hN, (Option.some.inj hy).symm⟩
  · rw [if_neg (by rw [decide_eq_true_eq]; exact hpj), Option.bind_some, c1, Option.bind_some]
    have hpq : Ze6 (JC m x) = 0 := by
      obtain ⟨_, hi⟩ := Zdv c1
      exact ZhQ hk hi
    rw [ZnK hpq, Option.bind_some]
    simp only
    rw [if_pos (by decide), Option.bind_some, Sum.elim_inr, J3, Zb0 (by rw [List.length_singleton]; omega), Option.bind_some, Xu (by omega) (by omega)]
    have hlx := Zjs c2
    refine .inl ⟨_, rfl, ⟨k + 1, by push_cast; rfl, h, ?_⟩, by simp only; omega⟩
    simp only
    rw [htk]
    refine ⟨by rw [List.length_append, List.length_append, hV.len]; rfl, ?_, ?_, hV.near⟩
    · rw [ZfI m _ _ _ _ hV.len, hV.ins]
      unfold inV
      rw [Bool.true_and]
      exact Zcw.2 ⟨Int.le_refl _, hlx.2.2⟩
    · unfold wantL
      rw [ZiZ _ hV.len, if_neg hpj, List.append_nil]
      exact hV.wnt
end Go.Vx

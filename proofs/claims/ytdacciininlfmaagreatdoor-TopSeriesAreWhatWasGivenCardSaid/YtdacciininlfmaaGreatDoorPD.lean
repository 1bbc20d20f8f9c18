/- A text of the proof: a verified executor of the program form, or the contracts of the functions that the law reaches. -/
import Derived.Test.YtdacciininlfmaaGreatDoorPC
set_option linter.all false
namespace Go.Vx
open Go Go.RowKit
theorem Zpn : ZcF = some true := Zju _ (by decide +kernel)
structure Smps (j : Nat) (p : api_Param) (ver : Int) (L : List api_Rest) (wo : List Int) (want : List Int) : Prop where
  len : want.length = (cellsN 0 p).length
  one : ∀ (i : Nat) c, (cellsN 0 p)[i]? = some c → ∃ v, want[i]? = some v ∧ ((lims p).1 ≤ v ∧ v ≤ (lims p).2) ∧ (smpV ver p L c.Places = (v, 4) ∨ (wo ≠ [] ∧ smpV ver p L c.Places = (0, 0)))
theorem ZqS {m : api_Map} (hk : Zcf m = 0) {j : Nat} {p : api_Param} (hj : m.Params[j]? = some p) {c : api_Calibration} {given : List Int} {lo hi : Int} {vs want : List Int} (hV : Vals m c given (j : Int) lo hi (allC 0 m.Params) vs want) {first q : Int} (hf : 0 ≤ first ∧ first ≤ 4194288) (hq : first = 16 * q) (wo : List Int) :
    Smps j p m.Version (Xi first (Zhe first (wrF (ZcL m) (Zc1 m (allC 0 m.Params) vs)) 16) wo 16) wo want := by
  have hm := ZeH hk
  have hfst := Zkd (j : Int) _ _ hV.len
  have hflt := Zjp m.Params 0 j hm.par hj
  rw [Nat.zero_add] at hflt
  rw [hflt, Zld] at hfst
  have hlz : (ZiU (j : Int) (allC 0 m.Params) vs).length = (cellsN 0 p).length := by
    have := congrArg List.length hfst
    simpa using this
  refine ⟨by rw [hV.wnt]; unfold wantL; rw [List.length_map, hlz], fun i c0 hc0 => ?_⟩
  have hlt : i < (ZiU (j : Int) (allC 0 m.Params) vs).length := by rw [hlz]; exact (List.getElem?_eq_some_iff.1 hc0).1
  obtain ⟨⟨c1, v⟩, hz⟩ := ZU hlt
  have h1 : ((ZiU (j : Int) (allC 0 m.Params) vs).map (·.1))[i]? = some c1 := by rw [List.getElem?_map, hz]; rfl
  rw [hfst, List.getElem?_map, hc0] at h1
  have hc1 : ZpA (j : Int) c0 = c1 := Option.some.inj h1
  have hwv : want[i]? = some v := by rw [hV.wnt]; unfold wantL; rw [List.getElem?_map, hz]; rfl
  have hmem := (List.mem_filter.1 (List.mem_of_getElem? hz)).1
  obtain ⟨k, hkz⟩ := List.getElem?_of_mem hmem
  rw [List.getElem?_zip_eq_some] at hkz
  have hsp := ZoO hm hV.len hV.ins hf hq wo hkz.1 hkz.2
  have hin := (ZkZ hm hV.len hV.ins hkz.1 hkz.2).2
  have hpar : JC m c1 = p := by
    unfold JC
    rw [← hc1]
    show (m.Params[((j : Int)).toNat]?).getD _ = p
    rw [Int.toNat_natCast, hj]; rfl
  have hpl : c1.Places = c0.Places := by rw [← hc1]; rfl
  unfold inV at hin
  rw [hpar] at hin hsp
  rw [hpl] at hsp
  exact ⟨v, hwv, Zcw.1 hin, hsp⟩
theorem ZpF {j : Nat} {p : api_Param} (hp : ParOK p) {ver : Int} {L : List api_Rest} {wo want : List Int} (hS : Smps j p ver L wo want) {q : Int} (hq : 0 ≤ q ∧ q ≤ 262143) :
    (chk (api_Series.mk 1 ((cellsN 0 p).map (Zdi ver p L q) ++ [api_Sample.mk ((q + 1) * 1024) 0 0]))).2 = 0 := by
  have hlc := Zav (number := 0) hp.toPartsOK
  have hinv := Zjo hp 0 (16 * q)
  have hlb := Zjs hp
  have hT := (Xw hp.tim).2.2.1
  have htm : ∀ c ∈ cellsN 0 p, 0 ≤ tmN p (16 * q) c ∧ tmN p (16 * q) c < (q + 1) * 1024 := fun c hc => by
    have hfr := (ZdB hp 0 c hc).1
    have h3 := ZjB (x := c.Index % p.Times) (T := p.Times) hT.1 (Int.emod_nonneg _ (by omega)) (Int.emod_lt_of_pos _ (by omega))
    unfold tmN
    omega
  unfold chk
  have hw : wi (1 : Int) 1 1000000 = true := ZcI.2 ⟨by decide, by decide⟩
  simp only
  rw [if_pos hw, if_pos (by rw [List.length_append, List.length_map, List.length_singleton]; omega)]
  refine ZnD _ none 0 (fun x hx => ?_) ?_ (fun y hy => by cases hy)
  · rcases List.mem_append.1 hx with hx | hx
    · obtain ⟨c, hc, rfl⟩ := List.mem_map.1 hx
      obtain ⟨i, hi⟩ := List.getElem?_of_mem hc
      obtain ⟨v, _, hv, hs⟩ := hS.one i c hi
      have ht := htm c hc
      have hAt : wi (tmN p (16 * q) c) 0 1099511627776 = true := ZcI.2 ⟨ht.1, by omega⟩
      rcases hs with hs | ⟨_, hs⟩
      · have e : Zdi ver p L q c = ⟨tmN p (16 * q) c, v, 4⟩ := by unfold Zdi; rw [hs]
        have hN : wi v (-1125899906842624) 1125899906842624 = true := ZcI.2 ⟨by omega, by omega⟩
        have hM : wi (4 : Int) 0 4 = true := ZcI.2 ⟨by decide, by decide⟩
        rw [e]
        unfold ZaQ
        simp only
        rw [hAt, hN, hM, if_neg (by decide), if_neg (by simp)]
      · have e : Zdi ver p L q c = ⟨tmN p (16 * q) c, 0, 0⟩ := by unfold Zdi; rw [hs]
        have hN : wi (0 : Int) (-1125899906842624) 1125899906842624 = true := ZcI.2 ⟨by decide, by decide⟩
        have hM : wi (0 : Int) 0 4 = true := ZcI.2 ⟨by decide, by decide⟩
        rw [e]
        unfold ZaQ
        simp only
        rw [hAt, hN, hM, if_neg (by decide), if_neg (by simp)]
    · obtain rfl := List.mem_singleton.1 hx
      have hAt : wi ((q + 1) * 1024) 0 1099511627776 = true := ZcI.2 ⟨by omega, by omega⟩
      have hN : wi (0 : Int) (-1125899906842624) 1125899906842624 = true := ZcI.2 ⟨by decide, by decide⟩
      have hM : wi (0 : Int) 0 4 = true := ZcI.2 ⟨by decide, by decide⟩
      unfold ZaQ
      simp only
      rw [hAt, hN, hM, if_neg (by decide), if_neg (by simp)]
  · rw [List.pairwise_append]
    refine ⟨?_, List.pairwise_singleton _ _, fun a ha b hb => ?_⟩
    · have := hinv.sort
      rw [List.pairwise_map] at this ⊢
      exact this.imp fun h => h
    · obtain ⟨c, hc, rfl⟩ := List.mem_map.1 ha
      obtain rfl := List.mem_singleton.1 hb
      exact (htm c hc).2
theorem Znb {c : api_Calibration} (hc : Zgn c = 0) {m : api_Map} {given wo : List Int} {p : api_Param} {j : Nat} {ver : Int} {L : List api_Rest} {vs want : List Int} (h400 : (allC 0 m.Params).length ≤ 400) (hV : Vals m c given (j : Int) (lims p).1 (lims p).2 (allC 0 m.Params) vs want) (hS : Smps j p ver L wo want) (q e : Int) (z : api_Sample) (dn : Int) :
    loop (t1 (Zz c given wo ((lims p).1, (lims p).2, 0) want (api_Series.mk dn (((cellsN 0 p).map (Zdi ver p L q) ++ [z]).map (Zet c)), e))) 0 = some (.inr ()) := by
  have hN := hS.len
  have hwb : want.length ≤ 400 := by
    have := ZgX (j : Int) (allC 0 m.Params) vs
    have h2 := hV.len
    rw [hV.wnt]; omega
  have hlen : (((cellsN 0 p).map (Zdi ver p L q) ++ [z]).map (Zet c)).length = want.length + 1 := by simp [hN]
  have e1 : i64 ((((((cellsN 0 p).map (Zdi ver p L q) ++ [z]).map (Zet c)).length : Nat) : Int) - 1) = (want.length : Int) := by
    rw [hlen, Xu (by omega) (by omega)]; omega
  have none' : ((List.range' 0 want.length).findSome? (fun _ => (none : Option Unit))) = none := by rw [List.findSome?_eq_none_iff]; intro _ _; rfl
  have Lp := ZcC (body := t1 (Zz c given wo ((lims p).1, (lims p).2, 0) want (api_Series.mk dn (((cellsN 0 p).map (Zdi ver p L q) ++ [z]).map (Zet c)), e))) (fun k => (k : Int)) (fun _ => (none : Option Unit)) (fun _ => (.inl false : Bool ⊕ Unit)) (.inr ()) (b := want.length) (fun k hk => by
    refine .inr ⟨rfl, ?_⟩
    obtain ⟨c0, hc0⟩ := ZU (xs := cellsN 0 p) (k := k) (by omega)
    obtain ⟨v, hwv, hvb, hs⟩ := hS.one k c0 hc0
    obtain ⟨g, w, hg, hnr, hvw⟩ := hV.near k v hwv
    have hx : (((cellsN 0 p).map (Zdi ver p L q) ++ [z]).map (Zet c))[k]? = some (Zet c (Zdi ver p L q c0)) := by
      rw [List.getElem?_map, List.getElem?_append_left (by rw [List.length_map]; omega), List.getElem?_map, hc0]; rfl
    rw [ZaN]
    unfold Zz
    simp only
    rw [e1, if_pos (by rw [decide_eq_true_eq]; omega), ZE hx, Option.bind_some, Xu (z := (k : Int) + 1) (by omega) (by omega)]
    rcases hs with hs | ⟨hwo, hs⟩
    · have ec : Zet c (Zdi ver p L q c0) = ⟨tmN p (16 * q) c0, (Zg9 c v).1, if (Zg9 c v).2 then 4 else 1⟩ := by
        unfold Zdi
        rw [hs]
        unfold Zet
        rw [if_neg (by show ¬ ((4 : Int) < 2); decide)]
      rw [ec]
      cases hmv : (Zg9 c v).2 with
      | true =>
        rw [if_pos rfl]
        simp only
        rw [if_pos (by decide), ZE hwv, Option.bind_some, ZjK hc, Option.bind_some, hmv, if_neg (by simp), ZE hg, Option.bind_some, hnr, Option.bind_some, if_neg (by simp), ZjK hc, Option.bind_some, Option.bind_some, Option.bind_some, Option.bind_some, Option.bind_some]
        rw [if_neg]
        · rw [Option.bind_some, Sum.elim_inr, t0]; push_cast; rfl
        · simp only [Bool.or_eq_true, Bool.and_eq_true, Bool.not_eq_true', decide_eq_true_eq, decide_eq_false_iff_not]
          rintro (h | ⟨⟨h1, h2⟩, h3⟩)
          · exact h trivial
          · have : v = w := by omega
            subst this
            exact h3 rfl
      | false =>
        rw [if_neg Bool.false_ne_true]
        simp only
        rw [if_neg (by simp), if_pos (by simp), ZE hwv, Option.bind_some, ZjK hc, Option.bind_some, hmv, if_neg (by simp), Option.bind_some, Sum.elim_inr, t0]
        push_cast; rfl
    · have ec : Zet c (Zdi ver p L q c0) = ⟨tmN p (16 * q) c0, 0, 0⟩ := by
        unfold Zdi
        rw [hs]
        unfold Zet
        rw [if_pos (by show (0 : Int) < 2; decide)]
      have hwl : ¬ (wo.length : Int) = 0 := by
        have := List.length_pos_iff.2 hwo
        omega
      rw [ec]
      simp only
      rw [if_neg (by simp), if_neg (by simp), if_neg (by rw [decide_eq_true_eq]; exact hwl), Option.bind_some, Sum.elim_inr, t0]
      push_cast; rfl) (by
    rw [ZaN]
    unfold Zz
    simp only
    rw [e1, if_neg (by rw [decide_eq_true_eq]; omega)])
  rw [none'] at Lp
  exact Lp
theorem Zrw {m : api_Map} (hl : m.Params.length ≤ 9223372036854775807) (name : Str) : ∃ y : Int, Zat m name = some y ∧ (y < 0 ∨ ∃ (j : Nat) (p : api_Param), y = (j : Int) ∧ m.Params[j]? = some p) := by
  unfold Zat
  obtain ⟨r, hr, hq⟩ := Zdz (body := t1 (ZaZ m name)) (fun i => ∃ k : Nat, i = k ∧ k ≤ m.Params.length) (fun i => m.Params.length - i.toNat)
    (fun r => r = .inr () ∨ ∃ (j : Nat) (p : api_Param), r = .inl (j : Int) ∧ m.Params[j]? = some p) (by
    rintro i ⟨k, rfl, hk⟩
    rw [ZaN]
    unfold ZaZ
    rcases Nat.lt_or_ge k m.Params.length with hlt | hge
    · obtain ⟨x, hx⟩ := ZU hlt
      rw [if_pos (by simp; omega), ZE hx, Option.bind_some, Xu (by omega) (by omega)]
      split
      · exact .inr ⟨_, rfl, .inr ⟨k, x, rfl, hx⟩⟩
      · exact .inl ⟨_, rfl, ⟨k + 1, by push_cast; rfl, hlt⟩, by omega⟩
    · rw [if_neg (by simp; omega)]
      exact .inr ⟨_, rfl, .inl rfl⟩) 0 ⟨0, rfl, Nat.zero_le _⟩
  rw [hr, Option.bind_some]
  rcases hq with rfl | ⟨j, p, rfl, hp⟩
  · exact ⟨-1, rfl, .inl (by decide)⟩
  · exact ⟨j, rfl, .inr ⟨j, p, rfl, hp⟩⟩
theorem Zku (B : Bool) (hB : B = true) (A C : Option Int) (rest : Option Bool) : ((gd (B == false) 0 A).bind fun q => (gd ((B || !decide (q = 0)) == false) 0 C).bind fun y4 => if ((B || !decide (q = 0)) || !decide (y4 = 0)) = true then some true else rest) = some true := by subst hB; rfl
theorem Zm7 (B : Bool) (hB : B = false) (q0 y0 : Int) (rest : Option Bool) : ((gd (B == false) 0 (some q0)).bind fun q => (gd ((B || !decide (q = 0)) == false) 0 (some y0)).bind fun y4 => if ((B || !decide (q = 0)) || !decide (y4 = 0)) = true then some true else rest) = if q0 = 0 ∧ y0 = 0 then rest else some true := by
  subst hB
  by_cases h1 : q0 = 0 <;> by_cases h2 : y0 = 0 <;> simp [h1, h2, gd]
theorem Znk {wo want : List Int} {S : List api_Sample} {lo : Int} (hwb : want.length ≤ 4000) (h0 : lo = 0) (h : (S = [] ∧ wo ≠ []) ∨ ∃ z, S.length = want.length + 1 ∧ S[want.length]? = some z ∧ z.Mark = 0) {K : Option Bool} (hK : K = some true) :
    ((gd (((((!decide (lo = 0)) || ((decide ((wo.length : Int) = 0)) && (!decide ((S.length : Int) = (i64 ((want.length : Int) + 1)))))) == false) && ((!decide ((S.length : Int) = 0)) == true)) && ((!decide ((S.length : Int) = (i64 ((want.length : Int) + 1)))) == false)) (api_Sample.mk 0 0 0) (idx S (i64 ((S.length : Int) - 1)))).bind fun x6 =>
      if (((!decide (lo = 0)) || ((decide ((wo.length : Int) = 0)) && (!decide ((S.length : Int) = (i64 ((want.length : Int) + 1)))))) || ((!decide ((S.length : Int) = 0)) && ((!decide ((S.length : Int) = (i64 ((want.length : Int) + 1)))) || (!decide (x6.Mark = 0))))) = true then some false else K) = some true := by
  subst h0
  rw [Xu (z := (want.length : Int) + 1) (by omega) (by omega)]
  rcases h with ⟨rfl, hwo⟩ | ⟨z, h1, h2, h3⟩
  · have hw : ¬ (wo.length : Int) = 0 := by have := List.length_pos_iff.2 hwo; omega
    have hw' : decide ((wo.length : Int) = 0) = false := decide_eq_false hw
    rw [hw', hK]
    rfl
  · have e1 : decide ((S.length : Int) = (want.length : Int) + 1) = true := by rw [decide_eq_true_eq]; omega
    have e2 : decide ((S.length : Int) = 0) = false := by rw [decide_eq_false_iff_not]; omega
    have e3 : i64 ((S.length : Int) - 1) = (want.length : Int) := by rw [Xu (by omega) (by omega)]; omega
    rw [e1, e2, e3, ZE h2, hK]
    cases decide ((wo.length : Int) = 0) <;> simp [gd, h3]
theorem ZnU (first : Int) (F : Vector (Vector Int 64) 16) : Xi first F [] 16 ≠ [] := fun e => by
  have : Zdu first F 0 ∈ Xi first F [] 16 := ZbJ.2 ⟨0, by decide, rfl, rfl⟩
  rw [e] at this; cases this
theorem Zko (m : api_Map) (name : Str) (c : api_Calibration) (first : Int) (given without : List Int) (hs : ZcU m) (hw : JN c) (hwo : wfL (wfI .i64) without) : QA m name c first given without = some true := by
  unfold QA
  rw [Zpn, Option.bind_some, if_neg (by decide), Zmo, Option.bind_some]
  obtain ⟨y, hy, hyj⟩ := Zrw hs.2.1.1 name
  rw [hy, Option.bind_some]
  by_cases hk : Zcf m = 0
  case neg =>
    rw [if_neg hk]
    exact Zku _ (by simp [hk]) _ _ _
  rw [if_pos hk]
  simp only
  by_cases hg : ¬ y < 0 ∧ ¬ (400 : Int) < ((allC 0 m.Params).length : Int) ∧ ¬ first < 0 ∧ ¬ 4194288 < first
  case neg =>
    refine Zku _ ?_ _ _ _
    by_cases g1 : y < 0
    · simp [g1]
    by_cases g2 : (400 : Int) < ((allC 0 m.Params).length : Int)
    · simp [g2]
    by_cases g3 : first < 0
    · simp [g3]
    by_cases g4 : 4194288 < first
    · simp [g4]
    exact (hg ⟨g1, g2, g3, g4⟩).elim
  obtain ⟨g1, g2, g3, g4⟩ := hg
  rw [Ziv (by omega) 16 (by decide), Zkg]
  refine (Zm7 _ (by rw [decide_eq_false g1, decide_eq_false g2, decide_eq_false g3, decide_eq_false g4]; rfl) _ _ _).trans ?_
  by_cases hgo : first % 16 = 0 ∧ Zgn c = 0
  case neg => rw [if_neg hgo]
  obtain ⟨hr, hc⟩ := hgo
  rw [if_pos ⟨hr, hc⟩]
  rcases hyj with hn | ⟨j, p, rfl, hj⟩
  · exact (g1 hn).elim
  have hq := ZhQ hk hj
  have hp := Zg6 hq
  have hf : 0 ≤ first ∧ first ≤ 4194288 := ⟨by omega, by omega⟩
  rw [Zos m hs, if_pos hk, Option.bind_some]
  simp only
  rw [if_neg (by simp), ZE hj, Option.bind_some, ZnK hq, Option.bind_some]
  simp only
  rw [if_neg (by simp)]
  obtain ⟨r, hL, hcase⟩ := Zmv hk (by omega) hc hw given hj 0
  rw [hL, Option.bind_some]
  rcases hcase with rfl | ⟨vs, want, rfl, hV⟩
  · rfl
  rw [Sum.elim_inr, J3, Zpq hk hf hr hV.len hV.ins, Option.bind_some]
  simp only
  obtain ⟨q, hqq⟩ : ∃ q, first = 16 * q := ⟨first / 16, by omega⟩
  have hFr := Zon hf (Zqt (ZeH hk) hV.len).dat
  have hS := ZqS hk hj hV hf hqq without
  rw [if_neg (by simp), ZnS hf _ hwo.1, Option.bind_some, ZqY hk hy hj hf hqq hFr without, Option.bind_some]
  have hwb : want.length ≤ 4000 := by
    have := ZgX (j : Int) (allC 0 m.Params) vs
    have h2 := hV.len
    rw [hV.wnt]; omega
  have hne : Xi first (Zhe first (wrF (ZcL m) (Zc1 m (allC 0 m.Params) vs)) 16) without 16 = [] → without ≠ [] := fun e he => ZnU first _ (by rw [he] at e; exact e)
  have hlp := fun e z dn => Znb hc (m := m) (given := given) (wo := without) (by omega) hV hS q e z dn
  have hck := ZpF hp hS (q := q) (by omega)
  generalize Xi first (Zhe first (wrF (ZcL m) (Zc1 m (allC 0 m.Params) vs)) 16) without 16 = L at *
  by_cases hL0 : L = []
  · rw [if_pos hL0]
    simp only
    have ho : ZgY (api_Series.mk 1 []) c = (api_Series.mk c.Den [], 0) := by
      have h1 : (chk (api_Series.mk 1 [])).2 = 0 := rfl
      unfold ZgY
      rw [if_neg (by simp [h1]), if_neg (by simp [hc]), if_neg (by simp)]; rfl
    rw [if_neg (by simp), Zhn, ho, Option.bind_some]
    simp only
    refine Znk (S := []) hwb rfl (.inl ⟨rfl, hne hL0⟩) ?_
    have hz : loop (t1 (Zz c given without ((lims p).1, (lims p).2, 0) want (api_Series.mk c.Den [], 0))) 0 = some (.inr ()) := by
      have hb : Zz c given without ((lims p).1, (lims p).2, 0) want (api_Series.mk c.Den [], 0) 0 = some (.inr (.inr ())) := by
        unfold Zz
        simp only
        rw [if_neg (by show ¬ (decide ((0 : Int) < i64 (((0 : Nat) : Int) - 1)) = true); decide)]
      rw [ZN, ZaN, hb]; rfl
    rw [hz, Option.bind_some, Sum.elim_inr, t0]
  · rw [if_neg hL0]
    simp only
    have ho : ZgY (api_Series.mk 1 ((cellsN 0 p).map (Zdi m.Version p L q) ++ [api_Sample.mk ((q + 1) * 1024) 0 0])) c = (api_Series.mk c.Den (((cellsN 0 p).map (Zdi m.Version p L q) ++ [api_Sample.mk ((q + 1) * 1024) 0 0]).map (Zet c)), 0) := by
      unfold ZgY
      rw [if_neg (by simp [hck]), if_neg (by simp [hc]), if_neg (by simp)]
    rw [if_neg (by simp), Zhn, ho, Option.bind_some]
    simp only
    refine Znk hwb rfl (.inr ⟨Zet c (api_Sample.mk ((q + 1) * 1024) 0 0), by simp [hS.len], ?_, ?_⟩) ?_
    · rw [List.getElem?_map, List.getElem?_append_right (by rw [List.length_map, hS.len]; exact Nat.le_refl _), List.length_map, hS.len, Nat.sub_self]; rfl
    · unfold Zet
      rw [if_pos (by show (0 : Int) < 2; decide)]
    · rw [hlp, Option.bind_some, Sum.elim_inr, t0]
end Go.Vx

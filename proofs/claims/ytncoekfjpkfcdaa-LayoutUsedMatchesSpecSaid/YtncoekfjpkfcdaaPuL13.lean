/- A text of the proof: a verified executor of the program form, or the contracts of the functions that the law reaches. -/
import Derived.Test.YtncoekfjpkfcdaaPF
import Derived.Test.YtncoekfjpkfcdaaFuL5
import Derived.Test.YtncoekfjpkfcdaaVyL
set_option linter.all false
namespace Go.Vx
open Go Go.RowKit
noncomputable def verB (n : Nat) : Bool := decide (frame_data (n : Int) = some ((n % 2048 : Nat) : Int)) && (decide (frame_odd (n : Int) = ref1_odd_c (n : Int)) && (ref1_odd_c (n : Int)).isSome)
theorem ver_all : (List.range 4096).all verB = true := by decide +kernel
theorem ver_one {n : Nat} (h : n < 4096) : frame_data (n : Int) = some ((n % 2048 : Nat) : Int) ∧ ∃ b, frame_odd (n : Int) = some b ∧ ref1_odd (n : Int) = some b := by
  have := List.all_eq_true.1 ver_all n (List.mem_range.2 h)
  simp only [verB, Bool.and_eq_true, decide_eq_true_eq] at this
  obtain ⟨h1, h2, h3⟩ := this
  obtain ⟨b, hb⟩ := Option.isSome_iff_exists.1 h3
  exact ⟨h1, b, h2.trans hb, le_ref1_odd _ b hb⟩
theorem wf_u16 {n : Int} (h : wfI .u16 n) : 0 ≤ n ∧ n ≤ 65535 := by
  have h' : (decide (IntKind.u16.min ≤ n) && decide (n ≤ IntKind.u16.max)) = true := h
  have e1 : IntKind.u16.min = 0 := by decide
  have e2 : IntKind.u16.max = 65535 := by decide
  rw [e1, e2] at h'
  simpa using h'
theorem u16_id {n : Int} (h : 0 ≤ n ∧ n ≤ 65535) : u16 n = n := by
  unfold u16 IntKind.wrap
  simp only [IntKind.signed, IntKind.bits]
  have e : (2 : Int) ^ 16 = 65536 := by decide
  simp [e]
  omega
theorem vidx3 {x : Vector Int 64} (hx : wfV (wfI .u16) x) : ∃ n : Nat, n ≤ 65535 ∧ vidx x 3 = some (n : Int) := by
  have hl : x.toList.length = 64 := by simp
  obtain ⟨z, hz⟩ := get_ex (xs := x.toList) (k := 3) (by omega)
  have := wf_u16 (hx z (List.mem_of_getElem? hz))
  refine ⟨z.toNat, by omega, ?_⟩
  have e : ((z.toNat : Nat) : Int) = z := by omega
  rw [e]
  show (if (0 : Int) ≤ 3 then x.toList[(3 : Int).toNat]? else none) = some z
  rw [if_pos (by decide)]
  exact hz
theorem Version_s {x : Vector Int 64} (hx : wfV (wfI .u16) x) : ∃ r, layout_Version x = some r ∧ ref2_Version x = some r := by
  obtain ⟨n, hn, hv⟩ := vidx3 hx
  unfold layout_Version ref2_Version
  rw [hv]
  simp only [Option.bind_some]
  rw [i64s (by omega) (by omega)]
  unfold frame_Data ref1_Right
  by_cases h : n < 4096
  · obtain ⟨h1, b, h2, h3⟩ := ver_one h
    have g1 : decide ((n : Int) < 0) = false := by rw [decide_eq_false_iff_not]; omega
    have g2 : decide ((4095 : Int) < (n : Int)) = false := by rw [decide_eq_false_iff_not]; omega
    have g3 : decide ((n : Int) ≤ 4095) = true := by rw [decide_eq_true_eq]; omega
    rw [g1, g2, g3, u16_id (by omega), i64s (by omega) (by omega), h1, h2, h3]
    cases b
    · exact ⟨(0, false), rfl, rfl⟩
    · refine ⟨(((n % 2048 : Nat) : Int), true), rfl, ?_⟩
      simp only [gd_tt, Option.bind_some, Bool.and_self, Bool.not_true, Bool.false_eq_true, if_false]
      have : rem (n : Int) 2048 = some ((n % 2048 : Nat) : Int) := by
        simp only [rem]
        rw [if_neg (by decide), Int.tmod_eq_emod_of_nonneg (by omega)]; rfl
      rw [this]; rfl
  · have g1 : decide ((n : Int) < 0) = false := by rw [decide_eq_false_iff_not]; omega
    have g2 : decide ((4095 : Int) < (n : Int)) = true := by rw [decide_eq_true_eq]; omega
    have g3 : decide ((n : Int) ≤ 4095) = false := by rw [decide_eq_false_iff_not]; omega
    rw [g1, g2, g3]
    exact ⟨(0, false), rfl, rfl⟩
theorem loop_ex {α σ S : Type} {xs : List α} {body : σ → Int → Option ((σ × Int) ⊕ σ)} (R : σ → S → Prop) (f : S → α → S)
    (hstep : ∀ a s (k : Nat) x, xs[k]? = some x → R a s → ∃ a', body a k = some (.inl (a', (k : Int) + 1)) ∧ R a' (f s x)) (hend : ∀ a, body a xs.length = some (.inr a)) (a0 : σ) (s0 : S) (h0 : R a0 s0) :
    ∃ a, loop (t2 body) (a0, 0) = some a ∧ R a (xs.foldl f s0) := by
  have key : ∀ (n k : Nat) (a : σ) (s : S), k + n = xs.length → R a s → ∃ a', loop (t2 body) (a, (k : Int)) = some a' ∧ R a' ((xs.drop k).foldl f s) := by
    intro n
    induction n with
    | zero =>
      intro k a s hk h
      have : k = xs.length := by omega
      subst this
      refine ⟨a, ?_, by simpa using h⟩
      rw [loop_eq, t2_mk, hend]; rfl
    | succ n ih =>
      intro k a s hk h
      obtain ⟨x, hx⟩ := get_ex (xs := xs) (k := k) (by omega)
      obtain ⟨a', h1, h2⟩ := hstep a s k x hx h
      obtain ⟨a2, h3, h4⟩ := ih (k + 1) a' _ (by omega) h2
      refine ⟨a2, ?_, by rw [drop_cons hx]; exact h4⟩
      rw [loop_eq, t2_mk, h1]
      have e2 : ((k : Nat) : Int) + 1 = ((k + 1 : Nat) : Int) := by push_cast; rfl
      rw [e2]
      exact h3
  have := key xs.length 0 a0 s0 (by omega) h0
  simpa using this
def stW (r : Int) (f : Int → Bool) (q : api_Place) : Int → Bool := if q.Frame = r then (fun i => if i = q.Word then true else f i) else f
def stC (r : Int) (f : Int → Bool) (c : api_Cell) : Int → Bool := c.Places.foldl (stW r) f
def RM (o : List (Int × Bool)) (f : Int → Bool) : Prop := ∀ i, (mget kqI o i).getD false = f i
def RV (o : Vector Bool 64) (f : Int → Bool) : Prop := ∀ i : Nat, i < 64 → o.toList[i]? = some (f i)
theorem rem16 {n : Int} (h : 0 ≤ n) : rem n 16 = some (n % 16) := by
  simp only [rem]
  rw [if_neg (by decide), Int.tmod_eq_emod_of_nonneg h]
theorem usedM {m : api_Map} (hm : MapOK m) {number : Int} (hn : 0 ≤ number) (o : List (Int × Bool)) (f : Int → Bool) (h : RM o f) : ∃ a, loop (t2 (layout_Used_L1 number (allC 0 m.Params))) (o, 0) = some a ∧ RM a ((allC 0 m.Params).foldl (stC (number % 16)) f) := by
  have hcnt := hm.cnt
  refine loop_ex (xs := allC 0 m.Params) RM (stC (number % 16)) (fun a s k c hc hR => ?_) (fun a => by simp [layout_Used_L1]) o f h
  have hlt := lt_of hc
  obtain ⟨p8, pin⟩ := places_len hm (List.mem_of_getElem? hc)
  obtain ⟨a', g1, g2⟩ := loop_ex (xs := c.Places) (body := layout_Used_L2 number c) RM (stW (number % 16)) (fun a s j q hq hR => by
    have hlj := lt_of hq
    simp only [layout_Used_L2, hlj, decide_true, if_true, idx_of hq, Option.bind_some, rem16 hn]
    rw [i64s (z := (j : Int) + 1) (by omega) (by omega)]
    by_cases hf : q.Frame = number % 16
    · refine ⟨mput kqI a q.Word true, by rw [if_pos (by simpa using hf)], fun i => ?_⟩
      rw [mget_put kqI_iff]
      simp only [stW, if_pos hf]
      by_cases hi : i = q.Word
      · rw [if_pos hi, if_pos hi]; rfl
      · rw [if_neg hi, if_neg hi]; exact hR i
    · refine ⟨a, by rw [if_neg (by simpa using hf)], ?_⟩
      simp only [stW, if_neg hf]; exact hR) (fun a => by simp [layout_Used_L2]) a s hR
  refine ⟨a', ?_, g2⟩
  simp only [layout_Used_L1, hlt, decide_true, if_true, idx_of hc, Option.bind_some]
  rw [g1, i64s (z := (k : Int) + 1) (by omega) (by omega)]
  rfl
theorem usedV {m : api_Map} (hm : MapOK m) {number : Int} (hn : 0 ≤ number) (o : Vector Bool 64) (f : Int → Bool) (h : RV o f) : ∃ a, loop (t2 (ref2_Used_L1 number (allC 0 m.Params))) (o, 0) = some a ∧ RV a ((allC 0 m.Params).foldl (stC (number % 16)) f) := by
  have hcnt := hm.cnt
  refine loop_ex (xs := allC 0 m.Params) RV (stC (number % 16)) (fun a s k c hc hR => ?_) (fun a => by simp [ref2_Used_L1]) o f h
  have hlt := lt_of hc
  obtain ⟨p8, pin⟩ := places_len hm (List.mem_of_getElem? hc)
  obtain ⟨a', g1, g2⟩ := loop_ex (xs := c.Places) (body := ref2_Used_L2 number c) RV (stW (number % 16)) (fun a s j q hq hR => by
    have hlj := lt_of hq
    have hqi := pin q (List.mem_of_getElem? hq)
    simp only [ref2_Used_L2, hlj, decide_true, if_true, idx_of hq, Option.bind_some, rem16 hn]
    rw [i64s (z := (j : Int) + 1) (by omega) (by omega)]
    by_cases hf : q.Frame = number % 16
    · have hv : vidx a q.Word = some (s q.Word) := by
        have := hR q.Word.toNat (by omega)
        rw [show ((q.Word.toNat : Nat) : Int) = q.Word by omega] at this
        unfold vidx
        rw [if_pos (by omega), this]
      refine ⟨vset a q.Word true, by rw [if_pos (by simpa using hf), hv]; rfl, fun i hi => ?_⟩
      simp only [stW, if_pos hf, vset]
      have hl : a.toList.length = 64 := by simp
      have e : (a.setIfInBounds q.Word.toNat true).toList = a.toList.set q.Word.toNat true := by simp
      rw [e, List.getElem?_set]
      by_cases hw : (i : Int) = q.Word
      · rw [if_pos (by omega), if_pos (by omega), if_pos hw]
      · rw [if_neg (by omega), if_neg hw]; exact hR i hi
    · refine ⟨a, by rw [if_neg (by simpa using hf)], ?_⟩
      simp only [stW, if_neg hf]; exact hR) (fun a => by simp [ref2_Used_L2]) a s hR
  refine ⟨a', ?_, g2⟩
  simp only [ref2_Used_L1, hlt, decide_true, if_true, idx_of hc, Option.bind_some]
  rw [g1, i64s (z := (k : Int) + 1) (by omega) (by omega)]
  rfl
def outW (f : Int → Bool) : List Int := ((List.range 64).filter fun (k : Nat) => f k).map fun (k : Nat) => (k : Int)
theorem filt_loop {f : Int → Bool} {body : List Int → Int → Option ((List Int × Int) ⊕ List Int)} (hb : ∀ (acc : List Int) (k : Nat), k < 64 → acc.length ≤ k → body acc k = some (.inl (if f k = true then acc ++ [(k : Int)] else acc, (k : Int) + 1))) (he : ∀ acc, body acc 64 = some (.inr acc)) :
    loop (t2 body) ([], 0) = some (outW f) := by
  have key : ∀ (n k : Nat) (acc : List Int), k + n = 64 → acc = ((List.range k).filter fun (k : Nat) => f k).map (fun (k : Nat) => (k : Int)) → loop (t2 body) (acc, (k : Int)) = some (outW f) := by
    intro n
    induction n with
    | zero =>
      intro k acc hk ha
      have : k = 64 := by omega
      subst this
      rw [loop_eq, t2_mk]
      have := he acc
      rw [show ((64 : Nat) : Int) = 64 by rfl, this, ha]; rfl
    | succ n ih =>
      intro k acc hk ha
      have hlen : acc.length ≤ k := by
        rw [ha, List.length_map]
        have := List.length_filter_le (fun (k : Nat) => f k) (List.range k)
        rw [List.length_range] at this
        exact this
      rw [loop_eq, t2_mk, hb acc k (by omega) hlen]
      have e2 : ((k : Nat) : Int) + 1 = ((k + 1 : Nat) : Int) := by push_cast; rfl
      rw [e2]
      show loop (t2 body) ((if f k = true then acc ++ [(k : Int)] else acc), ((k + 1 : Nat) : Int)) = _
      refine ih (k + 1) _ (by omega) ?_
      rw [List.range_succ, List.filter_append, List.map_append, ← ha]
      by_cases hf : f k = true
      · simp [hf]
      · simp [hf]
  exact key 64 0 [] (by omega) rfl
def outU (m : api_Map) (number : Int) : List Int × Int :=
  if chkM m = 0 then (if wi number 0 4194303 = true then (outW ((allC 0 m.Params).foldl (stC (number % 16)) (fun i => decide (i = 3))), 0) else ([], 9)) else ([], chkM m)
theorem Used_s (m : api_Map) (number : Int) : layout_Used m number = some (outU m number) := by
  obtain ⟨a, hc⟩ := check_s m
  unfold layout_Used outU
  rw [hc, Option.bind_some]
  by_cases h : chkM m = 0
  · have hm := map_ok h
    rw [if_neg (by simp [h]), if_pos h, within_s, Option.bind_some]
    by_cases hw : wi number 0 4194303 = true
    · obtain ⟨w1, w2⟩ := wi_iff.1 hw
      obtain ⟨o, h1, h2⟩ := usedM hm w1 (mput kqI ([] : List (Int × Bool)) 3 true) (fun i => decide (i = 3)) (fun i => by
        rw [mget_put kqI_iff]
        by_cases hi : i = 3
        · simp [hi]
        · simp [hi, mget])
      rw [if_neg (by simp [hw]), if_pos hw, acells_s hm, Option.bind_some, h1]
      have := filt_loop (f := (allC 0 m.Params).foldl (stC (number % 16)) (fun i => decide (i = 3))) (body := layout_Used_L3 o) (fun acc k hk ha => by
        have hk' : (k : Int) < 64 := by omega
        simp only [layout_Used_L3, hk', decide_true, if_true, h2 k, Option.bind_some]
        rw [i64s (z := (k : Int) + 1) (by omega) (by omega)]
        by_cases hf : (allC 0 m.Params).foldl (stC (number % 16)) (fun i => decide (i = 3)) k = true
        · rw [if_pos hf, if_pos hf, app_of (by simp; omega)]; rfl
        · rw [if_neg hf, if_neg hf]) (fun acc => by simp [layout_Used_L3])
      simp only [Option.bind_some, t1]
      rw [this]; rfl
    · rw [if_pos (by simpa using hw), if_neg hw]
  · rw [if_pos (neq_s h), if_neg h]
theorem rUsed_s (m : api_Map) (number : Int) (hs : wf_api_Map m) : ref2_Used m number = some (outU m number) := by
  obtain ⟨a, hc⟩ := rcheck_s m hs
  unfold ref2_Used outU
  rw [hc, Option.bind_some]
  by_cases h : chkM m = 0
  · have hm := map_ok h
    rw [if_neg (by simp [h]), if_pos h, outside_s, Option.bind_some]
    by_cases hw : wi number 0 4194303 = true
    · obtain ⟨w1, w2⟩ := wi_iff.1 hw
      obtain ⟨o, h1, h2⟩ := usedV hm w1 (#v[false, false, false, true, false, false, false, false, false, false, false, false, false, false, false, false, false, false, false, false, false, false, false, false, false, false, false, false, false, false, false, false, false, false, false, false, false, false, false, false, false, false, false, false, false, false, false, false, false, false, false, false, false, false, false, false, false, false, false, false, false, false, false, false] : Vector Bool 64) (fun i => decide (i = 3)) (by
        have : ∀ i : Nat, i < 64 → ([false, false, false, true, false, false, false, false, false, false, false, false, false, false, false, false, false, false, false, false, false, false, false, false, false, false, false, false, false, false, false, false, false, false, false, false, false, false, false, false, false, false, false, false, false, false, false, false, false, false, false, false, false, false, false, false, false, false, false, false, false, false, false, false] : List Bool)[i]? = some (decide ((i : Int) = 3)) := by decide
        exact this)
      rw [if_neg (by simp [hw]), if_pos hw, racells_s hm, Option.bind_some, h1]
      have := filt_loop (f := (allC 0 m.Params).foldl (stC (number % 16)) (fun i => decide (i = 3))) (body := ref2_Used_L3 o) (fun acc k hk ha => by
        have hk' : (k : Int) < 64 := by omega
        have hv : vidx o k = some ((allC 0 m.Params).foldl (stC (number % 16)) (fun i => decide (i = 3)) k) := by
          unfold vidx
          rw [if_pos (by omega), Int.toNat_natCast, h2 k hk]
        simp only [ref2_Used_L3, hk', decide_true, if_true, hv, Option.bind_some]
        rw [i64s (z := (k : Int) + 1) (by omega) (by omega)]
        by_cases hf : (allC 0 m.Params).foldl (stC (number % 16)) (fun i => decide (i = 3)) k = true
        · rw [if_pos hf, if_pos hf, app_of (by simp; omega)]; rfl
        · rw [if_neg hf, if_neg hf]) (fun acc => by simp [ref2_Used_L3])
      simp only [Option.bind_some, t1]
      rw [this]; rfl
    · rw [if_pos (by simpa using hw), if_neg hw]
  · rw [if_pos (neq_s h), if_neg h]
theorem eqInt_s {l : List Int} (hl : l.length ≤ 9223372036854775807) : slices_Equal_int_int l l = some true := by
  unfold slices_Equal_int_int
  rw [if_neg (by simp)]
  have hL := loop_find (xs := l) (fun _ => (none : Option Unit)) (fun _ => (Sum.inl false : Bool ⊕ Unit)) (Sum.inr ()) (body := slices_Equal_int_int_L1 l l) (fun k x hx => by
    have hlt := lt_of hx
    simp only [slices_Equal_int_int_L1, hlt, decide_true, if_true, idx_of hx, Option.bind_some]
    rw [i64s (by omega) (by omega)]
    simp) (by simp [slices_Equal_int_int_L1])
  rw [hL]
  have fl : findL (fun _ : Int => (none : Option Unit)) l = none := by
    clear hL hl
    induction l with
    | nil => rfl
    | cons x l ih => exact ih
  rw [fl]; rfl
theorem outU_len (m : api_Map) (number : Int) : (outU m number).1.length ≤ 64 := by
  unfold outU outW
  split
  · split
    · simp only [List.length_map]
      exact Nat.le_trans (List.length_filter_le _ _) (by simp)
    · simp
  · simp
theorem law_LUsed (m : api_Map) (x : Vector Int 64) (number : Int) (hs : wf_api_Map m) (hx : wfV (wfI .u16) x) : law2_LayoutUsedMatchesSpec m x number = some true := by
  obtain ⟨r, h1, h2⟩ := Version_s hx
  have hl := outU_len m number
  unfold law2_LayoutUsedMatchesSpec
  rw [h1, h2, Used_s, rUsed_s m number hs]
  simp only [Option.bind_some, eqInt_s (show (outU m number).1.length ≤ 9223372036854775807 by omega), mapped_s]
  simp
end Go.Vx

/- A text of the proof: a verified executor of the program form, or the contracts of the functions that the law reaches. -/
import Derived.Test.YtecdkapjjhkanaaPK
import Derived.Test.YtecdkapjjhkanaaPH
set_option linter.all false
namespace Go.Vx
open Go Go.RowKit
/-! ## Between -/
theorem i64E (z : Int) : i64 z = (z + 9223372036854775808) % 18446744073709551616 - 9223372036854775808 := by
  show IntKind.i64.wrap z = _
  have h := IntKind.wrap
  simp only [IntKind.wrap, IntKind.signed, IntKind.bits]
  simp
  split <;> omega
theorem i64_add (a b : Int) : i64 (i64 a + i64 b) = i64 (a + b) := by
  simp only [i64E]; omega
def smpsOf (s : api_Series) : List Smp := (fI s).map fun i => (s.Samples[i.toNat]?).getD z0
theorem smps_get {s : api_Series} {k : Nat} {x : Smp} (h : (smpsOf s)[k]? = some x) : ∃ i, (fI s)[k]? = some i ∧ idx s.Samples i = some x ∧ ∃ m : Nat, s.Samples[m]? = some x ∧ i = (m : Int) ∧ 3 ≤ x.Mark := by
  unfold smpsOf at h
  rw [List.getElem?_map, Option.map_eq_some_iff] at h
  obtain ⟨i, hi, rfl⟩ := h
  obtain ⟨m, rfl, x, hx, hsx⟩ := filtI_get _ _ _ _ _ hi
  refine ⟨_, hi, ?_, m, ?_, by rw [Nat.zero_add], ?_⟩
  · rw [Nat.zero_add]; simp only [Int.toNat_natCast, hx, Option.getD_some]; exact idx_of hx
  · simp [hx]
  · simp only [Nat.zero_add, Int.toNat_natCast, hx, Option.getD_some]; simpa [sol] using hsx
theorem smps_len (s : api_Series) : (smpsOf s).length = (fI s).length := by simp [smpsOf]
theorem smps_rise {s : api_Series} (hs : SerOK s) : ∀ (i j : Nat) x y, i < j → (smpsOf s)[i]? = some x → (smpsOf s)[j]? = some y → x.At < y.At := by
  intro i j x y hij hx hy
  obtain ⟨a, ha, _, m, hm, rfl, _⟩ := smps_get hx
  obtain ⟨b, hb, _, n, hn, rfl, _⟩ := smps_get hy
  have := filt_mono (s := s) i (j - i - 1) _ _ ha (by rw [show i + 1 + (j - i - 1) = j by omega]; exact hb)
  exact hs.rise m n x y (by omega) hm hn
theorem bsI_s {s : api_Series} (hs : SerOK s) {t : Int} (ht : 0 ≤ t ∧ t ≤ 1099511627776) :
    slices_BinarySearchFunc_int_int_int (fI s) t (fun z0 z1 => series_Between_1 z0 z1 s) = some ((cntLe (smpsOf s) (t - 1) : Int), decide (∃ x, (smpsOf s)[cntLe (smpsOf s) (t - 1)]? = some x ∧ x.At = t)) := by
  have hlen := hs.len
  have hfl : (fI s).length ≤ s.Samples.length := filtI_len sol 0 s.Samples
  have hsl := smps_len s
  obtain ⟨hc1, hc2⟩ := cnt_split (smpsOf s) (t - 1) (smps_rise hs)
  have hcl := cnt_le (smpsOf s) (t - 1)
  have hcmp : ∀ (k : Nat) x, (smpsOf s)[k]? = some x → ∃ i, (fI s)[k]? = some i ∧ series_Between_1 i t s = some (x.At - t) := fun k x hx => by
    obtain ⟨i, hi, hi2, m, hm, _⟩ := smps_get hx
    have := hs.at' m x hm
    refine ⟨i, hi, ?_⟩
    simp only [series_Between_1, hi2, Option.bind_some, i64]
    rw [i64_id (by omega) (by omega)]
  have hl : loop (t2 (slices_BinarySearchFunc_int_int_int_L1 (fI s) t (fun z0 z1 => series_Between_1 z0 z1 s))) (0, ((fI s).length : Int)) = some ((cntLe (smpsOf s) (t - 1) : Nat) : Int) := by
    refine search_halves (fI s).length (cntLe (smpsOf s) (t - 1)) (fun k => (k : Int)) (by omega) (by omega) (fun i j m hij hj hm => ?_) (fun i => ?_)
    · obtain ⟨x, hx⟩ := get_ex (xs := smpsOf s) (k := m) (by omega)
      obtain ⟨ii, hii, hci⟩ := hcmp m x hx
      have h2 : (i : Int) < j := by omega
      have hm' : shr .u64 (u64 (i64 ((i : Int) + j))) 1 = some (m : Int) := by rw [mid_s (by omega), hm]
      have hmi : i64 (m : Int) = m := i64_id (by omega) (by omega)
      simp only [slices_BinarySearchFunc_int_int_int_L1, h2, decide_true, if_true, hm', Option.bind_some, hmi, idx_of hii, hci]
      refine ⟨fun h => ?_, fun h => ?_⟩
      · have := hc1 m x h hx
        simp [show x.At - t < 0 by omega, i64_id (show -9223372036854775808 ≤ (m : Int) + 1 by omega) (by omega)]
      · have := hc2 m x h hx
        simp [show ¬ x.At - t < 0 by omega]
    · simp [slices_BinarySearchFunc_int_int_int_L1]
  simp only [slices_BinarySearchFunc_int_int_int, hl, Option.bind_some, t1]
  rcases Nat.lt_or_ge (cntLe (smpsOf s) (t - 1)) (smpsOf s).length with h | h
  · obtain ⟨x, hx⟩ := get_ex h
    obtain ⟨ii, hii, hci⟩ := hcmp _ x hx
    have h' : ((cntLe (smpsOf s) (t - 1) : Nat) : Int) < (fI s).length := by omega
    simp only [h', decide_true, idx_of hii, gd_tt, Option.bind_some, hci, hx, Bool.true_and, Option.some.injEq, exists_eq_left', Prod.mk.injEq, true_and]
    simp only [decide_eq_decide]; omega
  · have h' : ¬ ((cntLe (smpsOf s) (t - 1) : Nat) : Int) < (fI s).length := by omega
    simp [gd, h', List.getElem?_eq_none h]
/-! ### on a line -/
theorem sizeI {a : Int} (h : -4611686018427387904 ≤ a ∧ a ≤ 4611686018427387904) : series_size a = some ((a.natAbs : Nat) : Int) := by
  have e1 : i64 (-a) = -a := i64_id (by omega) (by omega)
  unfold series_size
  rw [e1]; congr 1; omega
theorem divisorI {a : Int} {b : Nat} (h : -4611686018427387904 ≤ a ∧ a ≤ 4611686018427387904) (hb : b ≤ 4611686018427387904) : series_divisor a (b : Int) = some ((Nat.gcd a.natAbs b : Nat) : Int) := by
  unfold series_divisor
  rw [bnd_eq (sizeI h), bnd_eq (sizeI (a := (b : Int)) (by omega))]
  have := gcd_s (a := (a.natAbs : Int)) (b := (((b : Int).natAbs : Nat) : Int)) (by omega) (by omega)
  rw [this]
  rfl
theorem quoI {a b : Nat} (ha : a < 9223372036854775808) (hb : 0 < b) : quo .i64 (a : Int) (b : Int) = some ((a / b : Nat) : Int) := by
  unfold quo
  rw [if_neg (by omega)]
  have : (a : Int).tdiv b = ((a / b : Nat) : Int) := by rw [Int.tdiv_eq_ediv_of_nonneg (by omega)]; rfl
  rw [this]
  have hle : a / b ≤ a := Nat.div_le_self _ _
  congr 1; exact i64N (by omega)
/-- lowest terms -/
theorem low_terms {A D : Int} {u d : Nat} (hd : 0 < d) {g1 g2 : Nat} (hg1 : g1 = Nat.gcd u d) (hg2 : g2 = Nat.gcd D.natAbs (d / g1)) {q2 : Int} (hq : D = (g2 : Int) * q2) :
    Nat.gcd (A * (d : Int) + D * (u : Int)).natAbs d = g1 * g2 ∧ A * (d : Int) + D * (u : Int) = (A * ((d / g1 / g2 : Nat) : Int) + q2 * ((u / g1 : Nat) : Int)) * ((g1 * g2 : Nat) : Int) ∧ d = d / g1 / g2 * (g1 * g2) := by
  have hg1p : 0 < g1 := by rw [hg1]; exact Nat.gcd_pos_of_pos_right _ hd
  have hd1 : g1 * (d / g1) = d := Nat.mul_div_cancel' (by rw [hg1]; exact Nat.gcd_dvd_right _ _)
  have hu1 : g1 * (u / g1) = u := Nat.mul_div_cancel' (by rw [hg1]; exact Nat.gcd_dvd_left _ _)
  have htd : 0 < d / g1 := by
    rcases Nat.eq_zero_or_pos (d / g1) with h | h
    · rw [h] at hd1; omega
    · exact h
  have hg2p : 0 < g2 := by rw [hg2]; exact Nat.gcd_pos_of_pos_right _ htd
  have hd2 : g2 * (d / g1 / g2) = d / g1 := Nat.mul_div_cancel' (by rw [hg2]; exact Nat.gcd_dvd_right _ _)
  have hc1 : Nat.Coprime (u / g1) (d / g1) := by rw [hg1]; exact Nat.coprime_div_gcd_div_gcd (by rw [← hg1]; exact hg1p)
  have hDa : D.natAbs = g2 * q2.natAbs := by rw [hq, Int.natAbs_mul]; rfl
  have hc2 : Nat.Coprime q2.natAbs (d / g1 / g2) := by
    have := Nat.coprime_div_gcd_div_gcd (m := D.natAbs) (n := d / g1) (by rw [← hg2]; exact hg2p)
    rw [← hg2, hDa, Nat.mul_div_cancel_left _ hg2p] at this
    exact this
  generalize d / g1 = td at *
  generalize u / g1 = tn at *
  generalize td / g2 = den at *
  have e1 : (d : Int) = (den : Int) * ((g1 * g2 : Nat) : Int) := by
    rw [← hd1, ← hd2]; simp only [Int.natCast_mul]; ac_rfl
  have e2 : A * (d : Int) + D * (u : Int) = (A * (den : Int) + q2 * (tn : Int)) * ((g1 * g2 : Nat) : Int) := by
    rw [e1, hq, ← hu1]; simp only [Int.natCast_mul]; rw [Int.add_mul]; congr 1 <;> ac_rfl
  have hden : d = den * (g1 * g2) := by rw [← hd1, ← hd2]; ac_rfl
  refine ⟨?_, e2, hden⟩
  rw [e2, Int.natAbs_mul, Int.natAbs_natCast]
  conv => lhs; rw [hden]
  rw [Nat.gcd_mul_right]
  have h1 : Nat.gcd (A * (den : Int) + q2 * (tn : Int)).natAbs den = 1 := by
    have hp1 : ((Nat.gcd (A * (den : Int) + q2 * (tn : Int)).natAbs den : Nat) : Int) ∣ A * (den : Int) + q2 * (tn : Int) := Int.ofNat_dvd_left.2 (Nat.gcd_dvd_left _ _)
    have hp2 := Nat.gcd_dvd_right (A * (den : Int) + q2 * (tn : Int)).natAbs den
    generalize Nat.gcd (A * (den : Int) + q2 * (tn : Int)).natAbs den = p at *
    have hp3 : (p : Int) ∣ A * (den : Int) := Int.dvd_mul_of_dvd_right (Int.natCast_dvd_natCast.2 hp2)
    have hp4 : (p : Int) ∣ q2 * (tn : Int) := (Int.dvd_add_right hp3).1 hp1
    have hp5 : p ∣ q2.natAbs * tn := by
      have := Int.ofNat_dvd_left.1 hp4
      rwa [Int.natAbs_mul, Int.natAbs_natCast] at this
    have hc3 : Nat.Coprime tn den := Nat.Coprime.coprime_dvd_right (by rw [← hd2]; exact Nat.dvd_mul_left _ _) hc1
    have hc4 : Nat.Coprime (q2.natAbs * tn) den := Nat.Coprime.mul_left hc2 hc3
    have := Nat.dvd_gcd hp5 hp2
    rw [hc4] at this
    exact Nat.dvd_one.1 this
  rw [h1, Nat.one_mul]
theorem line_s {a b : Smp} {t : Int} (ha : 0 ≤ a.At ∧ a.At ≤ 1099511627776) (hb : 0 ≤ b.At ∧ b.At ≤ 1099511627776) (hat : a.At < t) (htb : t < b.At) (hna : inN a.N) (hnb : inN b.N) :
    ∃ r w, series_onLine a b t = some r ∧ (∃ y2 y3 y4, ref5_product a.N (i64 (b.At - t)) = some y2 ∧ ref5_product b.N (i64 (t - a.At)) = some y3 ∧ ref5_add y2 y3 = some y4 ∧ ref5_ratio y4 (i64 (b.At - a.At)) = some w) ∧ (w.2 = true → w.1 = r) := by
  obtain ⟨na1, na2⟩ := hna
  obtain ⟨nb1, nb2⟩ := hnb
  obtain ⟨u, hu⟩ := Int.eq_ofNat_of_zero_le (show 0 ≤ t - a.At by omega)
  obtain ⟨d, hd⟩ := Int.eq_ofNat_of_zero_le (show 0 ≤ b.At - a.At by omega)
  have eu : i64 (t - a.At) = (u : Int) := by rw [← hu]; exact i64_id (by omega) (by omega)
  have ed : i64 (b.At - a.At) = (d : Int) := by rw [← hd]; exact i64_id (by omega) (by omega)
  have ev : i64 (b.At - t) = ((d - u : Nat) : Int) := by rw [show b.At - t = ((d - u : Nat) : Int) by omega]; exact i64N (by omega)
  have eD : i64 (b.N - a.N) = b.N - a.N := i64_id (by omega) (by omega)
  have hd0 : 0 < d := by omega
  have hud : u ≤ d := by omega
  have hdM : d ≤ 1099511627776 := by omega
  -- the reference's road
  obtain ⟨y2, p1, p2⟩ := product_s (a := a.N) (b := d - u) (by omega) (by omega)
  obtain ⟨y3, p3, p4⟩ := product_s (a := b.N) (b := u) (by omega) (by omega)
  have hm1 : (a.N * ((d - u : Nat) : Int)).natAbs ≤ 1237940039285380274899124224 := by
    rw [Int.natAbs_mul]; exact Nat.le_trans (mul_bd (A := 1125899906842624) (B := 1099511627776) (by omega) (by rw [Int.natAbs_natCast]; omega)) (by decide)
  have hm2 : (b.N * (u : Int)).natAbs ≤ 1237940039285380274899124224 := by
    rw [Int.natAbs_mul]; exact Nat.le_trans (mul_bd (A := 1125899906842624) (B := 1099511627776) (by omega) (by rw [Int.natAbs_natCast]; omega)) (by decide)
  obtain ⟨y4, p5, p6⟩ := add_s p2 p4 (by omega)
  obtain ⟨w, p7, p8, p9⟩ := ratio_s p6 (by omega) (den := d) hd0 (by omega)
  -- the program's
  have hg1p : 0 < Nat.gcd u d := Nat.gcd_pos_of_pos_right _ hd0
  have h1 := divisorN (a := u) (b := d) (by omega) (by omega)
  have hle1 : d / Nat.gcd u d ≤ d := Nat.div_le_self _ _
  have h2 := divisorI (a := b.N - a.N) (b := d / Nat.gcd u d) (by omega) (by omega)
  have htd : 0 < d / Nat.gcd u d := Nat.div_pos (Nat.gcd_le_right _ hd0) hg1p
  have hg2p : 0 < Nat.gcd (b.N - a.N).natAbs (d / Nat.gcd u d) := Nat.gcd_pos_of_pos_right _ htd
  obtain ⟨q2, hq2⟩ : ((Nat.gcd (b.N - a.N).natAbs (d / Nat.gcd u d) : Nat) : Int) ∣ b.N - a.N := Int.ofNat_dvd_left.2 (Nat.gcd_dvd_left _ _)
  obtain ⟨l1, l2, l3⟩ := low_terms (A := a.N) (D := b.N - a.N) (u := u) (d := d) hd0 rfl rfl hq2
  have hz : a.N * ((d - u : Nat) : Int) + b.N * (u : Int) = a.N * (d : Int) + (b.N - a.N) * (u : Int) := by
    rw [show ((d - u : Nat) : Int) = (d : Int) - (u : Int) by omega, Int.mul_sub, Int.sub_mul]; omega
  rw [hz] at p8 p9
  have hq2b : q2.natAbs ≤ 2251799813685248 := by
    have e : (b.N - a.N).natAbs = Nat.gcd (b.N - a.N).natAbs (d / Nat.gcd u d) * q2.natAbs := by conv => lhs; rw [hq2, Int.natAbs_mul, Int.natAbs_natCast]
    have := Nat.le_mul_of_pos_left q2.natAbs hg2p
    omega
  generalize hG2 : Nat.gcd (b.N - a.N).natAbs (d / Nat.gcd u d) = g2 at *
  generalize hG1 : Nat.gcd u d = g1 at *
  have hq2t : quo .i64 (b.N - a.N) (g2 : Int) = some q2 := by
    unfold quo
    rw [if_neg (by omega), hq2, Int.mul_tdiv_cancel_left _ (by omega)]
    congr 1; exact i64_id (by omega) (by omega)
  have hrat : series_ratio (u : Int) (d : Int) = some ⟨((u / g1 : Nat) : Int), ((d / g1 : Nat) : Int)⟩ := by
    unfold series_ratio
    rw [bnd_eq h1, bnd_eq (quoI (by omega) hg1p), bnd_eq (quoI (by omega) hg1p)]
  have hline : series_onLine a b t = some ⟨i64 (a.N * ((d / g1 / g2 : Nat) : Int) + q2 * ((u / g1 : Nat) : Int)), ((d / g1 / g2 : Nat) : Int)⟩ := by
    unfold series_onLine
    rw [eu, ed, eD, bnd_eq hrat]
    dsimp only
    rw [bnd_eq h2, bnd_eq (quoI (by omega) hg2p), bnd_eq hq2t, i64_add]
  refine ⟨_, w, hline, ⟨y2, y3, y4, by rw [ev]; exact p1, by rw [eu]; exact p3, p5, by rw [ed]; exact p7⟩, fun hw => ?_⟩
  have hG : 0 < g1 * g2 := Nat.mul_pos hg1p hg2p
  have hf2 : (fin (a.N * (d : Int) + (b.N - a.N) * (u : Int)).natAbs d).2 = d / g1 / g2 := by
    show d / Nat.gcd _ d = _
    rw [l1]
    conv => lhs; rw [l3]
    exact Nat.mul_div_cancel _ hG
  have hf1 : (fin (a.N * (d : Int) + (b.N - a.N) * (u : Int)).natAbs d).1 = (a.N * ((d / g1 / g2 : Nat) : Int) + q2 * ((u / g1 : Nat) : Int)).natAbs := by
    show _ / Nat.gcd _ d = _
    rw [l1, l2, Int.natAbs_mul, Int.natAbs_natCast]
    exact Nat.mul_div_cancel _ hG
  have hsg : a.N * (d : Int) + (b.N - a.N) * (u : Int) < 0 ↔ a.N * ((d / g1 / g2 : Nat) : Int) + q2 * ((u / g1 : Nat) : Int) < 0 := by
    rw [l2]
    have hGi : (0 : Int) < ((g1 * g2 : Nat) : Int) := by omega
    constructor
    · intro h
      rcases Int.lt_or_le (a.N * ((d / g1 / g2 : Nat) : Int) + q2 * ((u / g1 : Nat) : Int)) 0 with h2 | h2
      · exact h2
      · have := Int.mul_nonneg h2 (Int.le_of_lt hGi); omega
    · intro h; exact Int.mul_neg_of_neg_of_pos h hGi
  rw [p9 hw, hf2, hf1]
  rw [p8, hf1, decide_eq_true_iff] at hw
  generalize a.N * ((d / g1 / g2 : Nat) : Int) + q2 * ((u / g1 : Nat) : Int) = n at *
  have en : i64 n = n := i64_id (by omega) (by omega)
  rw [en]
  by_cases hneg : n < 0
  · rw [if_pos (hsg.2 hneg)]; congr 1; omega
  · rw [if_neg (fun h => hneg (hsg.1 h))]; congr 1; omega
end Go.Vx

namespace Go.Vx
open Go Go.RowKit
theorem rbtw_loop {s : api_Series} (hs : SerOK s) {t long : Int} (r : (api_Ratio × Bool × Bool) ⊕ Unit)
    (hend : ref5_between_L1 s t long (fI s) ((cntLe (smpsOf s) (t - 1) : Nat) : Int) = some (.inr r)) : loop (t1 (ref5_between_L1 s t long (fI s))) 0 = some r := by
  have hlen := hs.len
  have hfl : (fI s).length ≤ s.Samples.length := filtI_len sol 0 s.Samples
  have hsl := smps_len s
  obtain ⟨hc1, hc2⟩ := cnt_split (smpsOf s) (t - 1) (smps_rise hs)
  have hcl := cnt_le (smpsOf s) (t - 1)
  obtain ⟨q, h1, h2⟩ := loop_rel (body := t1 (ref5_between_L1 s t long (fI s))) (cntLe (smpsOf s) (t - 1)) (fun k i => i = (k : Int)) (fun q => q = r) (fun k i hk hi => by
    subst hi
    obtain ⟨x, hx⟩ := get_ex (xs := smpsOf s) (k := k) (by omega)
    obtain ⟨ii, hii, hi2, _⟩ := smps_get hx
    have := hc1 k x hk hx
    have e1 : i64 ((k : Int) + 1) = ((k + 1 : Nat) : Int) := by show IntKind.i64.wrap _ = _; rw [i64_id (by omega) (by omega)]; push_cast; rfl
    refine ⟨((k + 1 : Nat) : Int), ?_, rfl⟩
    rw [t1_mk]
    unfold ref5_between_L1
    rw [if_pos (decide_eq_true (lt_of hii)), bnd_eq (idx_of hii), bnd_eq hi2, if_neg (by simp; omega), if_pos (decide_eq_true (by omega)), e1]) (fun i hi => ⟨r, by rw [hi, t1_mk]; exact hend, rfl⟩) 0 rfl
  rw [h1, h2]
theorem Btw_t {s : api_Series} (hs : SerOK s) {t long : Int} (ht : 0 ≤ t ∧ t ≤ 1099511627776) : ∃ (p : api_Ratio × Bool × Int) (o : api_Ratio × Bool × Bool),
    ((slices_BinarySearchFunc_int_int_int (fI s) t (fun z0 z1 => series_Between_1 z0 z1 s)).bind fun y5 =>
      if y5.2 = true then
      (idx (fI s) y5.1).bind fun x =>
      (idx s.Samples x).bind fun x2 =>
      some ((api_Ratio.mk x2.N 1), true, 0)
      else
      if ((decide (y5.1 = 0)) || (decide (y5.1 = ((fI s).length : Int)))) = true then
      some ((api_Ratio.mk 0 0), false, 0)
      else
      (idx (fI s) (i64 (y5.1 - 1))).bind fun x3 =>
      (idx s.Samples x3).bind fun x4 =>
      (idx (fI s) y5.1).bind fun x5 =>
      (idx s.Samples x5).bind fun x6 =>
      if (decide (long < (i64 (x6.At - x4.At)))) = true then
      some ((api_Ratio.mk 0 0), false, 0)
      else
      (series_onLine x4 x6 t).bind fun y6 =>
      some (y6, true, 0)) = some p ∧ ref5_between s t long = some o ∧ (o.2.2 = true → p = (o.1, o.2.1, 0)) := by
  have hlen := hs.len
  have hfl : (fI s).length ≤ s.Samples.length := filtI_len sol 0 s.Samples
  have hsl := smps_len s
  obtain ⟨hc1, hc2⟩ := cnt_split (smpsOf s) (t - 1) (smps_rise hs)
  have hcl := cnt_le (smpsOf s) (t - 1)
  have hloop := @rbtw_loop s hs t long
  rw [bnd_eq (bsI_s hs ht)]
  dsimp only
  unfold ref5_between
  rw [bnd_eq (rsolids_s hs)]
  change ∃ p o, _ ∧ ((loop (t1 (ref5_between_L1 s t long (fI s))) 0).bind _ = some o) ∧ _
  generalize cntLe (smpsOf s) (t - 1) = c at *
  rcases Nat.lt_or_ge c (smpsOf s).length with hlt | hge
  · obtain ⟨x, hx⟩ := get_ex hlt
    obtain ⟨ii, hii, hi2, m, hm, _, _⟩ := smps_get hx
    have hgt := hc2 c x (Nat.le_refl _) hx
    have hxs := hs.at' m x hm
    by_cases hf : x.At = t
    · have hex : ∃ y, (smpsOf s)[c]? = some y ∧ y.At = t := ⟨x, hx, hf⟩
      rw [if_pos (decide_eq_true hex), bnd_eq (idx_of hii), bnd_eq hi2]
      rw [hloop (.inl (⟨x.N, 1⟩, true, true)) (by
        unfold ref5_between_L1
        rw [if_pos (decide_eq_true (lt_of hii)), bnd_eq (idx_of hii), bnd_eq hi2, if_pos (decide_eq_true hf)])]
      exact ⟨_, _, rfl, rfl, fun _ => rfl⟩
    · have hex : ¬ ∃ y, (smpsOf s)[c]? = some y ∧ y.At = t := by
        rintro ⟨y, hy, hyt⟩
        rw [hx] at hy; cases hy; exact hf hyt
      rw [if_neg (by rw [decide_eq_false hex]; simp)]
      have hcn : ¬ ((c : Nat) : Int) = ((fI s).length : Int) := by omega
      by_cases h0 : c = 0
      · subst h0
        rw [if_pos (by simp)]
        rw [hloop (.inr ()) (by
          unfold ref5_between_L1
          rw [if_pos (decide_eq_true (lt_of hii)), bnd_eq (idx_of hii), bnd_eq hi2, if_neg (by simpa using hf), if_neg (by simp; omega), if_pos (by simp)])]
        exact ⟨_, _, rfl, rfl, fun _ => rfl⟩
      · have h0' : ¬ ((c : Nat) : Int) = 0 := by omega
        rw [if_neg (by rw [decide_eq_false h0', decide_eq_false hcn]; simp)]
        obtain ⟨y, hy⟩ := get_ex (xs := smpsOf s) (k := c - 1) (by omega)
        obtain ⟨jj, hjj, hj2, n, hn, _, _⟩ := smps_get hy
        have hlo := hc1 (c - 1) y (by omega) hy
        have hys := hs.at' n y hn
        have e1 : i64 (((c : Nat) : Int) - 1) = ((c - 1 : Nat) : Int) := by show IntKind.i64.wrap _ = _; rw [i64_id (by omega) (by omega)]; omega
        have e2 : i64 (x.At - y.At) = x.At - y.At := i64_id (by omega) (by omega)
        rw [e1, bnd_eq (idx_of hjj), bnd_eq hj2, bnd_eq (idx_of hii), bnd_eq hi2]
        by_cases hl : long < x.At - y.At
        · rw [if_pos (by rw [e2]; exact decide_eq_true hl)]
          rw [hloop (.inr ()) (by
            unfold ref5_between_L1
            rw [if_pos (decide_eq_true (lt_of hii)), bnd_eq (idx_of hii), bnd_eq hi2, if_neg (by simpa using hf), if_neg (by simp; omega), if_neg (by simpa using h0), e1, bnd_eq (idx_of hjj), bnd_eq hj2, if_pos (by rw [e2]; exact decide_eq_true hl)])]
          exact ⟨_, _, rfl, rfl, fun _ => rfl⟩
        · rw [if_neg (by rw [e2, decide_eq_false hl]; simp)]
          obtain ⟨r, w, k1, ⟨y2, y3, y4, k2, k3, k4, k5⟩, k6⟩ := line_s (a := y) (b := x) (t := t) hys.1 hxs.1 (by omega) (by omega) hys.2.1 hxs.2.1
          rw [bnd_eq k1]
          rw [hloop (.inl (w.1, w.2, w.2)) (by
            unfold ref5_between_L1
            rw [if_pos (decide_eq_true (lt_of hii)), bnd_eq (idx_of hii), bnd_eq hi2, if_neg (by simpa using hf), if_neg (by simp; omega), if_neg (by simpa using h0), e1, bnd_eq (idx_of hjj), bnd_eq hj2, if_neg (by rw [e2, decide_eq_false hl]; simp), bnd_eq k2, bnd_eq k3, bnd_eq k4, bnd_eq k5])]
          exact ⟨_, _, rfl, rfl, fun hw => by dsimp only at hw ⊢; rw [k6 hw, hw]⟩
  · have hex : ¬ ∃ y, (smpsOf s)[c]? = some y ∧ y.At = t := by
      rintro ⟨y, hy, _⟩
      rw [List.getElem?_eq_none hge] at hy; cases hy
    have hcn : ((c : Nat) : Int) = ((fI s).length : Int) := by omega
    rw [if_neg (by rw [decide_eq_false hex]; simp), if_pos (by rw [decide_eq_true hcn]; simp)]
    rw [hloop (.inr ()) (by unfold ref5_between_L1; rw [if_neg (by rw [hcn]; simp)])]
    exact ⟨_, _, rfl, rfl, fun _ => rfl⟩
theorem Between_t (s : api_Series) (t long : Int) : ∃ p q f, series_Between s t long = some p ∧ ref5_Between s t long = some q ∧ ref5_Promised s t long = some f ∧ (f = true → p = q) := by
  unfold series_Between ref5_Between ref5_Promised
  rw [bnd_eq (Check_s s), bnd_eq (rCheck_s s), bnd_eq (rCheck_s s)]
  by_cases h0 : (chk s).2 = 0
  · have hs := ser_ok h0
    simp only [h0, decide_true, Bool.not_true, Bool.false_eq_true, if_false, within_s, outside_s, Option.bind_some, Bool.false_or, beq_self_eq_true, gd_t]
    cases h1 : wi t 0 1099511627776 with
    | false => exact ⟨((api_Ratio.mk 0 0), false, 9), ((api_Ratio.mk 0 0), false, 9), true, by simp [gd], by simp [gd], by simp [gd], fun _ => rfl⟩
    | true =>
      cases h2 : wi long 0 1099511627776 with
      | false => exact ⟨((api_Ratio.mk 0 0), false, 9), ((api_Ratio.mk 0 0), false, 9), true, by simp, by simp, by simp, fun _ => rfl⟩
      | true =>
        obtain ⟨p, o, k1, k2, k3⟩ := Btw_t hs (t := t) (long := long) (wi_iff.1 h1)
        refine ⟨p, (o.1, o.2.1, 0), o.2.2, ?_, ?_, ?_, k3⟩
        · simp only [Bool.not_true, beq_self_eq_true, gd_t, Option.bind_some, Bool.or_self, Bool.false_eq_true, if_false]
          rw [bnd_eq (solids_s hs)]
          exact k1
        · simp [k2]
        · simp [k2]
  · refine ⟨((api_Ratio.mk 0 0), false, (chk s).2), ((api_Ratio.mk 0 0), false, (chk s).2), true, by simp [h0], by simp [h0], by simp [h0, gd], fun _ => rfl⟩
theorem law_Hold (s : api_Series) (t long : Int) : law5_SeriesHoldMatchesSpec s t long = some true := by
  obtain ⟨p, q, f, h1, h2, h3, h4⟩ := Between_t s t long
  unfold law5_SeriesHoldMatchesSpec
  rw [bnd_eq (Hold_s s t long), bnd_eq (rHold_s s t long)]
  simp only [h1, h2, h3, Option.bind_some, decide_true, Bool.and_true, Bool.not_true, beq_self_eq_true, Bool.or_self, Bool.false_eq_true, if_false]
  cases f with
  | false => simp [holds_s]
  | true => rw [h4 rfl]; simp [holds_s]
end Go.Vx

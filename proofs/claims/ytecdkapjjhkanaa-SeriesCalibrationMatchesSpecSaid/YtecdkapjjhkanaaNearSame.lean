/- A text of the proof: a verified executor of the program form, or the contracts of the functions that the law reaches. -/
import Derived.Test.YtecdkapjjhkanaaFnRef
set_option linter.all false
namespace Go.Proofs.Ytecdkapjjhkanaa
open Go Go.Vx
/-! ## The two ways to the nearest value are one -/
theorem mem_cOut {n lo hi : Int} {l : Line} {i j : Nat} (hi' : i < 3) (hj : j < 4) : cnd l (flo (xAt n lo hi i - l.c) l.m) ((j : Int) - 1) ∈ cOut n lo hi l 3 := by
  unfold cOut cIn
  refine List.mem_append.2 (.inr (List.mem_flatMap.2 ⟨i, List.mem_range.2 hi', List.mem_map.2 ⟨j, List.mem_range.2 hj, rfl⟩⟩))
theorem mem_cOut' {n lo hi : Int} {l : Line} (i j : Nat) (hi' : i < 3) (hj : j < 4) {e : Int} (he : e = flo (xAt n lo hi i - l.c) l.m + ((j : Int) - 1)) (h1 : l.a ≤ e) (h2 : e ≤ l.b) : e ∈ cOut n lo hi l 3 := by
  have : e = cnd l (flo (xAt n lo hi i - l.c) l.m) ((j : Int) - 1) := by unfold cnd; omega
  rw [this]; exact mem_cOut hi' hj
theorem a_mem {n lo hi : Int} {l : Line} : l.a ∈ cOut n lo hi l 3 := by simp [cOut]
theorem b_mem {n lo hi : Int} {l : Line} : l.b ∈ cOut n lo hi l 3 := by simp [cOut]

theorem low_mem {n lo hi : Int} {l : Line} (hm : ¬ l.m = 0) (h : (poss lo hi l).2.2 = true) (hl : okL l) : (poss lo hi l).1 ∈ cOut n lo hi l 3 := by
  have hp := poss_in h hl
  by_cases hpos : 0 < l.m
  · have e1 : (poss lo hi l).1 = max l.a (-(flo (l.c - lo) l.m)) := by unfold poss; rw [if_neg hm, if_pos hpos]
    rw [e1] at hp ⊢
    rcases (show max l.a (-(flo (l.c - lo) l.m)) = l.a ∨ max l.a (-(flo (l.c - lo) l.m)) = -(flo (l.c - lo) l.m) by omega) with e | e
    · rw [e]; exact a_mem
    · rw [e] at hp ⊢
      generalize he : flo (l.c - lo) l.m = g at *
      obtain ⟨b1, _⟩ := flo_bounds (x := l.c - lo) hm
      rw [he] at b1
      have b1 := b1 hpos
      generalize hq : flo (lo - l.c) l.m = q
      obtain ⟨c1, _⟩ := flo_bounds (x := lo - l.c) hm
      rw [hq] at c1
      have c1 := c1 hpos
      have k1 : ¬ (-g < q) := fun hh => by have := mul_lt_step hpos hh; rw [Int.mul_neg] at this; omega
      have k2 : ¬ (q + 1 < -g) := fun hh => by have := mul_lt_step hpos hh; rw [Int.mul_neg, Int.mul_add, Int.mul_one] at this; omega
      rcases (show -g = q ∨ -g = q + 1 by omega) with hh | hh
      · exact mem_cOut' 1 1 (by omega) (by omega) (by rw [show xAt n lo hi 1 = lo from rfl, hq]; omega) hp.1 (by omega)
      · exact mem_cOut' 1 2 (by omega) (by omega) (by rw [show xAt n lo hi 1 = lo from rfl, hq]; omega) hp.1 (by omega)
  · have hneg : l.m < 0 := by omega
    have hM : 0 < -l.m := by omega
    have e1 : (poss lo hi l).1 = max l.a (-(flo (hi - l.c) (-l.m))) := by unfold poss; rw [if_neg hm, if_neg hpos]
    rw [e1] at hp ⊢
    rcases (show max l.a (-(flo (hi - l.c) (-l.m))) = l.a ∨ max l.a (-(flo (hi - l.c) (-l.m))) = -(flo (hi - l.c) (-l.m)) by omega) with e | e
    · rw [e]; exact a_mem
    · rw [e] at hp ⊢
      generalize he : flo (hi - l.c) (-l.m) = g at *
      obtain ⟨b1, _⟩ := flo_bounds (x := hi - l.c) (d := -l.m) (by omega)
      rw [he] at b1
      have b1 := b1 hM
      generalize hq : flo (hi - l.c) l.m = q
      obtain ⟨_, c1⟩ := flo_bounds (x := hi - l.c) hm
      rw [hq] at c1
      have c1 := c1 hneg
      have k1 : ¬ (-g < q) := fun hh => by have := mul_lt_step hM hh; rw [Int.neg_mul, Int.neg_mul, Int.mul_neg] at this; rw [Int.neg_mul] at b1; omega
      have k2 : ¬ (q + 1 < -g) := fun hh => by have := mul_lt_step hM hh; rw [Int.neg_mul, Int.neg_mul, Int.mul_neg, Int.mul_add, Int.mul_one] at this; rw [Int.neg_mul] at b1; omega
      rcases (show -g = q ∨ -g = q + 1 by omega) with hh | hh
      · exact mem_cOut' 2 1 (by omega) (by omega) (by rw [show xAt n lo hi 2 = hi from rfl, hq]; omega) hp.1 (by omega)
      · exact mem_cOut' 2 2 (by omega) (by omega) (by rw [show xAt n lo hi 2 = hi from rfl, hq]; omega) hp.1 (by omega)

theorem high_mem {n lo hi : Int} {l : Line} (hm : ¬ l.m = 0) (h : (poss lo hi l).2.2 = true) (hl : okL l) : (poss lo hi l).2.1 ∈ cOut n lo hi l 3 := by
  have hp := poss_in h hl
  by_cases hpos : 0 < l.m
  · have e1 : (poss lo hi l).2.1 = min l.b (flo (hi - l.c) l.m) := by unfold poss; rw [if_neg hm, if_pos hpos]
    rw [e1] at hp ⊢
    rcases (show min l.b (flo (hi - l.c) l.m) = l.b ∨ min l.b (flo (hi - l.c) l.m) = flo (hi - l.c) l.m by omega) with e | e
    · rw [e]; exact b_mem
    · rw [e] at hp ⊢
      exact mem_cOut' 2 1 (by omega) (by omega) (by rw [show xAt n lo hi 2 = hi from rfl]; omega) (by omega) hp.2.2
  · have hneg : l.m < 0 := by omega
    have hM : 0 < -l.m := by omega
    have e1 : (poss lo hi l).2.1 = min l.b (flo (l.c - lo) (-l.m)) := by unfold poss; rw [if_neg hm, if_neg hpos]
    rw [e1] at hp ⊢
    rcases (show min l.b (flo (l.c - lo) (-l.m)) = l.b ∨ min l.b (flo (l.c - lo) (-l.m)) = flo (l.c - lo) (-l.m) by omega) with e | e
    · rw [e]; exact b_mem
    · rw [e] at hp ⊢
      have : flo (l.c - lo) (-l.m) = flo (lo - l.c) l.m := by
        unfold flo; rw [if_pos hM, if_neg hpos]; congr 1; omega
      rw [this] at hp ⊢
      exact mem_cOut' 1 1 (by omega) (by omega) (by rw [show xAt n lo hi 1 = lo from rfl]; omega) (by omega) hp.2.2

theorem cand_best {n lo hi : Int} {l : Line} {v : Int} (hl : okL l) (hv : valid lo hi l v) : ∃ c ∈ candL n lo hi l, valid lo hi l c ∧ bestP (c, dist n l c) v (dist n l v) := by
  obtain ⟨h, h1, h2⟩ := poss_iff.1 hv
  have hp := poss_in h hl
  by_cases hm : l.m = 0
  · refine ⟨l.a, by simp [candL, hm], ?_, ?_⟩
    · unfold valid at hv ⊢
      rw [hm] at hv ⊢
      rw [Int.zero_mul] at hv ⊢
      exact ⟨⟨Int.le_refl _, hl.2.2.1⟩, hv.2⟩
    · refine .inr ⟨?_, hv.1.1⟩
      simp only [dist, hm, Int.zero_mul]
  · have hc : candL n lo hi l = cOut n lo hi l 3 := by unfold candL; rw [if_neg hm]
    rw [hc]
    have i1 := cvL_in (n := n) h hl 0
    have i2 := cvL_in (n := n) h hl 1
    have e0 : cvL n lo hi l 0 = c1L n lo hi l := rfl
    have e1 : cvL n lo hi l 1 = c2L n lo hi l := rfl
    rw [e0] at i1; rw [e1] at i2
    have hat : atL n lo hi l = flo (n - l.c) l.m := by unfold atL; rw [if_neg hm]
    have m1 : c1L n lo hi l ∈ cOut n lo hi l 3 := by
      rcases (show c1L n lo hi l = (poss lo hi l).1 ∨ c1L n lo hi l = (poss lo hi l).2.1 ∨ c1L n lo hi l = atL n lo hi l by unfold c1L; omega) with e | e | e
      · rw [e]; exact low_mem hm h hl
      · rw [e]; exact high_mem hm h hl
      · exact mem_cOut' 0 1 (by omega) (by omega) (by rw [e, hat, show xAt n lo hi 0 = n from rfl]; omega) (by omega) (by omega)
    have m2 : c2L n lo hi l ∈ cOut n lo hi l 3 := by
      rcases (show c2L n lo hi l = (poss lo hi l).1 ∨ c2L n lo hi l = (poss lo hi l).2.1 ∨ c2L n lo hi l = atL n lo hi l + 1 by unfold c2L; omega) with e | e | e
      · rw [e]; exact low_mem hm h hl
      · rw [e]; exact high_mem hm h hl
      · exact mem_cOut' 0 2 (by omega) (by omega) (by rw [e, hat, show xAt n lo hi 0 = n from rfl]; omega) (by omega) (by omega)
    rcases key (n := n) h hl h1 h2 with hk | hk
    · exact ⟨_, m1, poss_iff.2 ⟨h, i1⟩, hk⟩
    · exact ⟨_, m2, poss_iff.2 ⟨h, i2⟩, hk⟩

def V (lo hi : Int) (ls : List Line) (v : Int) : Prop := (rappl lo hi v ls).2 = true
def rInv (n lo hi : Int) (ls : List Line) (r : Int × Int × Bool) : Prop := r.2.2 = true → V lo hi ls r.1 ∧ r.2.1 = rD n (rappl lo hi r.1 ls).1
theorem rstep_spec {n lo hi : Int} {ls : List Line} {r : Int × Int × Bool} (v : Int) (hr : rInv n lo hi ls r) :
    rInv n lo hi ls (rstep n lo hi ls r v) ∧ (r.2.2 = true → (rstep n lo hi ls r v).2.2 = true ∧ bestP ((rstep n lo hi ls r v).1, (rstep n lo hi ls r v).2.1) r.1 r.2.1) ∧
    (V lo hi ls v → (rstep n lo hi ls r v).2.2 = true ∧ bestP ((rstep n lo hi ls r v).1, (rstep n lo hi ls r v).2.1) v (rD n (rappl lo hi v ls).1)) := by
  unfold rstep
  by_cases h1 : (rappl lo hi v ls).2 = true
  · rw [if_pos h1]
    by_cases h2 : rcond r v (rD n (rappl lo hi v ls).1) = true
    · rw [if_pos h2]
      refine ⟨fun _ => ⟨h1, rfl⟩, fun hs => ⟨rfl, ?_⟩, fun _ => ⟨rfl, .refl _⟩⟩
      simp [rcond, hs] at h2
      unfold bestP; simp only; omega
    · rw [if_neg h2]
      simp [rcond] at h2
      refine ⟨hr, fun hs => ⟨hs, .refl _⟩, fun _ => ⟨h2.1.1, ?_⟩⟩
      unfold bestP; simp only
      have := h2.1.2; have := h2.2; omega
  · rw [if_neg h1]
    exact ⟨hr, fun hs => ⟨hs, .refl _⟩, fun hv => absurd hv h1⟩
theorem rfold_spec {n lo hi : Int} {ls : List Line} : ∀ (cs : List Int) (r : Int × Int × Bool), rInv n lo hi ls r →
    rInv n lo hi ls (rfold n lo hi ls r cs) ∧ (r.2.2 = true → (rfold n lo hi ls r cs).2.2 = true ∧ bestP ((rfold n lo hi ls r cs).1, (rfold n lo hi ls r cs).2.1) r.1 r.2.1) ∧
    ∀ v ∈ cs, V lo hi ls v → (rfold n lo hi ls r cs).2.2 = true ∧ bestP ((rfold n lo hi ls r cs).1, (rfold n lo hi ls r cs).2.1) v (rD n (rappl lo hi v ls).1)
  | [], r, hr => ⟨hr, fun h => ⟨h, .refl _⟩, fun v hv => by cases hv⟩
  | c :: cs, r, hr => by
    obtain ⟨a1, a2, a3⟩ := rstep_spec c hr
    obtain ⟨b1, b2, b3⟩ := rfold_spec cs _ a1
    rw [rfold]
    refine ⟨b1, fun h => ⟨(b2 (a2 h).1).1, (b2 (a2 h).1).2.trans (a2 h).2⟩, fun v hv hV => ?_⟩
    rcases List.mem_cons.1 hv with rfl | hv
    · exact ⟨(b2 (a3 hV).1).1, (b2 (a3 hV).1).2.trans (a3 hV).2⟩
    · exact b3 v hv hV
theorem router_spec {n lo hi : Int} {ls : List Line} : ∀ (qs : List Line) (r : Int × Int × Bool), rInv n lo hi ls r →
    rInv n lo hi ls (router n lo hi ls r qs) ∧ (r.2.2 = true → (router n lo hi ls r qs).2.2 = true ∧ bestP ((router n lo hi ls r qs).1, (router n lo hi ls r qs).2.1) r.1 r.2.1) ∧
    ∀ l ∈ qs, ∀ v ∈ candL n lo hi l, V lo hi ls v → (router n lo hi ls r qs).2.2 = true ∧ bestP ((router n lo hi ls r qs).1, (router n lo hi ls r qs).2.1) v (rD n (rappl lo hi v ls).1)
  | [], r, hr => ⟨hr, fun h => ⟨h, .refl _⟩, fun v hv => by cases hv⟩
  | q :: qs, r, hr => by
    obtain ⟨a1, a2, a3⟩ := rfold_spec (candL n lo hi q) r hr
    obtain ⟨b1, b2, b3⟩ := router_spec qs _ a1
    rw [router]
    refine ⟨b1, fun h => ⟨(b2 (a2 h).1).1, (b2 (a2 h).1).2.trans (a2 h).2⟩, fun l hl v hv hV => ?_⟩
    rcases List.mem_cons.1 hl with rfl | hl
    · have := a3 v hv hV
      exact ⟨(b2 this.1).1, (b2 this.1).2.trans this.2⟩
    · exact b3 l hl v hv hV

theorem near_same (den : Int) (ls : List Line) (lo hi n : Int) : outRNear den ls lo hi n = outNear den ls lo hi n := by
  unfold outRNear outNear
  by_cases h0 : chkC den ls lo hi = 0
  · rw [if_pos h0, if_pos h0]
    by_cases hn : wi n (-1125899906842624) 1125899906842624 = true
    · rw [if_pos hn, if_pos hn]
      have hg := good_of h0
      obtain ⟨_, r2, r3⟩ := nearL_spec (n := n) (lo := lo) (hi := hi) ls (0, -1) none hg.chkA (fun hh => by simp at hh)
      obtain ⟨q1, _, q3⟩ := router_spec (n := n) (lo := lo) (hi := hi) (ls := ls) ls (0, 0, false) (fun h => by cases h)
      generalize nearL n lo hi (0, -1) ls = s at *
      generalize router n lo hi ls (0, 0, false) ls = r at *
      have hval : ∀ l ∈ ls, ∀ v, valid lo hi l v → rappl lo hi v ls = (l.m * v + l.c, true) := fun l hl v hv => by rw [rappl_eq ls none hg.chkA]; exact appl_of ls none hg.chkA l hl hv
      have hdd : ∀ l : Line, ∀ v, rD n (l.m * v + l.c) = dist n l v := fun l v => by unfold rD dist; omega
      -- r is best of all that are valid
      have rbest : ∀ l ∈ ls, ∀ v, valid lo hi l v → r.2.2 = true ∧ bestP (r.1, r.2.1) v (dist n l v) := fun l hl v hv => by
        obtain ⟨c, hc, hcv, hb⟩ := cand_best (n := n) (hg.ok l hl) hv
        have e := hval l hl c hcv
        have := q3 l hl c hc (by unfold V; rw [e])
        rw [e] at this
        simp only at this
        rw [hdd] at this
        exact ⟨this.1, this.2.trans hb⟩
      by_cases hs : s.2 < 0
      · rw [if_pos hs]
        have : ¬ r.2.2 = true := fun hr => by
          obtain ⟨hv, _⟩ := q1 hr
          unfold V at hv
          rw [rappl_eq ls none hg.chkA] at hv
          obtain ⟨l, hl, h1, _⟩ := appl_mem ls hv
          have := (r3 l hl _ h1).1
          omega
        rw [if_neg this]
      · rw [if_neg hs]
        rcases r2 (by omega) with hr | ⟨l, hl, hv, hd⟩
        · rw [hr] at hs; simp at hs
        · obtain ⟨k1, k2⟩ := rbest l hl s.1 hv
          rw [if_pos k1]
          obtain ⟨hv', hd'⟩ := q1 k1
          unfold V at hv'
          rw [rappl_eq ls none hg.chkA] at hv' hd'
          obtain ⟨l', hl', h1, h2⟩ := appl_mem ls hv'
          rw [h2, hdd] at hd'
          obtain ⟨_, k3⟩ := r3 l' hl' r.1 h1
          unfold bestP at k2 k3
          simp only at k2 k3
          congr 1
          omega
    · rw [if_neg hn, if_neg hn]
  · rw [if_neg h0, if_neg h0]
end Go.Proofs.Ytecdkapjjhkanaa

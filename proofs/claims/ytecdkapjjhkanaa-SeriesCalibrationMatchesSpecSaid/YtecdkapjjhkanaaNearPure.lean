/- A text of the proof: a verified executor of the program form, or the contracts of the functions that the law reaches. -/
import Derived.Test.YtecdkapjjhkanaaFnCal
set_option linter.all false
namespace Go.Proofs.Ytecdkapjjhkanaa
open Go Go.Vx
/-! ## Nearest is nearest -/
def dist (n : Int) (l : Line) (v : Int) : Int := max (l.m * v + l.c - n) (-(l.m * v + l.c - n))
def valid (lo hi : Int) (l : Line) (v : Int) : Prop := (l.a ≤ v ∧ v ≤ l.b) ∧ lo ≤ l.m * v + l.c ∧ l.m * v + l.c ≤ hi
def bestP (s : Int × Int) (v d : Int) : Prop := s.2 < d ∨ (s.2 = d ∧ s.1 ≤ v)

theorem flo_le {x d q : Int} (hd : 0 < d) : q ≤ flo x d ↔ q * d ≤ x := by unfold flo; rw [if_pos hd]; exact Int.le_ediv_iff_mul_le hd

theorem poss_iff {lo hi : Int} {l : Line} {v : Int} : valid lo hi l v ↔ ((poss lo hi l).2.2 = true ∧ (poss lo hi l).1 ≤ v ∧ v ≤ (poss lo hi l).2.1) := by
  unfold valid poss
  by_cases h0 : l.m = 0
  · simp only [if_pos h0, h0, wi, Bool.and_eq_true, decide_eq_true_eq, Int.zero_mul, Int.zero_add, if_true]
    omega
  · by_cases h1 : 0 < l.m
    · simp only [if_neg h0, if_pos h1, decide_eq_true_eq]
      have e1 := flo_le (x := hi - l.c) (q := v) h1
      have e2 := flo_le (x := l.c - lo) (q := -v) h1
      rw [Int.neg_mul] at e2
      rw [Int.mul_comm v] at e1 e2
      omega
    · simp only [if_neg h0, if_neg h1, decide_eq_true_eq]
      have h2 : 0 < -l.m := by omega
      have e1 := flo_le (x := hi - l.c) (q := -v) h2
      have e2 := flo_le (x := l.c - lo) (q := v) h2
      rw [Int.neg_mul, Int.mul_neg, Int.neg_neg] at e1
      rw [Int.mul_neg] at e2
      rw [Int.mul_comm v] at e1 e2
      omega

theorem flo_bounds {x d : Int} (hd : d ≠ 0) : (0 < d → d * flo x d ≤ x ∧ x < d * flo x d + d) ∧ (d < 0 → x ≤ d * flo x d ∧ d * flo x d + d < x) := by
  unfold flo
  refine ⟨fun h => ?_, fun h => ?_⟩
  · rw [if_pos h]
    have h1 := Int.mul_ediv_self_le (x := x) (k := d) hd
    have h2 := Int.lt_mul_ediv_self_add (x := x) (k := d) h
    omega
  · rw [if_neg (by omega)]
    have h1 := Int.mul_ediv_self_le (x := -x) (k := -d) (by omega)
    have h2 := Int.lt_mul_ediv_self_add (x := -x) (k := -d) (by omega)
    rw [Int.neg_mul] at h1 h2
    omega

theorem mul_lt_step {m u v : Int} (hm : 0 < m) (h : u < v) : m * u + m ≤ m * v := by
  have := Int.mul_le_mul_of_nonneg_left (a := u + 1) (b := v) (c := m) (by omega) (by omega)
  rw [Int.mul_add, Int.mul_one] at this
  exact this
theorem mul_le_step {m u v : Int} (hm : 0 < m) (h : u ≤ v) : m * u ≤ m * v := Int.mul_le_mul_of_nonneg_left h (by omega)

theorem key {n lo hi : Int} {l : Line} {v : Int} (h : (poss lo hi l).2.2 = true) (hl : okL l) (h1 : (poss lo hi l).1 ≤ v) (h2 : v ≤ (poss lo hi l).2.1) :
    bestP (c1L n lo hi l, dist n l (c1L n lo hi l)) v (dist n l v) ∨ bestP (c2L n lo hi l, dist n l (c2L n lo hi l)) v (dist n l v) := by
  have hp := poss_in h hl
  have hz : l.m = 0 → atL n lo hi l = (poss lo hi l).1 := fun h => by unfold atL; rw [if_pos h]
  unfold bestP c1L c2L
  generalize ha : atL n lo hi l = at'
  generalize (poss lo hi l).1 = low at *
  generalize (poss lo hi l).2.1 = high at *
  unfold dist
  by_cases h0 : l.m = 0
  · left
    have hat : at' = low := ha.symm.trans (hz h0)
    refine .inr ⟨by simp only [h0, Int.zero_mul], ?_⟩
    simp only
    omega
  · have hat : flo (n - l.c) l.m = at' := by rw [← ha]; unfold atL; rw [if_neg h0]
    obtain ⟨b1, b2⟩ := flo_bounds (x := n - l.c) h0
    rw [hat] at b1 b2
    by_cases hv : v ≤ at'
    · left
      generalize hc : min (max at' low) high = c
      have hcv : v ≤ c ∧ c ≤ at' := by omega
      by_cases he : v = c
      · subst he; right; exact ⟨rfl, Int.le_refl _⟩
      · left
        by_cases hm : 0 < l.m
        · have e1 := mul_lt_step hm (u := v) (v := c) (by omega)
          have e2 := mul_le_step hm hcv.2
          have := b1 hm
          simp only; omega
        · have hm' : 0 < -l.m := by omega
          have e1 := mul_lt_step hm' (u := v) (v := c) (by omega)
          have e2 := mul_le_step hm' hcv.2
          rw [Int.neg_mul, Int.neg_mul] at e1 e2
          have := b2 (by omega)
          simp only; omega
    · right
      generalize hc : min (max (at' + 1) low) high = c
      have hcv : c ≤ v ∧ at' + 1 ≤ c := by omega
      by_cases he : v = c
      · subst he; right; exact ⟨rfl, Int.le_refl _⟩
      · left
        by_cases hm : 0 < l.m
        · have e1 := mul_lt_step hm (u := c) (v := v) (by omega)
          have e2 := mul_lt_step hm (u := at') (v := c) (by omega)
          have := b1 hm
          simp only; omega
        · have hm' : 0 < -l.m := by omega
          have e1 := mul_lt_step hm' (u := c) (v := v) (by omega)
          have e2 := mul_lt_step hm' (u := at') (v := c) (by omega)
          rw [Int.neg_mul, Int.neg_mul] at e1 e2
          have := b2 (by omega)
          simp only; omega

theorem bestP.trans {s : Int × Int} {u du v dv : Int} (h : bestP s u du) (k : bestP (u, du) v dv) : bestP s v dv := by
  unfold bestP at *; simp only at k; omega
theorem bestP.refl (s : Int × Int) : bestP s s.1 s.2 := .inr ⟨rfl, Int.le_refl _⟩

theorem stepC_eq (n : Int) (l : Line) (s : Int × Int) (v : Int) : stepC n l s v = if s.2 < 0 ∨ dist n l v < s.2 then (v, dist n l v) else s := by
  unfold stepC dist
  by_cases h : s.2 < 0 ∨ max (l.m * v + l.c - n) (-(l.m * v + l.c - n)) < s.2
  · rw [if_pos h, if_pos (by simpa using h)]
  · rw [if_neg h, if_neg (by simpa using h)]
theorem dist_nonneg (n : Int) (l : Line) (v : Int) : 0 ≤ dist n l v := by unfold dist; omega
theorem stepC_new {n : Int} {l : Line} {s : Int × Int} {v : Int} (h : 0 ≤ s.2 → s.1 ≤ v) : 0 ≤ (stepC n l s v).2 ∧ bestP (stepC n l s v) v (dist n l v) ∧ (0 ≤ s.2 → bestP (stepC n l s v) s.1 s.2) ∧ (stepC n l s v = s ∧ 0 ≤ s.2 ∨ stepC n l s v = (v, dist n l v)) := by
  have hd := dist_nonneg n l v
  rw [stepC_eq]
  by_cases hc : s.2 < 0 ∨ dist n l v < s.2
  · rw [if_pos hc]
    exact ⟨hd, .refl _, fun h0 => .inl (by simp only; omega), .inr rfl⟩
  · rw [if_neg hc]
    have := h (by omega)
    refine ⟨by omega, ?_, fun _ => .refl _, .inl ⟨rfl, by omega⟩⟩
    unfold bestP; omega

/-- What a line does to the best one so far. -/
theorem stepL_spec {n lo hi : Int} {l : Line} {s : Int × Int} (hl : okL l) (hs : 0 ≤ s.2 → s.1 < l.a) :
    ((poss lo hi l).2.2 = false → stepL n lo hi s l = s) ∧
    ((poss lo hi l).2.2 = true → 0 ≤ (stepL n lo hi s l).2 ∧ (0 ≤ s.2 → bestP (stepL n lo hi s l) s.1 s.2) ∧ (∀ v, valid lo hi l v → bestP (stepL n lo hi s l) v (dist n l v)) ∧
      ((stepL n lo hi s l = s ∧ 0 ≤ s.2) ∨ (valid lo hi l (stepL n lo hi s l).1 ∧ (stepL n lo hi s l).2 = dist n l (stepL n lo hi s l).1))) := by
  refine ⟨fun h => by unfold stepL; rw [h]; rfl, fun h => ?_⟩
  have hp := poss_in h hl
  have i1 := cvL_in (n := n) h hl 0
  have i2 := cvL_in (n := n) h hl 1
  have hcc : c1L n lo hi l ≤ c2L n lo hi l := by unfold c1L c2L; omega
  have e0 : cvL n lo hi l 0 = c1L n lo hi l := rfl
  have e1 : cvL n lo hi l 1 = c2L n lo hi l := rfl
  rw [e0] at i1; rw [e1] at i2
  have e : stepL n lo hi s l = stepC n l (stepC n l s (c1L n lo hi l)) (c2L n lo hi l) := by unfold stepL; rw [if_pos h]; rfl
  rw [e]
  obtain ⟨a1, a2, a3, a4⟩ := stepC_new (n := n) (l := l) (s := s) (v := c1L n lo hi l) (fun h0 => by have := hs h0; omega)
  generalize ht : stepC n l s (c1L n lo hi l) = t at *
  have hle : t.1 ≤ c2L n lo hi l := by
    rcases a4 with ⟨a4, h0⟩ | a4
    · rw [a4]; have := hs h0; omega
    · rw [a4]; exact hcc
  obtain ⟨b1, b2, b3, b4⟩ := stepC_new (n := n) (l := l) (s := t) (v := c2L n lo hi l) (fun _ => hle)
  have b3 := b3 a1
  refine ⟨b1, fun h0 => b3.trans (a3 h0), fun v hv => ?_, ?_⟩
  · obtain ⟨_, hv1, hv2⟩ := poss_iff.1 hv
    rcases key (n := n) h hl hv1 hv2 with hk | hk
    · exact b3.trans (bestP.trans (s := t) a2 hk)
    · exact b2.trans hk
  · rcases b4 with ⟨b4, _⟩ | b4
    · rw [b4]
      rcases a4 with ⟨a4, h0⟩ | a4
      · exact .inl ⟨a4, h0⟩
      · right; rw [a4]; exact ⟨poss_iff.2 ⟨h, i1⟩, rfl⟩
    · right; rw [b4]; exact ⟨poss_iff.2 ⟨h, i2⟩, rfl⟩

def okP (p : Option Int) (s : Int × Int) : Prop := 0 ≤ s.2 → ∃ q, p = some q ∧ s.1 ≤ q

theorem chkA_cons {p : Option Int} {l : Line} {tl : List Line} (h : chkA p (l :: tl) = 0) : okL l ∧ (∀ q, p = some q → q < l.a) ∧ chkA (some l.b) tl = 0 := by
  rw [chkA] at h
  split at h
  · simp at h
  · rename_i h1
    split at h
    · simp at h
    · rename_i h2
      refine ⟨okL_of (by simpa using h1), fun q hq => ?_, h⟩
      subst hq
      simp at h2; exact h2

theorem nearL_spec {n lo hi : Int} : ∀ (ls : List Line) (s : Int × Int) (p : Option Int), chkA p ls = 0 → okP p s →
    (0 ≤ s.2 → 0 ≤ (nearL n lo hi s ls).2 ∧ bestP (nearL n lo hi s ls) s.1 s.2) ∧
    (0 ≤ (nearL n lo hi s ls).2 → (nearL n lo hi s ls = s ∨ ∃ l ∈ ls, valid lo hi l (nearL n lo hi s ls).1 ∧ (nearL n lo hi s ls).2 = dist n l (nearL n lo hi s ls).1)) ∧
    ∀ l ∈ ls, ∀ v, valid lo hi l v → 0 ≤ (nearL n lo hi s ls).2 ∧ bestP (nearL n lo hi s ls) v (dist n l v)
  | [], s, p, _, _ => ⟨fun h => ⟨h, .refl _⟩, fun _ => .inl rfl, fun l hl => by cases hl⟩
  | l :: tl, s, p, hc, hp => by
    obtain ⟨hl, hq, hc'⟩ := chkA_cons hc
    obtain ⟨s1, s2⟩ := stepL_spec (n := n) (lo := lo) (hi := hi) (s := s) hl (fun h0 => by obtain ⟨q, e, hle⟩ := hp h0; have := hq q e; omega)
    rw [nearL]
    have hab := hl.2.2.1
    have hp' : okP (some l.b) (stepL n lo hi s l) := by
      intro h0
      refine ⟨l.b, rfl, ?_⟩
      have hsl : 0 ≤ s.2 → s.1 ≤ l.b := fun h => by obtain ⟨q, e, hle⟩ := hp h; have := hq q e; omega
      cases ho : (poss lo hi l).2.2 with
      | false => rw [s1 ho] at h0 ⊢; exact hsl h0
      | true =>
        obtain ⟨_, _, _, h4⟩ := s2 ho
        rcases h4 with ⟨h4, h5⟩ | ⟨h4, _⟩
        · rw [h4]; exact hsl h5
        · exact h4.1.2
    obtain ⟨r1, r2, r3⟩ := nearL_spec tl (stepL n lo hi s l) (some l.b) hc' hp'
    refine ⟨fun h0 => ?_, fun h0 => ?_, fun l' hl' v hv => ?_⟩
    · cases ho : (poss lo hi l).2.2 with
      | false => rw [s1 ho] at r1 ⊢; exact r1 h0
      | true =>
        obtain ⟨h1, h2, _, _⟩ := s2 ho
        exact ⟨(r1 h1).1, (r1 h1).2.trans (h2 h0)⟩
    · rcases r2 h0 with h | ⟨l', hl', h⟩
      · rw [h] at h0 ⊢
        cases ho : (poss lo hi l).2.2 with
        | false => rw [s1 ho]; exact .inl rfl
        | true =>
          obtain ⟨_, _, _, h4⟩ := s2 ho
          rcases h4 with ⟨h4, _⟩ | h4
          · exact .inl h4
          · exact .inr ⟨l, by simp, h4⟩
      · exact .inr ⟨l', by simp [hl'], h⟩
    · rcases List.mem_cons.1 hl' with rfl | hl'
      · have ho : (poss lo hi l').2.2 = true := (poss_iff.1 hv).1
        obtain ⟨h1, _, h3, _⟩ := s2 ho
        exact ⟨(r1 h1).1, (r1 h1).2.trans (h3 v hv)⟩
      · exact r3 l' hl' v hv

theorem chkA_after : ∀ (ls : List Line) (p : Option Int), chkA p ls = 0 → ∀ l ∈ ls, ∀ q, p = some q → q < l.a
  | [], _, _, l, hl, _, _ => by cases hl
  | x :: tl, p, h, l, hl, q, hq => by
    obtain ⟨hx, h1, h2⟩ := chkA_cons h
    have := h1 q hq
    rcases List.mem_cons.1 hl with rfl | hl
    · exact this
    · have h3 := chkA_after tl _ h2 l hl x.b rfl
      have := hx.2.2.1
      omega

theorem appl_of {lo hi v : Int} : ∀ (ls : List Line) (p : Option Int), chkA p ls = 0 → ∀ l ∈ ls, valid lo hi l v → appl lo hi v ls = (l.m * v + l.c, true)
  | [], _, _, l, hl, _ => by cases hl
  | x :: tl, p, h, l, hl, hv => by
    obtain ⟨hx, h1, h2⟩ := chkA_cons h
    rw [appl]
    rcases List.mem_cons.1 hl with rfl | hl
    · rw [if_pos (by simp only [wi, Bool.and_eq_true, decide_eq_true_eq]; exact ⟨hv.1, hv.2⟩)]
    · have h3 := chkA_after tl _ h2 l hl x.b rfl
      have hvv := hv.1
      rw [if_neg (by simp [wi]; omega)]
      exact appl_of tl _ h2 l hl hv
theorem appl_mem {lo hi v : Int} : ∀ (ls : List Line), (appl lo hi v ls).2 = true → ∃ l ∈ ls, valid lo hi l v ∧ (appl lo hi v ls).1 = l.m * v + l.c
  | [], h => by simp [appl] at h
  | x :: tl, h => by
    rw [appl] at h ⊢
    by_cases hc : (wi v x.a x.b && wi (x.m * v + x.c) lo hi) = true
    · rw [if_pos hc]
      exact ⟨x, by simp, by simpa [wi, valid] using hc, rfl⟩
    · rw [if_neg hc] at h ⊢
      obtain ⟨l, hl, h1, h2⟩ := appl_mem tl h
      exact ⟨l, by simp [hl], h1, h2⟩

theorem near_law {den : Int} {ls : List Line} {lo hi n v : Int} (h : (outNear den ls lo hi n).2 = 0) :
    wi n (-1125899906842624) 1125899906842624 = true ∧ okR lo hi ∧ (outApply den ls lo hi (outNear den ls lo hi n).1).2.2 = 0 ∧ (outApply den ls lo hi (outNear den ls lo hi n).1).2.1 = true ∧ (outApply den ls lo hi v).2.2 = 0 ∧
    (lo ≤ (outApply den ls lo hi (outNear den ls lo hi n).1).1 ∧ (outApply den ls lo hi (outNear den ls lo hi n).1).1 ≤ hi) ∧
    ((outApply den ls lo hi v).2.1 = true → (lo ≤ (outApply den ls lo hi v).1 ∧ (outApply den ls lo hi v).1 ≤ hi) ∧
      bestP ((outNear den ls lo hi n).1, max ((outApply den ls lo hi (outNear den ls lo hi n).1).1 - n) (n - (outApply den ls lo hi (outNear den ls lo hi n).1).1)) v (max ((outApply den ls lo hi v).1 - n) (n - (outApply den ls lo hi v).1))) := by
  unfold outNear at h ⊢
  by_cases h0 : chkC den ls lo hi = 0
  · rw [if_pos h0] at h ⊢
    by_cases h1 : wi n (-1125899906842624) 1125899906842624 = true
    · rw [if_pos h1] at h ⊢
      by_cases h2 : (nearL n lo hi (0, -1) ls).2 < 0
      · rw [if_pos h2] at h; simp at h
      · rw [if_neg h2]
        have hg := good_of h0
        obtain ⟨_, r2, r3⟩ := nearL_spec (n := n) (lo := lo) (hi := hi) ls (0, -1) none hg.chkA (fun hh => by simp at hh)
        have hoa : ∀ x, outApply den ls lo hi x = ((appl lo hi x ls).1, (appl lo hi x ls).2, 0) := fun x => by unfold outApply; rw [if_pos h0]
        rcases r2 (by omega) with hr | ⟨l, hl, hv, hd⟩
        · rw [hr] at h2; simp at h2
        · have e1 := appl_of ls none hg.chkA l hl hv
          simp only [hoa]
          rw [e1]
          refine ⟨h1, hg.rng, by simp, by simp, by simp, hv.2, fun hap => ?_⟩
          obtain ⟨l', hl', hv', e2⟩ := appl_mem ls hap
          rw [e2]
          refine ⟨hv'.2, ?_⟩
          have := (r3 l' hl' v hv').2
          unfold bestP at this ⊢
          rw [hd] at this
          unfold dist at this
          simp only
          omega
    · rw [if_neg h1] at h; simp at h
  · rw [if_neg h0] at h; exact absurd h h0
end Go.Proofs.Ytecdkapjjhkanaa

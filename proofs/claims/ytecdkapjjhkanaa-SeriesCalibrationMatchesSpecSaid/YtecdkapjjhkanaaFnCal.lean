/- A text of the proof: a verified executor of the program form, or the contracts of the functions that the law reaches. -/
import Derived.Test.YtecdkapjjhkanaaFnHold
import Derived.Test.YtecdkapjjhkanaaVxQ
set_option linter.all false
namespace Go.Proofs.Ytecdkapjjhkanaa
open Go Go.Vx
set_option maxRecDepth 10000
set_option maxHeartbeats 1000000
/-! ## Calibrations -/
structure Line where
  a : Int
  b : Int
  m : Int
  c : Int
def Line.av (l : Line) : List AV := [.int .i64 l.a, .int .i64 l.b, .int .i64 l.m, .int .i64 l.c]
def calL (den : Int) (ls : List Line) (lo hi : Int) : List AV := [.int .i64 den, .sl 56 (ls.map Line.av), .int .i64 lo, .int .i64 hi]
theorem mulb {m x A B : Int} (h1 : -A ≤ m) (h2 : m ≤ A) (h3 : -B ≤ x) (h4 : x ≤ B) : -(A * B) ≤ m * x ∧ m * x ≤ A * B := by
  have hA : 0 ≤ A := by omega
  have hB : 0 ≤ B := by omega
  have e1 := Int.mul_nonneg (a := A - m) (b := B - x) (by omega) (by omega)
  have e2 := Int.mul_nonneg (a := A + m) (b := B + x) (by omega) (by omega)
  have e3 := Int.mul_nonneg (a := A - m) (b := B + x) (by omega) (by omega)
  have e4 := Int.mul_nonneg (a := A + m) (b := B - x) (by omega) (by omega)
  simp only [Int.sub_mul, Int.add_mul, Int.mul_sub, Int.mul_add] at e1 e2 e3 e4
  omega
theorem tdiv_b {n d B : Int} (hd : 0 < d) (h1 : -B ≤ n) (h2 : n ≤ B) : -B ≤ n.tdiv d ∧ n.tdiv d ≤ B := by
  have h : (n.tdiv d).natAbs ≤ n.natAbs := by rw [Int.natAbs_tdiv]; exact Nat.div_le_self _ _
  omega
theorem floor_eq {n d : Int} (hd : 0 < d) : n / d = if n.tmod d ≠ 0 ∧ n < 0 then n.tdiv d - 1 else n.tdiv d := by
  have h := Int.tdiv_eq_ediv (a := n) (b := d)
  have hs : d.sign = 1 := Int.sign_eq_one_of_pos hd
  rw [hs] at h
  by_cases h0 : n.tmod d = 0
  · have hdv : d ∣ n := Int.dvd_of_tmod_eq_zero h0
    rw [if_pos (.inr hdv)] at h
    rw [if_neg (by simp [h0])]; omega
  · by_cases hn : n < 0
    · have hdv : ¬ d ∣ n := fun hh => h0 (Int.tmod_eq_zero_of_dvd hh)
      rw [if_neg (by rintro (h1 | h1); omega; exact hdv h1)] at h
      rw [if_pos ⟨h0, hn⟩]; omega
    · rw [if_pos (.inl (by omega))] at h
      rw [if_neg (by simp [hn])]; omega

def flo (n d : Int) : Int := if 0 < d then n / d else (-n) / (-d)
theorem flo_eq {n d : Int} (hd : d ≠ 0) : flo n d = if n.tmod d ≠ 0 ∧ (!(decide (n < 0) == decide (d < 0))) = true then n.tdiv d - 1 else n.tdiv d := by
  unfold flo
  by_cases h : 0 < d
  · rw [if_pos h, floor_eq h]
    have : decide (d < 0) = false := by simp; omega
    rw [this]
    by_cases hn : n < 0 <;> simp [hn]
  · have hd' : 0 < -d := by omega
    rw [if_neg h, floor_eq hd', Int.neg_tdiv_neg]
    have e : (-n).tmod (-d) = -(n.tmod d) := by rw [Int.tmod_neg, Int.neg_tmod]
    have : decide (d < 0) = true := by simp; omega
    rw [e, this]
    by_cases h0 : n.tmod d = 0
    · simp [h0]
    · have hn0 : n ≠ 0 := fun hh => h0 (by rw [hh]; simp)
      by_cases hn : n < 0
      · simp [h0, hn]; omega
      · simp [h0, hn]; omega
theorem tdiv_b' {n d B : Int} (h1 : -B ≤ n) (h2 : n ≤ B) : -B ≤ n.tdiv d ∧ n.tdiv d ≤ B := by
  have h : (n.tdiv d).natAbs ≤ n.natAbs := by rw [Int.natAbs_tdiv]; exact Nat.div_le_self _ _
  omega
theorem flo_b {n d B : Int} (hd : d ≠ 0) (h1 : -B ≤ n) (h2 : n ≤ B) : -B - 1 ≤ flo n d ∧ flo n d ≤ B := by
  have := tdiv_b' (d := d) h1 h2
  rw [flo_eq hd]; split <;> omega

abbrev inA (x : Int) : Bool := wi x (-1099511627776) 1099511627776
abbrev inN (x : Int) : Bool := wi x (-1125899906842624) 1125899906842624
def badL (l : Line) : Bool := !wi l.a (-1099511627776) 1099511627776 || !wi l.b (-1099511627776) 1099511627776 || decide (l.b < l.a) || !wi l.m (-1048576) 1048576 || !wi l.c (-1125899906842624) 1125899906842624
def badM (l : Line) : Bool := !wi (l.m * l.a + l.c) (-1125899906842624) 1125899906842624 || !wi (l.m * l.b + l.c) (-1125899906842624) 1125899906842624
def badR (lo hi : Int) : Bool := !wi lo (-1125899906842624) 1125899906842624 || !wi hi (-1125899906842624) 1125899906842624 || decide (hi < lo)
def chkA : Option Int → List Line → Int
  | _, [] => 0
  | p, l :: tl => if badL l then 9 else if p.any (fun q => decide (l.a ≤ q)) then 10 else chkA (some l.b) tl
def chkB : List Line → Int
  | [] => 0
  | l :: tl => if badM l then 9 else chkB tl
def chkC (den : Int) (ls : List Line) (lo hi : Int) : Int :=
  if wi den 1 1000000 then (if (ls.length : Int) = 0 then 13 else if 50 < (ls.length : Int) then 3 else if chkA none ls = 0 then (if chkB ls = 0 then (if badR lo hi then 9 else 0) else chkB ls) else chkA none ls) else 9
def prevB (ls : List Line) (k : Nat) : Option Int := if k = 0 then none else (ls[k-1]?).map Line.b
theorem prevB_succ {ls : List Line} {k : Nat} {x : Line} (h : ls[k]? = some x) : prevB ls (k + 1) = some x.b := by simp [prevB, h]
theorem prevB_any {ls : List Line} {k : Nat} {x y : Line} (h : 0 < k → ls[k - 1]? = some y) : (prevB ls k).any (fun q => decide (x.a ≤ q)) = (decide ((0 : Int) < k) && decide (x.a ≤ y.b)) := by
  unfold prevB
  by_cases hk : k = 0
  · simp [hk]
  · simp [hk, h (by omega), show 0 < k by omega]
def okL (l : Line) : Prop := (-1099511627776 ≤ l.a ∧ l.a ≤ 1099511627776) ∧ (-1099511627776 ≤ l.b ∧ l.b ≤ 1099511627776) ∧ l.a ≤ l.b ∧ (-1048576 ≤ l.m ∧ l.m ≤ 1048576) ∧ -1125899906842624 ≤ l.c ∧ l.c ≤ 1125899906842624
theorem okL_of {l : Line} (h : badL l = false) : okL l := by
  simp [badL, wi] at h; unfold okL; omega
theorem okL.mul {l : Line} (h : okL l) {x : Int} (h1 : -1099511627776 ≤ x) (h2 : x ≤ 1099511627776) : -1152921504606846976 ≤ l.m * x ∧ l.m * x ≤ 1152921504606846976 := mulb h.2.2.2.1.1 h.2.2.2.1.2 h1 h2
theorem chkA_ok : ∀ (ls : List Line) (p : Option Int), chkA p ls = 0 → ∀ l ∈ ls, okL l
  | [], _, _, l, hl => by cases hl
  | x :: tl, p, h, l, hl => by
    rw [chkA] at h
    split at h
    · simp at h
    · rename_i h1
      split at h
      · simp at h
      · rcases List.mem_cons.1 hl with rfl | hl
        · exact okL_of (by simpa using h1)
        · exact chkA_ok tl _ h l hl
def dummy : Line := ⟨0, 0, 0, 0⟩
theorem chkC_0 {den : Int} {ls : List Line} {lo hi : Int} (h : wi den 1 1000000 = false) : chkC den ls lo hi = 9 := by simp [chkC, h]
theorem chkC_1 {den : Int} {ls : List Line} {lo hi : Int} (h : wi den 1 1000000 = true) (h2 : (ls.length : Int) = 0) : chkC den ls lo hi = 13 := by unfold chkC; rw [if_pos h, if_pos h2]
theorem chkC_2 {den : Int} {ls : List Line} {lo hi : Int} (h : wi den 1 1000000 = true) (h2 : ¬ (ls.length : Int) = 0) (h3 : 50 < (ls.length : Int)) : chkC den ls lo hi = 3 := by unfold chkC; rw [if_pos h, if_neg h2, if_pos h3]
theorem chkC_A {den : Int} {ls : List Line} {lo hi : Int} (h : wi den 1 1000000 = true) (h2 : ¬ (ls.length : Int) = 0) (h3 : ¬ 50 < (ls.length : Int)) (hA : ¬ chkA none ls = 0) : chkC den ls lo hi = chkA none ls := by unfold chkC; rw [if_pos h, if_neg h2, if_neg h3, if_neg hA]
theorem chkC_B {den : Int} {ls : List Line} {lo hi : Int} (h : wi den 1 1000000 = true) (h2 : ¬ (ls.length : Int) = 0) (h3 : ¬ 50 < (ls.length : Int)) (hA : chkA none ls = 0) (hB : ¬ chkB ls = 0) : chkC den ls lo hi = chkB ls := by unfold chkC; rw [if_pos h, if_neg h2, if_neg h3, if_pos hA, if_neg hB]
theorem chkC_R {den : Int} {ls : List Line} {lo hi : Int} (h : wi den 1 1000000 = true) (h2 : ¬ (ls.length : Int) = 0) (h3 : ¬ 50 < (ls.length : Int)) (hA : chkA none ls = 0) (hB : chkB ls = 0) : chkC den ls lo hi = if badR lo hi then 9 else 0 := by unfold chkC; rw [if_pos h, if_neg h2, if_neg h3, if_pos hA, if_pos hB]

def appl (lo hi : Int) (v : Int) : List Line → Int × Bool
  | [] => (0, false)
  | l :: tl => if wi v l.a l.b && wi (l.m * v + l.c) lo hi then (l.m * v + l.c, true) else appl lo hi v tl
def poss (lo hi : Int) (l : Line) : Int × Int × Bool :=
  if l.m = 0 then (l.a, l.b, wi l.c lo hi)
  else if 0 < l.m then (max l.a (-(flo (l.c - lo) l.m)), min l.b (flo (hi - l.c) l.m), decide (max l.a (-(flo (l.c - lo) l.m)) ≤ min l.b (flo (hi - l.c) l.m)))
  else (max l.a (-(flo (hi - l.c) (-l.m))), min l.b (flo (l.c - lo) (-l.m)), decide (max l.a (-(flo (hi - l.c) (-l.m))) ≤ min l.b (flo (l.c - lo) (-l.m))))
def okR (lo hi : Int) : Prop := -1125899906842624 ≤ lo ∧ lo ≤ 1125899906842624 ∧ -1125899906842624 ≤ hi ∧ hi ≤ 1125899906842624 ∧ lo ≤ hi
theorem okR_of {lo hi : Int} (h : badR lo hi = false) : okR lo hi := by simp [badR, wi] at h; unfold okR; omega
structure Good (den : Int) (ls : List Line) (lo hi : Int) : Prop where
  den : wi den 1 1000000 = true
  len : ls.length ≤ 50
  ok : ∀ l ∈ ls, okL l
  chkA : chkA none ls = 0
  chkB : chkB ls = 0
  rng : okR lo hi
theorem good_of {den : Int} {ls : List Line} {lo hi : Int} (h : chkC den ls lo hi = 0) : Good den ls lo hi := by
  by_cases h1 : wi den 1 1000000 = true
  · by_cases h2 : (ls.length : Int) = 0
    · rw [chkC_1 h1 h2] at h; simp at h
    · by_cases h3 : 50 < (ls.length : Int)
      · rw [chkC_2 h1 h2 h3] at h; simp at h
      · by_cases h4 : chkA none ls = 0
        · by_cases h5 : chkB ls = 0
          · rw [chkC_R h1 h2 h3 h4 h5] at h
            by_cases h6 : badR lo hi = true
            · rw [if_pos h6] at h; simp at h
            · exact ⟨h1, by omega, chkA_ok ls none h4, h4, h5, okR_of (by simpa using h6)⟩
          · rw [chkC_B h1 h2 h3 h4 h5] at h; exact absurd h h5
        · rw [chkC_A h1 h2 h3 h4] at h; exact absurd h h4
  · rw [chkC_0 (by simpa using h1)] at h; simp at h
def outApply (den : Int) (ls : List Line) (lo hi v : Int) : Int × Bool × Int := if chkC den ls lo hi = 0 then ((appl lo hi v ls).1, (appl lo hi v ls).2, 0) else (0, false, chkC den ls lo hi)

def stepC (n : Int) (l : Line) (s : Int × Int) (v : Int) : Int × Int :=
  if (decide (s.2 < 0) || decide (max (l.m * v + l.c - n) (-(l.m * v + l.c - n)) < s.2)) = true then (v, max (l.m * v + l.c - n) (-(l.m * v + l.c - n))) else s
def atL (n lo hi : Int) (l : Line) : Int := if l.m = 0 then (poss lo hi l).1 else flo (n - l.c) l.m
def c1L (n lo hi : Int) (l : Line) : Int := min (max (atL n lo hi l) (poss lo hi l).1) (poss lo hi l).2.1
def c2L (n lo hi : Int) (l : Line) : Int := min (max (atL n lo hi l + 1) (poss lo hi l).1) (poss lo hi l).2.1
def cvL (n lo hi : Int) (l : Line) (j : Nat) : Int := if j = 0 then c1L n lo hi l else c2L n lo hi l
def inS (n lo hi : Int) (l : Line) (s : Int × Int) (j : Nat) : Int × Int := if j = 0 then s else if j = 1 then stepC n l s (c1L n lo hi l) else stepC n l (stepC n l s (c1L n lo hi l)) (c2L n lo hi l)
theorem inS_succ (n lo hi : Int) (l : Line) (s : Int × Int) {j : Nat} (h : j < 2) : inS n lo hi l s (j + 1) = stepC n l (inS n lo hi l s j) (cvL n lo hi l j) := by
  rcases (show j = 0 ∨ j = 1 by omega) with rfl | rfl <;> rfl
def stepL (n lo hi : Int) (s : Int × Int) (l : Line) : Int × Int := if (poss lo hi l).2.2 then inS n lo hi l s 2 else s
def nearL (n lo hi : Int) : Int × Int → List Line → Int × Int
  | s, [] => s
  | s, l :: tl => nearL n lo hi (stepL n lo hi s l) tl
def outNear (den : Int) (ls : List Line) (lo hi n : Int) : Int × Int :=
  if chkC den ls lo hi = 0 then (if wi n (-1125899906842624) 1125899906842624 then (if (nearL n lo hi (0, -1) ls).2 < 0 then (0, 4) else ((nearL n lo hi (0, -1) ls).1, 0)) else (0, 9)) else (0, chkC den ls lo hi)
theorem poss_in {lo hi : Int} {l : Line} (h : (poss lo hi l).2.2 = true) (hl : okL l) : l.a ≤ (poss lo hi l).1 ∧ (poss lo hi l).1 ≤ (poss lo hi l).2.1 ∧ (poss lo hi l).2.1 ≤ l.b := by
  have := hl.2.2.1
  unfold poss at h ⊢
  by_cases h0 : l.m = 0
  · simp only [if_pos h0] at h ⊢; omega
  · by_cases h1 : 0 < l.m
    · simp only [if_neg h0, if_pos h1, decide_eq_true_eq] at h ⊢; omega
    · simp only [if_neg h0, if_neg h1, decide_eq_true_eq] at h ⊢; omega
theorem cvL_in {n lo hi : Int} {l : Line} (h : (poss lo hi l).2.2 = true) (hl : okL l) (j : Nat) : (poss lo hi l).1 ≤ cvL n lo hi l j ∧ cvL n lo hi l j ≤ (poss lo hi l).2.1 := by
  have := poss_in h hl
  unfold cvL c1L c2L
  split <;> omega
theorem atL_b {n lo hi : Int} {l : Line} (h : (poss lo hi l).2.2 = true) (hl : okL l) (h1 : -1125899906842624 ≤ n) (h2 : n ≤ 1125899906842624) : -4503599627370496 ≤ atL n lo hi l ∧ atL n lo hi l ≤ 4503599627370496 := by
  have hp := poss_in h hl
  obtain ⟨⟨ha1, ha2⟩, ⟨hb1, hb2⟩, hab, ⟨hm1, hm2⟩, hc1, hc2⟩ := hl
  unfold atL
  split
  · omega
  · rename_i h0
    have := flo_b (n := n - l.c) (d := l.m) (B := 2251799813685248) h0 (by omega) (by omega)
    omega

theorem ctB4 : (match Try.prog.underlying 4 with | some .bool => true | _ => false) = true := by kernel_rfl
theorem ctA56 : tAgg Try.prog 56 4 = true := by kernel_rfl
theorem ctF56_2 : tFld Try.prog 56 2 2 = true := by kernel_rfl
theorem ctS3 : tScal Try.prog 3 = true := by kernel_rfl
theorem ctF56_3 : tFld Try.prog 56 3 3 = true := by kernel_rfl
theorem ctA35 : tAgg Try.prog 35 4 = true := by kernel_rfl
theorem ctF35_0 : tFld Try.prog 35 0 0 = true := by kernel_rfl
theorem ctF35_1 : tFld Try.prog 35 1 1 = true := by kernel_rfl
theorem ctS33 : tScal Try.prog 33 = true := by kernel_rfl
theorem ctL33 : tSl Try.prog 33 56 4 32 = true := by kernel_rfl
theorem ctZ56 : zeroOf Try.prog 56 = some [.int .i64 0, .int .i64 0, .int .i64 0, .int .i64 0] := by kernel_rfl
theorem ctZ_56 : Try.prog.cellsOf 56 = 4 := by kernel_rfl
theorem ctF56_0 : tFld Try.prog 56 0 0 = true := by kernel_rfl
theorem ctF56_1 : tFld Try.prog 56 1 1 = true := by kernel_rfl
theorem ctF35_2 : tFld Try.prog 35 2 2 = true := by kernel_rfl
theorem ctF35_3 : tFld Try.prog 35 3 3 = true := by kernel_rfl
theorem ctR60 : tArr Try.prog 60 2 3 1 = true := by kernel_rfl
theorem ctZ60 : zeroOf Try.prog 60 = some [.int .i64 0, .int .i64 0] := by kernel_rfl

-- series.floor (function 28)
theorem floor_ok (n d : Int) (hd : d ≠ 0) (hn : -4611686018427387904 ≤ n ∧ n ≤ 4611686018427387904) : CSpec Try.prog 28 [.int .i64 n, .int .i64 d] (.int .i64 (flo n d)) := by
  refine spec_of (by kernel_rfl) Try.func28 rfl rfl ?_
  intro w0 A
  have hq := tdiv_b' (d := d) hn.1 hn.2
  refine T_keep (kc 0 rfl <| kc 1 rfl <| kn) rfl ?_
  refine T_seq (T_reg ?_)   -- region 0
  refine R_q _ rfl (v_assign (ov rfl)) ?_
  refine R_nil ?_
  refine T_keep (kc 0 rfl <| kc 1 rfl <| kn) rfl ?_
  refine T_seq (T_reg ?_)   -- region 1
  refine R_q _ rfl (v_move (ov rfl)) ?_
  refine R_q _ rfl (v_move (ov rfl)) ?_
  refine R_q _ rfl (v_quo (ov rfl) (ov rfl) (by omega) (w64 (by omega) (by omega))) ?_
  refine R_q _ rfl (v_assign (ov rfl)) ?_
  refine R_nil ?_
  refine T_seq ?_
  refine T_keep (kc 0 rfl <| kc 1 rfl <| kc 5 rfl <| kn) rfl ?_
  refine T_seq (T_reg ?_)   -- region 2
  refine R_q _ rfl (v_move (ov rfl)) ?_
  refine R_q _ rfl (v_move (ov rfl)) ?_
  refine R_q _ rfl (v_rem (ov rfl) (ov rfl) (by omega) rfl) ?_
  refine R_q _ rfl (v_neq (ov rfl) (ov rfl)) ?_
  refine R_q _ rfl (v_move (ov rfl)) ?_
  refine R_q _ rfl (.guarded _ rfl rfl rfl rfl fun h => v_move (ov rfl)) ?_
  refine R_q _ rfl (.guarded _ rfl rfl rfl rfl fun h => v_lss (ow rfl h) (ov rfl)) ?_
  refine R_q _ rfl (.guarded _ rfl rfl rfl rfl fun h => v_move (ov rfl)) ?_
  refine R_q _ rfl (.guarded _ rfl rfl rfl rfl fun h => v_lss (ow rfl h) (ov rfl)) ?_
  refine R_q _ rfl (.guarded _ rfl rfl rfl rfl fun h => tBool_eq .neq (by simp) (ow rfl h) (ow rfl h) ctB4) ?_
  refine R_q _ rfl (v_and (ov rfl) (fun hp => ow rfl (gT hp))) ?_
  refine R_nil ?_
  refine T_keep (kc 5 rfl <| kc 19 rfl <| kn) rfl ?_
  refine T_cond rfl (fun h19 => ?_) (fun h19 => ?_)
  · skip
    have hv : n.tmod d ≠ 0 ∧ (!(decide (n < 0) == decide (d < 0))) = true := by
      simpa using h19
    refine T_keep (kc 5 rfl <| kn) rfl ?_
    refine T_reg ?_   -- region 3
    refine R_q _ rfl (v_move (ov rfl)) ?_
    refine R_q _ rfl (v_sub (ov rfl) (ov rfl) (w64 (by first | omega | (simp at *; omega) | (simp_all; omega)) (by first | omega | (simp at *; omega) | (simp_all; omega)))) ?_
    refine R_q _ rfl (v_assign (ov rfl)) ?_
    refine R_nil ?_
    refine T_keep (kc 5 rfl <| kn) rfl ?_
    refine T_seq (T_reg ?_)   -- region 4
    refine R_q _ rfl (v_move (ov rfl)) ?_
    refine R_q _ rfl (v_assign (ov rfl)) ?_
    refine R_nil ?_
    refine T_ret ?_
    refine retq ?_ (.one (.tmp rfl (Dat.view (.b rfl))))
    rw [flo_eq hd, if_pos hv]
  · skip
    have hv : ¬ (n.tmod d ≠ 0 ∧ (!(decide (n < 0) == decide (d < 0))) = true) := by
      simpa using h19
    refine T_skip ?_
    refine T_keep (kc 5 rfl <| kn) rfl ?_
    refine T_seq (T_reg ?_)   -- region 4
    refine R_q _ rfl (v_move (ov rfl)) ?_
    refine R_q _ rfl (v_assign (ov rfl)) ?_
    refine R_nil ?_
    refine T_ret ?_
    refine retq ?_ (.one (.tmp rfl (Dat.view (.b rfl))))
    rw [flo_eq hd, if_neg hv]

-- series.size (function 29)
theorem size_ok (n : Int) (hn : -9223372036854775807 ≤ n ∧ n ≤ 9223372036854775807) : CSpec Try.prog 29 [.int .i64 n] (.int .i64 (max n (-n))) := by
  refine spec_of (by kernel_rfl) Try.func29 rfl rfl ?_
  intro w0 A
  refine T_keep (kc 0 rfl <| kn) rfl ?_
  refine T_seq (T_reg ?_)   -- region 0
  refine R_q _ rfl (v_assign (ov rfl)) ?_
  refine R_nil ?_
  refine T_keep (kc 0 rfl <| kn) rfl ?_
  refine T_seq (T_reg ?_)   -- region 1
  refine R_q _ rfl (v_move (ov rfl)) ?_
  refine R_q _ rfl (v_move (ov rfl)) ?_
  refine R_q _ rfl (v_neg (ov rfl) (w64 (by omega) (by omega))) ?_
  refine R_q _ rfl (v_max (ov rfl) (ov rfl) rfl) ?_
  refine R_q _ rfl (v_assign (ov rfl)) ?_
  refine R_nil ?_
  refine T_ret ?_
  refine retq ?_ (.one (.tmp rfl (Dat.view (.b rfl))))
  first | rfl | simp_all

-- series.number (function 30)
theorem number_ok (l : Line) (v : Int) (h1 : -4611686018427387904 ≤ l.m * v ∧ l.m * v ≤ 4611686018427387904) (h2 : -4611686018427387904 ≤ l.c ∧ l.c ≤ 4611686018427387903) : CSpec Try.prog 30 [.agg l.av, .int .i64 v] (.int .i64 (l.m * v + l.c)) := by
  refine spec_of (by kernel_rfl) Try.func30 rfl rfl ?_
  intro w0 A
  refine T_keep (kc 0 rfl <| kc 1 rfl <| kn) rfl ?_
  refine T_seq (T_reg ?_)   -- region 0
  refine R_w _ _ rfl (w_box 0 rfl (ov rfl) ctA56 rfl) ?_
  refine R_q _ rfl (v_assign (ov rfl)) ?_
  refine R_nil ?_
  refine T_keep (kc 1 rfl <| kc 2 rfl <| kn) rfl ?_
  refine T_seq (T_reg ?_)   -- region 1
  refine R_q _ rfl ((by first | exact v_fieldP (ov rfl) rfl rfl ctF56_2 | exact v_fieldR (ov rfl) ctF56_2)) ?_
  refine R_q _ rfl ((by first | exact v_loadS (ov rfl) rfl rfl rfl ctS3 rfl | exact v_loadS_r (ov rfl) ctS3 rfl)) ?_
  refine R_q _ rfl (v_move (ov rfl)) ?_
  refine R_q _ rfl (v_mul (ov rfl) (ov rfl) (w64 (by omega) (by omega))) ?_
  refine R_q _ rfl ((by first | exact v_fieldP (ov rfl) rfl rfl ctF56_3 | exact v_fieldR (ov rfl) ctF56_3)) ?_
  refine R_q _ rfl ((by first | exact v_loadS (ov rfl) rfl rfl rfl ctS3 rfl | exact v_loadS_r (ov rfl) ctS3 rfl)) ?_
  refine R_q _ rfl (v_add (ov rfl) (ov rfl) (w64 (by omega) (by omega))) ?_
  refine R_q _ rfl (v_assign (ov rfl)) ?_
  refine R_nil ?_
  refine T_ret ?_
  refine retq ?_ (.one (.tmp rfl (Dat.view (.b rfl))))
  first | rfl | simp_all

-- series.CheckCalibration (function 13)
theorem chkC_ok (den : Int) (ls : List Line) (lo hi : Int) : CSpec Try.prog 13 [.agg (calL den ls lo hi)] (.int .i64 (chkC den ls lo hi)) := by
  refine spec_of (by kernel_rfl) Try.func13 rfl rfl ?_
  intro w0 A
  refine T_keep (kc 0 rfl <| kn) rfl ?_
  refine T_seq (T_reg ?_)   -- region 0
  refine R_w _ _ rfl (w_box 0 rfl (ov rfl) ctA35 rfl) ?_
  refine R_q _ rfl (v_assign (ov rfl)) ?_
  refine R_nil ?_
  refine T_seq ?_
  refine T_block ?_   -- block 0
  refine T_keep (kc 1 rfl <| kn) rfl ?_
  refine T_seq (T_reg ?_)   -- region 1
  refine R_q _ rfl ((by first | exact v_fieldP (ov rfl) rfl rfl ctF35_0 | exact v_fieldR (ov rfl) ctF35_0)) ?_
  refine R_q _ rfl ((by first | exact v_loadS (ov rfl) rfl rfl rfl ctS3 rfl | exact v_loadS_r (ov rfl) ctS3 rfl)) ?_
  refine R_q _ rfl (v_call (within_ok _ _ _) (.cons (ov rfl) (by first | exact .b rfl | exact .aggB rfl | exact .fn) <| .cons (ov rfl) (by first | exact .b rfl | exact .aggB rfl | exact .fn) <| .cons (ov rfl) (by first | exact .b rfl | exact .aggB rfl | exact .fn) <| .nil)) ?_
  refine R_q _ rfl (v_not (ov rfl)) ?_
  refine R_q _ rfl (v_assign (ov rfl)) ?_
  refine R_nil ?_
  refine T_keep (kc 1 rfl <| kc 7 rfl <| kn) rfl ?_
  refine T_cond rfl (fun h7 => ?_) (fun h7 => ?_)
  · skip
    have hd : wi den 1 1000000 = false := by
      have h : (!wi den 1 1000000) = true := h7
      simpa using h
    refine T_keep (kn) rfl ?_
    refine T_seq (T_reg ?_)   -- region 2
    refine R_q _ rfl (v_assign (ov rfl)) ?_
    refine R_nil ?_
    refine T_ret ?_
    refine retq ?_ (.one (.tmp rfl (Dat.view (.b rfl))))
    rw [chkC_0 hd]; rfl
  · skip
    have hd : wi den 1 1000000 = true := by
      have h : (!wi den 1 1000000) = false := h7
      simpa using h
    refine T_keep (kc 1 rfl <| kn) rfl ?_
    refine T_seq (T_reg ?_)   -- region 3
    refine R_q _ rfl ((by first | exact v_fieldP (ov rfl) rfl rfl ctF35_1 | exact v_fieldR (ov rfl) ctF35_1)) ?_
    refine R_q _ rfl ((by first | exact v_loadS (ov rfl) rfl rfl rfl ctS33 rfl | exact v_loadS_r (ov rfl) ctS33 rfl)) ?_
    refine R_q _ rfl ((by first | exact v_len (slv_sl (ov rfl) rfl) ctL33 (len_map _ _) | exact v_len (slv_sl (ov rfl) rfl) ctL33 rfl | exact v_len (slv_own (ov rfl) rfl rfl rfl) ctL33 rfl)) ?_
    refine R_q _ rfl (v_eql (ov rfl) (ov rfl)) ?_
    refine R_q _ rfl (v_assign (ov rfl)) ?_
    refine R_nil ?_
    refine T_keep (kc 1 rfl <| kc 12 rfl <| kn) rfl ?_
    refine T_cond rfl (fun h12 => ?_) (fun h12 => ?_)
    · skip
      have hl0 : (ls.length : Int) = 0 := by simpa using h12
      refine T_keep (kn) rfl ?_
      refine T_seq (T_reg ?_)   -- region 4
      refine R_q _ rfl (v_assign (ov rfl)) ?_
      refine R_nil ?_
      refine T_ret ?_
      refine retq ?_ (.one (.tmp rfl (Dat.view (.b rfl))))
      rw [chkC_1 hd hl0]; rfl
    · skip
      have hl0 : ¬ (ls.length : Int) = 0 := by simpa using h12
      refine T_keep (kc 1 rfl <| kn) rfl ?_
      refine T_seq (T_reg ?_)   -- region 5
      refine R_q _ rfl ((by first | exact v_fieldP (ov rfl) rfl rfl ctF35_1 | exact v_fieldR (ov rfl) ctF35_1)) ?_
      refine R_q _ rfl ((by first | exact v_loadS (ov rfl) rfl rfl rfl ctS33 rfl | exact v_loadS_r (ov rfl) ctS33 rfl)) ?_
      refine R_q _ rfl ((by first | exact v_len (slv_sl (ov rfl) rfl) ctL33 (len_map _ _) | exact v_len (slv_sl (ov rfl) rfl) ctL33 rfl | exact v_len (slv_own (ov rfl) rfl rfl rfl) ctL33 rfl)) ?_
      refine R_q _ rfl (v_gtr (ov rfl) (ov rfl)) ?_
      refine R_q _ rfl (v_assign (ov rfl)) ?_
      refine R_nil ?_
      refine T_keep (kc 1 rfl <| kc 17 rfl <| kn) rfl ?_
      refine T_cond rfl (fun h17 => ?_) (fun h17 => ?_)
      · skip
        have hl5 : 50 < (ls.length : Int) := by simpa using h17
        refine T_keep (kn) rfl ?_
        refine T_seq (T_reg ?_)   -- region 6
        refine R_q _ rfl (v_assign (ov rfl)) ?_
        refine R_nil ?_
        refine T_ret ?_
        refine retq ?_ (.one (.tmp rfl (Dat.view (.b rfl))))
        rw [chkC_2 hd hl0 hl5]; rfl
      · skip
        have hl5 : ¬ 50 < (ls.length : Int) := by simpa using h17
        refine T_skip ?_
        refine T_seq ?_
        refine T_keep (kc 1 rfl <| kn) rfl ?_
        refine T_seq (T_reg ?_)   -- region 7
        refine R_q _ rfl ((by first | exact v_fieldP (ov rfl) rfl rfl ctF35_1 | exact v_fieldR (ov rfl) ctF35_1)) ?_
        refine R_q _ rfl ((by first | exact v_loadS (ov rfl) rfl rfl rfl ctS33 rfl | exact v_loadS_r (ov rfl) ctS33 rfl)) ?_
        refine R_q _ rfl ((by first | exact v_len (slv_sl (ov rfl) rfl) ctL33 (len_map _ _) | exact v_len (slv_sl (ov rfl) rfl) ctL33 rfl | exact v_len (slv_own (ov rfl) rfl rfl rfl) ctL33 rfl)) ?_
        refine R_q _ rfl (v_move (ov rfl)) ?_
        refine R_nil ?_
        refine T_block ?_   -- block 1
        refine T_loop (ι := Nat) (fun k => k ≤ ls.length ∧ chkA none ls = chkA (prevB ls k) (ls.drop k)) (fun k => ⟨[(1, .ptr 0 1 0 0), (23, .sl 56 (ls.map Line.av)), (24, .int .i64 ls.length), (25, .int .i64 k)], [some ⟨35, [calL den ls lo hi]⟩]⟩) (fun k => ls.length - k) 0 (⟨by omega, rfl⟩) (Ent.keep (kc 1 rfl <| kc 23 rfl <| kc 24 rfl <| kc 25 rfl <| kn) rfl) ?_
        intro k hC
        obtain ⟨hk, hc⟩ := hC
        refine T_keep (kc 1 rfl <| kc 23 rfl <| kc 24 rfl <| kc 25 rfl <| kn) rfl ?_
        refine T_seq (T_reg ?_)   -- region 8
        refine R_q _ rfl (v_lss (ov rfl) (ov rfl)) ?_
        refine R_nil ?_
        refine T_seq ?_
        refine T_keep (kc 1 rfl <| kc 23 rfl <| kc 24 rfl <| kc 25 rfl <| kc 26 rfl <| kn) rfl ?_
        refine T_cond rfl (fun h26 => ?_) (fun h26 => ?_)
        · skip
          try simp at h26
          refine T_skip ?_
          refine T_seq ?_
          refine T_block ?_   -- block 2
          refine T_keep (kc 1 rfl <| kc 23 rfl <| kc 24 rfl <| kc 25 rfl <| kn) rfl ?_
          obtain ⟨x, hx⟩ := get_ex (xs := ls) (k := k) (by omega)
          refine T_seq (T_reg ?_)   -- region 9
          refine R_q _ rfl (v_move (ov rfl)) ?_
          refine R_q _ rfl ((by first | exact v_ixS (ov rfl) (ov rfl) ctL33 rfl (row_map (by assumption)) | exact v_ixO (ov rfl) (ov rfl) ctL33 rfl rfl (by assumption))) ?_
          refine R_q _ rfl ((by first | exact v_loadA (ov rfl) rfl rfl rfl ctA56 rfl rfl | exact v_loadA_r (ov rfl) ctA56 rfl rfl)) ?_
          refine R_w _ _ rfl (w_alloc (row := [_, _, _, _]) 1 rfl ctZ56 rfl ctZ_56) ?_
          refine R_q _ rfl (v_assign (ov rfl)) ?_
          refine R_w _ _ rfl (w_store (ov rfl) (ov rfl) (cells_agg ctA56 rfl) rfl rfl rfl (Nat.le_of_ble_eq_true rfl) (cell1_all rfl) rfl) ?_
          refine R_nil ?_
          refine T_seq ?_
          refine T_keep (kc 1 rfl <| kc 3 rfl <| kc 4 rfl <| kc 23 rfl <| kc 24 rfl <| kc 25 rfl <| kn) rfl ?_
          refine T_seq (T_reg ?_)   -- region 10
          refine R_q _ rfl ((by first | exact v_fieldP (ov rfl) rfl rfl ctF56_0 | exact v_fieldR (ov rfl) ctF56_0)) ?_
          refine R_q _ rfl ((by first | exact v_loadS (ov rfl) rfl rfl rfl ctS3 rfl | exact v_loadS_r (ov rfl) ctS3 rfl)) ?_
          refine R_q _ rfl (v_call (within_ok _ _ _) (.cons (ov rfl) (by first | exact .b rfl | exact .aggB rfl | exact .fn) <| .cons (ov rfl) (by first | exact .b rfl | exact .aggB rfl | exact .fn) <| .cons (ov rfl) (by first | exact .b rfl | exact .aggB rfl | exact .fn) <| .nil)) ?_
          refine R_q _ rfl (v_not (ov rfl)) ?_
          refine R_q _ rfl (v_move (ov rfl)) ?_
          refine R_q _ rfl (.guarded _ rfl rfl rfl rfl fun h => (by first | exact v_fieldP (ov rfl) rfl rfl ctF56_1 | exact v_fieldR (ov rfl) ctF56_1)) ?_
          refine R_q _ rfl (.guarded _ rfl rfl rfl rfl fun h => (by first | exact v_loadS (ow rfl h) rfl rfl rfl ctS3 rfl | exact v_loadS_r (ow rfl h) ctS3 rfl)) ?_
          refine R_q _ rfl (.guarded _ rfl rfl rfl rfl fun h => v_call (within_ok _ _ _) (.cons (ow rfl h) (by first | exact .b rfl | exact .aggB rfl | exact .fn) <| .cons (ov rfl) (by first | exact .b rfl | exact .aggB rfl | exact .fn) <| .cons (ov rfl) (by first | exact .b rfl | exact .aggB rfl | exact .fn) <| .nil)) ?_
          refine R_q _ rfl (.guarded _ rfl rfl rfl rfl fun h => v_not (ow rfl h)) ?_
          refine R_q _ rfl (v_or (ov rfl) (fun hp => ow rfl (gF hp))) ?_
          refine R_q _ rfl (v_move (ov rfl)) ?_
          refine R_q _ rfl (.guarded _ rfl rfl rfl rfl fun h => (by first | exact v_fieldP (ov rfl) rfl rfl ctF56_0 | exact v_fieldR (ov rfl) ctF56_0)) ?_
          refine R_q _ rfl (.guarded _ rfl rfl rfl rfl fun h => (by first | exact v_loadS (ow rfl h) rfl rfl rfl ctS3 rfl | exact v_loadS_r (ow rfl h) ctS3 rfl)) ?_
          refine R_q _ rfl (.guarded _ rfl rfl rfl rfl fun h => (by first | exact v_fieldP (ov rfl) rfl rfl ctF56_1 | exact v_fieldR (ov rfl) ctF56_1)) ?_
          refine R_q _ rfl (.guarded _ rfl rfl rfl rfl fun h => (by first | exact v_loadS (ow rfl h) rfl rfl rfl ctS3 rfl | exact v_loadS_r (ow rfl h) ctS3 rfl)) ?_
          refine R_q _ rfl (.guarded _ rfl rfl rfl rfl fun h => v_gtr (ow rfl h) (ow rfl h)) ?_
          refine R_q _ rfl (v_or (ov rfl) (fun hp => ow rfl (gF hp))) ?_
          refine R_q _ rfl (v_move (ov rfl)) ?_
          refine R_q _ rfl (.guarded _ rfl rfl rfl rfl fun h => (by first | exact v_fieldP (ov rfl) rfl rfl ctF56_2 | exact v_fieldR (ov rfl) ctF56_2)) ?_
          refine R_q _ rfl (.guarded _ rfl rfl rfl rfl fun h => (by first | exact v_loadS (ow rfl h) rfl rfl rfl ctS3 rfl | exact v_loadS_r (ow rfl h) ctS3 rfl)) ?_
          refine R_q _ rfl (.guarded _ rfl rfl rfl rfl fun h => v_call (within_ok _ _ _) (.cons (ow rfl h) (by first | exact .b rfl | exact .aggB rfl | exact .fn) <| .cons (ov rfl) (by first | exact .b rfl | exact .aggB rfl | exact .fn) <| .cons (ov rfl) (by first | exact .b rfl | exact .aggB rfl | exact .fn) <| .nil)) ?_
          refine R_q _ rfl (.guarded _ rfl rfl rfl rfl fun h => v_not (ow rfl h)) ?_
          refine R_q _ rfl (v_or (ov rfl) (fun hp => ow rfl (gF hp))) ?_
          refine R_q _ rfl (v_move (ov rfl)) ?_
          refine R_q _ rfl (.guarded _ rfl rfl rfl rfl fun h => (by first | exact v_fieldP (ov rfl) rfl rfl ctF56_3 | exact v_fieldR (ov rfl) ctF56_3)) ?_
          refine R_q _ rfl (.guarded _ rfl rfl rfl rfl fun h => (by first | exact v_loadS (ow rfl h) rfl rfl rfl ctS3 rfl | exact v_loadS_r (ow rfl h) ctS3 rfl)) ?_
          refine R_q _ rfl (.guarded _ rfl rfl rfl rfl fun h => v_call (within_ok _ _ _) (.cons (ow rfl h) (by first | exact .b rfl | exact .aggB rfl | exact .fn) <| .cons (ov rfl) (by first | exact .b rfl | exact .aggB rfl | exact .fn) <| .cons (ov rfl) (by first | exact .b rfl | exact .aggB rfl | exact .fn) <| .nil)) ?_
          refine R_q _ rfl (.guarded _ rfl rfl rfl rfl fun h => v_not (ow rfl h)) ?_
          refine R_q _ rfl (v_or (ov rfl) (fun hp => ow rfl (gF hp))) ?_
          refine R_nil ?_
          refine T_keep (kc 1 rfl <| kc 3 rfl <| kc 4 rfl <| kc 23 rfl <| kc 24 rfl <| kc 25 rfl <| kc 58 rfl <| kn) rfl ?_
          refine T_cond rfl (fun h58 => ?_) (fun h58 => ?_)
          · skip
            replace h58 : badL x = true := h58
            refine T_keep (kn) rfl ?_
            refine T_seq (T_reg ?_)   -- region 11
            refine R_q _ rfl (v_assign (ov rfl)) ?_
            refine R_nil ?_
            refine T_ret ?_
            refine retq ?_ (.one (.tmp rfl (Dat.view (.b rfl))))
            have : chkA none ls = 9 := by rw [hc, drop_cons hx, chkA, h58]; simp
            rw [chkC_A hd hl0 hl5 (by omega), this]; rfl
          · skip
            replace h58 : badL x = false := h58
            have hxo := okL_of h58
            refine T_skip ?_
            refine T_keep (kc 1 rfl <| kc 3 rfl <| kc 4 rfl <| kc 23 rfl <| kc 24 rfl <| kc 25 rfl <| kn) rfl ?_
            have hy : ∃ y, 0 < k → ls[k-1]? = some y := by
              by_cases h : 0 < k
              · obtain ⟨y, hy⟩ := get_ex (xs := ls) (k := k - 1) (by omega); exact ⟨y, fun _ => hy⟩
              · exact ⟨x, fun h' => absurd h' h⟩
            obtain ⟨y, hy⟩ := hy
            refine T_seq (T_draw (cw := false) (by kernel_rfl) ?_)   -- region 12 draws
            refine D_oneq 0 _ rfl (by kernel_rfl) rfl rfl (fun hp' => v_move (ov rfl)) ?_
            refine D_oneq 1 _ rfl (by kernel_rfl) rfl rfl (fun hp' => v_gtr (ov rfl) (ov rfl)) ?_
            refine D_oneq 2 _ rfl (by kernel_rfl) rfl rfl (fun hp' => v_move (ov rfl)) ?_
            refine D_read 3 _ rfl (by kernel_rfl) rfl rfl (fun hp' hx => .guarded _ rfl rfl rfl rfl fun h => (by first | exact v_fieldP (ov rfl) (hx.2 _ _ rfl) rfl ctF56_0 | exact v_fieldR (ov rfl) ctF56_0)) ?_
            refine D_read 4 _ rfl (by kernel_rfl) rfl rfl (fun hp' hx => .guarded _ rfl rfl rfl rfl fun h => (by first | exact v_loadS (ow rfl h) (hx.2 _ _ rfl) rfl rfl ctS3 rfl | exact v_loadS_r (ow rfl h) ctS3 rfl)) ?_
            refine D_read 5 _ rfl (by kernel_rfl) rfl rfl (fun hp' hx => .guarded _ rfl rfl rfl rfl fun h => (by first | exact v_fieldP (ov rfl) (hx.2 _ _ rfl) rfl ctF35_1 | exact v_fieldR (ov rfl) ctF35_1)) ?_
            refine D_read 6 _ rfl (by kernel_rfl) rfl rfl (fun hp' hx => .guarded _ rfl rfl rfl rfl fun h => (by first | exact v_loadS (ow rfl h) (hx.2 _ _ rfl) rfl rfl ctS33 rfl | exact v_loadS_r (ow rfl h) ctS33 rfl)) ?_
            refine D_oneq 7 _ rfl (by kernel_rfl) rfl rfl (fun hp' => .guarded _ rfl rfl rfl rfl fun h => v_move (ov rfl)) ?_
            refine D_oneq 8 _ rfl (by kernel_rfl) rfl rfl (fun hp' => .guarded _ rfl rfl rfl rfl fun h => v_sub (ow rfl h) (ov rfl) (w64 (by first | omega | (simp at *; omega) | (simp_all; omega)) (by first | omega | (simp at *; omega) | (simp_all; omega)))) ?_
            refine D_oner 9 _ rfl (by kernel_rfl) rfl rfl (fun hp' hx => .guarded _ rfl rfl rfl rfl fun h => v_ixS (ow rfl h) (ow rfl h) ctL33 (m := k - 1) (by simp at h; omega) (row_map (hy (by simp at h; omega)))) ?_
            refine D_oner 10 _ rfl (by kernel_rfl) rfl rfl (fun hp' hx => .guarded _ rfl rfl rfl rfl fun h => (by first | exact v_fieldP (ow rfl h) (hx.2 _ _ rfl) rfl ctF56_1 | exact v_fieldR (ow rfl h) ctF56_1)) ?_
            refine D_oner 11 _ rfl (by kernel_rfl) rfl rfl (fun hp' hx => .guarded _ rfl rfl rfl rfl fun h => (by first | exact v_loadS (ow rfl h) (hx.2 _ _ rfl) rfl rfl ctS3 rfl | exact v_loadS_r (ow rfl h) ctS3 rfl)) ?_
            refine D_oneq 12 _ rfl (by kernel_rfl) rfl rfl (fun hp' => .guarded _ rfl rfl rfl rfl fun h => v_leq (ow rfl h) (ow rfl h)) ?_
            refine D_oneq 13 _ rfl (by kernel_rfl) rfl rfl (fun hp' => v_and (ov rfl) (fun hp => ow rfl (gT hp))) ?_
            refine D_done (by kernel_rfl) ?_
            refine T_keep (kc 1 rfl <| kc 23 rfl <| kc 24 rfl <| kc 25 rfl <| kc 72 rfl <| kn) rfl ?_
            refine T_cond rfl (fun h72 => ?_) (fun h72 => ?_)
            · skip
              replace h72 := (prevB_any hy).trans h72
              refine T_keep (kn) rfl ?_
              refine T_seq (T_reg ?_)   -- region 13
              refine R_q _ rfl (v_assign (ov rfl)) ?_
              refine R_nil ?_
              refine T_ret ?_
              refine retq ?_ (.one (.tmp rfl (Dat.view (.b rfl))))
              have : chkA none ls = 10 := by rw [hc, drop_cons hx, chkA, h58, h72]; simp
              rw [chkC_A hd hl0 hl5 (by omega), this]; rfl
            · skip
              replace h72 := (prevB_any hy).trans h72
              refine T_skip ?_
              refine T_keep (kc 1 rfl <| kc 23 rfl <| kc 24 rfl <| kc 25 rfl <| kn) rfl ?_
              refine T_reg ?_   -- region 14
              refine R_q _ rfl (v_add (ov rfl) (ov rfl) (w64 (by first | omega | (simp at *; omega) | (simp_all; omega)) (by first | omega | (simp at *; omega) | (simp_all; omega)))) ?_
              refine R_q _ rfl (v_move (ov rfl)) ?_
              refine R_nil ?_
              exact ⟨k + 1, ⟨by omega, by rw [hc, drop_cons hx, chkA, prevB_succ hx, h58, h72]; simp⟩, (by first | omega | (simp at *; omega) | (simp_all; omega)), Ent.cutB (ke 1 rfl rfl <| ke 23 rfl rfl <| ke 24 rfl rfl <| ke 25 rfl (by push_cast; rfl) <| kn) rfl rfl rfl⟩
        · skip
          have hk0 : ls.length ≤ k := by simpa using h26
          have hA : chkA none ls = 0 := by rw [hc, List.drop_eq_nil_of_le hk0, chkA]
          have hok := chkA_ok ls none hA
          refine T_exit ?_   -- exit 1
          refine T_seq ?_
          refine T_keep (kc 1 rfl <| kn) rfl ?_
          refine T_seq (T_reg ?_)   -- region 15
          refine R_q _ rfl ((by first | exact v_fieldP (ov rfl) rfl rfl ctF35_1 | exact v_fieldR (ov rfl) ctF35_1)) ?_
          refine R_q _ rfl ((by first | exact v_loadS (ov rfl) rfl rfl rfl ctS33 rfl | exact v_loadS_r (ov rfl) ctS33 rfl)) ?_
          refine R_q _ rfl ((by first | exact v_len (slv_sl (ov rfl) rfl) ctL33 (len_map _ _) | exact v_len (slv_sl (ov rfl) rfl) ctL33 rfl | exact v_len (slv_own (ov rfl) rfl rfl rfl) ctL33 rfl)) ?_
          refine R_q _ rfl (v_move (ov rfl)) ?_
          refine R_nil ?_
          refine T_block ?_   -- block 3
          refine T_loop (ι := Nat) (fun k => k ≤ ls.length ∧ chkB ls = chkB (ls.drop k)) (fun k => ⟨[(1, .ptr 0 1 0 0), (75, .sl 56 (ls.map Line.av)), (76, .int .i64 ls.length), (77, .int .i64 k)], [some ⟨35, [calL den ls lo hi]⟩]⟩) (fun k => ls.length - k) 0 (⟨by omega, rfl⟩) (Ent.keep (kc 1 rfl <| kc 75 rfl <| kc 76 rfl <| kc 77 rfl <| kn) rfl) ?_
          intro k hC
          obtain ⟨hk, hc2⟩ := hC
          refine T_keep (kc 1 rfl <| kc 75 rfl <| kc 76 rfl <| kc 77 rfl <| kn) rfl ?_
          refine T_seq (T_reg ?_)   -- region 16
          refine R_q _ rfl (v_lss (ov rfl) (ov rfl)) ?_
          refine R_nil ?_
          refine T_seq ?_
          refine T_keep (kc 1 rfl <| kc 75 rfl <| kc 76 rfl <| kc 77 rfl <| kc 78 rfl <| kn) rfl ?_
          refine T_cond rfl (fun h78 => ?_) (fun h78 => ?_)
          · skip
            try simp at h78
            refine T_skip ?_
            refine T_seq ?_
            refine T_block ?_   -- block 4
            refine T_keep (kc 1 rfl <| kc 75 rfl <| kc 76 rfl <| kc 77 rfl <| kn) rfl ?_
            obtain ⟨x, hx⟩ := get_ex (xs := ls) (k := k) (by omega)
            have hxo := hok x (List.mem_of_getElem? hx)
            have hm1 := hxo.mul hxo.1.1 hxo.1.2
            have hm2 := hxo.mul hxo.2.1.1 hxo.2.1.2
            refine T_seq (T_reg ?_)   -- region 17
            refine R_q _ rfl ((by first | exact v_ixS (ov rfl) (ov rfl) ctL33 rfl (row_map (by assumption)) | exact v_ixO (ov rfl) (ov rfl) ctL33 rfl rfl (by assumption))) ?_
            refine R_q _ rfl ((by first | exact v_loadA (ov rfl) rfl rfl rfl ctA56 rfl rfl | exact v_loadA_r (ov rfl) ctA56 rfl rfl)) ?_
            refine R_w _ _ rfl (w_alloc (row := [_, _, _, _]) 1 rfl ctZ56 rfl ctZ_56) ?_
            refine R_w _ _ rfl (w_store (ov rfl) (ov rfl) (cells_agg ctA56 rfl) rfl rfl rfl (Nat.le_of_ble_eq_true rfl) (cell1_all rfl) rfl) ?_
            refine R_nil ?_
            refine T_keep (kc 1 rfl <| kc 6 rfl <| kc 75 rfl <| kc 76 rfl <| kc 77 rfl <| kn) rfl ?_
            refine T_seq (T_reg ?_)   -- region 18
            refine R_q _ rfl ((by first | exact v_loadA (ov rfl) rfl rfl rfl ctA56 rfl rfl | exact v_loadA_r (ov rfl) ctA56 rfl rfl)) ?_
            refine R_q _ rfl ((by first | exact v_fieldP (ov rfl) rfl rfl ctF56_0 | exact v_fieldR (ov rfl) ctF56_0)) ?_
            refine R_q _ rfl ((by first | exact v_loadS (ov rfl) rfl rfl rfl ctS3 rfl | exact v_loadS_r (ov rfl) ctS3 rfl)) ?_
            refine R_q _ rfl (v_call (number_ok x x.a (by omega) (by have := hxo.2.2.2.2; omega)) (.cons (ov rfl) (by first | exact .b rfl | exact .aggB rfl | exact .fn) <| .cons (ov rfl) (by first | exact .b rfl | exact .aggB rfl | exact .fn) <| .nil)) ?_
            refine R_q _ rfl (v_call (within_ok _ _ _) (.cons (ov rfl) (by first | exact .b rfl | exact .aggB rfl | exact .fn) <| .cons (ov rfl) (by first | exact .b rfl | exact .aggB rfl | exact .fn) <| .cons (ov rfl) (by first | exact .b rfl | exact .aggB rfl | exact .fn) <| .nil)) ?_
            refine R_q _ rfl (v_not (ov rfl)) ?_
            refine R_q _ rfl (v_move (ov rfl)) ?_
            refine R_q _ rfl (.guarded _ rfl rfl rfl rfl fun h => (by first | exact v_loadA (ov rfl) rfl rfl rfl ctA56 rfl rfl | exact v_loadA_r (ov rfl) ctA56 rfl rfl)) ?_
            refine R_q _ rfl (.guarded _ rfl rfl rfl rfl fun h => (by first | exact v_fieldP (ov rfl) rfl rfl ctF56_1 | exact v_fieldR (ov rfl) ctF56_1)) ?_
            refine R_q _ rfl (.guarded _ rfl rfl rfl rfl fun h => (by first | exact v_loadS (ow rfl h) rfl rfl rfl ctS3 rfl | exact v_loadS_r (ow rfl h) ctS3 rfl)) ?_
            refine R_q _ rfl (.guarded _ rfl rfl rfl rfl fun h => v_call (number_ok x x.b (by omega) (by have := hxo.2.2.2.2; omega)) (.cons (ow rfl h) (by first | exact .b rfl | exact .aggB rfl | exact .fn) <| .cons (ow rfl h) (by first | exact .b rfl | exact .aggB rfl | exact .fn) <| .nil)) ?_
            refine R_q _ rfl (.guarded _ rfl rfl rfl rfl fun h => v_call (within_ok _ _ _) (.cons (ow rfl h) (by first | exact .b rfl | exact .aggB rfl | exact .fn) <| .cons (ov rfl) (by first | exact .b rfl | exact .aggB rfl | exact .fn) <| .cons (ov rfl) (by first | exact .b rfl | exact .aggB rfl | exact .fn) <| .nil)) ?_
            refine R_q _ rfl (.guarded _ rfl rfl rfl rfl fun h => v_not (ow rfl h)) ?_
            refine R_q _ rfl (v_or (ov rfl) (fun hp => ow rfl (gF hp))) ?_
            refine R_nil ?_
            refine T_keep (kc 1 rfl <| kc 75 rfl <| kc 76 rfl <| kc 77 rfl <| kc 94 rfl <| kn) rfl ?_
            refine T_cond rfl (fun h94 => ?_) (fun h94 => ?_)
            · skip
              replace h94 : badM x = true := h94
              refine T_keep (kn) rfl ?_
              refine T_seq (T_reg ?_)   -- region 19
              refine R_q _ rfl (v_assign (ov rfl)) ?_
              refine R_nil ?_
              refine T_ret ?_
              refine retq ?_ (.one (.tmp rfl (Dat.view (.b rfl))))
              have : chkB ls = 9 := by rw [hc2, drop_cons hx, chkB, h94]; simp
              rw [chkC_B hd hl0 hl5 hA (by omega), this]; rfl
            · skip
              replace h94 : badM x = false := h94
              refine T_skip ?_
              refine T_keep (kc 1 rfl <| kc 75 rfl <| kc 76 rfl <| kc 77 rfl <| kn) rfl ?_
              refine T_reg ?_   -- region 20
              refine R_q _ rfl (v_add (ov rfl) (ov rfl) (w64 (by first | omega | (simp at *; omega) | (simp_all; omega)) (by first | omega | (simp at *; omega) | (simp_all; omega)))) ?_
              refine R_q _ rfl (v_move (ov rfl)) ?_
              refine R_nil ?_
              exact ⟨k + 1, ⟨by omega, by rw [hc2, drop_cons hx, chkB, h94]; simp⟩, (by first | omega | (simp at *; omega) | (simp_all; omega)), Ent.cutB (ke 1 rfl rfl <| ke 75 rfl rfl <| ke 76 rfl rfl <| ke 77 rfl (by push_cast; rfl) <| kn) rfl rfl rfl⟩
          · skip
            have hk0 : ls.length ≤ k := by simpa using h78
            have hB : chkB ls = 0 := by rw [hc2, List.drop_eq_nil_of_le hk0, chkB]
            refine T_exit ?_   -- exit 3
            refine T_seq ?_
            refine T_keep (kc 1 rfl <| kn) rfl ?_
            refine T_seq (T_reg ?_)   -- region 21
            refine R_q _ rfl ((by first | exact v_fieldP (ov rfl) rfl rfl ctF35_2 | exact v_fieldR (ov rfl) ctF35_2)) ?_
            refine R_q _ rfl ((by first | exact v_loadS (ov rfl) rfl rfl rfl ctS3 rfl | exact v_loadS_r (ov rfl) ctS3 rfl)) ?_
            refine R_q _ rfl (v_call (within_ok _ _ _) (.cons (ov rfl) (by first | exact .b rfl | exact .aggB rfl | exact .fn) <| .cons (ov rfl) (by first | exact .b rfl | exact .aggB rfl | exact .fn) <| .cons (ov rfl) (by first | exact .b rfl | exact .aggB rfl | exact .fn) <| .nil)) ?_
            refine R_q _ rfl (v_not (ov rfl)) ?_
            refine R_q _ rfl (v_move (ov rfl)) ?_
            refine R_q _ rfl (.guarded _ rfl rfl rfl rfl fun h => (by first | exact v_fieldP (ov rfl) rfl rfl ctF35_3 | exact v_fieldR (ov rfl) ctF35_3)) ?_
            refine R_q _ rfl (.guarded _ rfl rfl rfl rfl fun h => (by first | exact v_loadS (ow rfl h) rfl rfl rfl ctS3 rfl | exact v_loadS_r (ow rfl h) ctS3 rfl)) ?_
            refine R_q _ rfl (.guarded _ rfl rfl rfl rfl fun h => v_call (within_ok _ _ _) (.cons (ow rfl h) (by first | exact .b rfl | exact .aggB rfl | exact .fn) <| .cons (ov rfl) (by first | exact .b rfl | exact .aggB rfl | exact .fn) <| .cons (ov rfl) (by first | exact .b rfl | exact .aggB rfl | exact .fn) <| .nil)) ?_
            refine R_q _ rfl (.guarded _ rfl rfl rfl rfl fun h => v_not (ow rfl h)) ?_
            refine R_q _ rfl (v_or (ov rfl) (fun hp => ow rfl (gF hp))) ?_
            refine R_q _ rfl (v_move (ov rfl)) ?_
            refine R_q _ rfl (.guarded _ rfl rfl rfl rfl fun h => (by first | exact v_fieldP (ov rfl) rfl rfl ctF35_2 | exact v_fieldR (ov rfl) ctF35_2)) ?_
            refine R_q _ rfl (.guarded _ rfl rfl rfl rfl fun h => (by first | exact v_loadS (ow rfl h) rfl rfl rfl ctS3 rfl | exact v_loadS_r (ow rfl h) ctS3 rfl)) ?_
            refine R_q _ rfl (.guarded _ rfl rfl rfl rfl fun h => (by first | exact v_fieldP (ov rfl) rfl rfl ctF35_3 | exact v_fieldR (ov rfl) ctF35_3)) ?_
            refine R_q _ rfl (.guarded _ rfl rfl rfl rfl fun h => (by first | exact v_loadS (ow rfl h) rfl rfl rfl ctS3 rfl | exact v_loadS_r (ow rfl h) ctS3 rfl)) ?_
            refine R_q _ rfl (.guarded _ rfl rfl rfl rfl fun h => v_gtr (ow rfl h) (ow rfl h)) ?_
            refine R_q _ rfl (v_or (ov rfl) (fun hp => ow rfl (gF hp))) ?_
            refine R_nil ?_
            refine T_keep (kc 112 rfl <| kn) rfl ?_
            refine T_cond rfl (fun h112 => ?_) (fun h112 => ?_)
            · skip
              replace h112 : badR lo hi = true := h112
              refine T_keep (kn) rfl ?_
              refine T_seq (T_reg ?_)   -- region 22
              refine R_q _ rfl (v_assign (ov rfl)) ?_
              refine R_nil ?_
              refine T_ret ?_
              refine retq ?_ (.one (.tmp rfl (Dat.view (.b rfl))))
              rw [chkC_R hd hl0 hl5 hA hB, h112]; rfl
            · skip
              replace h112 : badR lo hi = false := h112
              refine T_skip ?_
              refine T_keep (kn) rfl ?_
              refine T_seq (T_reg ?_)   -- region 23
              refine R_q _ rfl (v_assign (ov rfl)) ?_
              refine R_nil ?_
              refine T_ret ?_
              refine retq ?_ (.one (.tmp rfl (Dat.view (.b rfl))))
              rw [chkC_R hd hl0 hl5 hA hB, h112]; rfl

-- series.apply (function 31)
theorem apply_ok (den : Int) (ls : List Line) (lo hi v : Int) (hok : ∀ l ∈ ls, okL l) (hlen : ls.length ≤ 50) : CSpec Try.prog 31 [.agg (calL den ls lo hi), .int .i64 v] (.tuple [.int .i64 (appl lo hi v ls).1, .bool (appl lo hi v ls).2]) := by
  refine spec_of (by kernel_rfl) Try.func31 rfl rfl ?_
  intro w0 A
  refine T_keep (kc 0 rfl <| kc 1 rfl <| kn) rfl ?_
  refine T_seq (T_reg ?_)   -- region 0
  refine R_w _ _ rfl (w_box 0 rfl (ov rfl) ctA35 rfl) ?_
  refine R_q _ rfl (v_assign (ov rfl)) ?_
  refine R_q _ rfl (v_assign (ov rfl)) ?_
  refine R_nil ?_
  refine T_seq ?_
  refine T_keep (kc 1 rfl <| kc 2 rfl <| kn) rfl ?_
  refine T_seq (T_reg ?_)   -- region 1
  refine R_q _ rfl ((by first | exact v_fieldP (ov rfl) rfl rfl ctF35_1 | exact v_fieldR (ov rfl) ctF35_1)) ?_
  refine R_q _ rfl ((by first | exact v_loadS (ov rfl) rfl rfl rfl ctS33 rfl | exact v_loadS_r (ov rfl) ctS33 rfl)) ?_
  refine R_q _ rfl ((by first | exact v_len (slv_sl (ov rfl) rfl) ctL33 (len_map _ _) | exact v_len (slv_sl (ov rfl) rfl) ctL33 rfl | exact v_len (slv_own (ov rfl) rfl rfl rfl) ctL33 rfl)) ?_
  refine R_q _ rfl (v_move (ov rfl)) ?_
  refine R_nil ?_
  refine T_block ?_   -- block 0
  refine T_loop (ι := Nat) (fun k => k ≤ ls.length ∧ appl lo hi v ls = appl lo hi v (ls.drop k)) (fun k => ⟨[(1, .int .i64 v), (2, .ptr 0 1 0 0), (10, .sl 56 (ls.map Line.av)), (11, .int .i64 ls.length), (12, .int .i64 k)], [some ⟨35, [calL den ls lo hi]⟩]⟩) (fun k => ls.length - k) 0 (⟨by omega, rfl⟩) (Ent.keep (kc 1 rfl <| kc 2 rfl <| kc 10 rfl <| kc 11 rfl <| kc 12 rfl <| kn) rfl) ?_
  intro k hC
  obtain ⟨hk, hc⟩ := hC
  refine T_keep (kc 1 rfl <| kc 2 rfl <| kc 10 rfl <| kc 11 rfl <| kc 12 rfl <| kn) rfl ?_
  refine T_seq (T_reg ?_)   -- region 2
  refine R_q _ rfl (v_lss (ov rfl) (ov rfl)) ?_
  refine R_nil ?_
  refine T_seq ?_
  refine T_keep (kc 1 rfl <| kc 2 rfl <| kc 10 rfl <| kc 11 rfl <| kc 12 rfl <| kc 13 rfl <| kn) rfl ?_
  refine T_cond rfl (fun h13 => ?_) (fun h13 => ?_)
  · skip
    try simp at h13
    refine T_skip ?_
    refine T_seq ?_
    refine T_block ?_   -- block 1
    refine T_keep (kc 1 rfl <| kc 2 rfl <| kc 10 rfl <| kc 11 rfl <| kc 12 rfl <| kn) rfl ?_
    obtain ⟨x, hx⟩ := get_ex (xs := ls) (k := k) (by omega)
    have hxo := hok x (List.mem_of_getElem? hx)
    refine T_seq (T_reg ?_)   -- region 3
    refine R_q _ rfl ((by first | exact v_ixS (ov rfl) (ov rfl) ctL33 rfl (row_map (by assumption)) | exact v_ixO (ov rfl) (ov rfl) ctL33 rfl rfl (by assumption))) ?_
    refine R_q _ rfl ((by first | exact v_loadA (ov rfl) rfl rfl rfl ctA56 rfl rfl | exact v_loadA_r (ov rfl) ctA56 rfl rfl)) ?_
    refine R_w _ _ rfl (w_alloc (row := [_, _, _, _]) 1 rfl ctZ56 rfl ctZ_56) ?_
    refine R_w _ _ rfl (w_store (ov rfl) (ov rfl) (cells_agg ctA56 rfl) rfl rfl rfl (Nat.le_of_ble_eq_true rfl) (cell1_all rfl) rfl) ?_
    refine R_nil ?_
    refine T_keep (kc 1 rfl <| kc 2 rfl <| kc 7 rfl <| kc 10 rfl <| kc 11 rfl <| kc 12 rfl <| kn) rfl ?_
    refine T_seq (T_reg ?_)   -- region 4
    refine R_q _ rfl (v_move (ov rfl)) ?_
    refine R_q _ rfl ((by first | exact v_fieldP (ov rfl) rfl rfl ctF56_0 | exact v_fieldR (ov rfl) ctF56_0)) ?_
    refine R_q _ rfl ((by first | exact v_loadS (ov rfl) rfl rfl rfl ctS3 rfl | exact v_loadS_r (ov rfl) ctS3 rfl)) ?_
    refine R_q _ rfl ((by first | exact v_fieldP (ov rfl) rfl rfl ctF56_1 | exact v_fieldR (ov rfl) ctF56_1)) ?_
    refine R_q _ rfl ((by first | exact v_loadS (ov rfl) rfl rfl rfl ctS3 rfl | exact v_loadS_r (ov rfl) ctS3 rfl)) ?_
    refine R_q _ rfl (v_call (within_ok _ _ _) (.cons (ov rfl) (by first | exact .b rfl | exact .aggB rfl | exact .fn) <| .cons (ov rfl) (by first | exact .b rfl | exact .aggB rfl | exact .fn) <| .cons (ov rfl) (by first | exact .b rfl | exact .aggB rfl | exact .fn) <| .nil)) ?_
    refine R_nil ?_
    refine T_keep (kc 1 rfl <| kc 2 rfl <| kc 7 rfl <| kc 10 rfl <| kc 11 rfl <| kc 12 rfl <| kc 21 rfl <| kn) rfl ?_
    refine T_cond rfl (fun h21 => ?_) (fun h21 => ?_)
    · skip
      replace h21 : wi v x.a x.b = true := h21
      have hv : x.a ≤ v ∧ v ≤ x.b := by simpa [wi] using h21
      have hm := hxo.mul (x := v) (by have := hxo.1; omega) (by have := hxo.2.1; omega)
      refine T_keep (kc 1 rfl <| kc 2 rfl <| kc 7 rfl <| kc 10 rfl <| kc 11 rfl <| kc 12 rfl <| kn) rfl ?_
      refine T_seq (T_reg ?_)   -- region 5
      refine R_q _ rfl ((by first | exact v_loadA (ov rfl) rfl rfl rfl ctA56 rfl rfl | exact v_loadA_r (ov rfl) ctA56 rfl rfl)) ?_
      refine R_q _ rfl (v_move (ov rfl)) ?_
      refine R_q _ rfl (v_call (number_ok x v (by omega) (by have := hxo.2.2.2.2; omega)) (.cons (ov rfl) (by first | exact .b rfl | exact .aggB rfl | exact .fn) <| .cons (ov rfl) (by first | exact .b rfl | exact .aggB rfl | exact .fn) <| .nil)) ?_
      refine R_q _ rfl (v_assign (ov rfl)) ?_
      refine R_nil ?_
      refine T_keep (kc 1 rfl <| kc 2 rfl <| kc 8 rfl <| kc 10 rfl <| kc 11 rfl <| kc 12 rfl <| kn) rfl ?_
      refine T_seq (T_reg ?_)   -- region 6
      refine R_q _ rfl (v_move (ov rfl)) ?_
      refine R_q _ rfl ((by first | exact v_fieldP (ov rfl) rfl rfl ctF35_2 | exact v_fieldR (ov rfl) ctF35_2)) ?_
      refine R_q _ rfl ((by first | exact v_loadS (ov rfl) rfl rfl rfl ctS3 rfl | exact v_loadS_r (ov rfl) ctS3 rfl)) ?_
      refine R_q _ rfl ((by first | exact v_fieldP (ov rfl) rfl rfl ctF35_3 | exact v_fieldR (ov rfl) ctF35_3)) ?_
      refine R_q _ rfl ((by first | exact v_loadS (ov rfl) rfl rfl rfl ctS3 rfl | exact v_loadS_r (ov rfl) ctS3 rfl)) ?_
      refine R_q _ rfl (v_call (within_ok _ _ _) (.cons (ov rfl) (by first | exact .b rfl | exact .aggB rfl | exact .fn) <| .cons (ov rfl) (by first | exact .b rfl | exact .aggB rfl | exact .fn) <| .cons (ov rfl) (by first | exact .b rfl | exact .aggB rfl | exact .fn) <| .nil)) ?_
      refine R_nil ?_
      refine T_keep (kc 1 rfl <| kc 2 rfl <| kc 8 rfl <| kc 10 rfl <| kc 11 rfl <| kc 12 rfl <| kc 30 rfl <| kn) rfl ?_
      refine T_cond rfl (fun h30 => ?_) (fun h30 => ?_)
      · skip
        replace h30 : wi (x.m * v + x.c) lo hi = true := h30
        refine T_keep (kc 8 rfl <| kn) rfl ?_
        refine T_seq (T_reg ?_)   -- region 7
        refine R_q _ rfl (v_move (ov rfl)) ?_
        refine R_q _ rfl (v_assign (ov rfl)) ?_
        refine R_q _ rfl (v_assign (ov rfl)) ?_
        refine R_nil ?_
        refine T_ret ?_
        refine retq ?_ (.two (.tmp rfl (Dat.view (.b rfl))) (.tmp rfl (Dat.view (.b rfl))))
        rw [hc, drop_cons hx, appl, h21, h30]; rfl
      · skip
        replace h30 : wi (x.m * v + x.c) lo hi = false := h30
        refine T_skip ?_
        refine T_keep (kc 1 rfl <| kc 2 rfl <| kc 10 rfl <| kc 11 rfl <| kc 12 rfl <| kn) rfl ?_
        refine T_reg ?_   -- region 8
        refine R_q _ rfl (v_add (ov rfl) (ov rfl) (w64 (by first | omega | (simp at *; omega) | (simp_all; omega)) (by first | omega | (simp at *; omega) | (simp_all; omega)))) ?_
        refine R_q _ rfl (v_move (ov rfl)) ?_
        refine R_nil ?_
        exact ⟨k + 1, ⟨by omega, by rw [hc, drop_cons hx, appl, h21, h30]; simp⟩, (by first | omega | (simp at *; omega) | (simp_all; omega)), Ent.cutB (ke 1 rfl rfl <| ke 2 rfl rfl <| ke 10 rfl rfl <| ke 11 rfl rfl <| ke 12 rfl (by push_cast; rfl) <| kn) rfl rfl rfl⟩
    · skip
      replace h21 : wi v x.a x.b = false := h21
      refine T_skip ?_
      refine T_keep (kc 1 rfl <| kc 2 rfl <| kc 10 rfl <| kc 11 rfl <| kc 12 rfl <| kn) rfl ?_
      refine T_reg ?_   -- region 8
      refine R_q _ rfl (v_add (ov rfl) (ov rfl) (w64 (by first | omega | (simp at *; omega) | (simp_all; omega)) (by first | omega | (simp at *; omega) | (simp_all; omega)))) ?_
      refine R_q _ rfl (v_move (ov rfl)) ?_
      refine R_nil ?_
      exact ⟨k + 1, ⟨by omega, by rw [hc, drop_cons hx, appl, h21]; simp⟩, (by first | omega | (simp at *; omega) | (simp_all; omega)), Ent.cutB (ke 1 rfl rfl <| ke 2 rfl rfl <| ke 10 rfl rfl <| ke 11 rfl rfl <| ke 12 rfl (by push_cast; rfl) <| kn) rfl rfl rfl⟩
  · skip
    have hk0 : ls.length ≤ k := by simpa using h13
    refine T_exit ?_   -- exit 0
    refine T_keep (kn) rfl ?_
    refine T_seq (T_reg ?_)   -- region 9
    refine R_q _ rfl (v_assign (ov rfl)) ?_
    refine R_q _ rfl (v_assign (ov rfl)) ?_
    refine R_nil ?_
    refine T_ret ?_
    refine retq ?_ (.two (.tmp rfl (Dat.view (.b rfl))) (.tmp rfl (Dat.view (.b rfl))))
    rw [hc, List.drop_eq_nil_of_le hk0]; rfl

-- series.Apply (function 11)
theorem Apply_ok (den : Int) (ls : List Line) (lo hi v : Int) : CSpec Try.prog 11 [.agg (calL den ls lo hi), .int .i64 v] (.tuple [.int .i64 (outApply den ls lo hi v).1, .bool (outApply den ls lo hi v).2.1, .int .i64 (outApply den ls lo hi v).2.2]) := by
  refine spec_of (by kernel_rfl) Try.func11 rfl rfl ?_
  intro w0 A
  refine T_keep (kc 0 rfl <| kc 1 rfl <| kn) rfl ?_
  refine T_seq (T_reg ?_)   -- region 0
  refine R_w _ _ rfl (w_box 0 rfl (ov rfl) ctA35 rfl) ?_
  refine R_q _ rfl (v_assign (ov rfl)) ?_
  refine R_q _ rfl (v_assign (ov rfl)) ?_
  refine R_q _ rfl (v_assign (ov rfl)) ?_
  refine R_nil ?_
  refine T_seq ?_
  refine T_keep (kc 1 rfl <| kc 2 rfl <| kn) rfl ?_
  refine T_seq (T_reg ?_)   -- region 1
  refine R_q _ rfl ((by first | exact v_loadA (ov rfl) rfl rfl rfl ctA35 rfl rfl | exact v_loadA_r (ov rfl) ctA35 rfl rfl)) ?_
  refine R_q _ rfl (v_call (chkC_ok _ _ _ _) (.cons (ov rfl) (by first | exact .b rfl | exact .aggB rfl | exact .fn) <| .nil)) ?_
  refine R_q _ rfl (v_assign (ov rfl)) ?_
  refine R_nil ?_
  refine T_keep (kc 1 rfl <| kc 2 rfl <| kc 7 rfl <| kn) rfl ?_
  refine T_seq (T_reg ?_)   -- region 2
  refine R_q _ rfl (v_move (ov rfl)) ?_
  refine R_q _ rfl (v_neq (ov rfl) (ov rfl)) ?_
  refine R_nil ?_
  refine T_keep (kc 1 rfl <| kc 2 rfl <| kc 7 rfl <| kc 13 rfl <| kn) rfl ?_
  refine T_cond rfl (fun h13 => ?_) (fun h13 => ?_)
  · skip
    have h0 : ¬ chkC den ls lo hi = 0 := by simpa using h13
    refine T_keep (kc 7 rfl <| kn) rfl ?_
    refine T_seq (T_reg ?_)   -- region 3
    refine R_q _ rfl (v_move (ov rfl)) ?_
    refine R_q _ rfl (v_assign (ov rfl)) ?_
    refine R_q _ rfl (v_assign (ov rfl)) ?_
    refine R_q _ rfl (v_assign (ov rfl)) ?_
    refine R_nil ?_
    refine T_ret ?_
    refine retq ?_ (.three (.tmp rfl (Dat.view (.b rfl))) (.tmp rfl (Dat.view (.b rfl))) (.tmp rfl (Dat.view (.b rfl))))
    simp [outApply, h0, constAV]
  · skip
    have h0 : chkC den ls lo hi = 0 := by simpa using h13
    have hg := good_of h0
    refine T_skip ?_
    refine T_keep (kc 1 rfl <| kc 2 rfl <| kn) rfl ?_
    refine T_seq (T_reg ?_)   -- region 4
    refine R_q _ rfl ((by first | exact v_loadA (ov rfl) rfl rfl rfl ctA35 rfl rfl | exact v_loadA_r (ov rfl) ctA35 rfl rfl)) ?_
    refine R_q _ rfl (v_move (ov rfl)) ?_
    refine R_q _ rfl (v_call (apply_ok den ls lo hi v hg.ok hg.len) (.cons (ov rfl) (by first | exact .b rfl | exact .aggB rfl | exact .fn) <| .cons (ov rfl) (by first | exact .b rfl | exact .aggB rfl | exact .fn) <| .nil)) ?_
    refine R_q _ rfl (v_move (ov rfl)) ?_
    refine R_q _ rfl (v_extract (ov rfl) rfl) ?_
    refine R_q _ rfl (v_extract (ov rfl) rfl) ?_
    refine R_q _ rfl (v_assign (ov rfl)) ?_
    refine R_q _ rfl (v_assign (ov rfl)) ?_
    refine R_nil ?_
    refine T_keep (kc 8 rfl <| kc 9 rfl <| kn) rfl ?_
    refine T_seq (T_reg ?_)   -- region 5
    refine R_q _ rfl (v_move (ov rfl)) ?_
    refine R_q _ rfl (v_move (ov rfl)) ?_
    refine R_q _ rfl (v_assign (ov rfl)) ?_
    refine R_q _ rfl (v_assign (ov rfl)) ?_
    refine R_q _ rfl (v_assign (ov rfl)) ?_
    refine R_nil ?_
    refine T_ret ?_
    refine retq ?_ (.three (.tmp rfl (Dat.view (.b rfl))) (.tmp rfl (Dat.view (.b rfl))) (.tmp rfl (Dat.view (.b rfl))))
    simp [outApply, h0, constAV]

-- series.possible (function 27)
theorem possible_ok (den : Int) (ls : List Line) (lo hi : Int) (l : Line) (hl : okL l) (hr : okR lo hi) : CSpec Try.prog 27 [.agg (calL den ls lo hi), .agg l.av] (.tuple [.int .i64 (poss lo hi l).1, .int .i64 (poss lo hi l).2.1, .bool (poss lo hi l).2.2]) := by
  refine spec_of (by kernel_rfl) Try.func27 rfl rfl ?_
  intro w0 A
  obtain ⟨⟨ha1, ha2⟩, ⟨hb1, hb2⟩, hab, ⟨hm1, hm2⟩, hc1, hc2⟩ := hl
  obtain ⟨hr1, hr2, hr3, hr4, hr5⟩ := hr
  refine T_keep (kc 0 rfl <| kc 1 rfl <| kn) rfl ?_
  refine T_seq (T_reg ?_)   -- region 0
  refine R_w _ _ rfl (w_box 0 rfl (ov rfl) ctA35 rfl) ?_
  refine R_w _ _ rfl (w_box 1 rfl (ov rfl) ctA56 rfl) ?_
  refine R_q _ rfl (v_assign (ov rfl)) ?_
  refine R_q _ rfl (v_assign (ov rfl)) ?_
  refine R_q _ rfl (v_assign (ov rfl)) ?_
  refine R_nil ?_
  refine T_keep (kc 2 rfl <| kc 3 rfl <| kn) rfl ?_
  refine T_seq (T_draw (cw := false) (by kernel_rfl) ?_)   -- region 1 draws
  refine D_read 0 _ rfl (by kernel_rfl) rfl rfl (fun hp' hx => (by first | exact v_fieldP (ov rfl) (hx.2 _ _ rfl) rfl ctF56_0 | exact v_fieldR (ov rfl) ctF56_0)) ?_
  refine D_read 1 _ rfl (by kernel_rfl) rfl rfl (fun hp' hx => (by first | exact v_loadS (ov rfl) (hx.2 _ _ rfl) rfl rfl ctS3 rfl | exact v_loadS_r (ov rfl) ctS3 rfl)) ?_
  refine D_read 2 _ rfl (by kernel_rfl) rfl rfl (fun hp' hx => (by first | exact v_fieldP (ov rfl) (hx.2 _ _ rfl) rfl ctF56_1 | exact v_fieldR (ov rfl) ctF56_1)) ?_
  refine D_read 3 _ rfl (by kernel_rfl) rfl rfl (fun hp' hx => (by first | exact v_loadS (ov rfl) (hx.2 _ _ rfl) rfl rfl ctS3 rfl | exact v_loadS_r (ov rfl) ctS3 rfl)) ?_
  refine D_oneq 4 _ rfl (by kernel_rfl) rfl rfl (fun hp' => v_assign (ov rfl)) ?_
  refine D_oneq 5 _ rfl (by kernel_rfl) rfl rfl (fun hp' => v_assign (ov rfl)) ?_
  refine D_done (by kernel_rfl) ?_
  refine T_seq ?_
  refine T_block ?_   -- block 0
  refine T_keep (kc 2 rfl <| kc 3 rfl <| kc 4 rfl <| kc 5 rfl <| kn) rfl ?_
  refine T_seq (T_reg ?_)   -- region 3
  refine R_q _ rfl ((by first | exact v_fieldP (ov rfl) rfl rfl ctF56_2 | exact v_fieldR (ov rfl) ctF56_2)) ?_
  refine R_q _ rfl ((by first | exact v_loadS (ov rfl) rfl rfl rfl ctS3 rfl | exact v_loadS_r (ov rfl) ctS3 rfl)) ?_
  refine R_q _ rfl (v_eql (ov rfl) (ov rfl)) ?_
  refine R_q _ rfl (v_assign (ov rfl)) ?_
  refine R_nil ?_
  refine T_keep (kc 2 rfl <| kc 3 rfl <| kc 4 rfl <| kc 5 rfl <| kc 34 rfl <| kn) rfl ?_
  refine T_cond rfl (fun h34 => ?_) (fun h34 => ?_)
  · skip
    have hm0 : l.m = 0 := by simpa using h34
    refine T_keep (kc 2 rfl <| kc 3 rfl <| kc 4 rfl <| kc 5 rfl <| kn) rfl ?_
    refine T_seq (T_reg ?_)   -- region 4
    refine R_q _ rfl (v_move (ov rfl)) ?_
    refine R_q _ rfl (v_move (ov rfl)) ?_
    refine R_q _ rfl ((by first | exact v_fieldP (ov rfl) rfl rfl ctF56_3 | exact v_fieldR (ov rfl) ctF56_3)) ?_
    refine R_q _ rfl ((by first | exact v_loadS (ov rfl) rfl rfl rfl ctS3 rfl | exact v_loadS_r (ov rfl) ctS3 rfl)) ?_
    refine R_q _ rfl ((by first | exact v_fieldP (ov rfl) rfl rfl ctF35_2 | exact v_fieldR (ov rfl) ctF35_2)) ?_
    refine R_q _ rfl ((by first | exact v_loadS (ov rfl) rfl rfl rfl ctS3 rfl | exact v_loadS_r (ov rfl) ctS3 rfl)) ?_
    refine R_q _ rfl ((by first | exact v_fieldP (ov rfl) rfl rfl ctF35_3 | exact v_fieldR (ov rfl) ctF35_3)) ?_
    refine R_q _ rfl ((by first | exact v_loadS (ov rfl) rfl rfl rfl ctS3 rfl | exact v_loadS_r (ov rfl) ctS3 rfl)) ?_
    refine R_q _ rfl (v_call (within_ok _ _ _) (.cons (ov rfl) (by first | exact .b rfl | exact .aggB rfl | exact .fn) <| .cons (ov rfl) (by first | exact .b rfl | exact .aggB rfl | exact .fn) <| .cons (ov rfl) (by first | exact .b rfl | exact .aggB rfl | exact .fn) <| .nil)) ?_
    refine R_q _ rfl (v_assign (ov rfl)) ?_
    refine R_q _ rfl (v_assign (ov rfl)) ?_
    refine R_q _ rfl (v_assign (ov rfl)) ?_
    refine R_nil ?_
    refine T_ret ?_
    refine retq ?_ (.three (.tmp rfl (Dat.view (.b rfl))) (.tmp rfl (Dat.view (.b rfl))) (.tmp rfl (Dat.view (.b rfl))))
    simp [poss, hm0, wi]
  · skip
    have hm0 : ¬ l.m = 0 := by simpa using h34
    refine T_keep (kc 2 rfl <| kc 3 rfl <| kc 4 rfl <| kc 5 rfl <| kn) rfl ?_
    refine T_seq (T_reg ?_)   -- region 5
    refine R_q _ rfl ((by first | exact v_fieldP (ov rfl) rfl rfl ctF56_2 | exact v_fieldR (ov rfl) ctF56_2)) ?_
    refine R_q _ rfl ((by first | exact v_loadS (ov rfl) rfl rfl rfl ctS3 rfl | exact v_loadS_r (ov rfl) ctS3 rfl)) ?_
    refine R_q _ rfl (v_gtr (ov rfl) (ov rfl)) ?_
    refine R_q _ rfl (v_assign (ov rfl)) ?_
    refine R_nil ?_
    refine T_keep (kc 2 rfl <| kc 3 rfl <| kc 4 rfl <| kc 5 rfl <| kc 47 rfl <| kn) rfl ?_
    refine T_cond rfl (fun h47 => ?_) (fun h47 => ?_)
    · skip
      have hmp : 0 < l.m := by simpa using h47
      have hq1 := flo_b (n := l.c - lo) (d := l.m) (B := 2251799813685248) (by omega) (by omega) (by omega)
      have hq2 := flo_b (n := hi - l.c) (d := l.m) (B := 2251799813685248) (by omega) (by omega) (by omega)
      refine T_keep (kc 2 rfl <| kc 3 rfl <| kc 4 rfl <| kc 5 rfl <| kn) rfl ?_
      refine T_draw (cw := false) (by kernel_rfl) ?_   -- region 6 draws
      refine D_free 0 _ rfl (by kernel_rfl) rfl rfl (fun hp' => v_move (ov rfl)) ?_
      refine D_read 1 _ rfl (by kernel_rfl) rfl rfl (fun hp' hx => (by first | exact v_fieldP (ov rfl) (hx.2 _ _ rfl) rfl ctF56_3 | exact v_fieldR (ov rfl) ctF56_3)) ?_
      refine D_read 2 _ rfl (by kernel_rfl) rfl rfl (fun hp' hx => (by first | exact v_loadS (ov rfl) (hx.2 _ _ rfl) rfl rfl ctS3 rfl | exact v_loadS_r (ov rfl) ctS3 rfl)) ?_
      refine D_read 3 _ rfl (by kernel_rfl) rfl rfl (fun hp' hx => (by first | exact v_fieldP (ov rfl) (hx.2 _ _ rfl) rfl ctF35_2 | exact v_fieldR (ov rfl) ctF35_2)) ?_
      refine D_read 4 _ rfl (by kernel_rfl) rfl rfl (fun hp' hx => (by first | exact v_loadS (ov rfl) (hx.2 _ _ rfl) rfl rfl ctS3 rfl | exact v_loadS_r (ov rfl) ctS3 rfl)) ?_
      refine D_free 5 _ rfl (by kernel_rfl) rfl rfl (fun hp' => v_sub (ov rfl) (ov rfl) (w64 (by first | omega | (simp at *; omega) | (simp_all; omega)) (by first | omega | (simp at *; omega) | (simp_all; omega)))) ?_
      refine D_read 6 _ rfl (by kernel_rfl) rfl rfl (fun hp' hx => (by first | exact v_fieldP (ov rfl) (hx.2 _ _ rfl) rfl ctF56_2 | exact v_fieldR (ov rfl) ctF56_2)) ?_
      refine D_read 7 _ rfl (by kernel_rfl) rfl rfl (fun hp' hx => (by first | exact v_loadS (ov rfl) (hx.2 _ _ rfl) rfl rfl ctS3 rfl | exact v_loadS_r (ov rfl) ctS3 rfl)) ?_
      refine D_read 8 _ rfl (by kernel_rfl) rfl rfl (fun hp' hx => v_call (floor_ok (l.c - lo) l.m (by omega) (by omega)) (.cons (ov rfl) (by first | exact .b rfl | exact .aggB rfl | exact .fn) <| .cons (ov rfl) (by first | exact .b rfl | exact .aggB rfl | exact .fn) <| .nil)) ?_
      refine D_free 9 _ rfl (by kernel_rfl) rfl rfl (fun hp' => v_neg (ov rfl) (w64 (by omega) (by omega))) ?_
      refine D_free 10 _ rfl (by kernel_rfl) rfl rfl (fun hp' => v_max (ov rfl) (ov rfl) rfl) ?_
      refine D_free 11 _ rfl (by kernel_rfl) rfl rfl (fun hp' => v_move (ov rfl)) ?_
      refine D_read 12 _ rfl (by kernel_rfl) rfl rfl (fun hp' hx => (by first | exact v_fieldP (ov rfl) (hx.2 _ _ rfl) rfl ctF35_3 | exact v_fieldR (ov rfl) ctF35_3)) ?_
      refine D_read 13 _ rfl (by kernel_rfl) rfl rfl (fun hp' hx => (by first | exact v_loadS (ov rfl) (hx.2 _ _ rfl) rfl rfl ctS3 rfl | exact v_loadS_r (ov rfl) ctS3 rfl)) ?_
      refine D_read 14 _ rfl (by kernel_rfl) rfl rfl (fun hp' hx => (by first | exact v_fieldP (ov rfl) (hx.2 _ _ rfl) rfl ctF56_3 | exact v_fieldR (ov rfl) ctF56_3)) ?_
      refine D_read 15 _ rfl (by kernel_rfl) rfl rfl (fun hp' hx => (by first | exact v_loadS (ov rfl) (hx.2 _ _ rfl) rfl rfl ctS3 rfl | exact v_loadS_r (ov rfl) ctS3 rfl)) ?_
      refine D_free 16 _ rfl (by kernel_rfl) rfl rfl (fun hp' => v_sub (ov rfl) (ov rfl) (w64 (by first | omega | (simp at *; omega) | (simp_all; omega)) (by first | omega | (simp at *; omega) | (simp_all; omega)))) ?_
      refine D_oner 17 _ rfl (by kernel_rfl) rfl rfl (fun hp' hx => (by first | exact v_fieldP (ov rfl) (hx.2 _ _ rfl) rfl ctF56_2 | exact v_fieldR (ov rfl) ctF56_2)) ?_
      refine D_oner 18 _ rfl (by kernel_rfl) rfl rfl (fun hp' hx => (by first | exact v_loadS (ov rfl) (hx.2 _ _ rfl) rfl rfl ctS3 rfl | exact v_loadS_r (ov rfl) ctS3 rfl)) ?_
      refine D_oner 19 _ rfl (by kernel_rfl) rfl rfl (fun hp' hx => v_call (floor_ok (hi - l.c) l.m (by omega) (by omega)) (.cons (ov rfl) (by first | exact .b rfl | exact .aggB rfl | exact .fn) <| .cons (ov rfl) (by first | exact .b rfl | exact .aggB rfl | exact .fn) <| .nil)) ?_
      refine D_free 20 _ rfl (by kernel_rfl) rfl rfl (fun hp' => v_min (ov rfl) (ov rfl) rfl) ?_
      refine D_oneq 21 _ rfl (by kernel_rfl) rfl rfl (fun hp' => v_assign (ov rfl)) ?_
      refine D_oneq 22 _ rfl (by kernel_rfl) rfl rfl (fun hp' => v_assign (ov rfl)) ?_
      refine D_done (by kernel_rfl) ?_
      refine T_keep (kc 4 rfl <| kc 5 rfl <| kn) rfl ?_
      refine T_seq (T_reg ?_)   -- region 7
      refine R_q _ rfl (v_move (ov rfl)) ?_
      refine R_q _ rfl (v_move (ov rfl)) ?_
      refine R_q _ rfl (v_move (ov rfl)) ?_
      refine R_q _ rfl (v_move (ov rfl)) ?_
      refine R_q _ rfl (v_leq (ov rfl) (ov rfl)) ?_
      refine R_q _ rfl (v_assign (ov rfl)) ?_
      refine R_q _ rfl (v_assign (ov rfl)) ?_
      refine R_q _ rfl (v_assign (ov rfl)) ?_
      refine R_nil ?_
      refine T_ret ?_
      refine retq ?_ (.three (.tmp rfl (Dat.view (.b rfl))) (.tmp rfl (Dat.view (.b rfl))) (.tmp rfl (Dat.view (.b rfl))))
      simp [poss, hm0, hmp]
    · skip
      have hmp : ¬ 0 < l.m := by simpa using h47
      have hq1 := flo_b (n := l.c - lo) (d := -l.m) (B := 2251799813685248) (by omega) (by omega) (by omega)
      have hq2 := flo_b (n := hi - l.c) (d := -l.m) (B := 2251799813685248) (by omega) (by omega) (by omega)
      refine T_keep (kc 2 rfl <| kc 3 rfl <| kc 4 rfl <| kc 5 rfl <| kn) rfl ?_
      refine T_draw (cw := false) (by kernel_rfl) ?_   -- region 2 draws
      refine D_free 0 _ rfl (by kernel_rfl) rfl rfl (fun hp' => v_move (ov rfl)) ?_
      refine D_read 1 _ rfl (by kernel_rfl) rfl rfl (fun hp' hx => (by first | exact v_fieldP (ov rfl) (hx.2 _ _ rfl) rfl ctF35_3 | exact v_fieldR (ov rfl) ctF35_3)) ?_
      refine D_read 2 _ rfl (by kernel_rfl) rfl rfl (fun hp' hx => (by first | exact v_loadS (ov rfl) (hx.2 _ _ rfl) rfl rfl ctS3 rfl | exact v_loadS_r (ov rfl) ctS3 rfl)) ?_
      refine D_read 3 _ rfl (by kernel_rfl) rfl rfl (fun hp' hx => (by first | exact v_fieldP (ov rfl) (hx.2 _ _ rfl) rfl ctF56_3 | exact v_fieldR (ov rfl) ctF56_3)) ?_
      refine D_read 4 _ rfl (by kernel_rfl) rfl rfl (fun hp' hx => (by first | exact v_loadS (ov rfl) (hx.2 _ _ rfl) rfl rfl ctS3 rfl | exact v_loadS_r (ov rfl) ctS3 rfl)) ?_
      refine D_free 5 _ rfl (by kernel_rfl) rfl rfl (fun hp' => v_sub (ov rfl) (ov rfl) (w64 (by first | omega | (simp at *; omega) | (simp_all; omega)) (by first | omega | (simp at *; omega) | (simp_all; omega)))) ?_
      refine D_read 6 _ rfl (by kernel_rfl) rfl rfl (fun hp' hx => (by first | exact v_fieldP (ov rfl) (hx.2 _ _ rfl) rfl ctF56_2 | exact v_fieldR (ov rfl) ctF56_2)) ?_
      refine D_read 7 _ rfl (by kernel_rfl) rfl rfl (fun hp' hx => (by first | exact v_loadS (ov rfl) (hx.2 _ _ rfl) rfl rfl ctS3 rfl | exact v_loadS_r (ov rfl) ctS3 rfl)) ?_
      refine D_free 8 _ rfl (by kernel_rfl) rfl rfl (fun hp' => v_neg (ov rfl) (w64 (by omega) (by omega))) ?_
      refine D_read 9 _ rfl (by kernel_rfl) rfl rfl (fun hp' hx => v_call (floor_ok (hi - l.c) (-l.m) (by omega) (by omega)) (.cons (ov rfl) (by first | exact .b rfl | exact .aggB rfl | exact .fn) <| .cons (ov rfl) (by first | exact .b rfl | exact .aggB rfl | exact .fn) <| .nil)) ?_
      refine D_free 10 _ rfl (by kernel_rfl) rfl rfl (fun hp' => v_neg (ov rfl) (w64 (by omega) (by omega))) ?_
      refine D_free 11 _ rfl (by kernel_rfl) rfl rfl (fun hp' => v_max (ov rfl) (ov rfl) rfl) ?_
      refine D_free 12 _ rfl (by kernel_rfl) rfl rfl (fun hp' => v_move (ov rfl)) ?_
      refine D_read 13 _ rfl (by kernel_rfl) rfl rfl (fun hp' hx => (by first | exact v_fieldP (ov rfl) (hx.2 _ _ rfl) rfl ctF56_3 | exact v_fieldR (ov rfl) ctF56_3)) ?_
      refine D_read 14 _ rfl (by kernel_rfl) rfl rfl (fun hp' hx => (by first | exact v_loadS (ov rfl) (hx.2 _ _ rfl) rfl rfl ctS3 rfl | exact v_loadS_r (ov rfl) ctS3 rfl)) ?_
      refine D_read 15 _ rfl (by kernel_rfl) rfl rfl (fun hp' hx => (by first | exact v_fieldP (ov rfl) (hx.2 _ _ rfl) rfl ctF35_2 | exact v_fieldR (ov rfl) ctF35_2)) ?_
      refine D_read 16 _ rfl (by kernel_rfl) rfl rfl (fun hp' hx => (by first | exact v_loadS (ov rfl) (hx.2 _ _ rfl) rfl rfl ctS3 rfl | exact v_loadS_r (ov rfl) ctS3 rfl)) ?_
      refine D_free 17 _ rfl (by kernel_rfl) rfl rfl (fun hp' => v_sub (ov rfl) (ov rfl) (w64 (by first | omega | (simp at *; omega) | (simp_all; omega)) (by first | omega | (simp at *; omega) | (simp_all; omega)))) ?_
      refine D_oner 18 _ rfl (by kernel_rfl) rfl rfl (fun hp' hx => (by first | exact v_fieldP (ov rfl) (hx.2 _ _ rfl) rfl ctF56_2 | exact v_fieldR (ov rfl) ctF56_2)) ?_
      refine D_oner 19 _ rfl (by kernel_rfl) rfl rfl (fun hp' hx => (by first | exact v_loadS (ov rfl) (hx.2 _ _ rfl) rfl rfl ctS3 rfl | exact v_loadS_r (ov rfl) ctS3 rfl)) ?_
      refine D_oneq 20 _ rfl (by kernel_rfl) rfl rfl (fun hp' => v_neg (ov rfl) (w64 (by omega) (by omega))) ?_
      refine D_oner 21 _ rfl (by kernel_rfl) rfl rfl (fun hp' hx => v_call (floor_ok (l.c - lo) (-l.m) (by omega) (by omega)) (.cons (ov rfl) (by first | exact .b rfl | exact .aggB rfl | exact .fn) <| .cons (ov rfl) (by first | exact .b rfl | exact .aggB rfl | exact .fn) <| .nil)) ?_
      refine D_free 22 _ rfl (by kernel_rfl) rfl rfl (fun hp' => v_min (ov rfl) (ov rfl) rfl) ?_
      refine D_oneq 23 _ rfl (by kernel_rfl) rfl rfl (fun hp' => v_assign (ov rfl)) ?_
      refine D_oneq 24 _ rfl (by kernel_rfl) rfl rfl (fun hp' => v_assign (ov rfl)) ?_
      refine D_done (by kernel_rfl) ?_
      refine T_keep (kc 4 rfl <| kc 5 rfl <| kn) rfl ?_
      refine T_seq (T_reg ?_)   -- region 7
      refine R_q _ rfl (v_move (ov rfl)) ?_
      refine R_q _ rfl (v_move (ov rfl)) ?_
      refine R_q _ rfl (v_move (ov rfl)) ?_
      refine R_q _ rfl (v_move (ov rfl)) ?_
      refine R_q _ rfl (v_leq (ov rfl) (ov rfl)) ?_
      refine R_q _ rfl (v_assign (ov rfl)) ?_
      refine R_q _ rfl (v_assign (ov rfl)) ?_
      refine R_q _ rfl (v_assign (ov rfl)) ?_
      refine R_nil ?_
      refine T_ret ?_
      refine retq ?_ (.three (.tmp rfl (Dat.view (.b rfl))) (.tmp rfl (Dat.view (.b rfl))) (.tmp rfl (Dat.view (.b rfl))))
      simp [poss, hm0, hmp]

-- series.Nearest (function 10)
theorem Nearest_ok (den : Int) (ls : List Line) (lo hi n : Int) : CSpec Try.prog 10 [.agg (calL den ls lo hi), .int .i64 n] (.tuple [.int .i64 (outNear den ls lo hi n).1, .int .i64 (outNear den ls lo hi n).2]) := by
  refine spec_of (by kernel_rfl) Try.func10 rfl rfl ?_
  intro w0 A
  refine T_keep (kc 0 rfl <| kc 1 rfl <| kn) rfl ?_
  refine T_seq (T_reg ?_)   -- region 0
  refine R_w _ _ rfl (w_box 0 rfl (ov rfl) ctA35 rfl) ?_
  refine R_q _ rfl (v_assign (ov rfl)) ?_
  refine R_q _ rfl (v_assign (ov rfl)) ?_
  refine R_nil ?_
  refine T_seq ?_
  refine T_keep (kc 1 rfl <| kc 2 rfl <| kn) rfl ?_
  refine T_seq (T_reg ?_)   -- region 1
  refine R_q _ rfl ((by first | exact v_loadA (ov rfl) rfl rfl rfl ctA35 rfl rfl | exact v_loadA_r (ov rfl) ctA35 rfl rfl)) ?_
  refine R_q _ rfl (v_call (chkC_ok _ _ _ _) (.cons (ov rfl) (by first | exact .b rfl | exact .aggB rfl | exact .fn) <| .nil)) ?_
  refine R_q _ rfl (v_assign (ov rfl)) ?_
  refine R_nil ?_
  refine T_keep (kc 1 rfl <| kc 2 rfl <| kc 6 rfl <| kn) rfl ?_
  refine T_seq (T_reg ?_)   -- region 2
  refine R_q _ rfl (v_move (ov rfl)) ?_
  refine R_q _ rfl (v_neq (ov rfl) (ov rfl)) ?_
  refine R_nil ?_
  refine T_keep (kc 1 rfl <| kc 2 rfl <| kc 6 rfl <| kc 21 rfl <| kn) rfl ?_
  refine T_cond rfl (fun h21 => ?_) (fun h21 => ?_)
  · skip
    have h0 : ¬ chkC den ls lo hi = 0 := by simpa using h21
    refine T_keep (kc 6 rfl <| kn) rfl ?_
    refine T_seq (T_reg ?_)   -- region 3
    refine R_q _ rfl (v_move (ov rfl)) ?_
    refine R_q _ rfl (v_assign (ov rfl)) ?_
    refine R_q _ rfl (v_assign (ov rfl)) ?_
    refine R_nil ?_
    refine T_ret ?_
    refine retq ?_ (.two (.tmp rfl (Dat.view (.b rfl))) (.tmp rfl (Dat.view (.b rfl))))
    simp [outNear, h0, constAV]
  · skip
    have h0 : chkC den ls lo hi = 0 := by simpa using h21
    have hg := good_of h0
    have hlen := hg.len
    refine T_skip ?_
    refine T_seq ?_
    refine T_keep (kc 1 rfl <| kc 2 rfl <| kn) rfl ?_
    refine T_seq (T_reg ?_)   -- region 4
    refine R_q _ rfl (v_move (ov rfl)) ?_
    refine R_q _ rfl (v_call (within_ok _ _ _) (.cons (ov rfl) (by first | exact .b rfl | exact .aggB rfl | exact .fn) <| .cons (ov rfl) (by first | exact .b rfl | exact .aggB rfl | exact .fn) <| .cons (ov rfl) (by first | exact .b rfl | exact .aggB rfl | exact .fn) <| .nil)) ?_
    refine R_q _ rfl (v_not (ov rfl)) ?_
    refine R_nil ?_
    refine T_keep (kc 1 rfl <| kc 2 rfl <| kc 25 rfl <| kn) rfl ?_
    refine T_cond rfl (fun h25 => ?_) (fun h25 => ?_)
    · skip
      have hn : wi n (-1125899906842624) 1125899906842624 = false := by
        have h : (!wi n (-1125899906842624) 1125899906842624) = true := h25
        simpa using h
      refine T_keep (kn) rfl ?_
      refine T_seq (T_reg ?_)   -- region 5
      refine R_q _ rfl (v_assign (ov rfl)) ?_
      refine R_q _ rfl (v_assign (ov rfl)) ?_
      refine R_nil ?_
      refine T_ret ?_
      refine retq ?_ (.two (.tmp rfl (Dat.view (.b rfl))) (.tmp rfl (Dat.view (.b rfl))))
      simp [outNear, h0, hn, constAV]
    · skip
      have hn : wi n (-1125899906842624) 1125899906842624 = true := by
        have h : (!wi n (-1125899906842624) 1125899906842624) = false := h25
        simpa using h
      have hnn : -1125899906842624 ≤ n ∧ n ≤ 1125899906842624 := by simpa [wi] using hn
      refine T_skip ?_
      refine T_keep (kc 1 rfl <| kc 2 rfl <| kn) rfl ?_
      refine T_seq (T_reg ?_)   -- region 6
      refine R_q _ rfl (v_assign (ov rfl)) ?_
      refine R_q _ rfl (v_assign (ov rfl)) ?_
      refine R_nil ?_
      refine T_seq ?_
      refine T_keep (kc 1 rfl <| kc 2 rfl <| kc 7 rfl <| kc 8 rfl <| kn) rfl ?_
      refine T_seq (T_reg ?_)   -- region 7
      refine R_q _ rfl ((by first | exact v_fieldP (ov rfl) rfl rfl ctF35_1 | exact v_fieldR (ov rfl) ctF35_1)) ?_
      refine R_q _ rfl ((by first | exact v_loadS (ov rfl) rfl rfl rfl ctS33 rfl | exact v_loadS_r (ov rfl) ctS33 rfl)) ?_
      refine R_q _ rfl ((by first | exact v_len (slv_sl (ov rfl) rfl) ctL33 (len_map _ _) | exact v_len (slv_sl (ov rfl) rfl) ctL33 rfl | exact v_len (slv_own (ov rfl) rfl rfl rfl) ctL33 rfl)) ?_
      refine R_q _ rfl (v_move (ov rfl)) ?_
      refine R_nil ?_
      refine T_block ?_   -- block 0
      refine T_loop (ι := Nat × Int × Int) (fun p => p.1 ≤ ls.length ∧ nearL n lo hi (0, -1) ls = nearL n lo hi p.2 (ls.drop p.1)) (fun p => ⟨[(1, .int .i64 n), (2, .ptr 0 1 0 0), (7, .int .i64 p.2.1), (8, .int .i64 p.2.2), (27, .sl 56 (ls.map Line.av)), (28, .int .i64 ls.length), (29, .int .i64 p.1)], [some ⟨35, [calL den ls lo hi]⟩]⟩) (fun p => ls.length - p.1) (0, 0, -1) (⟨by simp, rfl⟩) (Ent.keep (kc 1 rfl <| kc 2 rfl <| kc 7 rfl <| kc 8 rfl <| kc 27 rfl <| kc 28 rfl <| kc 29 rfl <| kn) rfl) ?_
      intro ⟨k, s⟩ hC
      obtain ⟨hk, hc⟩ := hC
      simp only at hk hc
      refine T_keep (kc 1 rfl <| kc 2 rfl <| ke 7 rfl (v' := .int .i64 s.1) rfl <| ke 8 rfl (v' := .int .i64 s.2) rfl <| kc 27 rfl <| kc 28 rfl <| ke 29 rfl (v' := .int .i64 (k : Int)) rfl <| kn) rfl ?_
      refine T_keep (kc 1 rfl <| kc 2 rfl <| kc 7 rfl <| kc 8 rfl <| kc 27 rfl <| kc 28 rfl <| kc 29 rfl <| kn) rfl ?_
      refine T_seq (T_reg ?_)   -- region 8
      refine R_q _ rfl (v_lss (ov rfl) (ov rfl)) ?_
      refine R_nil ?_
      refine T_seq ?_
      refine T_keep (kc 1 rfl <| kc 2 rfl <| kc 7 rfl <| kc 8 rfl <| kc 27 rfl <| kc 28 rfl <| kc 29 rfl <| kc 30 rfl <| kn) rfl ?_
      refine T_cond rfl (fun h30 => ?_) (fun h30 => ?_)
      · skip
        try simp at h30
        refine T_skip ?_
        refine T_seq ?_
        refine T_block ?_   -- block 1
        refine T_keep (kc 1 rfl <| kc 2 rfl <| kc 7 rfl <| kc 8 rfl <| kc 27 rfl <| kc 28 rfl <| kc 29 rfl <| kn) rfl ?_
        obtain ⟨x, hx⟩ := get_ex (xs := ls) (k := k) (by omega)
        have hxo := hg.ok x (List.mem_of_getElem? hx)
        have hxc := hxo.2.2.2.2
        refine T_seq (T_reg ?_)   -- region 9
        refine R_q _ rfl ((by first | exact v_ixS (ov rfl) (ov rfl) ctL33 rfl (row_map (by assumption)) | exact v_ixO (ov rfl) (ov rfl) ctL33 rfl rfl (by assumption))) ?_
        refine R_q _ rfl ((by first | exact v_loadA (ov rfl) rfl rfl rfl ctA56 rfl rfl | exact v_loadA_r (ov rfl) ctA56 rfl rfl)) ?_
        refine R_w _ _ rfl (w_alloc (row := [_, _, _, _]) 1 rfl ctZ56 rfl ctZ_56) ?_
        refine R_w _ _ rfl (w_store (ov rfl) (ov rfl) (cells_agg ctA56 rfl) rfl rfl rfl (Nat.le_of_ble_eq_true rfl) (cell1_all rfl) rfl) ?_
        refine R_nil ?_
        refine T_keep (kc 1 rfl <| kc 2 rfl <| kc 7 rfl <| kc 8 rfl <| kc 10 rfl <| kc 27 rfl <| kc 28 rfl <| kc 29 rfl <| kn) rfl ?_
        refine T_seq (T_reg ?_)   -- region 10
        refine R_q _ rfl ((by first | exact v_loadA (ov rfl) rfl rfl rfl ctA35 rfl rfl | exact v_loadA_r (ov rfl) ctA35 rfl rfl)) ?_
        refine R_q _ rfl ((by first | exact v_loadA (ov rfl) rfl rfl rfl ctA56 rfl rfl | exact v_loadA_r (ov rfl) ctA56 rfl rfl)) ?_
        refine R_q _ rfl (v_call (possible_ok den ls lo hi x hxo hg.rng) (.cons (ov rfl) (by first | exact .b rfl | exact .aggB rfl | exact .fn) <| .cons (ov rfl) (by first | exact .b rfl | exact .aggB rfl | exact .fn) <| .nil)) ?_
        refine R_q _ rfl (v_move (ov rfl)) ?_
        refine R_q _ rfl (v_extract (ov rfl) rfl) ?_
        refine R_q _ rfl (v_extract (ov rfl) rfl) ?_
        refine R_q _ rfl (v_extract (ov rfl) rfl) ?_
        refine R_q _ rfl (v_assign (ov rfl)) ?_
        refine R_q _ rfl (v_assign (ov rfl)) ?_
        refine R_q _ rfl (v_assign (ov rfl)) ?_
        refine R_nil ?_
        refine T_seq ?_
        refine T_keep (kc 1 rfl <| kc 2 rfl <| kc 7 rfl <| kc 8 rfl <| kc 10 rfl <| kc 11 rfl <| kc 12 rfl <| kc 13 rfl <| kc 27 rfl <| kc 28 rfl <| kc 29 rfl <| kn) rfl ?_
        refine T_seq (T_reg ?_)   -- region 11
        refine R_q _ rfl (v_move (ov rfl)) ?_
        refine R_q _ rfl (v_not (ov rfl)) ?_
        refine R_nil ?_
        refine T_keep (kc 1 rfl <| kc 2 rfl <| kc 7 rfl <| kc 8 rfl <| kc 10 rfl <| kc 11 rfl <| kc 12 rfl <| kc 27 rfl <| kc 28 rfl <| kc 29 rfl <| kc 41 rfl <| kn) rfl ?_
        refine T_cond rfl (fun h41 => ?_) (fun h41 => ?_)
        · skip
          have hp : (poss lo hi x).2.2 = false := by simpa using h41
          refine T_exit ?_   -- exit 1
          refine T_keep (kc 1 rfl <| kc 2 rfl <| kc 7 rfl <| kc 8 rfl <| kc 27 rfl <| kc 28 rfl <| kc 29 rfl <| kn) rfl ?_
          refine T_reg ?_   -- region 22
          refine R_q _ rfl (v_add (ov rfl) (ov rfl) (w64 (by first | omega | (simp at *; omega) | (simp_all; omega)) (by first | omega | (simp at *; omega) | (simp_all; omega)))) ?_
          refine R_q _ rfl (v_move (ov rfl)) ?_
          refine R_nil ?_
          exact ⟨(k + 1, s), ⟨by simp only; omega, by rw [hc, drop_cons hx, nearL, stepL, hp]; rfl⟩, by simp only; omega, Ent.cutB (ke 1 rfl rfl <| ke 2 rfl rfl <| ke 7 rfl rfl <| ke 8 rfl rfl <| ke 27 rfl rfl <| ke 28 rfl rfl <| ke 29 rfl (by push_cast; rfl) <| kn) rfl rfl rfl⟩
        · skip
          have hp : (poss lo hi x).2.2 = true := by simpa using h41
          have hpi := poss_in hp hxo
          have hat := atL_b hp hxo hnn.1 hnn.2
          refine T_skip ?_
          refine T_keep (kc 1 rfl <| kc 2 rfl <| kc 7 rfl <| kc 8 rfl <| kc 10 rfl <| kc 11 rfl <| kc 12 rfl <| kc 27 rfl <| kc 28 rfl <| kc 29 rfl <| kn) rfl ?_
          refine T_seq (T_reg ?_)   -- region 12
          refine R_q _ rfl (v_move (ov rfl)) ?_
          refine R_q _ rfl (v_assign (ov rfl)) ?_
          refine R_nil ?_
          refine T_join (ι := Unit) (fun _ => True) (fun _ => ⟨[(1, .int .i64 n), (2, .ptr 0 1 0 0), (7, .int .i64 s.1), (8, .int .i64 s.2), (10, .ptr 1 1 0 0), (11, .int .i64 (poss lo hi x).1), (12, .int .i64 (poss lo hi x).2.1), (14, .int .i64 (atL n lo hi x)), (27, .sl 56 (ls.map Line.av)), (28, .int .i64 ls.length), (29, .int .i64 (k : Int))], [some ⟨35, [calL den ls lo hi]⟩, some ⟨56, [x.av]⟩]⟩) ?_ ?_
          · skip
            refine T_keep (kc 1 rfl <| kc 2 rfl <| kc 7 rfl <| kc 8 rfl <| kc 10 rfl <| kc 11 rfl <| kc 12 rfl <| kc 14 rfl <| kc 27 rfl <| kc 28 rfl <| kc 29 rfl <| kn) rfl ?_
            refine T_seq (T_reg ?_)   -- region 13
            refine R_q _ rfl ((by first | exact v_fieldP (ov rfl) rfl rfl ctF56_2 | exact v_fieldR (ov rfl) ctF56_2)) ?_
            refine R_q _ rfl ((by first | exact v_loadS (ov rfl) rfl rfl rfl ctS3 rfl | exact v_loadS_r (ov rfl) ctS3 rfl)) ?_
            refine R_q _ rfl (v_neq (ov rfl) (ov rfl)) ?_
            refine R_nil ?_
            refine T_keep (kc 1 rfl <| kc 2 rfl <| kc 7 rfl <| kc 8 rfl <| kc 10 rfl <| kc 11 rfl <| kc 12 rfl <| kc 14 rfl <| kc 27 rfl <| kc 28 rfl <| kc 29 rfl <| kc 45 rfl <| kn) rfl ?_
            refine T_cond rfl (fun h45 => ?_) (fun h45 => ?_)
            · skip
              have hm0 : ¬ x.m = 0 := by simpa using h45
              refine T_keep (kc 1 rfl <| kc 2 rfl <| kc 7 rfl <| kc 8 rfl <| kc 10 rfl <| kc 11 rfl <| kc 12 rfl <| kc 27 rfl <| kc 28 rfl <| kc 29 rfl <| kn) rfl ?_
              refine T_reg ?_   -- region 14
              refine R_q _ rfl (v_move (ov rfl)) ?_
              refine R_q _ rfl ((by first | exact v_fieldP (ov rfl) rfl rfl ctF56_3 | exact v_fieldR (ov rfl) ctF56_3)) ?_
              refine R_q _ rfl ((by first | exact v_loadS (ov rfl) rfl rfl rfl ctS3 rfl | exact v_loadS_r (ov rfl) ctS3 rfl)) ?_
              refine R_q _ rfl (v_sub (ov rfl) (ov rfl) (w64 (by first | omega | (simp at *; omega) | (simp_all; omega)) (by first | omega | (simp at *; omega) | (simp_all; omega)))) ?_
              refine R_q _ rfl ((by first | exact v_fieldP (ov rfl) rfl rfl ctF56_2 | exact v_fieldR (ov rfl) ctF56_2)) ?_
              refine R_q _ rfl ((by first | exact v_loadS (ov rfl) rfl rfl rfl ctS3 rfl | exact v_loadS_r (ov rfl) ctS3 rfl)) ?_
              refine R_q _ rfl (v_call (floor_ok (n - x.c) x.m hm0 (by omega)) (.cons (ov rfl) (by first | exact .b rfl | exact .aggB rfl | exact .fn) <| .cons (ov rfl) (by first | exact .b rfl | exact .aggB rfl | exact .fn) <| .nil)) ?_
              refine R_q _ rfl (v_assign (ov rfl)) ?_
              refine R_nil ?_
              exact ⟨(), trivial, Ent.keep (ke 1 rfl rfl <| ke 2 rfl rfl <| ke 7 rfl rfl <| ke 8 rfl rfl <| ke 10 rfl rfl <| ke 11 rfl rfl <| ke 12 rfl rfl <| ke 14 rfl (by simp [atL, hm0]) <| ke 27 rfl rfl <| ke 28 rfl rfl <| ke 29 rfl rfl <| kn) rfl⟩
            · skip
              have hm0 : x.m = 0 := by simpa using h45
              refine T_skip ?_
              exact ⟨(), trivial, Ent.keep (ke 1 rfl rfl <| ke 2 rfl rfl <| ke 7 rfl rfl <| ke 8 rfl rfl <| ke 10 rfl rfl <| ke 11 rfl rfl <| ke 12 rfl rfl <| ke 14 rfl (by simp [atL, hm0]) <| ke 27 rfl rfl <| ke 28 rfl rfl <| ke 29 rfl rfl <| kn) rfl⟩
          intro _ _
          refine T_keep (kc 1 rfl <| kc 2 rfl <| kc 7 rfl <| kc 8 rfl <| kc 10 rfl <| kc 11 rfl <| kc 12 rfl <| kc 14 rfl <| kc 27 rfl <| kc 28 rfl <| kc 29 rfl <| kn) rfl ?_
          refine T_seq (T_reg ?_)   -- region 15
          refine R_q _ rfl (v_move (ov rfl)) ?_
          refine R_q _ rfl (v_move (ov rfl)) ?_
          refine R_q _ rfl (v_max (ov rfl) (ov rfl) rfl) ?_
          refine R_q _ rfl (v_move (ov rfl)) ?_
          refine R_q _ rfl (v_min (ov rfl) (ov rfl) rfl) ?_
          refine R_q _ rfl (v_move (ov rfl)) ?_
          refine R_q _ rfl (v_add (ov rfl) (ov rfl) (w64 (by first | omega | (simp at *; omega) | (simp_all; omega)) (by first | omega | (simp at *; omega) | (simp_all; omega)))) ?_
          refine R_q _ rfl (v_move (ov rfl)) ?_
          refine R_q _ rfl (v_max (ov rfl) (ov rfl) rfl) ?_
          refine R_q _ rfl (v_move (ov rfl)) ?_
          refine R_q _ rfl (v_min (ov rfl) (ov rfl) rfl) ?_
          refine R_q _ rfl (v_buildA (ys := [_, _]) ctR60 ctZ60 (.cons (cvs (ov rfl) (cell1_b rfl)) <| .cons (cvs (ov rfl) (cell1_b rfl)) <| .nil) rfl) ?_
          refine R_q _ rfl (v_move (ov rfl)) ?_
          refine R_nil ?_
          refine T_block ?_   -- block 2
          refine T_loop (ι := Nat × Int × Int) (fun q => q.1 ≤ 2 ∧ q.2 = inS n lo hi x s q.1) (fun q => ⟨[(1, .int .i64 n), (2, .ptr 0 1 0 0), (7, .int .i64 q.2.1), (8, .int .i64 q.2.2), (10, .ptr 1 1 0 0), (27, .sl 56 (ls.map Line.av)), (28, .int .i64 ls.length), (29, .int .i64 (k : Int)), (64, .agg [.int .i64 (c1L n lo hi x), .int .i64 (c2L n lo hi x)]), (65, .int .i64 q.1)], [some ⟨35, [calL den ls lo hi]⟩, some ⟨56, [x.av]⟩]⟩) (fun q => 2 - q.1) (0, s) (⟨by simp, rfl⟩) (Ent.keep (kc 1 rfl <| kc 2 rfl <| kc 7 rfl <| kc 8 rfl <| kc 10 rfl <| kc 27 rfl <| kc 28 rfl <| kc 29 rfl <| kc 64 rfl <| kc 65 rfl <| kn) rfl) ?_
          intro ⟨j, r⟩ hC
          obtain ⟨hj, hr⟩ := hC
          simp only at hj hr
          refine T_keep (kc 1 rfl <| kc 2 rfl <| ke 7 rfl (v' := .int .i64 r.1) rfl <| ke 8 rfl (v' := .int .i64 r.2) rfl <| kc 10 rfl <| kc 27 rfl <| kc 28 rfl <| kc 29 rfl <| kc 64 rfl <| ke 65 rfl (v' := .int .i64 (j : Int)) rfl <| kn) rfl ?_
          refine T_keep (kc 1 rfl <| kc 2 rfl <| kc 7 rfl <| kc 8 rfl <| kc 10 rfl <| kc 27 rfl <| kc 28 rfl <| kc 29 rfl <| kc 64 rfl <| kc 65 rfl <| kn) rfl ?_
          refine T_seq (T_reg ?_)   -- region 16
          refine R_q _ rfl (v_lss (ov rfl) (ov rfl)) ?_
          refine R_nil ?_
          refine T_seq ?_
          refine T_keep (kc 1 rfl <| kc 2 rfl <| kc 7 rfl <| kc 8 rfl <| kc 10 rfl <| kc 27 rfl <| kc 28 rfl <| kc 29 rfl <| kc 64 rfl <| kc 65 rfl <| kc 66 rfl <| kn) rfl ?_
          refine T_cond rfl (fun h66 => ?_) (fun h66 => ?_)
          · skip
            have hj2 : j < 2 := by simp at h66; omega
            refine T_skip ?_
            refine T_seq ?_
            refine T_block ?_   -- block 3
            refine T_keep (kc 1 rfl <| kc 2 rfl <| kc 7 rfl <| kc 8 rfl <| kc 10 rfl <| kc 27 rfl <| kc 28 rfl <| kc 29 rfl <| kc 64 rfl <| kc 65 rfl <| kn) rfl ?_
            have hcv : ([.int .i64 (c1L n lo hi x), .int .i64 (c2L n lo hi x)] : List AV)[j]? = some (.int .i64 (cvL n lo hi x j)) := by rcases (show j = 0 ∨ j = 1 by omega) with rfl | rfl <;> rfl
            have hci := cvL_in (n := n) hp hxo j
            have hmu := hxo.mul (x := cvL n lo hi x j) (by have := hxo.1; omega) (by have := hxo.2.1; omega)
            refine T_seq (T_reg ?_)   -- region 17
            refine R_q _ rfl (v_indexV (m := j) (ov rfl) (ov rfl) ctR60 ctS3 rfl (by omega) hcv) ?_
            refine R_q _ rfl (v_assign (ov rfl)) ?_
            refine R_nil ?_
            refine T_keep (kc 1 rfl <| kc 2 rfl <| kc 7 rfl <| kc 8 rfl <| kc 10 rfl <| kc 16 rfl <| kc 27 rfl <| kc 28 rfl <| kc 29 rfl <| kc 64 rfl <| kc 65 rfl <| kn) rfl ?_
            refine T_seq (T_reg ?_)   -- region 18
            refine R_q _ rfl ((by first | exact v_loadA (ov rfl) rfl rfl rfl ctA56 rfl rfl | exact v_loadA_r (ov rfl) ctA56 rfl rfl)) ?_
            refine R_q _ rfl (v_move (ov rfl)) ?_
            refine R_q _ rfl (v_call (number_ok x (cvL n lo hi x j) (by omega) (by omega)) (.cons (ov rfl) (by first | exact .b rfl | exact .aggB rfl | exact .fn) <| .cons (ov rfl) (by first | exact .b rfl | exact .aggB rfl | exact .fn) <| .nil)) ?_
            refine R_q _ rfl (v_move (ov rfl)) ?_
            refine R_q _ rfl (v_sub (ov rfl) (ov rfl) (w64 (by first | omega | (simp at *; omega) | (simp_all; omega)) (by first | omega | (simp at *; omega) | (simp_all; omega)))) ?_
            refine R_q _ rfl (v_call (size_ok (x.m * cvL n lo hi x j + x.c - n) (by omega)) (.cons (ov rfl) (by first | exact .b rfl | exact .aggB rfl | exact .fn) <| .nil)) ?_
            refine R_q _ rfl (v_assign (ov rfl)) ?_
            refine R_nil ?_
            refine T_keep (kc 1 rfl <| kc 2 rfl <| kc 7 rfl <| kc 8 rfl <| kc 10 rfl <| kc 16 rfl <| kc 17 rfl <| kc 27 rfl <| kc 28 rfl <| kc 29 rfl <| kc 64 rfl <| kc 65 rfl <| kn) rfl ?_
            refine T_seq (T_reg ?_)   -- region 19
            refine R_q _ rfl (v_move (ov rfl)) ?_
            refine R_q _ rfl (v_lss (ov rfl) (ov rfl)) ?_
            refine R_q _ rfl (v_move (ov rfl)) ?_
            refine R_q _ rfl (.guarded _ rfl rfl rfl rfl fun h => v_move (ov rfl)) ?_
            refine R_q _ rfl (.guarded _ rfl rfl rfl rfl fun h => v_move (ov rfl)) ?_
            refine R_q _ rfl (.guarded _ rfl rfl rfl rfl fun h => v_lss (ow rfl h) (ow rfl h)) ?_
            refine R_q _ rfl (v_or (ov rfl) (fun hp => ow rfl (gF hp))) ?_
            refine R_nil ?_
            refine T_keep (kc 1 rfl <| kc 2 rfl <| kc 7 rfl <| kc 8 rfl <| kc 10 rfl <| kc 16 rfl <| kc 17 rfl <| kc 27 rfl <| kc 28 rfl <| kc 29 rfl <| kc 64 rfl <| kc 65 rfl <| kc 80 rfl <| kn) rfl ?_
            refine T_cond rfl (fun h80 => ?_) (fun h80 => ?_)
            · skip
              have h80 := h80
              refine T_keep (kc 1 rfl <| kc 2 rfl <| kc 10 rfl <| kc 16 rfl <| kc 17 rfl <| kc 27 rfl <| kc 28 rfl <| kc 29 rfl <| kc 64 rfl <| kc 65 rfl <| kn) rfl ?_
              refine T_reg ?_   -- region 20
              refine R_q _ rfl (v_move (ov rfl)) ?_
              refine R_q _ rfl (v_move (ov rfl)) ?_
              refine R_q _ rfl (v_assign (ov rfl)) ?_
              refine R_q _ rfl (v_assign (ov rfl)) ?_
              refine R_nil ?_
              refine T_keep (kc 1 rfl <| kc 2 rfl <| kc 7 rfl <| kc 8 rfl <| kc 10 rfl <| kc 27 rfl <| kc 28 rfl <| kc 29 rfl <| kc 64 rfl <| kc 65 rfl <| kn) rfl ?_
              refine T_reg ?_   -- region 21
              refine R_q _ rfl (v_add (ov rfl) (ov rfl) (w64 (by first | omega | (simp at *; omega) | (simp_all; omega)) (by first | omega | (simp at *; omega) | (simp_all; omega)))) ?_
              refine R_q _ rfl (v_move (ov rfl)) ?_
              refine R_nil ?_
              exact ⟨(j + 1, cvL n lo hi x j, max (x.m * cvL n lo hi x j + x.c - n) (-(x.m * cvL n lo hi x j + x.c - n))), ⟨by simp only; omega, by rw [inS_succ n lo hi x s hj2, ← hr, stepC, if_pos h80]⟩, by simp only; omega, Ent.keep (ke 1 rfl rfl <| ke 2 rfl rfl <| ke 7 rfl rfl <| ke 8 rfl rfl <| ke 10 rfl rfl <| ke 27 rfl rfl <| ke 28 rfl rfl <| ke 29 rfl rfl <| ke 64 rfl rfl <| ke 65 rfl (by push_cast; rfl) <| kn) rfl⟩
            · skip
              have h80 := h80
              refine T_skip ?_
              refine T_keep (kc 1 rfl <| kc 2 rfl <| kc 7 rfl <| kc 8 rfl <| kc 10 rfl <| kc 27 rfl <| kc 28 rfl <| kc 29 rfl <| kc 64 rfl <| kc 65 rfl <| kn) rfl ?_
              refine T_reg ?_   -- region 21
              refine R_q _ rfl (v_add (ov rfl) (ov rfl) (w64 (by first | omega | (simp at *; omega) | (simp_all; omega)) (by first | omega | (simp at *; omega) | (simp_all; omega)))) ?_
              refine R_q _ rfl (v_move (ov rfl)) ?_
              refine R_nil ?_
              exact ⟨(j + 1, r), ⟨by simp only; omega, by rw [inS_succ n lo hi x s hj2, ← hr, stepC, if_neg (by rw [h80]; simp)]⟩, by simp only; omega, Ent.keep (ke 1 rfl rfl <| ke 2 rfl rfl <| ke 7 rfl rfl <| ke 8 rfl rfl <| ke 10 rfl rfl <| ke 27 rfl rfl <| ke 28 rfl rfl <| ke 29 rfl rfl <| ke 64 rfl rfl <| ke 65 rfl (by push_cast; rfl) <| kn) rfl⟩
          · skip
            have hj2 : j = 2 := by simp at h66; omega
            refine T_exit ?_   -- exit 2
            refine T_keep (kc 1 rfl <| kc 2 rfl <| kc 7 rfl <| kc 8 rfl <| kc 27 rfl <| kc 28 rfl <| kc 29 rfl <| kn) rfl ?_
            refine T_reg ?_   -- region 22
            refine R_q _ rfl (v_add (ov rfl) (ov rfl) (w64 (by first | omega | (simp at *; omega) | (simp_all; omega)) (by first | omega | (simp at *; omega) | (simp_all; omega)))) ?_
            refine R_q _ rfl (v_move (ov rfl)) ?_
            refine R_nil ?_
            exact ⟨(k + 1, r), ⟨by simp only; omega, by rw [hc, drop_cons hx, nearL, stepL, hp, if_pos rfl, hr, hj2]⟩, by simp only; omega, Ent.cutB (ke 1 rfl rfl <| ke 2 rfl rfl <| ke 7 rfl rfl <| ke 8 rfl rfl <| ke 27 rfl rfl <| ke 28 rfl rfl <| ke 29 rfl (by push_cast; rfl) <| kn) rfl rfl rfl⟩
      · skip
        have hk0 : ls.length ≤ k := by simpa using h30
        refine T_exit ?_   -- exit 0
        refine T_seq ?_
        refine T_keep (kc 7 rfl <| kc 8 rfl <| kn) rfl ?_
        refine T_seq (T_reg ?_)   -- region 23
        refine R_q _ rfl (v_move (ov rfl)) ?_
        refine R_q _ rfl (v_lss (ov rfl) (ov rfl)) ?_
        refine R_nil ?_
        refine T_keep (kc 7 rfl <| kc 86 rfl <| kn) rfl ?_
        refine T_cond rfl (fun h86 => ?_) (fun h86 => ?_)
        · skip
          have h86 : (nearL n lo hi (0, -1) ls).2 < 0 := by rw [hc, List.drop_eq_nil_of_le hk0]; simpa [nearL] using h86
          refine T_keep (kn) rfl ?_
          refine T_seq (T_reg ?_)   -- region 24
          refine R_q _ rfl (v_assign (ov rfl)) ?_
          refine R_q _ rfl (v_assign (ov rfl)) ?_
          refine R_nil ?_
          refine T_ret ?_
          refine retq ?_ (.two (.tmp rfl (Dat.view (.b rfl))) (.tmp rfl (Dat.view (.b rfl))))
          simp [outNear, h0, hn, h86, constAV]
        · skip
          have h86 : ¬ (nearL n lo hi (0, -1) ls).2 < 0 := by rw [hc, List.drop_eq_nil_of_le hk0]; simpa [nearL] using h86
          refine T_skip ?_
          refine T_keep (kc 7 rfl <| kn) rfl ?_
          refine T_seq (T_reg ?_)   -- region 25
          refine R_q _ rfl (v_move (ov rfl)) ?_
          refine R_q _ rfl (v_assign (ov rfl)) ?_
          refine R_q _ rfl (v_assign (ov rfl)) ?_
          refine R_nil ?_
          refine T_ret ?_
          refine retq ?_ (.two (.tmp rfl (Dat.view (.b rfl))) (.tmp rfl (Dat.view (.b rfl))))
          have hb : (nearL n lo hi (0, -1) ls).1 = s.1 := by rw [hc, List.drop_eq_nil_of_le hk0]; rfl
          simp [outNear, h0, hn, h86, constAV, hb]
end Go.Proofs.Ytecdkapjjhkanaa

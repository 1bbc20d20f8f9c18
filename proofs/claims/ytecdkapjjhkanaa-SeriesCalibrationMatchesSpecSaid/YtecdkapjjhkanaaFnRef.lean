/- A text of the proof: a verified executor of the program form, or the contracts of the functions that the law reaches. -/
import Derived.Test.YtecdkapjjhkanaaNearPure
import Derived.Test.YtecdkapjjhkanaaVxR
set_option linter.all false
namespace Go.Proofs.Ytecdkapjjhkanaa
open Go Go.Vx
set_option maxRecDepth 10000
set_option maxHeartbeats 1000000
def rappl (lo hi : Int) (v : Int) : List Line → Int × Bool
  | [] => (0, false)
  | l :: tl => if (decide (l.a ≤ v) && decide (v ≤ l.b)) = true then (if wi (l.m * v + l.c) lo hi then (l.m * v + l.c, true) else (0, false)) else rappl lo hi v tl
theorem appl_none {lo hi v : Int} : ∀ (ls : List Line), (∀ l ∈ ls, v < l.a) → appl lo hi v ls = (0, false)
  | [], _ => rfl
  | x :: tl, h => by
    have := h x (by simp)
    rw [appl, if_neg (by simp [wi]; omega)]
    exact appl_none tl fun l hl => h l (by simp [hl])
theorem rappl_eq {lo hi v : Int} : ∀ (ls : List Line) (p : Option Int), chkA p ls = 0 → rappl lo hi v ls = appl lo hi v ls
  | [], _, _ => rfl
  | x :: tl, p, h => by
    obtain ⟨hx, h1, h2⟩ := chkA_cons h
    rw [rappl, appl]
    by_cases hv : x.a ≤ v ∧ v ≤ x.b
    · rw [if_pos (by simpa using hv)]
      by_cases hw : wi (x.m * v + x.c) lo hi = true
      · rw [if_pos hw, if_pos (by simp only [Bool.and_eq_true]; exact ⟨by simpa [wi] using hv, hw⟩)]
      · rw [if_neg hw, if_neg (by simp only [Bool.and_eq_true]; exact fun hh => hw hh.2), appl_none tl]
        intro l hl
        have := chkA_after tl _ h2 l hl x.b rfl
        omega
    · rw [if_neg (by simpa using hv), if_neg (by simp [wi]; omega)]
      exact rappl_eq tl _ h2
def grainL : Int → List Line → Int
  | g, [] => g
  | g, l :: tl => grainL (if l.a < l.b then max g (max l.m (-l.m)) else g) tl
def outGrain (den : Int) (ls : List Line) (lo hi : Int) : Int × Int := if chkC den ls lo hi = 0 then (grainL 0 ls, 0) else (0, chkC den ls lo hi)

def iv (z : Int) : List AV := [.int .i64 z]
def xAt (n lo hi : Int) (i : Nat) : Int := if i = 0 then n else if i = 1 then lo else hi
def cnd (l : Line) (q d : Int) : Int := min (max (q + d) l.a) l.b
def cIn (l : Line) (q : Int) (j : Nat) : List Int := (List.range j).map fun (k : Nat) => cnd l q ((k : Int) - 1)
def cOut (n lo hi : Int) (l : Line) (i : Nat) : List Int := [l.a, l.b] ++ (List.range i).flatMap fun k => cIn l (flo (xAt n lo hi k - l.c) l.m) 4
def candL (n lo hi : Int) (l : Line) : List Int := if l.m = 0 then [l.a, l.b] else cOut n lo hi l 3
theorem cIn_succ (l : Line) (q : Int) (j : Nat) : cIn l q (j + 1) = cIn l q j ++ [cnd l q ((j : Int) - 1)] := by simp [cIn, List.range_succ]
theorem cOut_succ (n lo hi : Int) (l : Line) (i : Nat) : cOut n lo hi l (i + 1) = cOut n lo hi l i ++ cIn l (flo (xAt n lo hi i - l.c) l.m) 4 := by simp [cOut, List.range_succ, List.flatMap_append]
theorem rowsI {n : Nat} (hn : n = 1) (xs : List Int) : ∀ row ∈ xs.map iv, row.length = n ∧ row.all datB = true := by
  intro row hr
  obtain ⟨x, _, rfl⟩ := List.mem_map.1 hr
  exact ⟨hn.symm, rfl⟩
theorem xAt_b {n lo hi : Int} (hn : -1125899906842624 ≤ n ∧ n ≤ 1125899906842624) (hr : okR lo hi) (i : Nat) : -1125899906842624 ≤ xAt n lo hi i ∧ xAt n lo hi i ≤ 1125899906842624 := by
  obtain ⟨h1, h2, h3, h4, h5⟩ := hr
  unfold xAt
  split
  · exact hn
  · split
    · exact ⟨h1, h2⟩
    · exact ⟨h3, h4⟩

theorem rappl_in {lo hi v : Int} : ∀ (ls : List Line), (rappl lo hi v ls).2 = true → lo ≤ (rappl lo hi v ls).1 ∧ (rappl lo hi v ls).1 ≤ hi
  | [], h => by simp [rappl] at h
  | x :: tl, h => by
    rw [rappl] at h ⊢
    split at h
    · rename_i h1
      rw [if_pos h1]
      split at h
      · rename_i h2
        rw [if_pos h2]; simpa [wi] using h2
      · simp at h
    · rename_i h1
      rw [if_neg h1]; exact rappl_in tl h
def rcond (r : Int × Int × Bool) (v d : Int) : Bool := (!r.2.2 || decide (d < r.2.1)) || (decide (d = r.2.1) && decide (v < r.1))
def rD (n : Int) (a : Int) : Int := max (a - n) (n - a)
def rstep (n lo hi : Int) (ls : List Line) (r : Int × Int × Bool) (v : Int) : Int × Int × Bool :=
  if (rappl lo hi v ls).2 = true then (if rcond r v (rD n (rappl lo hi v ls).1) = true then (v, rD n (rappl lo hi v ls).1, true) else r) else r
def rfold (n lo hi : Int) (ls : List Line) : Int × Int × Bool → List Int → Int × Int × Bool
  | r, [] => r
  | r, v :: tl => rfold n lo hi ls (rstep n lo hi ls r v) tl
def router (n lo hi : Int) (ls : List Line) : Int × Int × Bool → List Line → Int × Int × Bool
  | r, [] => r
  | r, l :: tl => router n lo hi ls (rfold n lo hi ls r (candL n lo hi l)) tl
def outRNear (den : Int) (ls : List Line) (lo hi n : Int) : Int × Int :=
  if chkC den ls lo hi = 0 then (if wi n (-1125899906842624) 1125899906842624 then (if (router n lo hi ls (0, 0, false) ls).2.2 = true then ((router n lo hi ls (0, 0, false) ls).1, 0) else (0, 4)) else (0, 9)) else (0, chkC den ls lo hi)
theorem candL_len (n lo hi : Int) (l : Line) : (candL n lo hi l).length ≤ 14 := by
  unfold candL; split
  · simp
  · simp [cOut, cIn, List.range_succ]

theorem rtA35 : tAgg Try.prog 35 4 = true := by kernel_rfl
theorem rtF35_0 : tFld Try.prog 35 0 0 = true := by kernel_rfl
theorem rtS3 : tScal Try.prog 3 = true := by kernel_rfl
theorem rtF35_1 : tFld Try.prog 35 1 1 = true := by kernel_rfl
theorem rtS33 : tScal Try.prog 33 = true := by kernel_rfl
theorem rtL33 : tSl Try.prog 33 56 4 32 = true := by kernel_rfl
theorem rtA56 : tAgg Try.prog 56 4 = true := by kernel_rfl
theorem rtZ56 : zeroOf Try.prog 56 = some [.int .i64 0, .int .i64 0, .int .i64 0, .int .i64 0] := by kernel_rfl
theorem rtZ_56 : Try.prog.cellsOf 56 = 4 := by kernel_rfl
theorem rtF56_0 : tFld Try.prog 56 0 0 = true := by kernel_rfl
theorem rtF56_1 : tFld Try.prog 56 1 1 = true := by kernel_rfl
theorem rtF56_2 : tFld Try.prog 56 2 2 = true := by kernel_rfl
theorem rtF56_3 : tFld Try.prog 56 3 3 = true := by kernel_rfl
theorem rtF35_2 : tFld Try.prog 35 2 2 = true := by kernel_rfl
theorem rtF35_3 : tFld Try.prog 35 3 3 = true := by kernel_rfl
theorem rtL25 : tSl Try.prog 25 3 1 8 = true := by kernel_rfl
theorem rtR88 : tArr Try.prog 88 3 3 1 = true := by kernel_rfl
theorem rtZ88 : zeroOf Try.prog 88 = some [.int .i64 0, .int .i64 0, .int .i64 0] := by kernel_rfl
theorem rtZ_3 : Try.prog.cellsOf 3 = 1 := by kernel_rfl

-- ref5.outside (function 33)
theorem outside_ok (n lo hi : Int) : CSpec Try.prog 33 [.int .i64 n, .int .i64 lo, .int .i64 hi] (.bool (!wi n lo hi)) := by
  refine spec_of (by kernel_rfl) Try.func33 rfl rfl ?_
  intro w0 A
  refine T_keep (kc 0 rfl <| kc 1 rfl <| kc 2 rfl <| kn) rfl ?_
  refine T_seq (T_reg ?_)   -- region 0
  refine R_q _ rfl (v_assign (ov rfl)) ?_
  refine R_nil ?_
  refine T_keep (kc 0 rfl <| kc 1 rfl <| kc 2 rfl <| kn) rfl ?_
  refine T_seq (T_reg ?_)   -- region 1
  refine R_q _ rfl (v_move (ov rfl)) ?_
  refine R_q _ rfl (v_move (ov rfl)) ?_
  refine R_q _ rfl (v_lss (ov rfl) (ov rfl)) ?_
  refine R_q _ rfl (v_move (ov rfl)) ?_
  refine R_q _ rfl (.guarded _ rfl rfl rfl rfl fun h => v_move (ov rfl)) ?_
  refine R_q _ rfl (.guarded _ rfl rfl rfl rfl fun h => v_move (ov rfl)) ?_
  refine R_q _ rfl (.guarded _ rfl rfl rfl rfl fun h => v_gtr (ow rfl h) (ow rfl h)) ?_
  refine R_q _ rfl (v_or (ov rfl) (fun hp => ow rfl (gF hp))) ?_
  refine R_q _ rfl (v_assign (ov rfl)) ?_
  refine R_nil ?_
  refine T_ret ?_
  refine retq ?_ (.one (.tmp rfl (Dat.view (.b rfl))))
  refine congrArg AV.bool ?_
  rw [Bool.eq_iff_iff]
  simp [wi] <;> omega

-- ref5.apart (function 35)
theorem apart_ok (a b : Int) (h1 : -4611686018427387904 ≤ a ∧ a ≤ 4611686018427387903) (h2 : -4611686018427387904 ≤ b ∧ b ≤ 4611686018427387903) : CSpec Try.prog 35 [.int .i64 a, .int .i64 b] (.int .i64 (max (a - b) (b - a))) := by
  refine spec_of (by kernel_rfl) Try.func35 rfl rfl ?_
  intro w0 A
  refine T_keep (kc 0 rfl <| kc 1 rfl <| kn) rfl ?_
  refine T_seq (T_reg ?_)   -- region 0
  refine R_q _ rfl (v_assign (ov rfl)) ?_
  refine R_nil ?_
  refine T_keep (kc 0 rfl <| kc 1 rfl <| kn) rfl ?_
  refine T_seq (T_reg ?_)   -- region 1
  refine R_q _ rfl (v_move (ov rfl)) ?_
  refine R_q _ rfl (v_move (ov rfl)) ?_
  refine R_q _ rfl (v_sub (ov rfl) (ov rfl) (w64 (by first | omega | (simp at *; omega) | (simp_all; omega)) (by first | omega | (simp at *; omega) | (simp_all; omega)))) ?_
  refine R_q _ rfl (v_move (ov rfl)) ?_
  refine R_q _ rfl (v_move (ov rfl)) ?_
  refine R_q _ rfl (v_sub (ov rfl) (ov rfl) (w64 (by first | omega | (simp at *; omega) | (simp_all; omega)) (by first | omega | (simp at *; omega) | (simp_all; omega)))) ?_
  refine R_q _ rfl (v_max (ov rfl) (ov rfl) rfl) ?_
  refine R_q _ rfl (v_assign (ov rfl)) ?_
  refine R_nil ?_
  refine T_ret ?_
  refine retq ?_ (.one (.tmp rfl (Dat.view (.b rfl))))
  first | rfl | simp_all

-- ref5.floor (function 54)
theorem rfloor_ok (n d : Int) (hd : d ≠ 0) (hn : -4611686018427387904 ≤ n ∧ n ≤ 4611686018427387904) (hd2 : -4611686018427387904 ≤ d ∧ d ≤ 4611686018427387904) : CSpec Try.prog 54 [.int .i64 n, .int .i64 d] (.int .i64 (flo n d)) := by
  refine spec_of (by kernel_rfl) Try.func54 rfl rfl ?_
  intro w0 A
  refine T_keep (kc 0 rfl <| kc 1 rfl <| kn) rfl ?_
  refine T_seq (T_reg ?_)   -- region 0
  refine R_q _ rfl (v_assign (ov rfl)) ?_
  refine R_nil ?_
  refine T_join (ι := Unit) (fun _ => True) (fun _ => ⟨[(0, .int .i64 (if d < 0 then -n else n)), (1, .int .i64 (if d < 0 then -d else d))], []⟩) ?_ ?_
  · skip
    refine T_keep (kc 0 rfl <| kc 1 rfl <| kn) rfl ?_
    refine T_seq (T_reg ?_)   -- region 1
    refine R_q _ rfl (v_move (ov rfl)) ?_
    refine R_q _ rfl (v_lss (ov rfl) (ov rfl)) ?_
    refine R_nil ?_
    refine T_keep (kc 0 rfl <| kc 1 rfl <| kc 7 rfl <| kn) rfl ?_
    refine T_cond rfl (fun h7 => ?_) (fun h7 => ?_)
    · skip
      have hneg : d < 0 := by simpa using h7
      refine T_keep (kc 0 rfl <| kc 1 rfl <| kn) rfl ?_
      refine T_reg ?_   -- region 2
      refine R_q _ rfl (v_move (ov rfl)) ?_
      refine R_q _ rfl (v_neg (ov rfl) (w64 (by omega) (by omega))) ?_
      refine R_q _ rfl (v_move (ov rfl)) ?_
      refine R_q _ rfl (v_neg (ov rfl) (w64 (by omega) (by omega))) ?_
      refine R_q _ rfl (v_assign (ov rfl)) ?_
      refine R_q _ rfl (v_assign (ov rfl)) ?_
      refine R_nil ?_
      exact ⟨(), trivial, Ent.keep (ke 0 rfl (by rw [if_pos hneg]) <| ke 1 rfl (by rw [if_pos hneg]) <| kn) rfl⟩
    · skip
      have hneg : ¬ d < 0 := by simpa using h7
      refine T_skip ?_
      exact ⟨(), trivial, Ent.keep (ke 0 rfl (by rw [if_neg hneg]) <| ke 1 rfl (by rw [if_neg hneg]) <| kn) rfl⟩
  intro _ _
  refine T_keep (kc 0 rfl <| kc 1 rfl <| kn) rfl ?_
  generalize he : (if d < 0 then -n else n) = n2
  generalize he2 : (if d < 0 then -d else d) = d2
  have hp : 0 < d2 := by rw [← he2]; split <;> omega
  have hf : flo n d = n2 / d2 := by
    unfold flo; rw [← he, ← he2]; by_cases h : d < 0
    · rw [if_pos h, if_pos h, if_neg (by omega)]
    · rw [if_neg h, if_neg h, if_pos (by omega)]
  have hn2 : -4611686018427387904 ≤ n2 ∧ n2 ≤ 4611686018427387904 := by rw [← he]; split <;> omega
  have hq := tdiv_b hp hn2.1 hn2.2
  have hfe := floor_eq (n := n2) hp
  have hsg : n2.tmod d2 < 0 ↔ (n2.tmod d2 ≠ 0 ∧ n2 < 0) := by
    constructor
    · intro h; refine ⟨by omega, ?_⟩
      rcases Int.lt_or_le n2 0 with hh | hh
      · exact hh
      · have := Int.tmod_nonneg d2 hh; omega
    · rintro ⟨h, hh⟩; have := Int.tmod_nonneg d2 (a := -n2) (by omega); rw [Int.neg_tmod] at this; omega
  refine T_seq (T_reg ?_)   -- region 3
  refine R_q _ rfl (v_move (ov rfl)) ?_
  refine R_q _ rfl (v_move (ov rfl)) ?_
  refine R_q _ rfl (v_quo (ov rfl) (ov rfl) (by omega) (w64 (by omega) (by omega))) ?_
  refine R_q _ rfl (v_assign (ov rfl)) ?_
  refine R_nil ?_
  refine T_seq ?_
  refine T_keep (kc 0 rfl <| kc 1 rfl <| kc 5 rfl <| kn) rfl ?_
  refine T_seq (T_reg ?_)   -- region 4
  refine R_q _ rfl (v_move (ov rfl)) ?_
  refine R_q _ rfl (v_move (ov rfl)) ?_
  refine R_q _ rfl (v_rem (ov rfl) (ov rfl) (by omega) rfl) ?_
  refine R_q _ rfl (v_lss (ov rfl) (ov rfl)) ?_
  refine R_nil ?_
  refine T_keep (kc 5 rfl <| kc 18 rfl <| kn) rfl ?_
  refine T_cond rfl (fun h18 => ?_) (fun h18 => ?_)
  · skip
    have hv := h18
    simp only [decide_eq_true_eq] at hv
    refine T_keep (kc 5 rfl <| kn) rfl ?_
    refine T_reg ?_   -- region 5
    refine R_q _ rfl (v_move (ov rfl)) ?_
    refine R_q _ rfl (v_sub (ov rfl) (ov rfl) (w64 (by first | omega | (simp at *; omega) | (simp_all; omega)) (by first | omega | (simp at *; omega) | (simp_all; omega)))) ?_
    refine R_q _ rfl (v_assign (ov rfl)) ?_
    refine R_nil ?_
    refine T_keep (kc 5 rfl <| kn) rfl ?_
    refine T_seq (T_reg ?_)   -- region 6
    refine R_q _ rfl (v_move (ov rfl)) ?_
    refine R_q _ rfl (v_assign (ov rfl)) ?_
    refine R_nil ?_
    refine T_ret ?_
    refine retq ?_ (.one (.tmp rfl (Dat.view (.b rfl))))
    rw [hf, hfe, if_pos (hsg.1 hv)]
  · skip
    have hv := h18
    simp only [decide_eq_false_iff_not] at hv
    refine T_skip ?_
    refine T_keep (kc 5 rfl <| kn) rfl ?_
    refine T_seq (T_reg ?_)   -- region 6
    refine R_q _ rfl (v_move (ov rfl)) ?_
    refine R_q _ rfl (v_assign (ov rfl)) ?_
    refine R_nil ?_
    refine T_ret ?_
    refine retq ?_ (.one (.tmp rfl (Dat.view (.b rfl))))
    rw [hf, hfe, if_neg (fun h => hv (hsg.2 h))]

-- ref5.CheckCalibration (function 14)
theorem rchkC_ok (den : Int) (ls : List Line) (lo hi : Int) : CSpec Try.prog 14 [.agg (calL den ls lo hi)] (.int .i64 (chkC den ls lo hi)) := by
  refine spec_of (by kernel_rfl) Try.func14 rfl rfl ?_
  intro w0 A
  refine T_keep (kc 0 rfl <| kn) rfl ?_
  refine T_seq (T_reg ?_)   -- region 0
  refine R_w _ _ rfl (w_box 0 rfl (ov rfl) rtA35 rfl) ?_
  refine R_q _ rfl (v_assign (ov rfl)) ?_
  refine R_nil ?_
  refine T_seq ?_
  refine T_keep (kc 1 rfl <| kn) rfl ?_
  refine T_seq (T_reg ?_)   -- region 1
  refine R_q _ rfl ((by first | exact v_fieldP (ov rfl) rfl rfl rtF35_0 | exact v_fieldR (ov rfl) rtF35_0)) ?_
  refine R_q _ rfl ((by first | exact v_loadS (ov rfl) rfl rfl rfl rtS3 rfl | exact v_loadS_r (ov rfl) rtS3 rfl)) ?_
  refine R_q _ rfl (v_call (outside_ok _ _ _) (.cons (ov rfl) (by first | exact .b rfl | exact .aggB rfl | exact .fn) <| .cons (ov rfl) (by first | exact .b rfl | exact .aggB rfl | exact .fn) <| .cons (ov rfl) (by first | exact .b rfl | exact .aggB rfl | exact .fn) <| .nil)) ?_
  refine R_nil ?_
  refine T_keep (kc 1 rfl <| kc 9 rfl <| kn) rfl ?_
  refine T_cond rfl (fun h9 => ?_) (fun h9 => ?_)
  · skip
    have hd : wi den 1 1000000 = false := by simpa using h9
    refine T_keep (kn) rfl ?_
    refine T_seq (T_reg ?_)   -- region 2
    refine R_q _ rfl (v_assign (ov rfl)) ?_
    refine R_nil ?_
    refine T_ret ?_
    refine retq ?_ (.one (.tmp rfl (Dat.view (.b rfl))))
    rw [chkC_0 hd]; rfl
  · skip
    have hd : wi den 1 1000000 = true := by simpa using h9
    refine T_skip ?_
    refine T_seq ?_
    refine T_keep (kc 1 rfl <| kn) rfl ?_
    refine T_seq (T_reg ?_)   -- region 3
    refine R_q _ rfl ((by first | exact v_fieldP (ov rfl) rfl rfl rtF35_1 | exact v_fieldR (ov rfl) rtF35_1)) ?_
    refine R_q _ rfl ((by first | exact v_loadS (ov rfl) rfl rfl rfl rtS33 rfl | exact v_loadS_r (ov rfl) rtS33 rfl)) ?_
    refine R_q _ rfl ((by first | exact v_len (slv_sl (ov rfl) rfl) rtL33 (len_map _ _) | exact v_len (slv_sl (ov rfl) rfl) rtL33 rfl | exact v_len (slv_own (ov rfl) rfl rfl rfl) rtL33 rfl)) ?_
    refine R_q _ rfl (v_eql (ov rfl) (ov rfl)) ?_
    refine R_nil ?_
    refine T_keep (kc 1 rfl <| kc 13 rfl <| kn) rfl ?_
    refine T_cond rfl (fun h13 => ?_) (fun h13 => ?_)
    · skip
      have hl0 : (ls.length : Int) = 0 := by simpa using h13
      refine T_keep (kn) rfl ?_
      refine T_seq (T_reg ?_)   -- region 4
      refine R_q _ rfl (v_assign (ov rfl)) ?_
      refine R_nil ?_
      refine T_ret ?_
      refine retq ?_ (.one (.tmp rfl (Dat.view (.b rfl))))
      rw [chkC_1 hd hl0]; rfl
    · skip
      have hl0 : ¬ (ls.length : Int) = 0 := by simpa using h13
      refine T_skip ?_
      refine T_seq ?_
      refine T_keep (kc 1 rfl <| kn) rfl ?_
      refine T_seq (T_reg ?_)   -- region 5
      refine R_q _ rfl ((by first | exact v_fieldP (ov rfl) rfl rfl rtF35_1 | exact v_fieldR (ov rfl) rtF35_1)) ?_
      refine R_q _ rfl ((by first | exact v_loadS (ov rfl) rfl rfl rfl rtS33 rfl | exact v_loadS_r (ov rfl) rtS33 rfl)) ?_
      refine R_q _ rfl ((by first | exact v_len (slv_sl (ov rfl) rfl) rtL33 (len_map _ _) | exact v_len (slv_sl (ov rfl) rfl) rtL33 rfl | exact v_len (slv_own (ov rfl) rfl rfl rfl) rtL33 rfl)) ?_
      refine R_q _ rfl (v_gtr (ov rfl) (ov rfl)) ?_
      refine R_nil ?_
      refine T_keep (kc 1 rfl <| kc 17 rfl <| kn) rfl ?_
      refine T_cond rfl (fun h17 => ?_) (fun h17 => ?_)
      · skip
        have hl5 : 50 < (ls.length : Int) := by simpa using h17
        refine T_keep (kn) rfl ?_
        refine T_seq (T_reg ?_)   -- region 6
        refine R_q _ rfl (v_assign (ov rfl)) ?_
        refine R_nil ?_
        refine T_ret ?_
        refine retq ?_ (.one (.tmp rfl (Dat.view (.b rfl))))
        rw [chkC_2 hd hl0 hl5]; rfl
      · skip
        have hl5 : ¬ 50 < (ls.length : Int) := by simpa using h17
        refine T_skip ?_
        refine T_seq ?_
        refine T_keep (kc 1 rfl <| kn) rfl ?_
        refine T_seq (T_reg ?_)   -- region 7
        refine R_q _ rfl (v_assign (ov rfl)) ?_
        refine R_nil ?_
        refine T_block ?_   -- block 0
        refine T_loop (ι := Nat) (fun k => k ≤ ls.length ∧ chkA none ls = chkA (prevB ls k) (ls.drop k)) (fun k => ⟨[(1, .ptr 0 1 0 0), (3, .int .i64 k)], [some ⟨35, [calL den ls lo hi]⟩]⟩) (fun k => ls.length - k) 0 (⟨by omega, rfl⟩) (Ent.keep (kc 1 rfl <| kc 3 rfl <| kn) rfl) ?_
        intro k hC
        obtain ⟨hk, hc⟩ := hC
        refine T_seq ?_
        refine T_keep (kc 1 rfl <| kc 3 rfl <| kn) rfl ?_
        refine T_seq (T_reg ?_)   -- region 8
        refine R_q _ rfl (v_move (ov rfl)) ?_
        refine R_q _ rfl ((by first | exact v_fieldP (ov rfl) rfl rfl rtF35_1 | exact v_fieldR (ov rfl) rtF35_1)) ?_
        refine R_q _ rfl ((by first | exact v_loadS (ov rfl) rfl rfl rfl rtS33 rfl | exact v_loadS_r (ov rfl) rtS33 rfl)) ?_
        refine R_q _ rfl ((by first | exact v_len (slv_sl (ov rfl) rfl) rtL33 (len_map _ _) | exact v_len (slv_sl (ov rfl) rfl) rtL33 rfl | exact v_len (slv_own (ov rfl) rfl rfl rfl) rtL33 rfl)) ?_
        refine R_q _ rfl (v_lss (ov rfl) (ov rfl)) ?_
        refine R_nil ?_
        refine T_keep (kc 1 rfl <| kc 3 rfl <| kc 22 rfl <| kn) rfl ?_
        refine T_cond rfl (fun h22 => ?_) (fun h22 => ?_)
        · skip
          try simp at h22
          refine T_skip ?_
          refine T_seq ?_
          refine T_block ?_   -- block 1
          refine T_keep (kc 1 rfl <| kc 3 rfl <| kn) rfl ?_
          obtain ⟨x, hx⟩ := get_ex (xs := ls) (k := k) (by omega)
          refine T_seq (T_reg ?_)   -- region 10
          refine R_q _ rfl ((by first | exact v_fieldP (ov rfl) rfl rfl rtF35_1 | exact v_fieldR (ov rfl) rtF35_1)) ?_
          refine R_q _ rfl ((by first | exact v_loadS (ov rfl) rfl rfl rfl rtS33 rfl | exact v_loadS_r (ov rfl) rtS33 rfl)) ?_
          refine R_q _ rfl (v_move (ov rfl)) ?_
          refine R_q _ rfl ((by first | exact v_ixS (ov rfl) (ov rfl) rtL33 rfl (row_map (by assumption)) | exact v_ixO (ov rfl) (ov rfl) rtL33 rfl rfl (by assumption))) ?_
          refine R_q _ rfl ((by first | exact v_loadA (ov rfl) rfl rfl rfl rtA56 rfl rfl | exact v_loadA_r (ov rfl) rtA56 rfl rfl)) ?_
          refine R_w _ _ rfl (w_alloc (row := [_, _, _, _]) 1 rfl rtZ56 rfl rtZ_56) ?_
          refine R_w _ _ rfl (w_store (ov rfl) (ov rfl) (cells_agg rtA56 rfl) rfl rfl rfl (Nat.le_of_ble_eq_true rfl) (cell1_all rfl) rfl) ?_
          refine R_nil ?_
          refine T_seq ?_
          refine T_keep (kc 1 rfl <| kc 3 rfl <| kc 4 rfl <| kn) rfl ?_
          refine T_seq (T_reg ?_)   -- region 11
          refine R_q _ rfl ((by first | exact v_fieldP (ov rfl) rfl rfl rtF56_0 | exact v_fieldR (ov rfl) rtF56_0)) ?_
          refine R_q _ rfl ((by first | exact v_loadS (ov rfl) rfl rfl rfl rtS3 rfl | exact v_loadS_r (ov rfl) rtS3 rfl)) ?_
          refine R_q _ rfl (v_call (outside_ok _ _ _) (.cons (ov rfl) (by first | exact .b rfl | exact .aggB rfl | exact .fn) <| .cons (ov rfl) (by first | exact .b rfl | exact .aggB rfl | exact .fn) <| .cons (ov rfl) (by first | exact .b rfl | exact .aggB rfl | exact .fn) <| .nil)) ?_
          refine R_q _ rfl (v_move (ov rfl)) ?_
          refine R_q _ rfl (.guarded _ rfl rfl rfl rfl fun h => (by first | exact v_fieldP (ov rfl) rfl rfl rtF56_1 | exact v_fieldR (ov rfl) rtF56_1)) ?_
          refine R_q _ rfl (.guarded _ rfl rfl rfl rfl fun h => (by first | exact v_loadS (ow rfl h) rfl rfl rfl rtS3 rfl | exact v_loadS_r (ow rfl h) rtS3 rfl)) ?_
          refine R_q _ rfl (.guarded _ rfl rfl rfl rfl fun h => v_call (outside_ok _ _ _) (.cons (ow rfl h) (by first | exact .b rfl | exact .aggB rfl | exact .fn) <| .cons (ov rfl) (by first | exact .b rfl | exact .aggB rfl | exact .fn) <| .cons (ov rfl) (by first | exact .b rfl | exact .aggB rfl | exact .fn) <| .nil)) ?_
          refine R_q _ rfl (v_or (ov rfl) (fun hp => ow rfl (gF hp))) ?_
          refine R_q _ rfl (v_move (ov rfl)) ?_
          refine R_q _ rfl (.guarded _ rfl rfl rfl rfl fun h => (by first | exact v_fieldP (ov rfl) rfl rfl rtF56_0 | exact v_fieldR (ov rfl) rtF56_0)) ?_
          refine R_q _ rfl (.guarded _ rfl rfl rfl rfl fun h => (by first | exact v_loadS (ow rfl h) rfl rfl rfl rtS3 rfl | exact v_loadS_r (ow rfl h) rtS3 rfl)) ?_
          refine R_q _ rfl (.guarded _ rfl rfl rfl rfl fun h => (by first | exact v_fieldP (ov rfl) rfl rfl rtF56_1 | exact v_fieldR (ov rfl) rtF56_1)) ?_
          refine R_q _ rfl (.guarded _ rfl rfl rfl rfl fun h => (by first | exact v_loadS (ow rfl h) rfl rfl rfl rtS3 rfl | exact v_loadS_r (ow rfl h) rtS3 rfl)) ?_
          refine R_q _ rfl (.guarded _ rfl rfl rfl rfl fun h => v_gtr (ow rfl h) (ow rfl h)) ?_
          refine R_q _ rfl (v_or (ov rfl) (fun hp => ow rfl (gF hp))) ?_
          refine R_q _ rfl (v_move (ov rfl)) ?_
          refine R_q _ rfl (.guarded _ rfl rfl rfl rfl fun h => (by first | exact v_fieldP (ov rfl) rfl rfl rtF56_2 | exact v_fieldR (ov rfl) rtF56_2)) ?_
          refine R_q _ rfl (.guarded _ rfl rfl rfl rfl fun h => (by first | exact v_loadS (ow rfl h) rfl rfl rfl rtS3 rfl | exact v_loadS_r (ow rfl h) rtS3 rfl)) ?_
          refine R_q _ rfl (.guarded _ rfl rfl rfl rfl fun h => v_call (outside_ok _ _ _) (.cons (ow rfl h) (by first | exact .b rfl | exact .aggB rfl | exact .fn) <| .cons (ov rfl) (by first | exact .b rfl | exact .aggB rfl | exact .fn) <| .cons (ov rfl) (by first | exact .b rfl | exact .aggB rfl | exact .fn) <| .nil)) ?_
          refine R_q _ rfl (v_or (ov rfl) (fun hp => ow rfl (gF hp))) ?_
          refine R_q _ rfl (v_move (ov rfl)) ?_
          refine R_q _ rfl (.guarded _ rfl rfl rfl rfl fun h => (by first | exact v_fieldP (ov rfl) rfl rfl rtF56_3 | exact v_fieldR (ov rfl) rtF56_3)) ?_
          refine R_q _ rfl (.guarded _ rfl rfl rfl rfl fun h => (by first | exact v_loadS (ow rfl h) rfl rfl rfl rtS3 rfl | exact v_loadS_r (ow rfl h) rtS3 rfl)) ?_
          refine R_q _ rfl (.guarded _ rfl rfl rfl rfl fun h => v_call (outside_ok _ _ _) (.cons (ow rfl h) (by first | exact .b rfl | exact .aggB rfl | exact .fn) <| .cons (ov rfl) (by first | exact .b rfl | exact .aggB rfl | exact .fn) <| .cons (ov rfl) (by first | exact .b rfl | exact .aggB rfl | exact .fn) <| .nil)) ?_
          refine R_q _ rfl (v_or (ov rfl) (fun hp => ow rfl (gF hp))) ?_
          refine R_nil ?_
          refine T_keep (kc 1 rfl <| kc 3 rfl <| kc 4 rfl <| kc 54 rfl <| kn) rfl ?_
          refine T_cond rfl (fun h54 => ?_) (fun h54 => ?_)
          · skip
            replace h54 : badL x = true := h54
            refine T_keep (kn) rfl ?_
            refine T_seq (T_reg ?_)   -- region 12
            refine R_q _ rfl (v_assign (ov rfl)) ?_
            refine R_nil ?_
            refine T_ret ?_
            refine retq ?_ (.one (.tmp rfl (Dat.view (.b rfl))))
            have : chkA none ls = 9 := by rw [hc, drop_cons hx, chkA, h54]; simp
            rw [chkC_A hd hl0 hl5 (by omega), this]; rfl
          · skip
            replace h54 : badL x = false := h54
            have hxo := okL_of h54
            refine T_skip ?_
            refine T_keep (kc 1 rfl <| kc 3 rfl <| kc 4 rfl <| kn) rfl ?_
            have hy : ∃ y, 0 < k → ls[k-1]? = some y := by
              by_cases h : 0 < k
              · obtain ⟨y, hy⟩ := get_ex (xs := ls) (k := k - 1) (by omega); exact ⟨y, fun _ => hy⟩
              · exact ⟨x, fun h' => absurd h' h⟩
            obtain ⟨y, hy⟩ := hy
            refine T_seq (T_draw (cw := false) (by kernel_rfl) ?_)   -- region 13 draws
            refine D_oneq 0 _ rfl (by kernel_rfl) rfl rfl (fun hp' => v_move (ov rfl)) ?_
            refine D_oneq 1 _ rfl (by kernel_rfl) rfl rfl (fun hp' => v_gtr (ov rfl) (ov rfl)) ?_
            refine D_oneq 2 _ rfl (by kernel_rfl) rfl rfl (fun hp' => v_move (ov rfl)) ?_
            refine D_read 3 _ rfl (by kernel_rfl) rfl rfl (fun hp' hx => .guarded _ rfl rfl rfl rfl fun h => (by first | exact v_fieldP (ov rfl) (hx.2 _ _ rfl) rfl rtF56_0 | exact v_fieldR (ov rfl) rtF56_0)) ?_
            refine D_read 4 _ rfl (by kernel_rfl) rfl rfl (fun hp' hx => .guarded _ rfl rfl rfl rfl fun h => (by first | exact v_loadS (ow rfl h) (hx.2 _ _ rfl) rfl rfl rtS3 rfl | exact v_loadS_r (ow rfl h) rtS3 rfl)) ?_
            refine D_read 5 _ rfl (by kernel_rfl) rfl rfl (fun hp' hx => .guarded _ rfl rfl rfl rfl fun h => (by first | exact v_fieldP (ov rfl) (hx.2 _ _ rfl) rfl rtF35_1 | exact v_fieldR (ov rfl) rtF35_1)) ?_
            refine D_read 6 _ rfl (by kernel_rfl) rfl rfl (fun hp' hx => .guarded _ rfl rfl rfl rfl fun h => (by first | exact v_loadS (ow rfl h) (hx.2 _ _ rfl) rfl rfl rtS33 rfl | exact v_loadS_r (ow rfl h) rtS33 rfl)) ?_
            refine D_oneq 7 _ rfl (by kernel_rfl) rfl rfl (fun hp' => .guarded _ rfl rfl rfl rfl fun h => v_move (ov rfl)) ?_
            refine D_oneq 8 _ rfl (by kernel_rfl) rfl rfl (fun hp' => .guarded _ rfl rfl rfl rfl fun h => v_sub (ow rfl h) (ov rfl) (w64 (by first | omega | (simp at *; omega) | (simp_all; omega)) (by first | omega | (simp at *; omega) | (simp_all; omega)))) ?_
            refine D_oner 9 _ rfl (by kernel_rfl) rfl rfl (fun hp' hx => .guarded _ rfl rfl rfl rfl fun h => v_ixS (ow rfl h) (ow rfl h) rtL33 (m := k - 1) (by simp at h; omega) (row_map (hy (by simp at h; omega)))) ?_
            refine D_oner 10 _ rfl (by kernel_rfl) rfl rfl (fun hp' hx => .guarded _ rfl rfl rfl rfl fun h => (by first | exact v_fieldP (ow rfl h) (hx.2 _ _ rfl) rfl rtF56_1 | exact v_fieldR (ow rfl h) rtF56_1)) ?_
            refine D_oner 11 _ rfl (by kernel_rfl) rfl rfl (fun hp' hx => .guarded _ rfl rfl rfl rfl fun h => (by first | exact v_loadS (ow rfl h) (hx.2 _ _ rfl) rfl rfl rtS3 rfl | exact v_loadS_r (ow rfl h) rtS3 rfl)) ?_
            refine D_oneq 12 _ rfl (by kernel_rfl) rfl rfl (fun hp' => .guarded _ rfl rfl rfl rfl fun h => v_leq (ow rfl h) (ow rfl h)) ?_
            refine D_oneq 13 _ rfl (by kernel_rfl) rfl rfl (fun hp' => v_and (ov rfl) (fun hp => ow rfl (gT hp))) ?_
            refine D_done (by kernel_rfl) ?_
            refine T_keep (kc 1 rfl <| kc 3 rfl <| kc 68 rfl <| kn) rfl ?_
            refine T_cond rfl (fun h68 => ?_) (fun h68 => ?_)
            · skip
              replace h68 := (prevB_any hy).trans h68
              refine T_keep (kn) rfl ?_
              refine T_seq (T_reg ?_)   -- region 14
              refine R_q _ rfl (v_assign (ov rfl)) ?_
              refine R_nil ?_
              refine T_ret ?_
              refine retq ?_ (.one (.tmp rfl (Dat.view (.b rfl))))
              have : chkA none ls = 10 := by rw [hc, drop_cons hx, chkA, h54, h68]; simp
              rw [chkC_A hd hl0 hl5 (by omega), this]; rfl
            · skip
              replace h68 := (prevB_any hy).trans h68
              refine T_skip ?_
              refine T_keep (kc 1 rfl <| kc 3 rfl <| kn) rfl ?_
              refine T_reg ?_   -- region 9
              refine R_q _ rfl (v_move (ov rfl)) ?_
              refine R_q _ rfl (v_add (ov rfl) (ov rfl) (w64 (by first | omega | (simp at *; omega) | (simp_all; omega)) (by first | omega | (simp at *; omega) | (simp_all; omega)))) ?_
              refine R_q _ rfl (v_assign (ov rfl)) ?_
              refine R_nil ?_
              exact ⟨k + 1, ⟨by omega, by rw [hc, drop_cons hx, chkA, prevB_succ hx, h54, h68]; simp⟩, (by first | omega | (simp at *; omega) | (simp_all; omega)), Ent.cutB (ke 1 rfl rfl <| ke 3 rfl (by push_cast; rfl) <| kn) rfl rfl rfl⟩
        · skip
          have hk0 : ls.length ≤ k := by simpa using h22
          have hA : chkA none ls = 0 := by rw [hc, List.drop_eq_nil_of_le hk0, chkA]
          have hok := chkA_ok ls none hA
          refine T_exit ?_   -- exit 0
          refine T_seq ?_
          refine T_keep (kc 1 rfl <| kn) rfl ?_
          refine T_seq (T_reg ?_)   -- region 15
          refine R_q _ rfl (v_assign (ov rfl)) ?_
          refine R_nil ?_
          refine T_block ?_   -- block 2
          refine T_loop (ι := Nat) (fun k => k ≤ ls.length ∧ chkB ls = chkB (ls.drop k)) (fun k => ⟨[(1, .ptr 0 1 0 0), (5, .int .i64 k)], [some ⟨35, [calL den ls lo hi]⟩]⟩) (fun k => ls.length - k) 0 (⟨by omega, rfl⟩) (Ent.keep (kc 1 rfl <| kc 5 rfl <| kn) rfl) ?_
          intro k hC
          obtain ⟨hk, hc2⟩ := hC
          refine T_seq ?_
          refine T_keep (kc 1 rfl <| kc 5 rfl <| kn) rfl ?_
          refine T_seq (T_reg ?_)   -- region 16
          refine R_q _ rfl (v_move (ov rfl)) ?_
          refine R_q _ rfl ((by first | exact v_fieldP (ov rfl) rfl rfl rtF35_1 | exact v_fieldR (ov rfl) rtF35_1)) ?_
          refine R_q _ rfl ((by first | exact v_loadS (ov rfl) rfl rfl rfl rtS33 rfl | exact v_loadS_r (ov rfl) rtS33 rfl)) ?_
          refine R_q _ rfl ((by first | exact v_len (slv_sl (ov rfl) rfl) rtL33 (len_map _ _) | exact v_len (slv_sl (ov rfl) rfl) rtL33 rfl | exact v_len (slv_own (ov rfl) rfl rfl rfl) rtL33 rfl)) ?_
          refine R_q _ rfl (v_lss (ov rfl) (ov rfl)) ?_
          refine R_nil ?_
          refine T_keep (kc 1 rfl <| kc 5 rfl <| kc 73 rfl <| kn) rfl ?_
          refine T_cond rfl (fun h73 => ?_) (fun h73 => ?_)
          · skip
            try simp at h73
            refine T_skip ?_
            refine T_seq ?_
            refine T_block ?_   -- block 3
            refine T_keep (kc 1 rfl <| kc 5 rfl <| kn) rfl ?_
            obtain ⟨x, hx⟩ := get_ex (xs := ls) (k := k) (by omega)
            have hxo := hok x (List.mem_of_getElem? hx)
            have hm1 := hxo.mul hxo.1.1 hxo.1.2
            have hm2 := hxo.mul hxo.2.1.1 hxo.2.1.2
            have hxc := hxo.2.2.2.2
            refine T_seq (T_reg ?_)   -- region 18
            refine R_q _ rfl ((by first | exact v_fieldP (ov rfl) rfl rfl rtF35_1 | exact v_fieldR (ov rfl) rtF35_1)) ?_
            refine R_q _ rfl ((by first | exact v_loadS (ov rfl) rfl rfl rfl rtS33 rfl | exact v_loadS_r (ov rfl) rtS33 rfl)) ?_
            refine R_q _ rfl (v_move (ov rfl)) ?_
            refine R_q _ rfl ((by first | exact v_ixS (ov rfl) (ov rfl) rtL33 rfl (row_map (by assumption)) | exact v_ixO (ov rfl) (ov rfl) rtL33 rfl rfl (by assumption))) ?_
            refine R_q _ rfl ((by first | exact v_loadA (ov rfl) rfl rfl rfl rtA56 rfl rfl | exact v_loadA_r (ov rfl) rtA56 rfl rfl)) ?_
            refine R_w _ _ rfl (w_alloc (row := [_, _, _, _]) 1 rfl rtZ56 rfl rtZ_56) ?_
            refine R_w _ _ rfl (w_store (ov rfl) (ov rfl) (cells_agg rtA56 rfl) rfl rfl rfl (Nat.le_of_ble_eq_true rfl) (cell1_all rfl) rfl) ?_
            refine R_nil ?_
            refine T_keep (kc 1 rfl <| kc 5 rfl <| kc 6 rfl <| kn) rfl ?_
            refine T_seq (T_reg ?_)   -- region 19
            refine R_q _ rfl ((by first | exact v_fieldP (ov rfl) rfl rfl rtF56_2 | exact v_fieldR (ov rfl) rtF56_2)) ?_
            refine R_q _ rfl ((by first | exact v_loadS (ov rfl) rfl rfl rfl rtS3 rfl | exact v_loadS_r (ov rfl) rtS3 rfl)) ?_
            refine R_q _ rfl ((by first | exact v_fieldP (ov rfl) rfl rfl rtF56_0 | exact v_fieldR (ov rfl) rtF56_0)) ?_
            refine R_q _ rfl ((by first | exact v_loadS (ov rfl) rfl rfl rfl rtS3 rfl | exact v_loadS_r (ov rfl) rtS3 rfl)) ?_
            refine R_q _ rfl (v_mul (ov rfl) (ov rfl) (w64 (by first | omega | (simp at *; omega) | (simp_all; omega)) (by first | omega | (simp at *; omega) | (simp_all; omega)))) ?_
            refine R_q _ rfl ((by first | exact v_fieldP (ov rfl) rfl rfl rtF56_3 | exact v_fieldR (ov rfl) rtF56_3)) ?_
            refine R_q _ rfl ((by first | exact v_loadS (ov rfl) rfl rfl rfl rtS3 rfl | exact v_loadS_r (ov rfl) rtS3 rfl)) ?_
            refine R_q _ rfl (v_add (ov rfl) (ov rfl) (w64 (by first | omega | (simp at *; omega) | (simp_all; omega)) (by first | omega | (simp at *; omega) | (simp_all; omega)))) ?_
            refine R_q _ rfl (v_call (outside_ok _ _ _) (.cons (ov rfl) (by first | exact .b rfl | exact .aggB rfl | exact .fn) <| .cons (ov rfl) (by first | exact .b rfl | exact .aggB rfl | exact .fn) <| .cons (ov rfl) (by first | exact .b rfl | exact .aggB rfl | exact .fn) <| .nil)) ?_
            refine R_q _ rfl (v_move (ov rfl)) ?_
            refine R_q _ rfl (.guarded _ rfl rfl rfl rfl fun h => (by first | exact v_fieldP (ov rfl) rfl rfl rtF56_2 | exact v_fieldR (ov rfl) rtF56_2)) ?_
            refine R_q _ rfl (.guarded _ rfl rfl rfl rfl fun h => (by first | exact v_loadS (ow rfl h) rfl rfl rfl rtS3 rfl | exact v_loadS_r (ow rfl h) rtS3 rfl)) ?_
            refine R_q _ rfl (.guarded _ rfl rfl rfl rfl fun h => (by first | exact v_fieldP (ov rfl) rfl rfl rtF56_1 | exact v_fieldR (ov rfl) rtF56_1)) ?_
            refine R_q _ rfl (.guarded _ rfl rfl rfl rfl fun h => (by first | exact v_loadS (ow rfl h) rfl rfl rfl rtS3 rfl | exact v_loadS_r (ow rfl h) rtS3 rfl)) ?_
            refine R_q _ rfl (.guarded _ rfl rfl rfl rfl fun h => v_mul (ow rfl h) (ow rfl h) (w64 (by first | omega | (simp at *; omega) | (simp_all; omega)) (by first | omega | (simp at *; omega) | (simp_all; omega)))) ?_
            refine R_q _ rfl (.guarded _ rfl rfl rfl rfl fun h => (by first | exact v_fieldP (ov rfl) rfl rfl rtF56_3 | exact v_fieldR (ov rfl) rtF56_3)) ?_
            refine R_q _ rfl (.guarded _ rfl rfl rfl rfl fun h => (by first | exact v_loadS (ow rfl h) rfl rfl rfl rtS3 rfl | exact v_loadS_r (ow rfl h) rtS3 rfl)) ?_
            refine R_q _ rfl (.guarded _ rfl rfl rfl rfl fun h => v_add (ow rfl h) (ow rfl h) (w64 (by first | omega | (simp at *; omega) | (simp_all; omega)) (by first | omega | (simp at *; omega) | (simp_all; omega)))) ?_
            refine R_q _ rfl (.guarded _ rfl rfl rfl rfl fun h => v_call (outside_ok _ _ _) (.cons (ow rfl h) (by first | exact .b rfl | exact .aggB rfl | exact .fn) <| .cons (ov rfl) (by first | exact .b rfl | exact .aggB rfl | exact .fn) <| .cons (ov rfl) (by first | exact .b rfl | exact .aggB rfl | exact .fn) <| .nil)) ?_
            refine R_q _ rfl (v_or (ov rfl) (fun hp => ow rfl (gF hp))) ?_
            refine R_nil ?_
            refine T_keep (kc 1 rfl <| kc 5 rfl <| kc 100 rfl <| kn) rfl ?_
            refine T_cond rfl (fun h100 => ?_) (fun h100 => ?_)
            · skip
              replace h100 : badM x = true := h100
              refine T_keep (kn) rfl ?_
              refine T_seq (T_reg ?_)   -- region 20
              refine R_q _ rfl (v_assign (ov rfl)) ?_
              refine R_nil ?_
              refine T_ret ?_
              refine retq ?_ (.one (.tmp rfl (Dat.view (.b rfl))))
              have : chkB ls = 9 := by rw [hc2, drop_cons hx, chkB, h100]; simp
              rw [chkC_B hd hl0 hl5 hA (by omega), this]; rfl
            · skip
              replace h100 : badM x = false := h100
              refine T_skip ?_
              refine T_keep (kc 1 rfl <| kc 5 rfl <| kn) rfl ?_
              refine T_reg ?_   -- region 17
              refine R_q _ rfl (v_move (ov rfl)) ?_
              refine R_q _ rfl (v_add (ov rfl) (ov rfl) (w64 (by first | omega | (simp at *; omega) | (simp_all; omega)) (by first | omega | (simp at *; omega) | (simp_all; omega)))) ?_
              refine R_q _ rfl (v_assign (ov rfl)) ?_
              refine R_nil ?_
              exact ⟨k + 1, ⟨by omega, by rw [hc2, drop_cons hx, chkB, h100]; simp⟩, (by first | omega | (simp at *; omega) | (simp_all; omega)), Ent.cutB (ke 1 rfl rfl <| ke 5 rfl (by push_cast; rfl) <| kn) rfl rfl rfl⟩
          · skip
            have hk0 : ls.length ≤ k := by simpa using h73
            have hB : chkB ls = 0 := by rw [hc2, List.drop_eq_nil_of_le hk0, chkB]
            refine T_exit ?_   -- exit 2
            refine T_seq ?_
            refine T_keep (kc 1 rfl <| kn) rfl ?_
            refine T_seq (T_reg ?_)   -- region 21
            refine R_q _ rfl ((by first | exact v_fieldP (ov rfl) rfl rfl rtF35_2 | exact v_fieldR (ov rfl) rtF35_2)) ?_
            refine R_q _ rfl ((by first | exact v_loadS (ov rfl) rfl rfl rfl rtS3 rfl | exact v_loadS_r (ov rfl) rtS3 rfl)) ?_
            refine R_q _ rfl (v_call (outside_ok _ _ _) (.cons (ov rfl) (by first | exact .b rfl | exact .aggB rfl | exact .fn) <| .cons (ov rfl) (by first | exact .b rfl | exact .aggB rfl | exact .fn) <| .cons (ov rfl) (by first | exact .b rfl | exact .aggB rfl | exact .fn) <| .nil)) ?_
            refine R_q _ rfl (v_move (ov rfl)) ?_
            refine R_q _ rfl (.guarded _ rfl rfl rfl rfl fun h => (by first | exact v_fieldP (ov rfl) rfl rfl rtF35_3 | exact v_fieldR (ov rfl) rtF35_3)) ?_
            refine R_q _ rfl (.guarded _ rfl rfl rfl rfl fun h => (by first | exact v_loadS (ow rfl h) rfl rfl rfl rtS3 rfl | exact v_loadS_r (ow rfl h) rtS3 rfl)) ?_
            refine R_q _ rfl (.guarded _ rfl rfl rfl rfl fun h => v_call (outside_ok _ _ _) (.cons (ow rfl h) (by first | exact .b rfl | exact .aggB rfl | exact .fn) <| .cons (ov rfl) (by first | exact .b rfl | exact .aggB rfl | exact .fn) <| .cons (ov rfl) (by first | exact .b rfl | exact .aggB rfl | exact .fn) <| .nil)) ?_
            refine R_q _ rfl (v_or (ov rfl) (fun hp => ow rfl (gF hp))) ?_
            refine R_q _ rfl (v_move (ov rfl)) ?_
            refine R_q _ rfl (.guarded _ rfl rfl rfl rfl fun h => (by first | exact v_fieldP (ov rfl) rfl rfl rtF35_2 | exact v_fieldR (ov rfl) rtF35_2)) ?_
            refine R_q _ rfl (.guarded _ rfl rfl rfl rfl fun h => (by first | exact v_loadS (ow rfl h) rfl rfl rfl rtS3 rfl | exact v_loadS_r (ow rfl h) rtS3 rfl)) ?_
            refine R_q _ rfl (.guarded _ rfl rfl rfl rfl fun h => (by first | exact v_fieldP (ov rfl) rfl rfl rtF35_3 | exact v_fieldR (ov rfl) rtF35_3)) ?_
            refine R_q _ rfl (.guarded _ rfl rfl rfl rfl fun h => (by first | exact v_loadS (ow rfl h) rfl rfl rfl rtS3 rfl | exact v_loadS_r (ow rfl h) rtS3 rfl)) ?_
            refine R_q _ rfl (.guarded _ rfl rfl rfl rfl fun h => v_gtr (ow rfl h) (ow rfl h)) ?_
            refine R_q _ rfl (v_or (ov rfl) (fun hp => ow rfl (gF hp))) ?_
            refine R_nil ?_
            refine T_keep (kc 115 rfl <| kn) rfl ?_
            refine T_cond rfl (fun h115 => ?_) (fun h115 => ?_)
            · skip
              replace h115 : badR lo hi = true := h115
              refine T_keep (kn) rfl ?_
              refine T_seq (T_reg ?_)   -- region 22
              refine R_q _ rfl (v_assign (ov rfl)) ?_
              refine R_nil ?_
              refine T_ret ?_
              refine retq ?_ (.one (.tmp rfl (Dat.view (.b rfl))))
              rw [chkC_R hd hl0 hl5 hA hB, h115]; rfl
            · skip
              replace h115 : badR lo hi = false := h115
              refine T_skip ?_
              refine T_keep (kn) rfl ?_
              refine T_seq (T_reg ?_)   -- region 23
              refine R_q _ rfl (v_assign (ov rfl)) ?_
              refine R_nil ?_
              refine T_ret ?_
              refine retq ?_ (.one (.tmp rfl (Dat.view (.b rfl))))
              rw [chkC_R hd hl0 hl5 hA hB, h115]; rfl

-- ref5.apply (function 32)
theorem rapply_ok (den : Int) (ls : List Line) (lo hi v : Int) (hok : ∀ l ∈ ls, okL l) (hlen : ls.length ≤ 50) : CSpec Try.prog 32 [.agg (calL den ls lo hi), .int .i64 v] (.tuple [.int .i64 (rappl lo hi v ls).1, .bool (rappl lo hi v ls).2]) := by
  refine spec_of (by kernel_rfl) Try.func32 rfl rfl ?_
  intro w0 A
  refine T_keep (kc 0 rfl <| kc 1 rfl <| kn) rfl ?_
  refine T_seq (T_reg ?_)   -- region 0
  refine R_w _ _ rfl (w_box 0 rfl (ov rfl) rtA35 rfl) ?_
  refine R_q _ rfl (v_assign (ov rfl)) ?_
  refine R_q _ rfl (v_assign (ov rfl)) ?_
  refine R_nil ?_
  refine T_seq ?_
  refine T_keep (kc 1 rfl <| kc 2 rfl <| kn) rfl ?_
  refine T_seq (T_reg ?_)   -- region 1
  refine R_q _ rfl (v_assign (ov rfl)) ?_
  refine R_nil ?_
  refine T_block ?_   -- block 0
  refine T_loop (ι := Nat) (fun k => k ≤ ls.length ∧ rappl lo hi v ls = rappl lo hi v (ls.drop k)) (fun k => ⟨[(1, .int .i64 v), (2, .ptr 0 1 0 0), (6, .int .i64 k)], [some ⟨35, [calL den ls lo hi]⟩]⟩) (fun k => ls.length - k) 0 (⟨by omega, rfl⟩) (Ent.keep (kc 1 rfl <| kc 2 rfl <| kc 6 rfl <| kn) rfl) ?_
  intro k hC
  obtain ⟨hk, hc⟩ := hC
  refine T_seq ?_
  refine T_keep (kc 1 rfl <| kc 2 rfl <| kc 6 rfl <| kn) rfl ?_
  refine T_seq (T_reg ?_)   -- region 2
  refine R_q _ rfl (v_move (ov rfl)) ?_
  refine R_q _ rfl ((by first | exact v_fieldP (ov rfl) rfl rfl rtF35_1 | exact v_fieldR (ov rfl) rtF35_1)) ?_
  refine R_q _ rfl ((by first | exact v_loadS (ov rfl) rfl rfl rfl rtS33 rfl | exact v_loadS_r (ov rfl) rtS33 rfl)) ?_
  refine R_q _ rfl ((by first | exact v_len (slv_sl (ov rfl) rfl) rtL33 (len_map _ _) | exact v_len (slv_sl (ov rfl) rfl) rtL33 rfl | exact v_len (slv_own (ov rfl) rfl rfl rfl) rtL33 rfl)) ?_
  refine R_q _ rfl (v_lss (ov rfl) (ov rfl)) ?_
  refine R_nil ?_
  refine T_keep (kc 1 rfl <| kc 2 rfl <| kc 6 rfl <| kc 13 rfl <| kn) rfl ?_
  refine T_cond rfl (fun h13 => ?_) (fun h13 => ?_)
  · skip
    try simp at h13
    refine T_skip ?_
    refine T_seq ?_
    refine T_block ?_   -- block 1
    refine T_keep (kc 1 rfl <| kc 2 rfl <| kc 6 rfl <| kn) rfl ?_
    obtain ⟨x, hx⟩ := get_ex (xs := ls) (k := k) (by omega)
    have hxo := hok x (List.mem_of_getElem? hx)
    refine T_seq (T_reg ?_)   -- region 4
    refine R_q _ rfl ((by first | exact v_fieldP (ov rfl) rfl rfl rtF35_1 | exact v_fieldR (ov rfl) rtF35_1)) ?_
    refine R_q _ rfl ((by first | exact v_loadS (ov rfl) rfl rfl rfl rtS33 rfl | exact v_loadS_r (ov rfl) rtS33 rfl)) ?_
    refine R_q _ rfl (v_move (ov rfl)) ?_
    refine R_q _ rfl ((by first | exact v_ixS (ov rfl) (ov rfl) rtL33 rfl (row_map (by assumption)) | exact v_ixO (ov rfl) (ov rfl) rtL33 rfl rfl (by assumption))) ?_
    refine R_q _ rfl ((by first | exact v_loadA (ov rfl) rfl rfl rfl rtA56 rfl rfl | exact v_loadA_r (ov rfl) rtA56 rfl rfl)) ?_
    refine R_w _ _ rfl (w_alloc (row := [_, _, _, _]) 1 rfl rtZ56 rfl rtZ_56) ?_
    refine R_w _ _ rfl (w_store (ov rfl) (ov rfl) (cells_agg rtA56 rfl) rfl rfl rfl (Nat.le_of_ble_eq_true rfl) (cell1_all rfl) rfl) ?_
    refine R_nil ?_
    refine T_keep (kc 1 rfl <| kc 2 rfl <| kc 6 rfl <| kc 7 rfl <| kn) rfl ?_
    refine T_seq (T_reg ?_)   -- region 5
    refine R_q _ rfl (v_move (ov rfl)) ?_
    refine R_q _ rfl ((by first | exact v_fieldP (ov rfl) rfl rfl rtF56_0 | exact v_fieldR (ov rfl) rtF56_0)) ?_
    refine R_q _ rfl ((by first | exact v_loadS (ov rfl) rfl rfl rfl rtS3 rfl | exact v_loadS_r (ov rfl) rtS3 rfl)) ?_
    refine R_q _ rfl (v_geq (ov rfl) (ov rfl)) ?_
    refine R_q _ rfl (v_move (ov rfl)) ?_
    refine R_q _ rfl (.guarded _ rfl rfl rfl rfl fun h => v_move (ov rfl)) ?_
    refine R_q _ rfl (.guarded _ rfl rfl rfl rfl fun h => (by first | exact v_fieldP (ov rfl) rfl rfl rtF56_1 | exact v_fieldR (ov rfl) rtF56_1)) ?_
    refine R_q _ rfl (.guarded _ rfl rfl rfl rfl fun h => (by first | exact v_loadS (ow rfl h) rfl rfl rfl rtS3 rfl | exact v_loadS_r (ow rfl h) rtS3 rfl)) ?_
    refine R_q _ rfl (.guarded _ rfl rfl rfl rfl fun h => v_leq (ow rfl h) (ow rfl h)) ?_
    refine R_q _ rfl (v_and (ov rfl) (fun hp => ow rfl (gT hp))) ?_
    refine R_nil ?_
    refine T_keep (kc 1 rfl <| kc 2 rfl <| kc 6 rfl <| kc 7 rfl <| kc 30 rfl <| kn) rfl ?_
    refine T_cond rfl (fun h30 => ?_) (fun h30 => ?_)
    · skip
      have hv : x.a ≤ v ∧ v ≤ x.b := by simpa using h30
      have hm := hxo.mul (x := v) (by have := hxo.1; omega) (by have := hxo.2.1; omega)
      have hxc := hxo.2.2.2.2
      refine T_keep (kc 1 rfl <| kc 2 rfl <| kc 7 rfl <| kn) rfl ?_
      refine T_seq (T_reg ?_)   -- region 6
      refine R_q _ rfl ((by first | exact v_fieldP (ov rfl) rfl rfl rtF56_2 | exact v_fieldR (ov rfl) rtF56_2)) ?_
      refine R_q _ rfl ((by first | exact v_loadS (ov rfl) rfl rfl rfl rtS3 rfl | exact v_loadS_r (ov rfl) rtS3 rfl)) ?_
      refine R_q _ rfl (v_move (ov rfl)) ?_
      refine R_q _ rfl (v_mul (ov rfl) (ov rfl) (w64 (by first | omega | (simp at *; omega) | (simp_all; omega)) (by first | omega | (simp at *; omega) | (simp_all; omega)))) ?_
      refine R_q _ rfl ((by first | exact v_fieldP (ov rfl) rfl rfl rtF56_3 | exact v_fieldR (ov rfl) rtF56_3)) ?_
      refine R_q _ rfl ((by first | exact v_loadS (ov rfl) rfl rfl rfl rtS3 rfl | exact v_loadS_r (ov rfl) rtS3 rfl)) ?_
      refine R_q _ rfl (v_add (ov rfl) (ov rfl) (w64 (by first | omega | (simp at *; omega) | (simp_all; omega)) (by first | omega | (simp at *; omega) | (simp_all; omega)))) ?_
      refine R_q _ rfl (v_assign (ov rfl)) ?_
      refine R_nil ?_
      refine T_seq ?_
      refine T_keep (kc 2 rfl <| kc 8 rfl <| kn) rfl ?_
      refine T_seq (T_reg ?_)   -- region 7
      refine R_q _ rfl (v_move (ov rfl)) ?_
      refine R_q _ rfl ((by first | exact v_fieldP (ov rfl) rfl rfl rtF35_2 | exact v_fieldR (ov rfl) rtF35_2)) ?_
      refine R_q _ rfl ((by first | exact v_loadS (ov rfl) rfl rfl rfl rtS3 rfl | exact v_loadS_r (ov rfl) rtS3 rfl)) ?_
      refine R_q _ rfl ((by first | exact v_fieldP (ov rfl) rfl rfl rtF35_3 | exact v_fieldR (ov rfl) rtF35_3)) ?_
      refine R_q _ rfl ((by first | exact v_loadS (ov rfl) rfl rfl rfl rtS3 rfl | exact v_loadS_r (ov rfl) rtS3 rfl)) ?_
      refine R_q _ rfl (v_call (outside_ok _ _ _) (.cons (ov rfl) (by first | exact .b rfl | exact .aggB rfl | exact .fn) <| .cons (ov rfl) (by first | exact .b rfl | exact .aggB rfl | exact .fn) <| .cons (ov rfl) (by first | exact .b rfl | exact .aggB rfl | exact .fn) <| .nil)) ?_
      refine R_nil ?_
      refine T_keep (kc 8 rfl <| kc 43 rfl <| kn) rfl ?_
      refine T_cond rfl (fun h43 => ?_) (fun h43 => ?_)
      · skip
        have hw : wi (x.m * v + x.c) lo hi = false := by simpa using h43
        refine T_keep (kn) rfl ?_
        refine T_seq (T_reg ?_)   -- region 8
        refine R_q _ rfl (v_assign (ov rfl)) ?_
        refine R_q _ rfl (v_assign (ov rfl)) ?_
        refine R_nil ?_
        refine T_ret ?_
        refine retq ?_ (.two (.tmp rfl (Dat.view (.b rfl))) (.tmp rfl (Dat.view (.b rfl))))
        rw [hc, drop_cons hx, rappl, if_pos h30, hw]; rfl
      · skip
        have hw : wi (x.m * v + x.c) lo hi = true := by simpa using h43
        refine T_skip ?_
        refine T_keep (kc 8 rfl <| kn) rfl ?_
        refine T_seq (T_reg ?_)   -- region 9
        refine R_q _ rfl (v_move (ov rfl)) ?_
        refine R_q _ rfl (v_assign (ov rfl)) ?_
        refine R_q _ rfl (v_assign (ov rfl)) ?_
        refine R_nil ?_
        refine T_ret ?_
        refine retq ?_ (.two (.tmp rfl (Dat.view (.b rfl))) (.tmp rfl (Dat.view (.b rfl))))
        rw [hc, drop_cons hx, rappl, if_pos h30, hw]; rfl
    · skip
      have h30 := h30
      refine T_skip ?_
      refine T_keep (kc 1 rfl <| kc 2 rfl <| kc 6 rfl <| kn) rfl ?_
      refine T_reg ?_   -- region 3
      refine R_q _ rfl (v_move (ov rfl)) ?_
      refine R_q _ rfl (v_add (ov rfl) (ov rfl) (w64 (by first | omega | (simp at *; omega) | (simp_all; omega)) (by first | omega | (simp at *; omega) | (simp_all; omega)))) ?_
      refine R_q _ rfl (v_assign (ov rfl)) ?_
      refine R_nil ?_
      exact ⟨k + 1, ⟨by omega, by rw [hc, drop_cons hx, rappl, h30]; simp⟩, (by first | omega | (simp at *; omega) | (simp_all; omega)), Ent.cutB (ke 1 rfl rfl <| ke 2 rfl rfl <| ke 6 rfl (by push_cast; rfl) <| kn) rfl rfl rfl⟩
  · skip
    have hk0 : ls.length ≤ k := by simpa using h13
    refine T_exit ?_   -- exit 0
    refine T_keep (kn) rfl ?_
    refine T_seq (T_reg ?_)   -- region 10
    refine R_q _ rfl (v_assign (ov rfl)) ?_
    refine R_q _ rfl (v_assign (ov rfl)) ?_
    refine R_nil ?_
    refine T_ret ?_
    refine retq ?_ (.two (.tmp rfl (Dat.view (.b rfl))) (.tmp rfl (Dat.view (.b rfl))))
    rw [hc, List.drop_eq_nil_of_le hk0]; rfl

-- ref5.Apply (function 12)
theorem rApply_ok (den : Int) (ls : List Line) (lo hi v : Int) : CSpec Try.prog 12 [.agg (calL den ls lo hi), .int .i64 v] (.tuple [.int .i64 (outApply den ls lo hi v).1, .bool (outApply den ls lo hi v).2.1, .int .i64 (outApply den ls lo hi v).2.2]) := by
  refine spec_of (by kernel_rfl) Try.func12 rfl rfl ?_
  intro w0 A
  refine T_keep (kc 0 rfl <| kc 1 rfl <| kn) rfl ?_
  refine T_seq (T_reg ?_)   -- region 0
  refine R_w _ _ rfl (w_box 0 rfl (ov rfl) rtA35 rfl) ?_
  refine R_q _ rfl (v_assign (ov rfl)) ?_
  refine R_q _ rfl (v_assign (ov rfl)) ?_
  refine R_q _ rfl (v_assign (ov rfl)) ?_
  refine R_nil ?_
  refine T_seq ?_
  refine T_keep (kc 1 rfl <| kc 2 rfl <| kn) rfl ?_
  refine T_seq (T_reg ?_)   -- region 1
  refine R_q _ rfl ((by first | exact v_loadA (ov rfl) rfl rfl rfl rtA35 rfl rfl | exact v_loadA_r (ov rfl) rtA35 rfl rfl)) ?_
  refine R_q _ rfl (v_call (rchkC_ok _ _ _ _) (.cons (ov rfl) (by first | exact .b rfl | exact .aggB rfl | exact .fn) <| .nil)) ?_
  refine R_q _ rfl (v_assign (ov rfl)) ?_
  refine R_nil ?_
  refine T_keep (kc 1 rfl <| kc 2 rfl <| kc 7 rfl <| kn) rfl ?_
  refine T_seq (T_reg ?_)   -- region 2
  refine R_q _ rfl (v_move (ov rfl)) ?_
  refine R_q _ rfl (v_neq (ov rfl) (ov rfl)) ?_
  refine R_nil ?_
  refine T_keep (kc 1 rfl <| kc 2 rfl <| kc 7 rfl <| kc 13 rfl <| kn) rfl ?_
  refine T_cond rfl (fun h13 => ?_) (fun h13 => ?_)
  · skip
    have h0 : ¬ chkC den ls lo hi = 0 := by simpa using h13
    refine T_keep (kc 7 rfl <| kn) rfl ?_
    refine T_seq (T_reg ?_)   -- region 3
    refine R_q _ rfl (v_move (ov rfl)) ?_
    refine R_q _ rfl (v_assign (ov rfl)) ?_
    refine R_q _ rfl (v_assign (ov rfl)) ?_
    refine R_q _ rfl (v_assign (ov rfl)) ?_
    refine R_nil ?_
    refine T_ret ?_
    refine retq ?_ (.three (.tmp rfl (Dat.view (.b rfl))) (.tmp rfl (Dat.view (.b rfl))) (.tmp rfl (Dat.view (.b rfl))))
    simp [outApply, h0, constAV]
  · skip
    have h0 : chkC den ls lo hi = 0 := by simpa using h13
    have hg := good_of h0
    have he := rappl_eq (lo := lo) (hi := hi) (v := v) ls none hg.chkA
    refine T_skip ?_
    refine T_keep (kc 1 rfl <| kc 2 rfl <| kn) rfl ?_
    refine T_seq (T_reg ?_)   -- region 4
    refine R_q _ rfl ((by first | exact v_loadA (ov rfl) rfl rfl rfl rtA35 rfl rfl | exact v_loadA_r (ov rfl) rtA35 rfl rfl)) ?_
    refine R_q _ rfl (v_move (ov rfl)) ?_
    refine R_q _ rfl (v_call (rapply_ok den ls lo hi v hg.ok hg.len) (.cons (ov rfl) (by first | exact .b rfl | exact .aggB rfl | exact .fn) <| .cons (ov rfl) (by first | exact .b rfl | exact .aggB rfl | exact .fn) <| .nil)) ?_
    refine R_q _ rfl (v_move (ov rfl)) ?_
    refine R_q _ rfl (v_extract (ov rfl) rfl) ?_
    refine R_q _ rfl (v_extract (ov rfl) rfl) ?_
    refine R_q _ rfl (v_assign (ov rfl)) ?_
    refine R_q _ rfl (v_assign (ov rfl)) ?_
    refine R_nil ?_
    refine T_keep (kc 8 rfl <| kc 9 rfl <| kn) rfl ?_
    refine T_seq (T_reg ?_)   -- region 5
    refine R_q _ rfl (v_move (ov rfl)) ?_
    refine R_q _ rfl (v_move (ov rfl)) ?_
    refine R_q _ rfl (v_assign (ov rfl)) ?_
    refine R_q _ rfl (v_assign (ov rfl)) ?_
    refine R_q _ rfl (v_assign (ov rfl)) ?_
    refine R_nil ?_
    refine T_ret ?_
    refine retq ?_ (.three (.tmp rfl (Dat.view (.b rfl))) (.tmp rfl (Dat.view (.b rfl))) (.tmp rfl (Dat.view (.b rfl))))
    simp [outApply, h0, constAV, he]

-- series.Grain (function 16)
theorem Grain_ok (den : Int) (ls : List Line) (lo hi : Int) : CSpec Try.prog 16 [.agg (calL den ls lo hi)] (.tuple [.int .i64 (outGrain den ls lo hi).1, .int .i64 (outGrain den ls lo hi).2]) := by
  refine spec_of (by kernel_rfl) Try.func16 rfl rfl ?_
  intro w0 A
  refine T_keep (kc 0 rfl <| kn) rfl ?_
  refine T_seq (T_reg ?_)   -- region 0
  refine R_w _ _ rfl (w_box 0 rfl (ov rfl) rtA35 rfl) ?_
  refine R_q _ rfl (v_assign (ov rfl)) ?_
  refine R_q _ rfl (v_assign (ov rfl)) ?_
  refine R_nil ?_
  refine T_seq ?_
  refine T_keep (kc 1 rfl <| kn) rfl ?_
  refine T_seq (T_reg ?_)   -- region 1
  refine R_q _ rfl ((by first | exact v_loadA (ov rfl) rfl rfl rfl rtA35 rfl rfl | exact v_loadA_r (ov rfl) rtA35 rfl rfl)) ?_
  refine R_q _ rfl (v_call (chkC_ok _ _ _ _) (.cons (ov rfl) (by first | exact .b rfl | exact .aggB rfl | exact .fn) <| .nil)) ?_
  refine R_q _ rfl (v_assign (ov rfl)) ?_
  refine R_nil ?_
  refine T_keep (kc 1 rfl <| kc 4 rfl <| kn) rfl ?_
  refine T_seq (T_reg ?_)   -- region 2
  refine R_q _ rfl (v_move (ov rfl)) ?_
  refine R_q _ rfl (v_neq (ov rfl) (ov rfl)) ?_
  refine R_nil ?_
  refine T_keep (kc 1 rfl <| kc 4 rfl <| kc 11 rfl <| kn) rfl ?_
  refine T_cond rfl (fun h11 => ?_) (fun h11 => ?_)
  · skip
    have h0 : ¬ chkC den ls lo hi = 0 := by simpa using h11
    refine T_keep (kc 4 rfl <| kn) rfl ?_
    refine T_seq (T_reg ?_)   -- region 3
    refine R_q _ rfl (v_move (ov rfl)) ?_
    refine R_q _ rfl (v_assign (ov rfl)) ?_
    refine R_q _ rfl (v_assign (ov rfl)) ?_
    refine R_nil ?_
    refine T_ret ?_
    refine retq ?_ (.two (.tmp rfl (Dat.view (.b rfl))) (.tmp rfl (Dat.view (.b rfl))))
    simp [outGrain, h0, constAV]
  · skip
    have h0 : chkC den ls lo hi = 0 := by simpa using h11
    have hg := good_of h0
    have hlen := hg.len
    refine T_skip ?_
    refine T_keep (kc 1 rfl <| kn) rfl ?_
    refine T_seq (T_reg ?_)   -- region 4
    refine R_q _ rfl (v_assign (ov rfl)) ?_
    refine R_nil ?_
    refine T_seq ?_
    refine T_keep (kc 1 rfl <| kc 5 rfl <| kn) rfl ?_
    refine T_seq (T_reg ?_)   -- region 5
    refine R_q _ rfl ((by first | exact v_fieldP (ov rfl) rfl rfl rtF35_1 | exact v_fieldR (ov rfl) rtF35_1)) ?_
    refine R_q _ rfl ((by first | exact v_loadS (ov rfl) rfl rfl rfl rtS33 rfl | exact v_loadS_r (ov rfl) rtS33 rfl)) ?_
    refine R_q _ rfl ((by first | exact v_len (slv_sl (ov rfl) rfl) rtL33 (len_map _ _) | exact v_len (slv_sl (ov rfl) rfl) rtL33 rfl | exact v_len (slv_own (ov rfl) rfl rfl rfl) rtL33 rfl)) ?_
    refine R_q _ rfl (v_move (ov rfl)) ?_
    refine R_nil ?_
    refine T_block ?_   -- block 0
    refine T_loop (ι := Nat × Int) (fun p => p.1 ≤ ls.length ∧ grainL 0 ls = grainL p.2 (ls.drop p.1)) (fun p => ⟨[(5, .int .i64 p.2), (14, .sl 56 (ls.map Line.av)), (15, .int .i64 ls.length), (16, .int .i64 p.1)], [some ⟨35, [calL den ls lo hi]⟩]⟩) (fun p => ls.length - p.1) (0, 0) (⟨by simp, rfl⟩) (Ent.keep (kc 5 rfl <| kc 14 rfl <| kc 15 rfl <| kc 16 rfl <| kn) rfl) ?_
    intro ⟨k, g⟩ hC
    obtain ⟨hk, hc⟩ := hC
    simp only at hk hc
    refine T_keep (ke 5 rfl (v' := .int .i64 g) rfl <| kc 14 rfl <| kc 15 rfl <| ke 16 rfl (v' := .int .i64 (k : Int)) rfl <| kn) rfl ?_
    refine T_keep (kc 5 rfl <| kc 14 rfl <| kc 15 rfl <| kc 16 rfl <| kn) rfl ?_
    refine T_seq (T_reg ?_)   -- region 6
    refine R_q _ rfl (v_lss (ov rfl) (ov rfl)) ?_
    refine R_nil ?_
    refine T_seq ?_
    refine T_keep (kc 5 rfl <| kc 14 rfl <| kc 15 rfl <| kc 16 rfl <| kc 17 rfl <| kn) rfl ?_
    refine T_cond rfl (fun h17 => ?_) (fun h17 => ?_)
    · skip
      try simp at h17
      refine T_skip ?_
      refine T_seq ?_
      refine T_block ?_   -- block 1
      refine T_keep (kc 5 rfl <| kc 14 rfl <| kc 15 rfl <| kc 16 rfl <| kn) rfl ?_
      obtain ⟨x, hx⟩ := get_ex (xs := ls) (k := k) (by omega)
      have hxo := hg.ok x (List.mem_of_getElem? hx)
      have hxm := hxo.2.2.2.1
      refine T_seq (T_reg ?_)   -- region 7
      refine R_q _ rfl ((by first | exact v_ixS (ov rfl) (ov rfl) rtL33 rfl (row_map (by assumption)) | exact v_ixO (ov rfl) (ov rfl) rtL33 rfl rfl (by assumption))) ?_
      refine R_q _ rfl ((by first | exact v_loadA (ov rfl) rfl rfl rfl rtA56 rfl rfl | exact v_loadA_r (ov rfl) rtA56 rfl rfl)) ?_
      refine R_w _ _ rfl (w_alloc (row := [_, _, _, _]) 1 rfl rtZ56 rfl rtZ_56) ?_
      refine R_w _ _ rfl (w_store (ov rfl) (ov rfl) (cells_agg rtA56 rfl) rfl rfl rfl (Nat.le_of_ble_eq_true rfl) (cell1_all rfl) rfl) ?_
      refine R_nil ?_
      refine T_keep (kc 5 rfl <| kc 7 rfl <| kc 14 rfl <| kc 15 rfl <| kc 16 rfl <| kn) rfl ?_
      refine T_seq (T_reg ?_)   -- region 8
      refine R_q _ rfl ((by first | exact v_fieldP (ov rfl) rfl rfl rtF56_1 | exact v_fieldR (ov rfl) rtF56_1)) ?_
      refine R_q _ rfl ((by first | exact v_loadS (ov rfl) rfl rfl rfl rtS3 rfl | exact v_loadS_r (ov rfl) rtS3 rfl)) ?_
      refine R_q _ rfl ((by first | exact v_fieldP (ov rfl) rfl rfl rtF56_0 | exact v_fieldR (ov rfl) rtF56_0)) ?_
      refine R_q _ rfl ((by first | exact v_loadS (ov rfl) rfl rfl rfl rtS3 rfl | exact v_loadS_r (ov rfl) rtS3 rfl)) ?_
      refine R_q _ rfl (v_gtr (ov rfl) (ov rfl)) ?_
      refine R_nil ?_
      refine T_keep (kc 5 rfl <| kc 7 rfl <| kc 14 rfl <| kc 15 rfl <| kc 16 rfl <| kc 24 rfl <| kn) rfl ?_
      refine T_cond rfl (fun h24 => ?_) (fun h24 => ?_)
      · skip
        have hab : x.a < x.b := by simpa using h24
        refine T_keep (kc 5 rfl <| kc 7 rfl <| kc 14 rfl <| kc 15 rfl <| kc 16 rfl <| kn) rfl ?_
        refine T_reg ?_   -- region 9
        refine R_q _ rfl (v_move (ov rfl)) ?_
        refine R_q _ rfl ((by first | exact v_fieldP (ov rfl) rfl rfl rtF56_2 | exact v_fieldR (ov rfl) rtF56_2)) ?_
        refine R_q _ rfl ((by first | exact v_loadS (ov rfl) rfl rfl rfl rtS3 rfl | exact v_loadS_r (ov rfl) rtS3 rfl)) ?_
        refine R_q _ rfl (v_call (size_ok x.m (by omega)) (.cons (ov rfl) (by first | exact .b rfl | exact .aggB rfl | exact .fn) <| .nil)) ?_
        refine R_q _ rfl (v_max (ov rfl) (ov rfl) rfl) ?_
        refine R_q _ rfl (v_assign (ov rfl)) ?_
        refine R_nil ?_
        refine T_keep (kc 5 rfl <| kc 14 rfl <| kc 15 rfl <| kc 16 rfl <| kn) rfl ?_
        refine T_reg ?_   -- region 10
        refine R_q _ rfl (v_add (ov rfl) (ov rfl) (w64 (by first | omega | (simp at *; omega) | (simp_all; omega)) (by first | omega | (simp at *; omega) | (simp_all; omega)))) ?_
        refine R_q _ rfl (v_move (ov rfl)) ?_
        refine R_nil ?_
        exact ⟨(k + 1, max g (max x.m (-x.m))), ⟨by simp only; omega, by rw [hc, drop_cons hx, grainL, if_pos hab]⟩, by simp only; omega, Ent.cutB (ke 5 rfl rfl <| ke 14 rfl rfl <| ke 15 rfl rfl <| ke 16 rfl (by push_cast; rfl) <| kn) rfl rfl rfl⟩
      · skip
        have hab : ¬ x.a < x.b := by simpa using h24
        refine T_skip ?_
        refine T_keep (kc 5 rfl <| kc 14 rfl <| kc 15 rfl <| kc 16 rfl <| kn) rfl ?_
        refine T_reg ?_   -- region 10
        refine R_q _ rfl (v_add (ov rfl) (ov rfl) (w64 (by first | omega | (simp at *; omega) | (simp_all; omega)) (by first | omega | (simp at *; omega) | (simp_all; omega)))) ?_
        refine R_q _ rfl (v_move (ov rfl)) ?_
        refine R_nil ?_
        exact ⟨(k + 1, g), ⟨by simp only; omega, by rw [hc, drop_cons hx, grainL, if_neg hab]⟩, by simp only; omega, Ent.cutB (ke 5 rfl rfl <| ke 14 rfl rfl <| ke 15 rfl rfl <| ke 16 rfl (by push_cast; rfl) <| kn) rfl rfl rfl⟩
    · skip
      have hk0 : ls.length ≤ k := by simpa using h17
      refine T_exit ?_   -- exit 0
      refine T_keep (kc 5 rfl <| kn) rfl ?_
      refine T_seq (T_reg ?_)   -- region 11
      refine R_q _ rfl (v_move (ov rfl)) ?_
      refine R_q _ rfl (v_assign (ov rfl)) ?_
      refine R_q _ rfl (v_assign (ov rfl)) ?_
      refine R_nil ?_
      refine T_ret ?_
      refine retq ?_ (.two (.tmp rfl (Dat.view (.b rfl))) (.tmp rfl (Dat.view (.b rfl))))
      have : grainL 0 ls = g := by rw [hc, List.drop_eq_nil_of_le hk0]; rfl
      simp [outGrain, h0, constAV, this]

-- ref5.Grain (function 17)
theorem rGrain_ok (den : Int) (ls : List Line) (lo hi : Int) : CSpec Try.prog 17 [.agg (calL den ls lo hi)] (.tuple [.int .i64 (outGrain den ls lo hi).1, .int .i64 (outGrain den ls lo hi).2]) := by
  refine spec_of (by kernel_rfl) Try.func17 rfl rfl ?_
  intro w0 A
  refine T_keep (kc 0 rfl <| kn) rfl ?_
  refine T_seq (T_reg ?_)   -- region 0
  refine R_w _ _ rfl (w_box 0 rfl (ov rfl) rtA35 rfl) ?_
  refine R_q _ rfl (v_assign (ov rfl)) ?_
  refine R_q _ rfl (v_assign (ov rfl)) ?_
  refine R_nil ?_
  refine T_seq ?_
  refine T_keep (kc 1 rfl <| kn) rfl ?_
  refine T_seq (T_reg ?_)   -- region 1
  refine R_q _ rfl ((by first | exact v_loadA (ov rfl) rfl rfl rfl rtA35 rfl rfl | exact v_loadA_r (ov rfl) rtA35 rfl rfl)) ?_
  refine R_q _ rfl (v_call (rchkC_ok _ _ _ _) (.cons (ov rfl) (by first | exact .b rfl | exact .aggB rfl | exact .fn) <| .nil)) ?_
  refine R_q _ rfl (v_assign (ov rfl)) ?_
  refine R_nil ?_
  refine T_keep (kc 1 rfl <| kc 4 rfl <| kn) rfl ?_
  refine T_seq (T_reg ?_)   -- region 2
  refine R_q _ rfl (v_move (ov rfl)) ?_
  refine R_q _ rfl (v_neq (ov rfl) (ov rfl)) ?_
  refine R_nil ?_
  refine T_keep (kc 1 rfl <| kc 4 rfl <| kc 11 rfl <| kn) rfl ?_
  refine T_cond rfl (fun h11 => ?_) (fun h11 => ?_)
  · skip
    have h0 : ¬ chkC den ls lo hi = 0 := by simpa using h11
    refine T_keep (kc 4 rfl <| kn) rfl ?_
    refine T_seq (T_reg ?_)   -- region 3
    refine R_q _ rfl (v_move (ov rfl)) ?_
    refine R_q _ rfl (v_assign (ov rfl)) ?_
    refine R_q _ rfl (v_assign (ov rfl)) ?_
    refine R_nil ?_
    refine T_ret ?_
    refine retq ?_ (.two (.tmp rfl (Dat.view (.b rfl))) (.tmp rfl (Dat.view (.b rfl))))
    simp [outGrain, h0, constAV]
  · skip
    have h0 : chkC den ls lo hi = 0 := by simpa using h11
    have hg := good_of h0
    have hlen := hg.len
    refine T_skip ?_
    refine T_keep (kc 1 rfl <| kn) rfl ?_
    refine T_seq (T_reg ?_)   -- region 4
    refine R_q _ rfl (v_assign (ov rfl)) ?_
    refine R_nil ?_
    refine T_seq ?_
    refine T_keep (kc 1 rfl <| kc 5 rfl <| kn) rfl ?_
    refine T_seq (T_reg ?_)   -- region 5
    refine R_q _ rfl (v_assign (ov rfl)) ?_
    refine R_nil ?_
    refine T_block ?_   -- block 0
    refine T_loop (ι := Nat × Int) (fun p => p.1 ≤ ls.length ∧ grainL 0 ls = grainL p.2 (ls.drop p.1)) (fun p => ⟨[(1, .ptr 0 1 0 0), (5, .int .i64 p.2), (6, .int .i64 p.1)], [some ⟨35, [calL den ls lo hi]⟩]⟩) (fun p => ls.length - p.1) (0, 0) (⟨by simp, rfl⟩) (Ent.keep (kc 1 rfl <| kc 5 rfl <| kc 6 rfl <| kn) rfl) ?_
    intro ⟨k, g⟩ hC
    obtain ⟨hk, hc⟩ := hC
    simp only at hk hc
    refine T_keep (ke 5 rfl (v' := .int .i64 g) rfl <| ke 6 rfl (v' := .int .i64 (k : Int)) rfl <| kc 1 rfl <| kn) rfl ?_
    refine T_seq ?_
    refine T_keep (kc 1 rfl <| kc 5 rfl <| kc 6 rfl <| kn) rfl ?_
    refine T_seq (T_reg ?_)   -- region 6
    refine R_q _ rfl (v_move (ov rfl)) ?_
    refine R_q _ rfl ((by first | exact v_fieldP (ov rfl) rfl rfl rtF35_1 | exact v_fieldR (ov rfl) rtF35_1)) ?_
    refine R_q _ rfl ((by first | exact v_loadS (ov rfl) rfl rfl rfl rtS33 rfl | exact v_loadS_r (ov rfl) rtS33 rfl)) ?_
    refine R_q _ rfl ((by first | exact v_len (slv_sl (ov rfl) rfl) rtL33 (len_map _ _) | exact v_len (slv_sl (ov rfl) rfl) rtL33 rfl | exact v_len (slv_own (ov rfl) rfl rfl rfl) rtL33 rfl)) ?_
    refine R_q _ rfl (v_lss (ov rfl) (ov rfl)) ?_
    refine R_nil ?_
    refine T_keep (kc 1 rfl <| kc 5 rfl <| kc 6 rfl <| kc 17 rfl <| kn) rfl ?_
    refine T_cond rfl (fun h17 => ?_) (fun h17 => ?_)
    · skip
      try simp at h17
      refine T_skip ?_
      refine T_seq ?_
      refine T_block ?_   -- block 1
      refine T_keep (kc 1 rfl <| kc 5 rfl <| kc 6 rfl <| kn) rfl ?_
      obtain ⟨x, hx⟩ := get_ex (xs := ls) (k := k) (by omega)
      have hxo := hg.ok x (List.mem_of_getElem? hx)
      have hxm := hxo.2.2.2.1
      refine T_seq (T_reg ?_)   -- region 8
      refine R_q _ rfl ((by first | exact v_fieldP (ov rfl) rfl rfl rtF35_1 | exact v_fieldR (ov rfl) rtF35_1)) ?_
      refine R_q _ rfl ((by first | exact v_loadS (ov rfl) rfl rfl rfl rtS33 rfl | exact v_loadS_r (ov rfl) rtS33 rfl)) ?_
      refine R_q _ rfl (v_move (ov rfl)) ?_
      refine R_q _ rfl ((by first | exact v_ixS (ov rfl) (ov rfl) rtL33 rfl (row_map (by assumption)) | exact v_ixO (ov rfl) (ov rfl) rtL33 rfl rfl (by assumption))) ?_
      refine R_q _ rfl ((by first | exact v_loadA (ov rfl) rfl rfl rfl rtA56 rfl rfl | exact v_loadA_r (ov rfl) rtA56 rfl rfl)) ?_
      refine R_w _ _ rfl (w_alloc (row := [_, _, _, _]) 1 rfl rtZ56 rfl rtZ_56) ?_
      refine R_w _ _ rfl (w_store (ov rfl) (ov rfl) (cells_agg rtA56 rfl) rfl rfl rfl (Nat.le_of_ble_eq_true rfl) (cell1_all rfl) rfl) ?_
      refine R_nil ?_
      refine T_keep (kc 1 rfl <| kc 5 rfl <| kc 6 rfl <| kc 7 rfl <| kn) rfl ?_
      refine T_seq (T_reg ?_)   -- region 9
      refine R_q _ rfl ((by first | exact v_fieldP (ov rfl) rfl rfl rtF56_0 | exact v_fieldR (ov rfl) rtF56_0)) ?_
      refine R_q _ rfl ((by first | exact v_loadS (ov rfl) rfl rfl rfl rtS3 rfl | exact v_loadS_r (ov rfl) rtS3 rfl)) ?_
      refine R_q _ rfl ((by first | exact v_fieldP (ov rfl) rfl rfl rtF56_1 | exact v_fieldR (ov rfl) rtF56_1)) ?_
      refine R_q _ rfl ((by first | exact v_loadS (ov rfl) rfl rfl rfl rtS3 rfl | exact v_loadS_r (ov rfl) rtS3 rfl)) ?_
      refine R_q _ rfl (v_lss (ov rfl) (ov rfl)) ?_
      refine R_nil ?_
      refine T_keep (kc 1 rfl <| kc 5 rfl <| kc 6 rfl <| kc 7 rfl <| kc 29 rfl <| kn) rfl ?_
      refine T_cond rfl (fun h29 => ?_) (fun h29 => ?_)
      · skip
        have hab : x.a < x.b := by simpa using h29
        refine T_keep (kc 1 rfl <| kc 5 rfl <| kc 6 rfl <| kc 7 rfl <| kn) rfl ?_
        refine T_reg ?_   -- region 10
        refine R_q _ rfl (v_move (ov rfl)) ?_
        refine R_q _ rfl ((by first | exact v_fieldP (ov rfl) rfl rfl rtF56_2 | exact v_fieldR (ov rfl) rtF56_2)) ?_
        refine R_q _ rfl ((by first | exact v_loadS (ov rfl) rfl rfl rfl rtS3 rfl | exact v_loadS_r (ov rfl) rtS3 rfl)) ?_
        refine R_q _ rfl (v_call (apart_ok x.m 0 (by omega) (by omega)) (.cons (ov rfl) (by first | exact .b rfl | exact .aggB rfl | exact .fn) <| .cons (ov rfl) (by first | exact .b rfl | exact .aggB rfl | exact .fn) <| .nil)) ?_
        refine R_q _ rfl (v_max (ov rfl) (ov rfl) rfl) ?_
        refine R_q _ rfl (v_assign (ov rfl)) ?_
        refine R_nil ?_
        refine T_keep (kc 1 rfl <| kc 5 rfl <| kc 6 rfl <| kn) rfl ?_
        refine T_reg ?_   -- region 7
        refine R_q _ rfl (v_move (ov rfl)) ?_
        refine R_q _ rfl (v_add (ov rfl) (ov rfl) (w64 (by first | omega | (simp at *; omega) | (simp_all; omega)) (by first | omega | (simp at *; omega) | (simp_all; omega)))) ?_
        refine R_q _ rfl (v_assign (ov rfl)) ?_
        refine R_nil ?_
        exact ⟨(k + 1, max g (max (x.m - 0) (0 - x.m))), ⟨by simp only; omega, by rw [hc, drop_cons hx, grainL, if_pos hab]; simp⟩, by simp only; omega, Ent.cutB (ke 1 rfl rfl <| ke 5 rfl rfl <| ke 6 rfl (by push_cast; rfl) <| kn) rfl rfl rfl⟩
      · skip
        have hab : ¬ x.a < x.b := by simpa using h29
        refine T_skip ?_
        refine T_keep (kc 1 rfl <| kc 5 rfl <| kc 6 rfl <| kn) rfl ?_
        refine T_reg ?_   -- region 7
        refine R_q _ rfl (v_move (ov rfl)) ?_
        refine R_q _ rfl (v_add (ov rfl) (ov rfl) (w64 (by first | omega | (simp at *; omega) | (simp_all; omega)) (by first | omega | (simp at *; omega) | (simp_all; omega)))) ?_
        refine R_q _ rfl (v_assign (ov rfl)) ?_
        refine R_nil ?_
        exact ⟨(k + 1, g), ⟨by simp only; omega, by rw [hc, drop_cons hx, grainL, if_neg hab]⟩, by simp only; omega, Ent.cutB (ke 1 rfl rfl <| ke 5 rfl rfl <| ke 6 rfl (by push_cast; rfl) <| kn) rfl rfl rfl⟩
    · skip
      have hk0 : ls.length ≤ k := by simpa using h17
      refine T_exit ?_   -- exit 0
      refine T_keep (kc 5 rfl <| kn) rfl ?_
      refine T_seq (T_reg ?_)   -- region 11
      refine R_q _ rfl (v_move (ov rfl)) ?_
      refine R_q _ rfl (v_assign (ov rfl)) ?_
      refine R_q _ rfl (v_assign (ov rfl)) ?_
      refine R_nil ?_
      refine T_ret ?_
      refine retq ?_ (.two (.tmp rfl (Dat.view (.b rfl))) (.tmp rfl (Dat.view (.b rfl))))
      have : grainL 0 ls = g := by rw [hc, List.drop_eq_nil_of_le hk0]; rfl
      simp [outGrain, h0, constAV, this]

-- ref5.candidates (function 34)
theorem cand_ok (den : Int) (ls : List Line) (lo hi : Int) (l : Line) (n : Int) (hl : okL l) (hr : okR lo hi) (hn : -1125899906842624 ≤ n ∧ n ≤ 1125899906842624) : CSpec Try.prog 34 [.agg (calL den ls lo hi), .agg l.av, .int .i64 n] (.sl 3 ((candL n lo hi l).map iv)) := by
  refine spec_of (by kernel_rfl) Try.func34 rfl rfl ?_
  intro w0 A
  obtain ⟨⟨ha1, ha2⟩, ⟨hb1, hb2⟩, hab, ⟨hm1, hm2⟩, hc1, hc2⟩ := hl
  refine T_keep (kc 0 rfl <| kc 1 rfl <| kc 2 rfl <| kn) rfl ?_
  refine T_seq (T_reg ?_)   -- region 0
  refine R_w _ _ rfl (w_box 0 rfl (ov rfl) rtA35 rfl) ?_
  refine R_w _ _ rfl (w_box 1 rfl (ov rfl) rtA56 rfl) ?_
  refine R_q _ rfl (v_assign (ov rfl)) ?_
  refine R_nil ?_
  refine T_keep (kc 2 rfl <| kc 3 rfl <| kc 4 rfl <| kn) rfl ?_
  refine T_seq (T_reg ?_)   -- region 1
  refine R_q _ rfl ((by first | exact v_fieldP (ov rfl) rfl rfl rtF56_0 | exact v_fieldR (ov rfl) rtF56_0)) ?_
  refine R_q _ rfl ((by first | exact v_loadS (ov rfl) rfl rfl rfl rtS3 rfl | exact v_loadS_r (ov rfl) rtS3 rfl)) ?_
  refine R_q _ rfl ((by first | exact v_fieldP (ov rfl) rfl rfl rtF56_1 | exact v_fieldR (ov rfl) rtF56_1)) ?_
  refine R_q _ rfl ((by first | exact v_loadS (ov rfl) rfl rfl rfl rtS3 rfl | exact v_loadS_r (ov rfl) rtS3 rfl)) ?_
  refine R_w _ _ rfl (w_lit (r := 2) rfl rtL25 (.cons (cvs (ov rfl) (cell1_b rfl)) rfl (.cons (.b rfl) .nil) <| .cons (cvs (ov rfl) (cell1_b rfl)) rfl (.cons (.b rfl) .nil) <| .nil) rfl rfl) ?_
  refine R_q _ rfl (v_assign (ov rfl)) ?_
  refine R_nil ?_
  refine T_seq ?_
  refine T_keep (kc 2 rfl <| kc 3 rfl <| kc 4 rfl <| kc 7 rfl <| kn) rfl ?_
  refine T_seq (T_reg ?_)   -- region 2
  refine R_q _ rfl ((by first | exact v_fieldP (ov rfl) rfl rfl rtF56_2 | exact v_fieldR (ov rfl) rtF56_2)) ?_
  refine R_q _ rfl ((by first | exact v_loadS (ov rfl) rfl rfl rfl rtS3 rfl | exact v_loadS_r (ov rfl) rtS3 rfl)) ?_
  refine R_q _ rfl (v_eql (ov rfl) (ov rfl)) ?_
  refine R_nil ?_
  refine T_keep (kc 2 rfl <| kc 3 rfl <| kc 4 rfl <| kc 7 rfl <| kc 19 rfl <| kn) rfl ?_
  refine T_cond rfl (fun h19 => ?_) (fun h19 => ?_)
  · skip
    have hm0 : l.m = 0 := by simpa using h19
    refine T_keep (kc 7 rfl <| kn) rfl ?_
    refine T_seq (T_reg ?_)   -- region 3
    refine R_q _ rfl (v_move (ov rfl)) ?_
    refine R_q _ rfl (v_assign (ov rfl)) ?_
    refine R_nil ?_
    refine T_ret ?_
    refine retq ?_ (.one (.tmp rfl (View.ownB (o := Own.mk 3 ([l.a, l.b].map iv)) rfl rfl (rowsI rtZ_3 [l.a, l.b]))))
    simp [candL, hm0]
  · skip
    have hm0 : ¬ l.m = 0 := by simpa using h19
    refine T_skip ?_
    refine T_seq ?_
    refine T_keep (kc 2 rfl <| kc 3 rfl <| kc 4 rfl <| kc 7 rfl <| kn) rfl ?_
    refine T_seq (T_reg ?_)   -- region 4
    refine R_q _ rfl (v_move (ov rfl)) ?_
    refine R_q _ rfl ((by first | exact v_fieldP (ov rfl) rfl rfl rtF35_2 | exact v_fieldR (ov rfl) rtF35_2)) ?_
    refine R_q _ rfl ((by first | exact v_loadS (ov rfl) rfl rfl rfl rtS3 rfl | exact v_loadS_r (ov rfl) rtS3 rfl)) ?_
    refine R_q _ rfl ((by first | exact v_fieldP (ov rfl) rfl rfl rtF35_3 | exact v_fieldR (ov rfl) rtF35_3)) ?_
    refine R_q _ rfl ((by first | exact v_loadS (ov rfl) rfl rfl rfl rtS3 rfl | exact v_loadS_r (ov rfl) rtS3 rfl)) ?_
    refine R_q _ rfl (v_buildA (ys := [_, _, _]) rtR88 rtZ88 (.cons (cvs (ov rfl) (cell1_b rfl)) <| .cons (cvs (ov rfl) (cell1_b rfl)) <| .cons (cvs (ov rfl) (cell1_b rfl)) <| .nil) rfl) ?_
    refine R_q _ rfl (v_move (ov rfl)) ?_
    refine R_nil ?_
    refine T_block ?_   -- block 0
    refine T_loop (ι := Nat × List Int) (fun p => p.1 ≤ 3 ∧ p.2 = cOut n lo hi l p.1 ∧ p.2.length = 2 + 4 * p.1) (fun p => ⟨[(4, .ptr 1 1 0 0), (7, .own 2 p.2.length), (26, .agg [.int .i64 n, .int .i64 lo, .int .i64 hi]), (27, .int .i64 p.1)], [some ⟨35, [calL den ls lo hi]⟩, some ⟨56, [l.av]⟩, some ⟨3, p.2.map iv⟩]⟩) (fun p => 3 - p.1) (0, [l.a, l.b]) (⟨by simp, by simp [cOut], by simp⟩) (Ent.keep (kc 4 rfl <| kc 7 rfl <| kc 26 rfl <| kc 27 rfl <| kn) rfl) ?_
    intro ⟨i, ys⟩ hC
    obtain ⟨hile, hy, hyl⟩ := hC
    simp only at hile hy hyl
    refine T_keep (kc 4 rfl <| ke 7 rfl (v' := .own 2 ys.length) rfl <| kc 26 rfl <| ke 27 rfl (v' := .int .i64 (i : Int)) rfl <| kn) rfl ?_
    refine T_keep (kc 4 rfl <| kc 7 rfl <| kc 26 rfl <| kc 27 rfl <| kn) rfl ?_
    refine T_seq (T_reg ?_)   -- region 5
    refine R_q _ rfl (v_lss (ov rfl) (ov rfl)) ?_
    refine R_nil ?_
    refine T_seq ?_
    refine T_keep (kc 4 rfl <| kc 7 rfl <| kc 26 rfl <| kc 27 rfl <| kc 28 rfl <| kn) rfl ?_
    refine T_cond rfl (fun h28 => ?_) (fun h28 => ?_)
    · skip
      have hi3 : i < 3 := by simp at h28; omega
      refine T_skip ?_
      refine T_seq ?_
      refine T_block ?_   -- block 1
      refine T_keep (kc 4 rfl <| kc 7 rfl <| kc 26 rfl <| kc 27 rfl <| kn) rfl ?_
      have hxv : ([.int .i64 n, .int .i64 lo, .int .i64 hi] : List AV)[i]? = some (.int .i64 (xAt n lo hi i)) := by rcases (show i = 0 ∨ i = 1 ∨ i = 2 by omega) with rfl | rfl | rfl <;> rfl
      have hxb := xAt_b hn hr i
      have hqb := flo_b (n := xAt n lo hi i - l.c) (d := l.m) (B := 2251799813685248) hm0 (by omega) (by omega)
      refine T_seq (T_reg ?_)   -- region 6
      refine R_q _ rfl (v_indexV (m := i) (ov rfl) (ov rfl) rtR88 rtS3 rfl (by omega) hxv) ?_
      refine R_q _ rfl (v_assign (ov rfl)) ?_
      refine R_nil ?_
      refine T_keep (kc 4 rfl <| kc 7 rfl <| kc 9 rfl <| kc 26 rfl <| kc 27 rfl <| kn) rfl ?_
      refine T_seq (T_reg ?_)   -- region 7
      refine R_q _ rfl (v_move (ov rfl)) ?_
      refine R_q _ rfl ((by first | exact v_fieldP (ov rfl) rfl rfl rtF56_3 | exact v_fieldR (ov rfl) rtF56_3)) ?_
      refine R_q _ rfl ((by first | exact v_loadS (ov rfl) rfl rfl rfl rtS3 rfl | exact v_loadS_r (ov rfl) rtS3 rfl)) ?_
      refine R_q _ rfl (v_sub (ov rfl) (ov rfl) (w64 (by first | omega | (simp at *; omega) | (simp_all; omega)) (by first | omega | (simp at *; omega) | (simp_all; omega)))) ?_
      refine R_q _ rfl ((by first | exact v_fieldP (ov rfl) rfl rfl rtF56_2 | exact v_fieldR (ov rfl) rtF56_2)) ?_
      refine R_q _ rfl ((by first | exact v_loadS (ov rfl) rfl rfl rfl rtS3 rfl | exact v_loadS_r (ov rfl) rtS3 rfl)) ?_
      refine R_q _ rfl (v_call (rfloor_ok (xAt n lo hi i - l.c) l.m hm0 (by omega) (by omega)) (.cons (ov rfl) (by first | exact .b rfl | exact .aggB rfl | exact .fn) <| .cons (ov rfl) (by first | exact .b rfl | exact .aggB rfl | exact .fn) <| .nil)) ?_
      refine R_q _ rfl (v_assign (ov rfl)) ?_
      refine R_nil ?_
      refine T_keep (kc 4 rfl <| kc 7 rfl <| kc 10 rfl <| kc 26 rfl <| kc 27 rfl <| kn) rfl ?_
      refine T_seq (T_reg ?_)   -- region 8
      refine R_q _ rfl (v_assign (ov rfl)) ?_
      refine R_nil ?_
      refine T_block ?_   -- block 2
      refine T_loop (ι := Nat × List Int) (fun q => q.1 ≤ 4 ∧ q.2 = ys ++ cIn l (flo (xAt n lo hi i - l.c) l.m) q.1 ∧ q.2.length = 2 + 4 * i + q.1) (fun q => ⟨[(4, .ptr 1 1 0 0), (7, .own 2 q.2.length), (10, .int .i64 (flo (xAt n lo hi i - l.c) l.m)), (11, .int .i64 ((q.1 : Int) - 1)), (26, .agg [.int .i64 n, .int .i64 lo, .int .i64 hi]), (27, .int .i64 (i : Int))], [some ⟨35, [calL den ls lo hi]⟩, some ⟨56, [l.av]⟩, some ⟨3, q.2.map iv⟩]⟩) (fun q => 4 - q.1) (0, ys) (⟨by simp, by simp [cIn], by simp only; omega⟩) (Ent.keep (kc 4 rfl <| kc 7 rfl <| kc 10 rfl <| kc 11 rfl <| kc 26 rfl <| kc 27 rfl <| kn) rfl) ?_
      intro ⟨j, zs⟩ hC
      obtain ⟨hj, hz, hzl⟩ := hC
      simp only at hj hz hzl
      refine T_keep (kc 4 rfl <| ke 7 rfl (v' := .own 2 zs.length) rfl <| kc 10 rfl <| ke 11 rfl (v' := .int .i64 ((j : Int) - 1)) rfl <| kc 26 rfl <| kc 27 rfl <| kn) rfl ?_
      refine T_seq ?_
      refine T_keep (kc 4 rfl <| kc 7 rfl <| kc 10 rfl <| kc 11 rfl <| kc 26 rfl <| kc 27 rfl <| kn) rfl ?_
      refine T_seq (T_reg ?_)   -- region 9
      refine R_q _ rfl (v_move (ov rfl)) ?_
      refine R_q _ rfl (v_leq (ov rfl) (ov rfl)) ?_
      refine R_nil ?_
      refine T_keep (kc 4 rfl <| kc 7 rfl <| kc 10 rfl <| kc 11 rfl <| kc 26 rfl <| kc 27 rfl <| kc 38 rfl <| kn) rfl ?_
      refine T_cond rfl (fun h38 => ?_) (fun h38 => ?_)
      · skip
        have hj4 : j < 4 := by simp at h38; omega
        refine T_skip ?_
        refine T_seq ?_
        refine T_block ?_   -- block 3
        refine T_keep (kc 4 rfl <| kc 7 rfl <| kc 10 rfl <| kc 11 rfl <| kc 26 rfl <| kc 27 rfl <| kn) rfl ?_
        refine T_reg ?_   -- region 11
        refine R_q _ rfl (v_move (ov rfl)) ?_
        refine R_q _ rfl (v_move (ov rfl)) ?_
        refine R_q _ rfl (v_move (ov rfl)) ?_
        refine R_q _ rfl (v_add (ov rfl) (ov rfl) (w64 (by first | omega | (simp at *; omega) | (simp_all; omega)) (by first | omega | (simp at *; omega) | (simp_all; omega)))) ?_
        refine R_q _ rfl ((by first | exact v_fieldP (ov rfl) rfl rfl rtF56_0 | exact v_fieldR (ov rfl) rtF56_0)) ?_
        refine R_q _ rfl ((by first | exact v_loadS (ov rfl) rfl rfl rfl rtS3 rfl | exact v_loadS_r (ov rfl) rtS3 rfl)) ?_
        refine R_q _ rfl (v_max (ov rfl) (ov rfl) rfl) ?_
        refine R_q _ rfl ((by first | exact v_fieldP (ov rfl) rfl rfl rtF56_1 | exact v_fieldR (ov rfl) rtF56_1)) ?_
        refine R_q _ rfl ((by first | exact v_loadS (ov rfl) rfl rfl rfl rtS3 rfl | exact v_loadS_r (ov rfl) rtS3 rfl)) ?_
        refine R_q _ rfl (v_min (ov rfl) (ov rfl) rfl) ?_
        refine R_q _ rfl (v_lit rtL25 (.cons (cvs (ov rfl) (cell1_b rfl)) rfl (.cons (.b rfl) .nil) <| .nil) rfl rfl) ?_
        refine R_w _ _ rfl (w_append (m := 1) (ov rfl) (slv_sl (ov rfl) rfl) rtL25 rfl (by simp) rfl rfl (by decide) (by intro row hr u hu; simp at hr; subst hr; simp at hu; subst hu; exact cell1_b rfl) (by omega) (by omega)) ?_
        refine R_q _ rfl (v_assign (ov rfl)) ?_
        refine R_nil ?_
        refine T_keep (kc 4 rfl <| kc 7 rfl <| kc 10 rfl <| kc 11 rfl <| kc 26 rfl <| kc 27 rfl <| kn) rfl ?_
        refine T_reg ?_   -- region 10
        refine R_q _ rfl (v_move (ov rfl)) ?_
        refine R_q _ rfl (v_add (ov rfl) (ov rfl) (w64 (by first | omega | (simp at *; omega) | (simp_all; omega)) (by first | omega | (simp at *; omega) | (simp_all; omega)))) ?_
        refine R_q _ rfl (v_assign (ov rfl)) ?_
        refine R_nil ?_
        exact ⟨(j + 1, zs ++ [cnd l (flo (xAt n lo hi i - l.c) l.m) ((j : Int) - 1)]), ⟨by simp only; omega, by simp only; rw [cIn_succ, ← List.append_assoc, ← hz], by simp only [List.length_append, List.length_singleton]; omega⟩, by simp only; omega, Ent.keep (ke 4 rfl rfl <| ke 7 rfl (by simp) <| ke 10 rfl rfl <| ke 11 rfl (by simp only [Int.natCast_add, Int.natCast_one]; congr 1; omega) <| ke 26 rfl rfl <| ke 27 rfl rfl <| kn) (by show _ = [_, _, some (Own.mk 3 ((zs ++ [cnd l (flo (xAt n lo hi i - l.c) l.m) ((j : Int) - 1)]).map iv))]; rw [List.map_append]; rfl)⟩
      · skip
        have hj4 : j = 4 := by simp at h38; omega
        refine T_exit ?_   -- exit 2
        refine T_keep (kc 4 rfl <| kc 7 rfl <| kc 26 rfl <| kc 27 rfl <| kn) rfl ?_
        refine T_reg ?_   -- region 12
        refine R_q _ rfl (v_add (ov rfl) (ov rfl) (w64 (by first | omega | (simp at *; omega) | (simp_all; omega)) (by first | omega | (simp at *; omega) | (simp_all; omega)))) ?_
        refine R_q _ rfl (v_move (ov rfl)) ?_
        refine R_nil ?_
        exact ⟨(i + 1, zs), ⟨by simp only; omega, by simp only; rw [cOut_succ, ← hy, hz, hj4], by simp only; omega⟩, by simp only; omega, Ent.keep (ke 4 rfl rfl <| ke 7 rfl rfl <| ke 26 rfl rfl <| ke 27 rfl (by push_cast; rfl) <| kn) rfl⟩
    · skip
      have hi3 : i = 3 := by simp at h28; omega
      refine T_exit ?_   -- exit 0
      refine T_keep (kc 7 rfl <| kn) rfl ?_
      refine T_seq (T_reg ?_)   -- region 13
      refine R_q _ rfl (v_move (ov rfl)) ?_
      refine R_q _ rfl (v_assign (ov rfl)) ?_
      refine R_nil ?_
      refine T_ret ?_
      refine retq ?_ (.one (.tmp rfl (View.ownB (o := Own.mk 3 (ys.map iv)) rfl (by simp) (rowsI rtZ_3 ys))))
      simp [candL, hm0, hy, hi3]

-- ref5.Nearest (function 15)
theorem rNearest_ok (den : Int) (ls : List Line) (lo hi n : Int) : CSpec Try.prog 15 [.agg (calL den ls lo hi), .int .i64 n] (.tuple [.int .i64 (outRNear den ls lo hi n).1, .int .i64 (outRNear den ls lo hi n).2]) := by
  refine spec_of (by kernel_rfl) Try.func15 rfl rfl ?_
  intro w0 A
  refine T_keep (kc 0 rfl <| kc 1 rfl <| kn) rfl ?_
  refine T_seq (T_reg ?_)   -- region 0
  refine R_w _ _ rfl (w_box 0 rfl (ov rfl) rtA35 rfl) ?_
  refine R_q _ rfl (v_assign (ov rfl)) ?_
  refine R_q _ rfl (v_assign (ov rfl)) ?_
  refine R_nil ?_
  refine T_seq ?_
  refine T_keep (kc 1 rfl <| kc 2 rfl <| kn) rfl ?_
  refine T_seq (T_reg ?_)   -- region 1
  refine R_q _ rfl ((by first | exact v_loadA (ov rfl) rfl rfl rfl rtA35 rfl rfl | exact v_loadA_r (ov rfl) rtA35 rfl rfl)) ?_
  refine R_q _ rfl (v_call (rchkC_ok _ _ _ _) (.cons (ov rfl) (by first | exact .b rfl | exact .aggB rfl | exact .fn) <| .nil)) ?_
  refine R_q _ rfl (v_assign (ov rfl)) ?_
  refine R_nil ?_
  refine T_keep (kc 1 rfl <| kc 2 rfl <| kc 6 rfl <| kn) rfl ?_
  refine T_seq (T_reg ?_)   -- region 2
  refine R_q _ rfl (v_move (ov rfl)) ?_
  refine R_q _ rfl (v_neq (ov rfl) (ov rfl)) ?_
  refine R_nil ?_
  refine T_keep (kc 1 rfl <| kc 2 rfl <| kc 6 rfl <| kc 19 rfl <| kn) rfl ?_
  refine T_cond rfl (fun h19 => ?_) (fun h19 => ?_)
  · skip
    have h0 : ¬ chkC den ls lo hi = 0 := by simpa using h19
    refine T_keep (kc 6 rfl <| kn) rfl ?_
    refine T_seq (T_reg ?_)   -- region 3
    refine R_q _ rfl (v_move (ov rfl)) ?_
    refine R_q _ rfl (v_assign (ov rfl)) ?_
    refine R_q _ rfl (v_assign (ov rfl)) ?_
    refine R_nil ?_
    refine T_ret ?_
    refine retq ?_ (.two (.tmp rfl (Dat.view (.b rfl))) (.tmp rfl (Dat.view (.b rfl))))
    simp [outRNear, h0, constAV]
  · skip
    have h0 : chkC den ls lo hi = 0 := by simpa using h19
    have hg := good_of h0
    have hlen := hg.len
    refine T_skip ?_
    refine T_seq ?_
    refine T_keep (kc 1 rfl <| kc 2 rfl <| kn) rfl ?_
    refine T_seq (T_reg ?_)   -- region 4
    refine R_q _ rfl (v_move (ov rfl)) ?_
    refine R_q _ rfl (v_call (outside_ok _ _ _) (.cons (ov rfl) (by first | exact .b rfl | exact .aggB rfl | exact .fn) <| .cons (ov rfl) (by first | exact .b rfl | exact .aggB rfl | exact .fn) <| .cons (ov rfl) (by first | exact .b rfl | exact .aggB rfl | exact .fn) <| .nil)) ?_
    refine R_nil ?_
    refine T_keep (kc 1 rfl <| kc 2 rfl <| kc 22 rfl <| kn) rfl ?_
    refine T_cond rfl (fun h22 => ?_) (fun h22 => ?_)
    · skip
      have hn : wi n (-1125899906842624) 1125899906842624 = false := by simpa using h22
      refine T_keep (kn) rfl ?_
      refine T_seq (T_reg ?_)   -- region 5
      refine R_q _ rfl (v_assign (ov rfl)) ?_
      refine R_q _ rfl (v_assign (ov rfl)) ?_
      refine R_nil ?_
      refine T_ret ?_
      refine retq ?_ (.two (.tmp rfl (Dat.view (.b rfl))) (.tmp rfl (Dat.view (.b rfl))))
      simp [outRNear, h0, hn, constAV]
    · skip
      have hn : wi n (-1125899906842624) 1125899906842624 = true := by simpa using h22
      have hnn : -1125899906842624 ≤ n ∧ n ≤ 1125899906842624 := by simpa [wi] using hn
      have hrng := hg.rng
      obtain ⟨k1, k2, k3, k4, k5⟩ := hrng
      refine T_skip ?_
      refine T_keep (kc 1 rfl <| kc 2 rfl <| kn) rfl ?_
      refine T_seq (T_reg ?_)   -- region 6
      refine R_q _ rfl (v_assign (ov rfl)) ?_
      refine R_q _ rfl (v_assign (ov rfl)) ?_
      refine R_q _ rfl (v_assign (ov rfl)) ?_
      refine R_nil ?_
      refine T_seq ?_
      refine T_keep (kc 1 rfl <| kc 2 rfl <| kc 7 rfl <| kc 8 rfl <| kc 9 rfl <| kn) rfl ?_
      refine T_seq (T_reg ?_)   -- region 7
      refine R_q _ rfl (v_assign (ov rfl)) ?_
      refine R_nil ?_
      refine T_block ?_   -- block 0
      refine T_loop (ι := Nat × Int × Int × Bool) (fun p => p.1 ≤ ls.length ∧ router n lo hi ls (0, 0, false) ls = router n lo hi ls p.2 (ls.drop p.1)) (fun p => ⟨[(1, .int .i64 n), (2, .ptr 0 1 0 0), (7, .int .i64 p.2.1), (8, .int .i64 p.2.2.1), (9, .bool p.2.2.2), (10, .int .i64 p.1)], [some ⟨35, [calL den ls lo hi]⟩]⟩) (fun p => ls.length - p.1) (0, 0, 0, false) (⟨by simp, rfl⟩) (Ent.keep (kc 1 rfl <| kc 2 rfl <| kc 7 rfl <| kc 8 rfl <| kc 9 rfl <| kc 10 rfl <| kn) rfl) ?_
      intro ⟨k, s⟩ hC
      obtain ⟨hk, hc⟩ := hC
      simp only at hk hc
      refine T_keep (kc 1 rfl <| kc 2 rfl <| ke 7 rfl (v' := .int .i64 s.1) rfl <| ke 8 rfl (v' := .int .i64 s.2.1) rfl <| ke 9 rfl (v' := .bool s.2.2) rfl <| ke 10 rfl (v' := .int .i64 (k : Int)) rfl <| kn) rfl ?_
      refine T_seq ?_
      refine T_keep (kc 1 rfl <| kc 2 rfl <| kc 7 rfl <| kc 8 rfl <| kc 9 rfl <| kc 10 rfl <| kn) rfl ?_
      refine T_seq (T_reg ?_)   -- region 8
      refine R_q _ rfl (v_move (ov rfl)) ?_
      refine R_q _ rfl ((by first | exact v_fieldP (ov rfl) rfl rfl rtF35_1 | exact v_fieldR (ov rfl) rtF35_1)) ?_
      refine R_q _ rfl ((by first | exact v_loadS (ov rfl) rfl rfl rfl rtS33 rfl | exact v_loadS_r (ov rfl) rtS33 rfl)) ?_
      refine R_q _ rfl ((by first | exact v_len (slv_sl (ov rfl) rfl) rtL33 (len_map _ _) | exact v_len (slv_sl (ov rfl) rfl) rtL33 rfl | exact v_len (slv_own (ov rfl) rfl rfl rfl) rtL33 rfl)) ?_
      refine R_q _ rfl (v_lss (ov rfl) (ov rfl)) ?_
      refine R_nil ?_
      refine T_keep (kc 1 rfl <| kc 2 rfl <| kc 7 rfl <| kc 8 rfl <| kc 9 rfl <| kc 10 rfl <| kc 27 rfl <| kn) rfl ?_
      refine T_cond rfl (fun h27 => ?_) (fun h27 => ?_)
      · skip
        try simp at h27
        refine T_skip ?_
        refine T_seq ?_
        refine T_block ?_   -- block 1
        refine T_keep (kc 1 rfl <| kc 2 rfl <| kc 7 rfl <| kc 8 rfl <| kc 9 rfl <| kc 10 rfl <| kn) rfl ?_
        obtain ⟨x, hx⟩ := get_ex (xs := ls) (k := k) (by omega)
        have hxo := hg.ok x (List.mem_of_getElem? hx)
        have hcl := candL_len n lo hi x
        refine T_seq (T_draw (cw := false) (by kernel_rfl) ?_)   -- region 10 draws
        refine D_read 0 _ rfl (by kernel_rfl) rfl rfl (fun hp' hx => (by first | exact v_loadA (ov rfl) (hx.2 _ _ rfl) rfl rfl rtA35 rfl rfl | exact v_loadA_r (ov rfl) rtA35 rfl rfl)) ?_
        refine D_read 1 _ rfl (by kernel_rfl) rfl rfl (fun hp' hx => (by first | exact v_fieldP (ov rfl) (hx.2 _ _ rfl) rfl rtF35_1 | exact v_fieldR (ov rfl) rtF35_1)) ?_
        refine D_read 2 _ rfl (by kernel_rfl) rfl rfl (fun hp' hx => (by first | exact v_loadS (ov rfl) (hx.2 _ _ rfl) rfl rfl rtS33 rfl | exact v_loadS_r (ov rfl) rtS33 rfl)) ?_
        refine D_free 3 _ rfl (by kernel_rfl) rfl rfl (fun hp' => v_move (ov rfl)) ?_
        refine D_read 4 _ rfl (by kernel_rfl) rfl rfl (fun hp' hx => (by first | exact v_ixS (ov rfl) (ov rfl) rtL33 rfl (row_map (by assumption)) | exact v_ixO (ov rfl) (ov rfl) rtL33 (hx.2 _ _ rfl) rfl (by assumption))) ?_
        refine D_read 5 _ rfl (by kernel_rfl) rfl rfl (fun hp' hx => (by first | exact v_loadA (ov rfl) (hx.2 _ _ rfl) rfl rfl rtA56 rfl rfl | exact v_loadA_r (ov rfl) rtA56 rfl rfl)) ?_
        refine D_oneq 6 _ rfl (by kernel_rfl) rfl rfl (fun hp' => v_move (ov rfl)) ?_
        refine D_oner 7 _ rfl (by kernel_rfl) rfl rfl (fun hp' hx => v_call (cand_ok den ls lo hi x n hxo hg.rng hnn) (.cons (ov rfl) (by first | exact .b rfl | exact .aggB rfl | exact .fn) <| .cons (ov rfl) (by first | exact .b rfl | exact .aggB rfl | exact .fn) <| .cons (ov rfl) (by first | exact .b rfl | exact .aggB rfl | exact .fn) <| .nil)) ?_
        refine D_oneq 8 _ rfl (by kernel_rfl) rfl rfl (fun hp' => v_assign (ov rfl)) ?_
        refine D_done (by kernel_rfl) ?_
        refine T_keep (kc 1 rfl <| kc 2 rfl <| kc 7 rfl <| kc 8 rfl <| kc 9 rfl <| kc 10 rfl <| kc 11 rfl <| kn) rfl ?_
        refine T_seq (T_reg ?_)   -- region 11
        refine R_q _ rfl (v_assign (ov rfl)) ?_
        refine R_nil ?_
        refine T_block ?_   -- block 2
        refine T_loop (ι := Nat × Int × Int × Bool) (fun q => q.1 ≤ (candL n lo hi x).length ∧ rfold n lo hi ls s (candL n lo hi x) = rfold n lo hi ls q.2 ((candL n lo hi x).drop q.1)) (fun q => ⟨[(1, .int .i64 n), (2, .ptr 0 1 0 0), (7, .int .i64 q.2.1), (8, .int .i64 q.2.2.1), (9, .bool q.2.2.2), (10, .int .i64 (k : Int)), (11, .sl 3 ((candL n lo hi x).map iv)), (12, .int .i64 q.1)], [some ⟨35, [calL den ls lo hi]⟩]⟩) (fun q => (candL n lo hi x).length - q.1) (0, s) (⟨by simp, rfl⟩) (Ent.keep (kc 1 rfl <| kc 2 rfl <| kc 7 rfl <| kc 8 rfl <| kc 9 rfl <| kc 10 rfl <| kc 11 rfl <| kc 12 rfl <| kn) rfl) ?_
        intro ⟨j, r⟩ hC
        obtain ⟨hj, hr⟩ := hC
        simp only at hj hr
        refine T_keep (kc 1 rfl <| kc 2 rfl <| ke 7 rfl (v' := .int .i64 r.1) rfl <| ke 8 rfl (v' := .int .i64 r.2.1) rfl <| ke 9 rfl (v' := .bool r.2.2) rfl <| kc 10 rfl <| kc 11 rfl <| ke 12 rfl (v' := .int .i64 (j : Int)) rfl <| kn) rfl ?_
        refine T_seq ?_
        refine T_keep (kc 1 rfl <| kc 2 rfl <| kc 7 rfl <| kc 8 rfl <| kc 9 rfl <| kc 10 rfl <| kc 11 rfl <| kc 12 rfl <| kn) rfl ?_
        refine T_seq (T_reg ?_)   -- region 12
        refine R_q _ rfl (v_move (ov rfl)) ?_
        refine R_q _ rfl (v_move (ov rfl)) ?_
        refine R_q _ rfl ((by first | exact v_len (slv_sl (ov rfl) rfl) rtL25 (len_map _ _) | exact v_len (slv_sl (ov rfl) rfl) rtL25 rfl | exact v_len (slv_own (ov rfl) rfl rfl rfl) rtL25 rfl)) ?_
        refine R_q _ rfl (v_lss (ov rfl) (ov rfl)) ?_
        refine R_nil ?_
        refine T_keep (kc 1 rfl <| kc 2 rfl <| kc 7 rfl <| kc 8 rfl <| kc 9 rfl <| kc 10 rfl <| kc 11 rfl <| kc 12 rfl <| kc 41 rfl <| kn) rfl ?_
        refine T_cond rfl (fun h41 => ?_) (fun h41 => ?_)
        · skip
          try simp at h41
          refine T_skip ?_
          refine T_seq ?_
          refine T_block ?_   -- block 3
          refine T_keep (kc 1 rfl <| kc 2 rfl <| kc 7 rfl <| kc 8 rfl <| kc 9 rfl <| kc 10 rfl <| kc 11 rfl <| kc 12 rfl <| kn) rfl ?_
          obtain ⟨v, hv⟩ := get_ex (xs := candL n lo hi x) (k := j) (by omega)
          refine T_seq (T_draw (cw := false) (by kernel_rfl) ?_)   -- region 14 draws
          refine D_read 0 _ rfl (by kernel_rfl) rfl rfl (fun hp' hx => (by first | exact v_loadA (ov rfl) (hx.2 _ _ rfl) rfl rfl rtA35 rfl rfl | exact v_loadA_r (ov rfl) rtA35 rfl rfl)) ?_
          refine D_free 1 _ rfl (by kernel_rfl) rfl rfl (fun hp' => v_move (ov rfl)) ?_
          refine D_oneq 2 _ rfl (by kernel_rfl) rfl rfl (fun hp' => v_move (ov rfl)) ?_
          refine D_oner 3 _ rfl (by kernel_rfl) rfl rfl (fun hp' hx => v_ixS (ov rfl) (ov rfl) rtL25 rfl (row_map (f := iv) hv)) ?_
          refine D_oner 4 _ rfl (by kernel_rfl) rfl rfl (fun hp' hx => (by first | exact v_loadS (ov rfl) (hx.2 _ _ rfl) rfl rfl rtS3 rfl | exact v_loadS_r (ov rfl) rtS3 rfl)) ?_
          refine D_oner 5 _ rfl (by kernel_rfl) rfl rfl (fun hp' hx => v_call (rapply_ok den ls lo hi v hg.ok hg.len) (.cons (ov rfl) (by first | exact .b rfl | exact .aggB rfl | exact .fn) <| .cons (ov rfl) (by first | exact .b rfl | exact .aggB rfl | exact .fn) <| .nil)) ?_
          refine D_oneq 6 _ rfl (by kernel_rfl) rfl rfl (fun hp' => v_move (ov rfl)) ?_
          refine D_free 7 _ rfl (by kernel_rfl) rfl rfl (fun hp' => v_extract (ov rfl) rfl) ?_
          refine D_free 8 _ rfl (by kernel_rfl) rfl rfl (fun hp' => v_extract (ov rfl) rfl) ?_
          refine D_oneq 9 _ rfl (by kernel_rfl) rfl rfl (fun hp' => v_assign (ov rfl)) ?_
          refine D_oneq 10 _ rfl (by kernel_rfl) rfl rfl (fun hp' => v_assign (ov rfl)) ?_
          refine D_done (by kernel_rfl) ?_
          refine T_seq ?_
          refine T_keep (kc 1 rfl <| kc 2 rfl <| kc 7 rfl <| kc 8 rfl <| kc 9 rfl <| kc 10 rfl <| kc 11 rfl <| kc 12 rfl <| kc 13 rfl <| kc 14 rfl <| kn) rfl ?_
          refine T_seq (T_reg ?_)   -- region 15
          refine R_q _ rfl (v_move (ov rfl)) ?_
          refine R_q _ rfl (v_not (ov rfl)) ?_
          refine R_nil ?_
          refine T_keep (kc 1 rfl <| kc 2 rfl <| kc 7 rfl <| kc 8 rfl <| kc 9 rfl <| kc 10 rfl <| kc 11 rfl <| kc 12 rfl <| kc 13 rfl <| kc 54 rfl <| kn) rfl ?_
          refine T_cond rfl (fun h54 => ?_) (fun h54 => ?_)
          · skip
            have hv2 : (rappl lo hi v ls).2 = false := by simpa using h54
            refine T_exit ?_   -- exit 3
            refine T_keep (kc 1 rfl <| kc 2 rfl <| kc 7 rfl <| kc 8 rfl <| kc 9 rfl <| kc 10 rfl <| kc 11 rfl <| kc 12 rfl <| kn) rfl ?_
            refine T_reg ?_   -- region 13
            refine R_q _ rfl (v_move (ov rfl)) ?_
            refine R_q _ rfl (v_add (ov rfl) (ov rfl) (w64 (by first | omega | (simp at *; omega) | (simp_all; omega)) (by first | omega | (simp at *; omega) | (simp_all; omega)))) ?_
            refine R_q _ rfl (v_assign (ov rfl)) ?_
            refine R_nil ?_
            exact ⟨(j + 1, r), ⟨by simp only; omega, by simp only; rw [hr, drop_cons hv, rfold, rstep, hv2]; rfl⟩, by simp only; omega, Ent.keep (ke 1 rfl rfl <| ke 2 rfl rfl <| ke 7 rfl rfl <| ke 8 rfl rfl <| ke 9 rfl rfl <| ke 10 rfl rfl <| ke 11 rfl rfl <| ke 12 rfl (by push_cast; rfl) <| kn) rfl⟩
          · skip
            have hv2 : (rappl lo hi v ls).2 = true := by simpa using h54
            have hvi := rappl_in ls hv2
            refine T_skip ?_
            refine T_keep (kc 1 rfl <| kc 2 rfl <| kc 7 rfl <| kc 8 rfl <| kc 9 rfl <| kc 10 rfl <| kc 11 rfl <| kc 12 rfl <| kc 13 rfl <| kn) rfl ?_
            refine T_seq (T_reg ?_)   -- region 16
            refine R_q _ rfl (v_move (ov rfl)) ?_
            refine R_q _ rfl (v_move (ov rfl)) ?_
            refine R_q _ rfl (v_call (apart_ok (rappl lo hi v ls).1 n (by omega) (by omega)) (.cons (ov rfl) (by first | exact .b rfl | exact .aggB rfl | exact .fn) <| .cons (ov rfl) (by first | exact .b rfl | exact .aggB rfl | exact .fn) <| .nil)) ?_
            refine R_q _ rfl (v_assign (ov rfl)) ?_
            refine R_nil ?_
            refine T_keep (kc 1 rfl <| kc 2 rfl <| kc 7 rfl <| kc 8 rfl <| kc 9 rfl <| kc 10 rfl <| kc 11 rfl <| kc 12 rfl <| kc 15 rfl <| kn) rfl ?_
            refine T_seq (T_reg ?_)   -- region 17
            refine R_q _ rfl (v_move (ov rfl)) ?_
            refine R_q _ rfl (v_not (ov rfl)) ?_
            refine R_q _ rfl (v_move (ov rfl)) ?_
            refine R_q _ rfl (.guarded _ rfl rfl rfl rfl fun h => v_move (ov rfl)) ?_
            refine R_q _ rfl (.guarded _ rfl rfl rfl rfl fun h => v_move (ov rfl)) ?_
            refine R_q _ rfl (.guarded _ rfl rfl rfl rfl fun h => v_lss (ow rfl h) (ow rfl h)) ?_
            refine R_q _ rfl (v_or (ov rfl) (fun hp => ow rfl (gF hp))) ?_
            refine R_q _ rfl (v_move (ov rfl)) ?_
            refine R_q _ rfl (.guarded _ rfl rfl rfl rfl fun h => v_move (ov rfl)) ?_
            refine R_q _ rfl (.guarded _ rfl rfl rfl rfl fun h => v_move (ov rfl)) ?_
            refine R_q _ rfl (.guarded _ rfl rfl rfl rfl fun h => v_eql (ow rfl h) (ow rfl h)) ?_
            refine R_q _ rfl (.guarded _ rfl rfl rfl rfl fun h => v_move (ow rfl h)) ?_
            refine R_q _ rfl (.guarded2 _ rfl rfl rfl rfl fun h => v_move (ov rfl)) ?_
            refine R_q _ rfl (.guarded2 _ rfl rfl rfl rfl fun h => v_move (ov rfl)) ?_
            refine R_q _ rfl (.guarded2 _ rfl rfl rfl rfl fun h => v_ixS (ow rfl h) (ow rfl h) rtL25 rfl (row_map (f := iv) hv)) ?_
            refine R_q _ rfl (.guarded2 _ rfl rfl rfl rfl fun h => (by first | exact v_loadS (ow rfl h) rfl rfl rfl rtS3 rfl | exact v_loadS_r (ow rfl h) rtS3 rfl)) ?_
            refine R_q _ rfl (.guarded2 _ rfl rfl rfl rfl fun h => v_move (ov rfl)) ?_
            refine R_q _ rfl (.guarded2 _ rfl rfl rfl rfl fun h => v_lss (ow rfl h) (ow rfl h)) ?_
            refine R_q _ rfl (.guarded _ rfl rfl rfl rfl fun h => v_and (ow rfl h) (fun hp => ow rfl (gA h (gT hp)))) ?_
            refine R_q _ rfl (v_or (ov rfl) (fun hp => ow rfl (gF hp))) ?_
            refine R_nil ?_
            refine T_keep (kc 1 rfl <| kc 2 rfl <| kc 7 rfl <| kc 8 rfl <| kc 9 rfl <| kc 10 rfl <| kc 11 rfl <| kc 12 rfl <| kc 15 rfl <| kc 77 rfl <| kn) rfl ?_
            refine T_cond rfl (fun h77 => ?_) (fun h77 => ?_)
            · skip
              have hc7 : rcond r v (rD n (rappl lo hi v ls).1) = true := h77
              refine T_keep (kc 1 rfl <| kc 2 rfl <| kc 10 rfl <| kc 11 rfl <| kc 12 rfl <| kc 15 rfl <| kn) rfl ?_
              refine T_reg ?_   -- region 18
              refine R_q _ rfl (v_move (ov rfl)) ?_
              refine R_q _ rfl (v_move (ov rfl)) ?_
              refine R_q _ rfl (v_ixS (ov rfl) (ov rfl) rtL25 rfl (row_map (f := iv) hv)) ?_
              refine R_q _ rfl ((by first | exact v_loadS (ov rfl) rfl rfl rfl rtS3 rfl | exact v_loadS_r (ov rfl) rtS3 rfl)) ?_
              refine R_q _ rfl (v_move (ov rfl)) ?_
              refine R_q _ rfl (v_assign (ov rfl)) ?_
              refine R_q _ rfl (v_assign (ov rfl)) ?_
              refine R_q _ rfl (v_assign (ov rfl)) ?_
              refine R_nil ?_
              refine T_keep (kc 1 rfl <| kc 2 rfl <| kc 7 rfl <| kc 8 rfl <| kc 9 rfl <| kc 10 rfl <| kc 11 rfl <| kc 12 rfl <| kn) rfl ?_
              refine T_reg ?_   -- region 13
              refine R_q _ rfl (v_move (ov rfl)) ?_
              refine R_q _ rfl (v_add (ov rfl) (ov rfl) (w64 (by first | omega | (simp at *; omega) | (simp_all; omega)) (by first | omega | (simp at *; omega) | (simp_all; omega)))) ?_
              refine R_q _ rfl (v_assign (ov rfl)) ?_
              refine R_nil ?_
              exact ⟨(j + 1, v, rD n (rappl lo hi v ls).1, true), ⟨by simp only; omega, by simp only; rw [hr, drop_cons hv, rfold, rstep, if_pos hv2, if_pos hc7]⟩, by simp only; omega, Ent.keep (ke 1 rfl rfl <| ke 2 rfl rfl <| ke 7 rfl rfl <| ke 8 rfl rfl <| ke 9 rfl rfl <| ke 10 rfl rfl <| ke 11 rfl rfl <| ke 12 rfl (by push_cast; rfl) <| kn) rfl⟩
            · skip
              have hc7 : rcond r v (rD n (rappl lo hi v ls).1) = false := h77
              refine T_skip ?_
              refine T_keep (kc 1 rfl <| kc 2 rfl <| kc 7 rfl <| kc 8 rfl <| kc 9 rfl <| kc 10 rfl <| kc 11 rfl <| kc 12 rfl <| kn) rfl ?_
              refine T_reg ?_   -- region 13
              refine R_q _ rfl (v_move (ov rfl)) ?_
              refine R_q _ rfl (v_add (ov rfl) (ov rfl) (w64 (by first | omega | (simp at *; omega) | (simp_all; omega)) (by first | omega | (simp at *; omega) | (simp_all; omega)))) ?_
              refine R_q _ rfl (v_assign (ov rfl)) ?_
              refine R_nil ?_
              exact ⟨(j + 1, r), ⟨by simp only; omega, by simp only; rw [hr, drop_cons hv, rfold, rstep, if_pos hv2, if_neg (by rw [hc7]; simp)]⟩, by simp only; omega, Ent.keep (ke 1 rfl rfl <| ke 2 rfl rfl <| ke 7 rfl rfl <| ke 8 rfl rfl <| ke 9 rfl rfl <| ke 10 rfl rfl <| ke 11 rfl rfl <| ke 12 rfl (by push_cast; rfl) <| kn) rfl⟩
        · skip
          have hj0 : (candL n lo hi x).length ≤ j := by simpa using h41
          refine T_exit ?_   -- exit 2
          refine T_keep (kc 1 rfl <| kc 2 rfl <| kc 7 rfl <| kc 8 rfl <| kc 9 rfl <| kc 10 rfl <| kn) rfl ?_
          refine T_reg ?_   -- region 9
          refine R_q _ rfl (v_move (ov rfl)) ?_
          refine R_q _ rfl (v_add (ov rfl) (ov rfl) (w64 (by first | omega | (simp at *; omega) | (simp_all; omega)) (by first | omega | (simp at *; omega) | (simp_all; omega)))) ?_
          refine R_q _ rfl (v_assign (ov rfl)) ?_
          refine R_nil ?_
          exact ⟨(k + 1, r), ⟨by simp only; omega, by simp only; rw [hc, drop_cons hx, router, hr, List.drop_eq_nil_of_le hj0]; rfl⟩, by simp only; omega, Ent.keep (ke 1 rfl rfl <| ke 2 rfl rfl <| ke 7 rfl rfl <| ke 8 rfl rfl <| ke 9 rfl rfl <| ke 10 rfl (by push_cast; rfl) <| kn) rfl⟩
      · skip
        have hk0 : ls.length ≤ k := by simpa using h27
        refine T_exit ?_   -- exit 0
        refine T_seq ?_
        refine T_keep (kc 7 rfl <| kc 9 rfl <| kn) rfl ?_
        refine T_seq (T_reg ?_)   -- region 19
        refine R_q _ rfl (v_move (ov rfl)) ?_
        refine R_q _ rfl (v_not (ov rfl)) ?_
        refine R_nil ?_
        refine T_keep (kc 7 rfl <| kc 84 rfl <| kn) rfl ?_
        refine T_cond rfl (fun h84 => ?_) (fun h84 => ?_)
        · skip
          have hsm : s.2.2 = false := by simpa using h84
          refine T_keep (kn) rfl ?_
          refine T_seq (T_reg ?_)   -- region 20
          refine R_q _ rfl (v_assign (ov rfl)) ?_
          refine R_q _ rfl (v_assign (ov rfl)) ?_
          refine R_nil ?_
          refine T_ret ?_
          refine retq ?_ (.two (.tmp rfl (Dat.view (.b rfl))) (.tmp rfl (Dat.view (.b rfl))))
          have : (router n lo hi ls (0, 0, false) ls) = s := by rw [hc, List.drop_eq_nil_of_le hk0]; rfl
          simp [outRNear, h0, hn, constAV, this, hsm]
        · skip
          have hsm : s.2.2 = true := by simpa using h84
          refine T_skip ?_
          refine T_keep (kc 7 rfl <| kn) rfl ?_
          refine T_seq (T_reg ?_)   -- region 21
          refine R_q _ rfl (v_move (ov rfl)) ?_
          refine R_q _ rfl (v_assign (ov rfl)) ?_
          refine R_q _ rfl (v_assign (ov rfl)) ?_
          refine R_nil ?_
          refine T_ret ?_
          refine retq ?_ (.two (.tmp rfl (Dat.view (.b rfl))) (.tmp rfl (Dat.view (.b rfl))))
          have : (router n lo hi ls (0, 0, false) ls) = s := by rw [hc, List.drop_eq_nil_of_le hk0]; rfl
          simp [outRNear, h0, hn, constAV, this, hsm]
end Go.Proofs.Ytecdkapjjhkanaa

/- A text of the proof: a verified executor of the program form, or the contracts of the functions that the law reaches. -/
import Derived.Test.YtecdkapjjhkanaaVxO
import Derived.Test.YtecdkapjjhkanaaProg
set_option linter.all false
namespace Go.Proofs.Ytecdkapjjhkanaa
open Go Go.Vx
set_option maxRecDepth 10000
set_option maxHeartbeats 1000000
structure Sample where
  t : Int
  n : Int
  mark : Int

def Sample.av (x : Sample) : List AV := [.int .i64 x.t, .int .i64 x.n, .int .i64 x.mark]
def seriesL (den : Int) (xs : List Sample) : List AV := [.int .i64 den, .sl 27 (xs.map Sample.av)]

def wi (n lo hi : Int) : Bool := decide (lo ≤ n) && decide (n ≤ hi)
def badS (x : Sample) : Bool := !wi x.t 0 1099511627776 || !wi x.n (-1125899906842624) 1125899906842624 || !wi x.mark 0 4
def holeS (x : Sample) : Bool := !decide (x.n = 0) && decide (x.mark ≤ 1)
def chkL : Option Int → Int → List Sample → Int × Int
  | _, _, [] => (-1, 0)
  | p, i, x :: tl => if badS x then (i, 9) else if holeS x then (i, 2) else if p.any (fun q => decide (x.t ≤ q)) then (i, 10) else chkL (some x.t) (i + 1) tl
def chk (den : Int) (xs : List Sample) : Int × Int := if wi den 1 1000000 then (if (xs.length : Int) ≤ 20000 then chkL none 0 xs else (-1, 3)) else (-1, 9)
def prevAt (xs : List Sample) (k : Nat) : Option Int := if k = 0 then none else (xs[k-1]?).map Sample.t
theorem drop_cons {α : Type} {xs : List α} {k : Nat} {x : α} (h : xs[k]? = some x) : xs.drop k = x :: xs.drop (k + 1) := by
  obtain ⟨hk, rfl⟩ := List.getElem?_eq_some_iff.1 h
  exact List.drop_eq_getElem_cons hk
theorem get_ex {α : Type} {xs : List α} {k : Nat} (h : k < xs.length) : ∃ x, xs[k]? = some x := ⟨xs[k], List.getElem?_eq_getElem h⟩
theorem prevAt_succ {xs : List Sample} {k : Nat} {x : Sample} (h : xs[k]? = some x) : prevAt xs (k + 1) = some x.t := by simp [prevAt, h]
theorem prevAt_any {xs : List Sample} {k : Nat} {x y : Sample} (h : 0 < k → xs[k - 1]? = some y) : (prevAt xs k).any (fun q => decide (x.t ≤ q)) = (decide ((0 : Int) < k) && decide (x.t ≤ y.t)) := by
  unfold prevAt
  by_cases hk : k = 0
  · simp [hk]
  · simp [hk, h (by omega), show 0 < k by omega]
theorem chk_eq {den : Int} {xs : List Sample} (h : wi den 1 1000000 = true) (h' : (xs.length : Int) ≤ 20000) : chk den xs = chkL none 0 xs := by simp [chk, h, h']

def bsL (xs : List Sample) (t : Int) : Nat → Nat → Nat → Nat
  | 0, i, _ => i
  | f + 1, i, j => if i < j then (if ((xs[(i + j) / 2]?).map Sample.t).getD 0 - t < 0 then bsL xs t f ((i + j) / 2 + 1) j else bsL xs t f i ((i + j) / 2)) else i
theorem bsL_fuel {xs : List Sample} {t : Int} : ∀ (f g i j : Nat), j - i ≤ f → j - i ≤ g → bsL xs t f i j = bsL xs t g i j
  | 0, 0, _, _, _, _ => rfl
  | 0, g + 1, i, j, hf, _ => by simp [bsL, show ¬ i < j by omega]
  | f + 1, 0, i, j, _, hg => by simp [bsL, show ¬ i < j by omega]
  | f + 1, g + 1, i, j, hf, hg => by
    simp only [bsL]
    by_cases h : i < j
    · rw [if_pos h, if_pos h, bsL_fuel f g _ _ (by omega) (by omega), bsL_fuel f g i _ (by omega) (by omega)]
    · rw [if_neg h, if_neg h]
def bsI (xs : List Sample) (t : Int) (i j : Nat) : Nat := bsL xs t (j - i) i j
theorem bsI_end {xs : List Sample} {t : Int} {i j : Nat} (h : j ≤ i) : bsI xs t i j = i := by simp [bsI, show j - i = 0 by omega, bsL]
theorem bsI_lt {xs : List Sample} {t : Int} {i j : Nat} {x : Sample} (h : i < j) (hx : xs[(i + j) / 2]? = some x) (hlt : x.t - t < 0) : bsI xs t i j = bsI xs t ((i + j) / 2 + 1) j := by
  unfold bsI
  obtain ⟨f, hf⟩ : ∃ f, j - i = f + 1 := ⟨j - i - 1, by omega⟩
  rw [hf, bsL, if_pos h, hx]
  simp only [Option.map_some, Option.getD_some, if_pos hlt]
  exact bsL_fuel _ _ _ _ (by omega) (by omega)
theorem bsI_ge {xs : List Sample} {t : Int} {i j : Nat} {x : Sample} (h : i < j) (hx : xs[(i + j) / 2]? = some x) (hlt : ¬ x.t - t < 0) : bsI xs t i j = bsI xs t i ((i + j) / 2) := by
  unfold bsI
  obtain ⟨f, hf⟩ : ∃ f, j - i = f + 1 := ⟨j - i - 1, by omega⟩
  rw [hf, bsL, if_pos h, hx]
  simp only [Option.map_some, Option.getD_some, if_neg hlt]
  exact bsL_fuel _ _ _ _ (by omega) (by omega)
def bs (xs : List Sample) (t : Int) : Nat := bsI xs t 0 xs.length
def found (xs : List Sample) (t : Int) : Bool := ((xs[bs xs t]?).map fun y => decide (y.t - t = 0)).getD false
def lat (xs : List Sample) (t : Int) : Int := if found xs t then (bs xs t : Int) else (bs xs t : Int) - 1
theorem bsL_le {xs : List Sample} {t : Int} : ∀ (f i j : Nat), i ≤ j → bsL xs t f i j ≤ j
  | 0, _, _, h => h
  | f + 1, i, j, h => by
    simp only [bsL]
    split
    · split
      · exact bsL_le f _ _ (by omega)
      · exact Nat.le_trans (bsL_le f i _ (by omega)) (by omega)
    · exact h
theorem bs_le (xs : List Sample) (t : Int) : bs xs t ≤ xs.length := bsL_le _ _ _ (Nat.zero_le _)
theorem lat_lo (xs : List Sample) (t : Int) : -1 ≤ lat xs t := by unfold lat; split <;> omega
theorem lat_hi (xs : List Sample) (t : Int) : lat xs t < xs.length := by
  unfold lat
  have := bs_le xs t
  split
  · rename_i h
    unfold found at h
    by_cases hb : bs xs t < xs.length
    · omega
    · rw [List.getElem?_eq_none (by omega)] at h; simp at h
  · omega
def fit (xs : List Sample) : Prop := xs.length ≤ 20000 ∧ ∀ x ∈ xs, 0 ≤ x.t ∧ x.t ≤ 1099511627776
theorem fit.at' {xs : List Sample} (h : fit xs) {i : Nat} {x : Sample} (hx : xs[i]? = some x) : 0 ≤ x.t ∧ x.t ≤ 1099511627776 := h.2 x (List.mem_of_getElem? hx)
theorem get_ex' {α : Type} {xs : List α} {k : Nat} {x : α} {p : Prop} (h : p → k < xs.length) (hx : ¬ p → True) (h0 : α) : ∃ y, p → xs[k]? = some y := by
  by_cases hp : p
  · exact ⟨xs[k]'(h hp), fun _ => List.getElem?_eq_getElem _⟩
  · exact ⟨h0, fun h => absurd h hp⟩
def z0 : Sample := ⟨0, 0, 0⟩

def holdO (xs : List Sample) (t long : Int) : Option Sample :=
  if lat xs t < 0 then none else
  match xs[(lat xs t).toNat]? with
  | none => none
  | some y => if 3 ≤ y.mark then (if long < t - y.t then none else some y) else none
def outH (o : Option Sample) : AV := .tuple [.agg (o.getD z0).av, .bool o.isSome]
theorem chkL_good : ∀ (xs : List Sample) (p : Option Int) (i : Int), (chkL p i xs).2 = 0 → ∀ x ∈ xs, badS x = false
  | [], _, _, _, x, hx => by cases hx
  | y :: tl, p, i, h, x, hx => by
    rw [chkL] at h
    split at h
    · simp at h
    · rename_i h1
      split at h
      · simp at h
      · split at h
        · simp at h
        · rcases List.mem_cons.1 hx with rfl | hx
          · simpa using h1
          · exact chkL_good tl _ _ h x hx
theorem badS_fit {x : Sample} (h : badS x = false) : 0 ≤ x.t ∧ x.t ≤ 1099511627776 := by
  simp [badS, wi] at h; omega
theorem chk_good {den : Int} {xs : List Sample} (h : (chk den xs).2 = 0) : wi den 1 1000000 = true ∧ fit xs ∧ chkL none 0 xs = chk den xs := by
  unfold chk at h ⊢
  by_cases h1 : wi den 1 1000000 = true
  · rw [if_pos h1] at h ⊢
    by_cases h2 : (xs.length : Int) ≤ 20000
    · rw [if_pos h2] at h ⊢
      exact ⟨h1, ⟨by omega, fun x hx => badS_fit (chkL_good xs _ _ h x hx)⟩, rfl⟩
    · rw [if_neg h2] at h; simp at h
  · rw [if_neg h1] at h; simp at h
def outHold (den : Int) (xs : List Sample) (t long : Int) : Option Sample × Int :=
  if (chk den xs).2 = 0 then (if wi t 0 1099511627776 && wi long 0 1099511627776 then (holdO xs t long, 0) else (none, 9)) else (none, (chk den xs).2)
def outHoldV (r : Option Sample × Int) : AV := .tuple [.agg (r.1.getD z0).av, .bool r.1.isSome, .int .i64 r.2]

inductive Kn : List Sample → List Sample → Prop
  | nil : Kn [] []
  | cons {x y : Sample} {xs ys : List Sample} : (y = x ∨ y = ⟨x.t, 0, 0⟩) → Kn xs ys → Kn (x :: xs) (y :: ys)
theorem Kn.refl : ∀ (xs : List Sample), Kn xs xs
  | [] => .nil
  | _ :: xs => .cons (.inl rfl) (Kn.refl xs)
theorem Kn.len {xs ys : List Sample} (h : Kn xs ys) : ys.length = xs.length := by induction h with | nil => rfl | cons _ _ ih => simp [ih]
theorem Kn.set {xs ys : List Sample} (h : Kn xs ys) : ∀ {m : Nat} {y : Sample}, ys[m]? = some y → Kn xs (ys.set m ⟨y.t, 0, 0⟩) := by
  induction h with
  | nil => intro m y hy; simp at hy
  | cons h k ih =>
    intro m y hy
    cases m with
    | zero =>
      simp at hy
      subst hy
      rcases h with rfl | rfl
      · exact .cons (.inr rfl) k
      · exact .cons (.inr rfl) k
    | succ m => exact .cons h (ih (by simpa using hy))
theorem badS_mark {x : Sample} (h : badS x = false) : badS ⟨x.t, 0, 0⟩ = false := by
  simp [badS, wi] at h ⊢; omega
theorem Kn.chkL {xs ys : List Sample} (h : Kn xs ys) : ∀ (p : Option Int) (i : Int), (chkL p i xs).2 = 0 → (Ytecdkapjjhkanaa.chkL p i ys).2 = 0 := by
  induction h with
  | nil => intro p i h; exact h
  | @cons x y xs ys h k ih =>
    intro p i hc
    rw [Ytecdkapjjhkanaa.chkL] at hc ⊢
    by_cases h1 : badS x = true
    · simp [h1] at hc
    · rw [if_neg h1] at hc
      by_cases h2 : holeS x = true
      · simp [h2] at hc
      · rw [if_neg h2] at hc
        split at hc
        · simp at hc
        · rename_i h3
          rcases h with rfl | rfl
          · rw [if_neg h1, if_neg h2, if_neg h3]; exact ih _ _ hc
          · have h1' := badS_mark (by simpa using h1)
            rw [if_neg (by rw [h1']; simp), if_neg (by simp [holeS]), if_neg h3]; exact ih _ _ hc
theorem Kn.chk {xs ys : List Sample} {den : Int} (h : Kn xs ys) (hc : (chk den xs).2 = 0) : (Ytecdkapjjhkanaa.chk den ys).2 = 0 := by
  obtain ⟨h1, h2, h3⟩ := chk_good hc
  rw [chk_eq h1 (by have := h2.1; have := h.len; omega)]
  exact h.chkL _ _ (by rw [h3]; exact hc)
theorem Kn.get {xs ys : List Sample} (h : Kn xs ys) : ∀ {m : Nat} {x : Sample}, xs[m]? = some x → ∃ y, ys[m]? = some y ∧ (y = x ∨ y = ⟨x.t, 0, 0⟩) := by
  induction h with
  | nil => intro m x hx; simp at hx
  | @cons x y xs ys h k ih =>
    intro m z hz
    cases m with
    | zero => simp at hz; subst hz; exact ⟨y, by simp, h⟩
    | succ m => simpa using ih (m := m) (by simpa using hz)
theorem Kn.t {xs ys : List Sample} (h : Kn xs ys) (m : Nat) : (ys[m]?).map Sample.t = (xs[m]?).map Sample.t := by
  by_cases hm : m < xs.length
  · obtain ⟨x, hx⟩ := get_ex hm
    obtain ⟨y, hy, e⟩ := h.get hx
    rw [hx, hy]
    rcases e with rfl | rfl <;> rfl
  · have := h.len
    rw [List.getElem?_eq_none (by omega), List.getElem?_eq_none (by omega)]
theorem Kn.bsL {xs ys : List Sample} (h : Kn xs ys) (t : Int) : ∀ (f i j : Nat), Ytecdkapjjhkanaa.bsL ys t f i j = Ytecdkapjjhkanaa.bsL xs t f i j
  | 0, _, _ => rfl
  | f + 1, i, j => by simp only [Ytecdkapjjhkanaa.bsL, h.t, h.bsL t f]
theorem Kn.bs {xs ys : List Sample} (h : Kn xs ys) (t : Int) : Ytecdkapjjhkanaa.bs ys t = Ytecdkapjjhkanaa.bs xs t := by
  unfold Ytecdkapjjhkanaa.bs bsI; rw [h.len]; exact h.bsL t _ _ _
theorem found_t (xs : List Sample) (t : Int) : found xs t = (((xs[bs xs t]?).map Sample.t).map fun y => decide (y - t = 0)).getD false := by
  unfold found; rw [Option.map_map]; rfl
theorem Kn.lat {xs ys : List Sample} (h : Kn xs ys) (t : Int) : Ytecdkapjjhkanaa.lat ys t = Ytecdkapjjhkanaa.lat xs t := by
  unfold Ytecdkapjjhkanaa.lat; rw [found_t, found_t, h.bs, h.t]
theorem Kn.holdO {xs ys : List Sample} (h : Kn xs ys) (t long : Int) : Ytecdkapjjhkanaa.holdO ys t long = none ∨ Ytecdkapjjhkanaa.holdO ys t long = Ytecdkapjjhkanaa.holdO xs t long := by
  unfold Ytecdkapjjhkanaa.holdO
  rw [h.lat]
  by_cases hl : Ytecdkapjjhkanaa.lat xs t < 0
  · rw [if_pos hl]; exact .inl rfl
  · rw [if_neg hl, if_neg hl]
    have h1 := lat_hi xs t
    obtain ⟨x, hx⟩ := get_ex (xs := xs) (k := (Ytecdkapjjhkanaa.lat xs t).toNat) (by omega)
    obtain ⟨y, hy, e⟩ := h.get hx
    rw [hx, hy]
    rcases e with rfl | rfl
    · exact .inr rfl
    · exact .inl (by simp)
theorem Kn.law {xs ys : List Sample} (h : Kn xs ys) {den t long : Int} (h0 : (outHold den xs t long).2 = 0) :
    (outHold den ys t long).2 = 0 ∧ ((outHold den ys t long).1 = none ∨ (outHold den ys t long).1 = (outHold den xs t long).1) := by
  unfold outHold at h0 ⊢
  by_cases hc : (Ytecdkapjjhkanaa.chk den xs).2 = 0
  · rw [if_pos hc] at h0 ⊢
    rw [if_pos (h.chk hc)]
    by_cases hw : (wi t 0 1099511627776 && wi long 0 1099511627776) = true
    · rw [if_pos hw] at h0 ⊢
      rw [if_pos hw]
      exact ⟨rfl, h.holdO t long⟩
    · rw [if_neg hw] at h0; simp at h0
  · rw [if_neg hc] at h0; exact absurd h0 hc
theorem rowsB {n : Nat} (hn : n = 3) (xs : List Sample) : ∀ row ∈ xs.map Sample.av, row.length = n ∧ row.all datB = true := by
  intro row hr
  obtain ⟨x, _, rfl⟩ := List.mem_map.1 hr
  exact ⟨hn.symm, rfl⟩
theorem flat_outHold (r : Option Sample × Int) : Flat (outHoldV r) := by
  refine .tuple fun x hx => ?_
  simp at hx
  rcases hx with rfl | rfl | rfl
  · refine .agg fun y hy => ?_
    simp [Sample.av] at hy
    rcases hy with rfl | rfl | rfl <;> exact .int
  · exact .bool
  · exact .int

theorem tA27 : tAgg Try.prog 27 3 = true := by kernel_rfl
theorem tF27_2 : tFld Try.prog 27 2 2 = true := by kernel_rfl
theorem tS3 : tScal Try.prog 3 = true := by kernel_rfl
theorem tF27_0 : tFld Try.prog 27 0 0 = true := by kernel_rfl
theorem tA24 : tAgg Try.prog 24 2 = true := by kernel_rfl
theorem tF24_0 : tFld Try.prog 24 0 0 = true := by kernel_rfl
theorem tF24_1 : tFld Try.prog 24 1 1 = true := by kernel_rfl
theorem tS22 : tScal Try.prog 22 = true := by kernel_rfl
theorem tL22 : tSl Try.prog 22 27 3 24 = true := by kernel_rfl
theorem tZ27 : zeroOf Try.prog 27 = some [.int .i64 0, .int .i64 0, .int .i64 0] := by kernel_rfl
theorem tZ_27 : Try.prog.cellsOf 27 = 3 := by kernel_rfl
theorem tF27_1 : tFld Try.prog 27 1 1 = true := by kernel_rfl
theorem tI3 : tInt Try.prog 3 .i64 = true := by kernel_rfl
theorem tI89 : tInt Try.prog 89 .u64 = true := by kernel_rfl
theorem tPL27 : structPl Try.prog 27 = some [(0, 1), (1, 1), (2, 1)] := by kernel_rfl
theorem tHA27 : hasAll Try.prog 27 = true := by kernel_rfl
theorem tPL24 : structPl Try.prog 24 = some [(0, 1), (1, 1)] := by kernel_rfl
theorem tHA24 : hasAll Try.prog 24 = true := by kernel_rfl
theorem tZ24 : zeroOf Try.prog 24 = some [.int .i64 0, .slice none 0 0] := by kernel_rfl
theorem tFS27 : flatSt Try.prog 27 [.i .i64, .i .i64, .i .i64] = true := by kernel_rfl
theorem tZ_24 : Try.prog.cellsOf 24 = 2 := by kernel_rfl
theorem tL25 : tSl Try.prog 25 3 1 8 = true := by kernel_rfl

-- series.within (function 25)
theorem within_ok (n lo hi : Int) : CSpec Try.prog 25 [.int .i64 n, .int .i64 lo, .int .i64 hi] (.bool (decide (lo ≤ n) && decide (n ≤ hi))) := by
  refine spec_of (by kernel_rfl) Try.func25 rfl rfl ?_
  intro w0 A
  refine T_keep (kc 0 rfl <| kc 1 rfl <| kc 2 rfl <| kn) rfl ?_
  refine T_seq (T_reg ?_)   -- region 0
  refine R_q _ rfl (v_assign (ov rfl)) ?_
  refine R_nil ?_
  refine T_keep (kc 0 rfl <| kc 1 rfl <| kc 2 rfl <| kn) rfl ?_
  refine T_seq (T_reg ?_)   -- region 1
  refine R_q _ rfl (v_move (ov rfl)) ?_
  refine R_q _ rfl (v_move (ov rfl)) ?_
  refine R_q _ rfl (v_geq (ov rfl) (ov rfl)) ?_
  refine R_q _ rfl (v_move (ov rfl)) ?_
  refine R_q _ rfl (.guarded _ rfl rfl rfl rfl fun h => v_move (ov rfl)) ?_
  refine R_q _ rfl (.guarded _ rfl rfl rfl rfl fun h => v_move (ov rfl)) ?_
  refine R_q _ rfl (.guarded _ rfl rfl rfl rfl fun h => v_leq (ow rfl h) (ow rfl h)) ?_
  refine R_q _ rfl (v_and (ov rfl) (fun hp => ow rfl (gT hp))) ?_
  refine R_q _ rfl (v_assign (ov rfl)) ?_
  refine R_nil ?_
  refine T_ret ?_
  refine retq ?_ (.one (.tmp rfl (Dat.view (.b rfl))))
  first | rfl | simp_all

-- series.solid (function 43)
theorem solid_ok (x : Sample) : CSpec Try.prog 43 [.agg x.av] (.bool (decide (3 ≤ x.mark))) := by
  refine spec_of (by kernel_rfl) Try.func43 rfl rfl ?_
  intro w0 A
  refine T_keep (kc 0 rfl <| kn) rfl ?_
  refine T_seq (T_reg ?_)   -- region 0
  refine R_w _ _ rfl (w_box 0 rfl (ov rfl) tA27 rfl) ?_
  refine R_q _ rfl (v_assign (ov rfl)) ?_
  refine R_nil ?_
  refine T_keep (kc 1 rfl <| kn) rfl ?_
  refine T_seq (T_reg ?_)   -- region 1
  refine R_q _ rfl ((by first | exact v_fieldP (ov rfl) rfl rfl tF27_2 | exact v_fieldR (ov rfl) tF27_2)) ?_
  refine R_q _ rfl ((by first | exact v_loadS (ov rfl) rfl rfl rfl tS3 rfl | exact v_loadS_r (ov rfl) tS3 rfl)) ?_
  refine R_q _ rfl (v_geq (ov rfl) (ov rfl)) ?_
  refine R_q _ rfl (v_assign (ov rfl)) ?_
  refine R_nil ?_
  refine T_ret ?_
  refine retq ?_ (.one (.tmp rfl (Dat.view (.b rfl))))
  first | rfl | simp_all

-- series.latest$1 (function 66)
theorem latest1_ok (x : Sample) (t : Int) (h : -9223372036854775808 ≤ x.t - t) (h' : x.t - t ≤ 9223372036854775807) : CSpec Try.prog 66 [.agg x.av, .int .i64 t] (.int .i64 (x.t - t)) := by
  refine spec_of (by kernel_rfl) Try.func66 rfl rfl ?_
  intro w0 A
  refine T_keep (kc 0 rfl <| kc 1 rfl <| kn) rfl ?_
  refine T_seq (T_reg ?_)   -- region 0
  refine R_w _ _ rfl (w_box 0 rfl (ov rfl) tA27 rfl) ?_
  refine R_q _ rfl (v_assign (ov rfl)) ?_
  refine R_nil ?_
  refine T_keep (kc 1 rfl <| kc 2 rfl <| kn) rfl ?_
  refine T_seq (T_reg ?_)   -- region 1
  refine R_q _ rfl ((by first | exact v_fieldP (ov rfl) rfl rfl tF27_0 | exact v_fieldR (ov rfl) tF27_0)) ?_
  refine R_q _ rfl ((by first | exact v_loadS (ov rfl) rfl rfl rfl tS3 rfl | exact v_loadS_r (ov rfl) tS3 rfl)) ?_
  refine R_q _ rfl (v_move (ov rfl)) ?_
  refine R_q _ rfl (v_sub (ov rfl) (ov rfl) (w64 (by first | omega | (simp at *; omega) | (simp_all; omega)) (by first | omega | (simp at *; omega) | (simp_all; omega)))) ?_
  refine R_q _ rfl (v_assign (ov rfl)) ?_
  refine R_nil ?_
  refine T_ret ?_
  refine retq ?_ (.one (.tmp rfl (Dat.view (.b rfl))))
  first | rfl | simp_all

-- series.check (function 52)
theorem check_ok (den : Int) (xs : List Sample) : CSpec Try.prog 52 [.agg (seriesL den xs)] (.tuple [.int .i64 (chk den xs).1, .int .i64 (chk den xs).2]) := by
  refine spec_of (by kernel_rfl) Try.func52 rfl rfl ?_
  intro w0 A
  refine T_keep (kc 0 rfl <| kn) rfl ?_
  refine T_seq (T_reg ?_)   -- region 0
  refine R_w _ _ rfl (w_box 0 rfl (ov rfl) tA24 rfl) ?_
  refine R_q _ rfl (v_assign (ov rfl)) ?_
  refine R_q _ rfl (v_assign (ov rfl)) ?_
  refine R_nil ?_
  refine T_seq ?_
  refine T_keep (kc 1 rfl <| kn) rfl ?_
  refine T_seq (T_reg ?_)   -- region 1
  refine R_q _ rfl ((by first | exact v_fieldP (ov rfl) rfl rfl tF24_0 | exact v_fieldR (ov rfl) tF24_0)) ?_
  refine R_q _ rfl ((by first | exact v_loadS (ov rfl) rfl rfl rfl tS3 rfl | exact v_loadS_r (ov rfl) tS3 rfl)) ?_
  refine R_q _ rfl (v_call (within_ok _ _ _) (.cons (ov rfl) (by first | exact .b rfl | exact .aggB rfl | exact .fn) <| .cons (ov rfl) (by first | exact .b rfl | exact .aggB rfl | exact .fn) <| .cons (ov rfl) (by first | exact .b rfl | exact .aggB rfl | exact .fn) <| .nil)) ?_
  refine R_q _ rfl (v_not (ov rfl)) ?_
  refine R_nil ?_
  refine T_keep (kc 1 rfl <| kc 9 rfl <| kn) rfl ?_
  refine T_cond rfl (fun h9 => ?_) (fun h9 => ?_)
  · skip
    rw [show (decide (1 ≤ den) && decide (den ≤ 1000000)) = wi den 1 1000000 from rfl] at h9
    simp at h9
    refine T_keep (kn) rfl ?_
    refine T_seq (T_reg ?_)   -- region 2
    refine R_q _ rfl (v_assign (ov rfl)) ?_
    refine R_q _ rfl (v_assign (ov rfl)) ?_
    refine R_nil ?_
    refine T_ret ?_
    refine retq ?_ (.two (.tmp rfl (Dat.view (.b rfl))) (.tmp rfl (Dat.view (.b rfl))))
    simp [constAV, chk, h9]
  · skip
    rw [show (decide (1 ≤ den) && decide (den ≤ 1000000)) = wi den 1 1000000 from rfl] at h9
    simp at h9
    refine T_skip ?_
    refine T_seq ?_
    refine T_keep (kc 1 rfl <| kn) rfl ?_
    refine T_seq (T_reg ?_)   -- region 3
    refine R_q _ rfl ((by first | exact v_fieldP (ov rfl) rfl rfl tF24_1 | exact v_fieldR (ov rfl) tF24_1)) ?_
    refine R_q _ rfl ((by first | exact v_loadS (ov rfl) rfl rfl rfl tS22 rfl | exact v_loadS_r (ov rfl) tS22 rfl)) ?_
    refine R_q _ rfl ((by first | exact v_len (slv_sl (ov rfl) rfl) tL22 (len_map _ _) | exact v_len (slv_sl (ov rfl) rfl) tL22 rfl | exact v_len (slv_own (ov rfl) rfl rfl rfl) tL22 rfl)) ?_
    refine R_q _ rfl (v_gtr (ov rfl) (ov rfl)) ?_
    refine R_nil ?_
    refine T_keep (kc 1 rfl <| kc 13 rfl <| kn) rfl ?_
    refine T_cond rfl (fun h13 => ?_) (fun h13 => ?_)
    · skip
      simp at h13
      refine T_keep (kn) rfl ?_
      refine T_seq (T_reg ?_)   -- region 4
      refine R_q _ rfl (v_assign (ov rfl)) ?_
      refine R_q _ rfl (v_assign (ov rfl)) ?_
      refine R_nil ?_
      refine T_ret ?_
      refine retq ?_ (.two (.tmp rfl (Dat.view (.b rfl))) (.tmp rfl (Dat.view (.b rfl))))
      simp [constAV, chk, h9, show ¬ ((xs.length : Int) ≤ 20000) by omega]
    · skip
      simp at h13
      refine T_skip ?_
      refine T_seq ?_
      refine T_keep (kc 1 rfl <| kn) rfl ?_
      refine T_seq (T_reg ?_)   -- region 5
      refine R_q _ rfl ((by first | exact v_fieldP (ov rfl) rfl rfl tF24_1 | exact v_fieldR (ov rfl) tF24_1)) ?_
      refine R_q _ rfl ((by first | exact v_loadS (ov rfl) rfl rfl rfl tS22 rfl | exact v_loadS_r (ov rfl) tS22 rfl)) ?_
      refine R_q _ rfl ((by first | exact v_len (slv_sl (ov rfl) rfl) tL22 (len_map _ _) | exact v_len (slv_sl (ov rfl) rfl) tL22 rfl | exact v_len (slv_own (ov rfl) rfl rfl rfl) tL22 rfl)) ?_
      refine R_q _ rfl (v_move (ov rfl)) ?_
      refine R_nil ?_
      refine T_block ?_   -- block 0
      refine T_loop (ι := Nat) (fun k => k ≤ xs.length ∧ chkL none 0 xs = chkL (prevAt xs k) k (xs.drop k)) (fun k => ⟨[(1, .ptr 0 1 0 0), (15, .sl 27 (xs.map Sample.av)), (16, .int .i64 xs.length), (17, .int .i64 k)], [some ⟨24, [seriesL den xs]⟩]⟩) (fun k => xs.length - k) 0 (⟨by omega, rfl⟩) (Ent.keep (kc 1 rfl <| kc 15 rfl <| kc 16 rfl <| kc 17 rfl <| kn) rfl) ?_
      intro k hC
      obtain ⟨hk, hc⟩ := hC
      refine T_keep (kc 1 rfl <| kc 15 rfl <| kc 16 rfl <| kc 17 rfl <| kn) rfl ?_
      refine T_seq (T_reg ?_)   -- region 6
      refine R_q _ rfl (v_lss (ov rfl) (ov rfl)) ?_
      refine R_nil ?_
      refine T_seq ?_
      refine T_keep (kc 1 rfl <| kc 15 rfl <| kc 16 rfl <| kc 17 rfl <| kc 18 rfl <| kn) rfl ?_
      refine T_cond rfl (fun h18 => ?_) (fun h18 => ?_)
      · skip
        try simp at h18
        refine T_skip ?_
        refine T_seq ?_
        refine T_block ?_   -- block 1
        refine T_keep (kc 1 rfl <| kc 15 rfl <| kc 16 rfl <| kc 17 rfl <| kn) rfl ?_
        obtain ⟨x, hx⟩ := get_ex (xs := xs) (k := k) (by omega)
        refine T_seq (T_reg ?_)   -- region 7
        refine R_q _ rfl (v_move (ov rfl)) ?_
        refine R_q _ rfl ((by first | exact v_ixS (ov rfl) (ov rfl) tL22 rfl (row_map (by assumption)) | exact v_ixO (ov rfl) (ov rfl) tL22 rfl rfl (by assumption))) ?_
        refine R_q _ rfl ((by first | exact v_loadA (ov rfl) rfl rfl rfl tA27 rfl rfl | exact v_loadA_r (ov rfl) tA27 rfl rfl)) ?_
        refine R_w _ _ rfl (w_alloc (row := [_, _, _]) 1 rfl tZ27 rfl tZ_27) ?_
        refine R_q _ rfl (v_assign (ov rfl)) ?_
        refine R_w _ _ rfl (w_store (ov rfl) (ov rfl) (cells_agg tA27 rfl) rfl rfl rfl (Nat.le_of_ble_eq_true rfl) (cell1_all rfl) rfl) ?_
        refine R_nil ?_
        refine T_block ?_   -- block 2
        refine T_keep (kc 1 rfl <| kc 4 rfl <| kc 5 rfl <| kc 15 rfl <| kc 16 rfl <| kc 17 rfl <| kn) rfl ?_
        refine T_seq (T_reg ?_)   -- region 8
        refine R_q _ rfl ((by first | exact v_fieldP (ov rfl) rfl rfl tF27_0 | exact v_fieldR (ov rfl) tF27_0)) ?_
        refine R_q _ rfl ((by first | exact v_loadS (ov rfl) rfl rfl rfl tS3 rfl | exact v_loadS_r (ov rfl) tS3 rfl)) ?_
        refine R_q _ rfl (v_call (within_ok _ _ _) (.cons (ov rfl) (by first | exact .b rfl | exact .aggB rfl | exact .fn) <| .cons (ov rfl) (by first | exact .b rfl | exact .aggB rfl | exact .fn) <| .cons (ov rfl) (by first | exact .b rfl | exact .aggB rfl | exact .fn) <| .nil)) ?_
        refine R_q _ rfl (v_not (ov rfl)) ?_
        refine R_q _ rfl (v_move (ov rfl)) ?_
        refine R_q _ rfl (.guarded _ rfl rfl rfl rfl fun h => (by first | exact v_fieldP (ov rfl) rfl rfl tF27_1 | exact v_fieldR (ov rfl) tF27_1)) ?_
        refine R_q _ rfl (.guarded _ rfl rfl rfl rfl fun h => (by first | exact v_loadS (ow rfl h) rfl rfl rfl tS3 rfl | exact v_loadS_r (ow rfl h) tS3 rfl)) ?_
        refine R_q _ rfl (.guarded _ rfl rfl rfl rfl fun h => v_call (within_ok _ _ _) (.cons (ow rfl h) (by first | exact .b rfl | exact .aggB rfl | exact .fn) <| .cons (ov rfl) (by first | exact .b rfl | exact .aggB rfl | exact .fn) <| .cons (ov rfl) (by first | exact .b rfl | exact .aggB rfl | exact .fn) <| .nil)) ?_
        refine R_q _ rfl (.guarded _ rfl rfl rfl rfl fun h => v_not (ow rfl h)) ?_
        refine R_q _ rfl (v_or (ov rfl) (fun hp => ow rfl (gF hp))) ?_
        refine R_q _ rfl (v_move (ov rfl)) ?_
        refine R_q _ rfl (.guarded _ rfl rfl rfl rfl fun h => (by first | exact v_fieldP (ov rfl) rfl rfl tF27_2 | exact v_fieldR (ov rfl) tF27_2)) ?_
        refine R_q _ rfl (.guarded _ rfl rfl rfl rfl fun h => (by first | exact v_loadS (ow rfl h) rfl rfl rfl tS3 rfl | exact v_loadS_r (ow rfl h) tS3 rfl)) ?_
        refine R_q _ rfl (.guarded _ rfl rfl rfl rfl fun h => v_call (within_ok _ _ _) (.cons (ow rfl h) (by first | exact .b rfl | exact .aggB rfl | exact .fn) <| .cons (ov rfl) (by first | exact .b rfl | exact .aggB rfl | exact .fn) <| .cons (ov rfl) (by first | exact .b rfl | exact .aggB rfl | exact .fn) <| .nil)) ?_
        refine R_q _ rfl (.guarded _ rfl rfl rfl rfl fun h => v_not (ow rfl h)) ?_
        refine R_q _ rfl (v_or (ov rfl) (fun hp => ow rfl (gF hp))) ?_
        refine R_q _ rfl (v_assign (ov rfl)) ?_
        refine R_nil ?_
        refine T_keep (kc 1 rfl <| kc 4 rfl <| kc 5 rfl <| kc 15 rfl <| kc 16 rfl <| kc 17 rfl <| kc 22 rfl <| kn) rfl ?_
        refine T_cond rfl (fun h22 => ?_) (fun h22 => ?_)
        · skip
          replace h22 : badS x = _ := h22
          refine T_keep (kc 4 rfl <| kn) rfl ?_
          refine T_seq (T_reg ?_)   -- region 9
          refine R_q _ rfl (v_move (ov rfl)) ?_
          refine R_q _ rfl (v_assign (ov rfl)) ?_
          refine R_q _ rfl (v_assign (ov rfl)) ?_
          refine R_nil ?_
          refine T_ret ?_
          refine retq ?_ (.two (.tmp rfl (Dat.view (.b rfl))) (.tmp rfl (Dat.view (.b rfl))))
          rw [chk_eq h9 h13, hc, drop_cons hx, chkL, h22]; simp [constAV]
        · skip
          replace h22 : badS x = _ := h22
          refine T_keep (kc 1 rfl <| kc 4 rfl <| kc 5 rfl <| kc 15 rfl <| kc 16 rfl <| kc 17 rfl <| kn) rfl ?_
          refine T_seq (T_reg ?_)   -- region 10
          refine R_q _ rfl ((by first | exact v_fieldP (ov rfl) rfl rfl tF27_1 | exact v_fieldR (ov rfl) tF27_1)) ?_
          refine R_q _ rfl ((by first | exact v_loadS (ov rfl) rfl rfl rfl tS3 rfl | exact v_loadS_r (ov rfl) tS3 rfl)) ?_
          refine R_q _ rfl (v_neq (ov rfl) (ov rfl)) ?_
          refine R_q _ rfl (v_move (ov rfl)) ?_
          refine R_q _ rfl (.guarded _ rfl rfl rfl rfl fun h => (by first | exact v_fieldP (ov rfl) rfl rfl tF27_2 | exact v_fieldR (ov rfl) tF27_2)) ?_
          refine R_q _ rfl (.guarded _ rfl rfl rfl rfl fun h => (by first | exact v_loadS (ow rfl h) rfl rfl rfl tS3 rfl | exact v_loadS_r (ow rfl h) tS3 rfl)) ?_
          refine R_q _ rfl (.guarded _ rfl rfl rfl rfl fun h => v_leq (ow rfl h) (ov rfl)) ?_
          refine R_q _ rfl (v_and (ov rfl) (fun hp => ow rfl (gT hp))) ?_
          refine R_q _ rfl (v_assign (ov rfl)) ?_
          refine R_nil ?_
          refine T_keep (kc 1 rfl <| kc 4 rfl <| kc 5 rfl <| kc 15 rfl <| kc 16 rfl <| kc 17 rfl <| kc 40 rfl <| kn) rfl ?_
          refine T_cond rfl (fun h40 => ?_) (fun h40 => ?_)
          · skip
            replace h40 : holeS x = _ := h40
            refine T_keep (kc 4 rfl <| kn) rfl ?_
            refine T_seq (T_reg ?_)   -- region 11
            refine R_q _ rfl (v_move (ov rfl)) ?_
            refine R_q _ rfl (v_assign (ov rfl)) ?_
            refine R_q _ rfl (v_assign (ov rfl)) ?_
            refine R_nil ?_
            refine T_ret ?_
            refine retq ?_ (.two (.tmp rfl (Dat.view (.b rfl))) (.tmp rfl (Dat.view (.b rfl))))
            rw [chk_eq h9 h13, hc, drop_cons hx, chkL, h22, h40]; simp [constAV]
          · skip
            replace h40 : holeS x = _ := h40
            refine T_keep (kc 1 rfl <| kc 4 rfl <| kc 5 rfl <| kc 15 rfl <| kc 16 rfl <| kc 17 rfl <| kn) rfl ?_
            have hy : ∃ y, 0 < k → xs[k-1]? = some y := by
              by_cases h : 0 < k
              · obtain ⟨y, hy⟩ := get_ex (xs := xs) (k := k - 1) (by omega); exact ⟨y, fun _ => hy⟩
              · exact ⟨x, fun h' => absurd h' h⟩
            obtain ⟨y, hy⟩ := hy
            refine T_seq (T_draw (cw := false) (by kernel_rfl) ?_)   -- region 12 draws
            refine D_oneq 0 _ rfl (by kernel_rfl) rfl rfl (fun hp' => v_move (ov rfl)) ?_
            refine D_oneq 1 _ rfl (by kernel_rfl) rfl rfl (fun hp' => v_gtr (ov rfl) (ov rfl)) ?_
            refine D_oneq 2 _ rfl (by kernel_rfl) rfl rfl (fun hp' => v_move (ov rfl)) ?_
            refine D_read 3 _ rfl (by kernel_rfl) rfl rfl (fun hp' hx => .guarded _ rfl rfl rfl rfl fun h => (by first | exact v_fieldP (ov rfl) (hx.2 _ _ rfl) rfl tF27_0 | exact v_fieldR (ov rfl) tF27_0)) ?_
            refine D_read 4 _ rfl (by kernel_rfl) rfl rfl (fun hp' hx => .guarded _ rfl rfl rfl rfl fun h => (by first | exact v_loadS (ow rfl h) (hx.2 _ _ rfl) rfl rfl tS3 rfl | exact v_loadS_r (ow rfl h) tS3 rfl)) ?_
            refine D_read 5 _ rfl (by kernel_rfl) rfl rfl (fun hp' hx => .guarded _ rfl rfl rfl rfl fun h => (by first | exact v_fieldP (ov rfl) (hx.2 _ _ rfl) rfl tF24_1 | exact v_fieldR (ov rfl) tF24_1)) ?_
            refine D_read 6 _ rfl (by kernel_rfl) rfl rfl (fun hp' hx => .guarded _ rfl rfl rfl rfl fun h => (by first | exact v_loadS (ow rfl h) (hx.2 _ _ rfl) rfl rfl tS22 rfl | exact v_loadS_r (ow rfl h) tS22 rfl)) ?_
            refine D_oneq 7 _ rfl (by kernel_rfl) rfl rfl (fun hp' => .guarded _ rfl rfl rfl rfl fun h => v_move (ov rfl)) ?_
            refine D_oneq 8 _ rfl (by kernel_rfl) rfl rfl (fun hp' => .guarded _ rfl rfl rfl rfl fun h => v_sub (ow rfl h) (ov rfl) (w64 (by first | omega | (simp at *; omega) | (simp_all; omega)) (by first | omega | (simp at *; omega) | (simp_all; omega)))) ?_
            refine D_oner 9 _ rfl (by kernel_rfl) rfl rfl (fun hp' hx => .guarded _ rfl rfl rfl rfl fun h => v_ixS (ow rfl h) (ow rfl h) tL22 (m := k - 1) (by simp at h; omega) (row_map (hy (by simp at h; omega)))) ?_
            refine D_oner 10 _ rfl (by kernel_rfl) rfl rfl (fun hp' hx => .guarded _ rfl rfl rfl rfl fun h => (by first | exact v_fieldP (ow rfl h) (hx.2 _ _ rfl) rfl tF27_0 | exact v_fieldR (ow rfl h) tF27_0)) ?_
            refine D_oner 11 _ rfl (by kernel_rfl) rfl rfl (fun hp' hx => .guarded _ rfl rfl rfl rfl fun h => (by first | exact v_loadS (ow rfl h) (hx.2 _ _ rfl) rfl rfl tS3 rfl | exact v_loadS_r (ow rfl h) tS3 rfl)) ?_
            refine D_oneq 12 _ rfl (by kernel_rfl) rfl rfl (fun hp' => .guarded _ rfl rfl rfl rfl fun h => v_leq (ow rfl h) (ow rfl h)) ?_
            refine D_oneq 13 _ rfl (by kernel_rfl) rfl rfl (fun hp' => v_and (ov rfl) (fun hp => ow rfl (gT hp))) ?_
            refine D_oneq 14 _ rfl (by kernel_rfl) rfl rfl (fun hp' => v_assign (ov rfl)) ?_
            refine D_done (by kernel_rfl) ?_
            refine T_keep (kc 1 rfl <| kc 4 rfl <| kc 15 rfl <| kc 16 rfl <| kc 17 rfl <| kc 50 rfl <| kn) rfl ?_
            refine T_cond rfl (fun h50 => ?_) (fun h50 => ?_)
            · skip
              replace h50 := (prevAt_any hy).trans h50
              refine T_keep (kc 4 rfl <| kn) rfl ?_
              refine T_seq (T_reg ?_)   -- region 13
              refine R_q _ rfl (v_move (ov rfl)) ?_
              refine R_q _ rfl (v_assign (ov rfl)) ?_
              refine R_q _ rfl (v_assign (ov rfl)) ?_
              refine R_nil ?_
              refine T_ret ?_
              refine retq ?_ (.two (.tmp rfl (Dat.view (.b rfl))) (.tmp rfl (Dat.view (.b rfl))))
              rw [chk_eq h9 h13, hc, drop_cons hx, chkL, h22, h40, h50]; simp [constAV]
            · skip
              replace h50 := (prevAt_any hy).trans h50
              refine T_skip ?_
              refine T_keep (kc 1 rfl <| kc 15 rfl <| kc 16 rfl <| kc 17 rfl <| kn) rfl ?_
              refine T_reg ?_   -- region 14
              refine R_q _ rfl (v_add (ov rfl) (ov rfl) (w64 (by first | omega | (simp at *; omega) | (simp_all; omega)) (by first | omega | (simp at *; omega) | (simp_all; omega)))) ?_
              refine R_q _ rfl (v_move (ov rfl)) ?_
              refine R_nil ?_
              exact ⟨k + 1, ⟨by omega, by rw [hc, drop_cons hx, chkL, prevAt_succ hx, h22, h40, h50]; simp⟩, (by first | omega | (simp at *; omega) | (simp_all; omega)), Ent.cutB (ke 1 rfl rfl <| ke 15 rfl rfl <| ke 16 rfl rfl <| ke 17 rfl (by push_cast; rfl) <| kn) rfl rfl rfl⟩
      · skip
        try simp at h18
        refine T_exit ?_   -- exit 0
        refine T_keep (kn) rfl ?_
        refine T_seq (T_reg ?_)   -- region 15
        refine R_q _ rfl (v_assign (ov rfl)) ?_
        refine R_q _ rfl (v_assign (ov rfl)) ?_
        refine R_nil ?_
        refine T_ret ?_
        refine retq ?_ (.two (.tmp rfl (Dat.view (.b rfl))) (.tmp rfl (Dat.view (.b rfl))))
        rw [chk_eq h9 h13, hc, List.drop_eq_nil_of_le (by omega), chkL]; simp [constAV]

-- series.Check (function 24)
theorem Check_ok (den : Int) (xs : List Sample) : CSpec Try.prog 24 [.agg (seriesL den xs)] (.int .i64 (chk den xs).2) := by
  refine spec_of (by kernel_rfl) Try.func24 rfl rfl ?_
  intro w0 A
  refine T_keep (kc 0 rfl <| kn) rfl ?_
  refine T_seq (T_reg ?_)   -- region 0
  refine R_w _ _ rfl (w_box 0 rfl (ov rfl) tA24 rfl) ?_
  refine R_q _ rfl (v_assign (ov rfl)) ?_
  refine R_nil ?_
  refine T_keep (kc 1 rfl <| kn) rfl ?_
  refine T_seq (T_reg ?_)   -- region 1
  refine R_q _ rfl ((by first | exact v_loadA (ov rfl) rfl rfl rfl tA24 rfl rfl | exact v_loadA_r (ov rfl) tA24 rfl rfl)) ?_
  refine R_q _ rfl (v_call (check_ok _ _) (.cons (ov rfl) (by first | exact .b rfl | exact .aggB rfl | exact .fn) <| .nil)) ?_
  refine R_q _ rfl (v_move (ov rfl)) ?_
  refine R_q _ rfl (v_extract (ov rfl) rfl) ?_
  refine R_q _ rfl (v_extract (ov rfl) rfl) ?_
  refine R_q _ rfl (v_assign (ov rfl)) ?_
  refine R_q _ rfl (v_assign (ov rfl)) ?_
  refine R_nil ?_
  refine T_keep (kc 4 rfl <| kn) rfl ?_
  refine T_seq (T_reg ?_)   -- region 2
  refine R_q _ rfl (v_move (ov rfl)) ?_
  refine R_q _ rfl (v_assign (ov rfl)) ?_
  refine R_nil ?_
  refine T_ret ?_
  refine retq ?_ (.one (.tmp rfl (Dat.view (.b rfl))))
  first | rfl | simp_all

-- slices.BinarySearchFunc[[]api.Sample,api.Sample,int] (function 65)
theorem bsearch_ok (xs : List Sample) (t : Int) (hf : fit xs) (ht : 0 ≤ t ∧ t ≤ 1099511627776) : CSpec Try.prog 65 [.sl 27 (xs.map Sample.av), .int .i64 t, .fn 66 []] (.tuple [.int .i64 (bs xs t), .bool (found xs t)]) := by
  refine spec_of (by kernel_rfl) Try.func65 rfl rfl ?_
  intro w0 A
  have hlen := hf.1
  refine T_keep (kc 0 rfl <| kc 1 rfl <| kc 2 rfl <| kn) rfl ?_
  refine T_seq (T_reg ?_)   -- region 0
  refine R_q _ rfl (v_assign (ov rfl)) ?_
  refine R_q _ rfl (v_assign (ov rfl)) ?_
  refine R_nil ?_
  refine T_keep (kc 0 rfl <| kc 1 rfl <| kc 2 rfl <| kn) rfl ?_
  refine T_seq (T_reg ?_)   -- region 1
  refine R_q _ rfl (v_move (ov rfl)) ?_
  refine R_q _ rfl ((by first | exact v_len (slv_sl (ov rfl) rfl) tL22 (len_map _ _) | exact v_len (slv_sl (ov rfl) rfl) tL22 rfl | exact v_len (slv_own (ov rfl) rfl rfl rfl) tL22 rfl)) ?_
  refine R_q _ rfl (v_assign (ov rfl)) ?_
  refine R_nil ?_
  refine T_keep (kc 0 rfl <| kc 1 rfl <| kc 2 rfl <| kc 8 rfl <| kn) rfl ?_
  refine T_seq (T_reg ?_)   -- region 2
  refine R_q _ rfl (v_move (ov rfl)) ?_
  refine R_q _ rfl (v_assign (ov rfl)) ?_
  refine R_q _ rfl (v_assign (ov rfl)) ?_
  refine R_nil ?_
  refine T_seq ?_
  refine T_block ?_   -- block 0
  refine T_loop (ι := Nat × Nat) (fun p => p.1 ≤ p.2 ∧ p.2 ≤ xs.length ∧ bs xs t = bsI xs t p.1 p.2) (fun p => ⟨[(0, .sl 27 (xs.map Sample.av)), (1, .int .i64 t), (2, .fn 66 []), (8, .int .i64 xs.length), (9, .int .i64 p.1), (10, .int .i64 p.2)], []⟩) (fun p => p.2 - p.1) (0, xs.length) (⟨by simp, by simp, rfl⟩) (Ent.keep (kc 0 rfl <| kc 1 rfl <| kc 2 rfl <| kc 8 rfl <| kc 9 rfl <| kc 10 rfl <| kn) rfl) ?_
  intro ⟨i, j⟩ hC
  obtain ⟨hij, hj, hc⟩ := hC
  simp only at hij hj hc
  refine T_keep (ke 0 rfl rfl <| ke 1 rfl rfl <| ke 2 rfl rfl <| ke 8 rfl rfl <| ke 9 rfl (v' := .int .i64 (i : Int)) rfl <| ke 10 rfl (v' := .int .i64 (j : Int)) rfl <| kn) rfl ?_
  refine T_seq ?_
  refine T_keep (kc 0 rfl <| kc 1 rfl <| kc 2 rfl <| kc 8 rfl <| kc 9 rfl <| kc 10 rfl <| kn) rfl ?_
  refine T_seq (T_reg ?_)   -- region 3
  refine R_q _ rfl (v_move (ov rfl)) ?_
  refine R_q _ rfl (v_move (ov rfl)) ?_
  refine R_q _ rfl (v_lss (ov rfl) (ov rfl)) ?_
  refine R_nil ?_
  refine T_keep (kc 0 rfl <| kc 1 rfl <| kc 2 rfl <| kc 8 rfl <| kc 9 rfl <| kc 10 rfl <| kc 17 rfl <| kn) rfl ?_
  refine T_cond rfl (fun h17 => ?_) (fun h17 => ?_)
  · skip
    simp at h17
    refine T_skip ?_
    refine T_block ?_   -- block 1
    refine T_keep (kc 0 rfl <| kc 1 rfl <| kc 2 rfl <| kc 8 rfl <| kc 9 rfl <| kc 10 rfl <| kn) rfl ?_
    refine T_seq (T_reg ?_)   -- region 4
    refine R_q _ rfl (v_move (ov rfl)) ?_
    refine R_q _ rfl (v_move (ov rfl)) ?_
    refine R_q _ rfl (v_add (ov rfl) (ov rfl) (w64 (by first | omega | (simp at *; omega) | (simp_all; omega)) (by first | omega | (simp at *; omega) | (simp_all; omega)))) ?_
    refine R_q _ rfl (v_conv (ov rfl) tI3 tI89 (wu64 (by omega) (by omega))) ?_
    refine R_q _ rfl (v_shr (ov rfl) (ov rfl) (by decide) (z := (((i + j) / 2 : Nat) : Int)) (by show ((i : Int) + j) / 2 ^ 1 = _; omega)) ?_
    refine R_q _ rfl (v_conv (ov rfl) tI89 tI3 (w64 (by omega) (by omega))) ?_
    refine R_q _ rfl (v_assign (ov rfl)) ?_
    refine R_nil ?_
    refine T_keep (kc 0 rfl <| kc 1 rfl <| kc 2 rfl <| kc 8 rfl <| kc 9 rfl <| kc 10 rfl <| kc 11 rfl <| kn) rfl ?_
    obtain ⟨x, hx⟩ := get_ex (xs := xs) (k := (i + j) / 2) (by omega)
    have hxr := hf.at' hx
    refine T_seq (T_reg ?_)   -- region 5
    refine R_q _ rfl (v_move (ov rfl)) ?_
    refine R_q _ rfl (v_move (ov rfl)) ?_
    refine R_q _ rfl (v_move (ov rfl)) ?_
    refine R_q _ rfl ((by first | exact v_ixS (ov rfl) (ov rfl) tL22 rfl (row_map (by assumption)) | exact v_ixO (ov rfl) (ov rfl) tL22 rfl rfl (by assumption))) ?_
    refine R_q _ rfl ((by first | exact v_loadA (ov rfl) rfl rfl rfl tA27 rfl rfl | exact v_loadA_r (ov rfl) tA27 rfl rfl)) ?_
    refine R_q _ rfl (v_move (ov rfl)) ?_
    refine R_q _ rfl (v_callT (ov rfl) (latest1_ok x t (by omega) (by omega)) (.cons (ov rfl) (by first | exact .b rfl | exact .aggB rfl | exact .fn) <| .cons (ov rfl) (by first | exact .b rfl | exact .aggB rfl | exact .fn) <| .nil)) ?_
    refine R_q _ rfl (v_lss (ov rfl) (ov rfl)) ?_
    refine R_nil ?_
    refine T_keep (kc 0 rfl <| kc 1 rfl <| kc 2 rfl <| kc 8 rfl <| kc 9 rfl <| kc 10 rfl <| kc 11 rfl <| kc 31 rfl <| kn) rfl ?_
    refine T_cond rfl (fun h31 => ?_) (fun h31 => ?_)
    · skip
      simp only [decide_eq_true_eq, decide_eq_false_iff_not] at h31
      refine T_keep (kc 0 rfl <| kc 1 rfl <| kc 2 rfl <| kc 8 rfl <| kc 10 rfl <| kc 11 rfl <| kn) rfl ?_
      refine T_reg ?_   -- region 6
      refine R_q _ rfl (v_move (ov rfl)) ?_
      refine R_q _ rfl (v_add (ov rfl) (ov rfl) (w64 (by first | omega | (simp at *; omega) | (simp_all; omega)) (by first | omega | (simp at *; omega) | (simp_all; omega)))) ?_
      refine R_q _ rfl (v_assign (ov rfl)) ?_
      refine R_nil ?_
      exact ⟨((i + j) / 2 + 1, j), ⟨by simp only; omega, hj, by rw [hc]; exact bsI_lt h17 hx h31⟩, by simp only; omega, Ent.keep (ke 0 rfl rfl <| ke 1 rfl rfl <| ke 2 rfl rfl <| ke 8 rfl rfl <| ke 9 rfl (by push_cast; rfl) <| ke 10 rfl rfl <| kn) rfl⟩
    · skip
      simp only [decide_eq_true_eq, decide_eq_false_iff_not] at h31
      refine T_keep (kc 0 rfl <| kc 1 rfl <| kc 2 rfl <| kc 8 rfl <| kc 9 rfl <| kc 11 rfl <| kn) rfl ?_
      refine T_reg ?_   -- region 7
      refine R_q _ rfl (v_move (ov rfl)) ?_
      refine R_q _ rfl (v_assign (ov rfl)) ?_
      refine R_nil ?_
      exact ⟨(i, (i + j) / 2), ⟨by simp only; omega, by simp only; omega, by rw [hc]; exact bsI_ge h17 hx (by omega)⟩, by simp only; omega, Ent.keep (ke 0 rfl rfl <| ke 1 rfl rfl <| ke 2 rfl rfl <| ke 8 rfl rfl <| ke 9 rfl rfl <| ke 10 rfl rfl <| kn) rfl⟩
  · skip
    simp at h17
    refine T_exit ?_   -- exit 0
    refine T_keep (kc 0 rfl <| kc 1 rfl <| kc 2 rfl <| kc 8 rfl <| kc 9 rfl <| kn) rfl ?_
    obtain ⟨y, hy⟩ : ∃ y, i < xs.length → xs[i]? = some y := by
      by_cases h : i < xs.length
      · obtain ⟨y, hy⟩ := get_ex h; exact ⟨y, fun _ => hy⟩
      · exact ⟨z0, fun h' => absurd h' h⟩
    have hyr : i < xs.length → 0 ≤ y.t ∧ y.t ≤ 1099511627776 := fun h => hf.at' (hy h)
    refine T_seq (T_reg ?_)   -- region 8
    refine R_q _ rfl (v_move (ov rfl)) ?_
    refine R_q _ rfl (v_move (ov rfl)) ?_
    refine R_q _ rfl (v_move (ov rfl)) ?_
    refine R_q _ rfl (v_lss (ov rfl) (ov rfl)) ?_
    refine R_q _ rfl (v_move (ov rfl)) ?_
    refine R_q _ rfl (.guarded _ rfl rfl rfl rfl fun h => v_move (ov rfl)) ?_
    refine R_q _ rfl (.guarded _ rfl rfl rfl rfl fun h => v_move (ov rfl)) ?_
    refine R_q _ rfl (.guarded _ rfl rfl rfl rfl fun h => v_move (ov rfl)) ?_
    refine R_q _ rfl (.guarded _ rfl rfl rfl rfl fun h => v_ixS (ow rfl h) (ow rfl h) tL22 rfl (row_map (hy (by simpa using h)))) ?_
    refine R_q _ rfl (.guarded _ rfl rfl rfl rfl fun h => (by first | exact v_loadA (ow rfl h) rfl rfl rfl tA27 rfl rfl | exact v_loadA_r (ow rfl h) tA27 rfl rfl)) ?_
    refine R_q _ rfl (.guarded _ rfl rfl rfl rfl fun h => v_move (ov rfl)) ?_
    refine R_q _ rfl (.guarded _ rfl rfl rfl rfl fun h => v_callT (ow rfl h) (latest1_ok y t (by have := hyr (by simpa using h); omega) (by have := hyr (by simpa using h); omega)) (.cons (ow rfl h) (by first | exact .b rfl | exact .aggB rfl | exact .fn) <| .cons (ow rfl h) (by first | exact .b rfl | exact .aggB rfl | exact .fn) <| .nil)) ?_
    refine R_q _ rfl (.guarded _ rfl rfl rfl rfl fun h => v_eql (ow rfl h) (ov rfl)) ?_
    refine R_q _ rfl (v_and (ov rfl) (fun hp => ow rfl (gT hp))) ?_
    refine R_q _ rfl (v_assign (ov rfl)) ?_
    refine R_q _ rfl (v_assign (ov rfl)) ?_
    refine R_nil ?_
    refine T_ret ?_
    refine retq ?_ (.two (.tmp rfl (Dat.view (.b rfl))) (.tmp rfl (Dat.view (.b rfl))))
    have hb : bs xs t = i := by rw [hc, bsI_end (by omega)]
    have hfd : found xs t = (decide ((i : Int) < xs.length) && decide (y.t - t = 0)) := by
      unfold found; rw [hb]
      by_cases h : i < xs.length
      · rw [hy h]; simp [h]
      · rw [List.getElem?_eq_none (by omega)]; simp [h]
    rw [hb, hfd]

-- series.latest (function 53)
theorem latest_ok (den : Int) (xs : List Sample) (t : Int) (hf : fit xs) (ht : 0 ≤ t ∧ t ≤ 1099511627776) : CSpec Try.prog 53 [.agg (seriesL den xs), .int .i64 t] (.int .i64 (lat xs t)) := by
  refine spec_of (by kernel_rfl) Try.func53 rfl rfl ?_
  intro w0 A
  have hlen := hf.1
  have hb := bs_le xs t
  refine T_keep (kc 0 rfl <| kc 1 rfl <| kn) rfl ?_
  refine T_seq (T_reg ?_)   -- region 0
  refine R_w _ _ rfl (w_box 0 rfl (ov rfl) tA24 rfl) ?_
  refine R_q _ rfl (v_assign (ov rfl)) ?_
  refine R_nil ?_
  refine T_keep (kc 1 rfl <| kc 2 rfl <| kn) rfl ?_
  refine T_seq (T_reg ?_)   -- region 1
  refine R_q _ rfl ((by first | exact v_fieldP (ov rfl) rfl rfl tF24_1 | exact v_fieldR (ov rfl) tF24_1)) ?_
  refine R_q _ rfl ((by first | exact v_loadS (ov rfl) rfl rfl rfl tS22 rfl | exact v_loadS_r (ov rfl) tS22 rfl)) ?_
  refine R_q _ rfl (v_move (ov rfl)) ?_
  refine R_q _ rfl (v_call (bsearch_ok xs t hf ht) (.cons (ov rfl) (by first | exact .b rfl | exact .aggB rfl | exact .fn) <| .cons (ov rfl) (by first | exact .b rfl | exact .aggB rfl | exact .fn) <| .cons (ov rfl) (by first | exact .b rfl | exact .aggB rfl | exact .fn) <| .nil)) ?_
  refine R_q _ rfl (v_move (ov rfl)) ?_
  refine R_q _ rfl (v_extract (ov rfl) rfl) ?_
  refine R_q _ rfl (v_extract (ov rfl) rfl) ?_
  refine R_q _ rfl (v_assign (ov rfl)) ?_
  refine R_q _ rfl (v_assign (ov rfl)) ?_
  refine R_nil ?_
  refine T_seq ?_
  refine T_keep (kc 5 rfl <| kc 6 rfl <| kn) rfl ?_
  refine T_seq (T_reg ?_)   -- region 2
  refine R_q _ rfl (v_move (ov rfl)) ?_
  refine R_nil ?_
  refine T_keep (kc 5 rfl <| kc 14 rfl <| kn) rfl ?_
  refine T_cond rfl (fun h14 => ?_) (fun h14 => ?_)
  · skip
    refine T_keep (kc 5 rfl <| kn) rfl ?_
    refine T_seq (T_reg ?_)   -- region 3
    refine R_q _ rfl (v_move (ov rfl)) ?_
    refine R_q _ rfl (v_assign (ov rfl)) ?_
    refine R_nil ?_
    refine T_ret ?_
    refine retq ?_ (.one (.tmp rfl (Dat.view (.b rfl))))
    simp [lat, h14]
  · skip
    refine T_skip ?_
    refine T_keep (kc 5 rfl <| kn) rfl ?_
    refine T_seq (T_reg ?_)   -- region 4
    refine R_q _ rfl (v_move (ov rfl)) ?_
    refine R_q _ rfl (v_sub (ov rfl) (ov rfl) (w64 (by first | omega | (simp at *; omega) | (simp_all; omega)) (by first | omega | (simp at *; omega) | (simp_all; omega)))) ?_
    refine R_q _ rfl (v_assign (ov rfl)) ?_
    refine R_nil ?_
    refine T_ret ?_
    refine retq ?_ (.one (.tmp rfl (Dat.view (.b rfl))))
    simp [lat, h14]

-- series.hold (function 26)
theorem hold_ok (den : Int) (xs : List Sample) (t long : Int) (hf : fit xs) (ht : 0 ≤ t ∧ t ≤ 1099511627776) : CSpec Try.prog 26 [.agg (seriesL den xs), .int .i64 t, .int .i64 long] (outH (holdO xs t long)) := by
  refine spec_of (by kernel_rfl) Try.func26 rfl rfl ?_
  intro w0 A
  have hlo := lat_lo xs t
  have hhi := lat_hi xs t
  have hlen := hf.1
  refine T_keep (kc 0 rfl <| kc 1 rfl <| kc 2 rfl <| kn) rfl ?_
  refine T_seq (T_reg ?_)   -- region 0
  refine R_w _ _ rfl (w_box 0 rfl (ov rfl) tA24 rfl) ?_
  refine R_w _ _ rfl (w_alloc (row := [_, _, _]) 1 rfl tZ27 rfl tZ_27) ?_
  refine R_q _ rfl (v_assign (ov rfl)) ?_
  refine R_nil ?_
  refine T_keep (kc 1 rfl <| kc 2 rfl <| kc 3 rfl <| kc 6 rfl <| kn) rfl ?_
  refine T_seq (T_reg ?_)   -- region 1
  refine R_q _ rfl ((by first | exact v_loadA (ov rfl) rfl rfl rfl tA24 rfl rfl | exact v_loadA_r (ov rfl) tA24 rfl rfl)) ?_
  refine R_q _ rfl (v_move (ov rfl)) ?_
  refine R_q _ rfl (v_call (latest_ok den xs t hf ht) (.cons (ov rfl) (by first | exact .b rfl | exact .aggB rfl | exact .fn) <| .cons (ov rfl) (by first | exact .b rfl | exact .aggB rfl | exact .fn) <| .nil)) ?_
  refine R_q _ rfl (v_assign (ov rfl)) ?_
  refine R_nil ?_
  refine T_seq ?_
  refine T_keep (kc 1 rfl <| kc 2 rfl <| kc 3 rfl <| kc 6 rfl <| kc 8 rfl <| kn) rfl ?_
  obtain ⟨y, hy⟩ : ∃ y, 0 ≤ lat xs t → xs[(lat xs t).toNat]? = some y := by
    by_cases h : 0 ≤ lat xs t
    · obtain ⟨y, hy⟩ := get_ex (xs := xs) (k := (lat xs t).toNat) (by omega); exact ⟨y, fun _ => hy⟩
    · exact ⟨z0, fun h' => absurd h' h⟩
  have hyr : 0 ≤ lat xs t → 0 ≤ y.t ∧ y.t ≤ 1099511627776 := fun h => hf.at' (hy h)
  refine T_seq (T_reg ?_)   -- region 2
  refine R_q _ rfl (v_move (ov rfl)) ?_
  refine R_q _ rfl (v_lss (ov rfl) (ov rfl)) ?_
  refine R_q _ rfl (v_move (ov rfl)) ?_
  refine R_q _ rfl (.guarded _ rfl rfl rfl rfl fun h => (by first | exact v_fieldP (ov rfl) rfl rfl tF24_1 | exact v_fieldR (ov rfl) tF24_1)) ?_
  refine R_q _ rfl (.guarded _ rfl rfl rfl rfl fun h => (by first | exact v_loadS (ow rfl h) rfl rfl rfl tS22 rfl | exact v_loadS_r (ow rfl h) tS22 rfl)) ?_
  refine R_q _ rfl (.guarded _ rfl rfl rfl rfl fun h => v_move (ov rfl)) ?_
  refine R_q _ rfl (.guarded _ rfl rfl rfl rfl fun h => v_ixS (ow rfl h) (ow rfl h) tL22 (m := (lat xs t).toNat) (by simp at h; omega) (row_map (hy (by simp at h; omega)))) ?_
  refine R_q _ rfl (.guarded _ rfl rfl rfl rfl fun h => (by first | exact v_loadA (ow rfl h) rfl rfl rfl tA27 rfl rfl | exact v_loadA_r (ow rfl h) tA27 rfl rfl)) ?_
  refine R_q _ rfl (.guarded _ rfl rfl rfl rfl fun h => v_call (solid_ok _) (.cons (ow rfl h) (by first | exact .b rfl | exact .aggB rfl | exact .fn) <| .nil)) ?_
  refine R_q _ rfl (.guarded _ rfl rfl rfl rfl fun h => v_not (ow rfl h)) ?_
  refine R_q _ rfl (v_or (ov rfl) (fun hp => ow rfl (gF hp))) ?_
  refine R_q _ rfl (v_move (ov rfl)) ?_
  refine R_q _ rfl (.guarded _ rfl rfl rfl rfl fun h => v_move (ov rfl)) ?_
  refine R_q _ rfl (.guarded _ rfl rfl rfl rfl fun h => (by first | exact v_fieldP (ov rfl) rfl rfl tF24_1 | exact v_fieldR (ov rfl) tF24_1)) ?_
  refine R_q _ rfl (.guarded _ rfl rfl rfl rfl fun h => (by first | exact v_loadS (ow rfl h) rfl rfl rfl tS22 rfl | exact v_loadS_r (ow rfl h) tS22 rfl)) ?_
  refine R_q _ rfl (.guarded _ rfl rfl rfl rfl fun h => v_move (ov rfl)) ?_
  refine R_q _ rfl (.guarded _ rfl rfl rfl rfl fun h => v_ixS (ow rfl h) (ow rfl h) tL22 (m := (lat xs t).toNat) (by simp at h; omega) (row_map (hy (by simp at h; omega)))) ?_
  refine R_q _ rfl (.guarded _ rfl rfl rfl rfl fun h => (by first | exact v_fieldP (ow rfl h) rfl rfl tF27_0 | exact v_fieldR (ow rfl h) tF27_0)) ?_
  refine R_q _ rfl (.guarded _ rfl rfl rfl rfl fun h => (by first | exact v_loadS (ow rfl h) rfl rfl rfl tS3 rfl | exact v_loadS_r (ow rfl h) tS3 rfl)) ?_
  refine R_q _ rfl (.guarded _ rfl rfl rfl rfl fun h => v_sub (ow rfl h) (ow rfl h) (w64 (by have := hyr (by simp at h; omega); omega) (by have := hyr (by simp at h; omega); omega))) ?_
  refine R_q _ rfl (.guarded _ rfl rfl rfl rfl fun h => v_move (ov rfl)) ?_
  refine R_q _ rfl (.guarded _ rfl rfl rfl rfl fun h => v_gtr (ow rfl h) (ow rfl h)) ?_
  refine R_q _ rfl (v_or (ov rfl) (fun hp => ow rfl (gF hp))) ?_
  refine R_nil ?_
  refine T_keep (kc 3 rfl <| kc 6 rfl <| kc 8 rfl <| kc 34 rfl <| kn) rfl ?_
  refine T_cond rfl (fun h34 => ?_) (fun h34 => ?_)
  · skip
    have hv : (lat xs t < 0 ∨ ¬ 3 ≤ y.mark) ∨ long < t - y.t := by simpa using h34
    refine T_keep (kc 6 rfl <| kn) rfl ?_
    refine T_seq (T_reg ?_)   -- region 3
    refine R_q _ rfl (v_build (ys := [_, _, _]) tPL27 tHA27 tZ27 (.nil) rfl) ?_
    refine R_w _ _ rfl (w_store (ov rfl) (ov rfl) (cells_agg tA27 rfl) rfl rfl rfl (Nat.le_of_ble_eq_true rfl) (cell1_all rfl) rfl) ?_
    refine R_q _ rfl (v_assign (ov rfl)) ?_
    refine R_nil ?_
    refine T_ret ?_
    refine retq ?_ (.two (.agg rfl rfl rfl rfl tA27 rfl rfl (pwB rfl)) (.tmp rfl (Dat.view (.b rfl))))
    have : holdO xs t long = none := by
      unfold holdO
      by_cases h : lat xs t < 0
      · rw [if_pos h]
      · rw [if_neg h, hy (by omega)]; simp only; by_cases h3 : 3 ≤ y.mark
        · rw [if_pos h3, if_pos (by omega)]
        · rw [if_neg h3]
    rw [this]; rfl
  · skip
    have hv : (¬ lat xs t < 0 ∧ 3 ≤ y.mark) ∧ ¬ long < t - y.t := by simpa using h34
    refine T_skip ?_
    refine T_keep (kc 3 rfl <| kc 6 rfl <| kc 8 rfl <| kn) rfl ?_
    refine T_seq (T_reg ?_)   -- region 4
    refine R_q _ rfl ((by first | exact v_fieldP (ov rfl) rfl rfl tF24_1 | exact v_fieldR (ov rfl) tF24_1)) ?_
    refine R_q _ rfl ((by first | exact v_loadS (ov rfl) rfl rfl rfl tS22 rfl | exact v_loadS_r (ov rfl) tS22 rfl)) ?_
    refine R_q _ rfl (v_move (ov rfl)) ?_
    refine R_q _ rfl (v_ixS (ov rfl) (ov rfl) tL22 (m := (lat xs t).toNat) (by omega) (row_map (hy (by omega)))) ?_
    refine R_q _ rfl ((by first | exact v_loadA (ov rfl) rfl rfl rfl tA27 rfl rfl | exact v_loadA_r (ov rfl) tA27 rfl rfl)) ?_
    refine R_w _ _ rfl (w_store (ov rfl) (ov rfl) (cells_agg tA27 rfl) rfl rfl rfl (Nat.le_of_ble_eq_true rfl) (cell1_all rfl) rfl) ?_
    refine R_q _ rfl (v_assign (ov rfl)) ?_
    refine R_nil ?_
    refine T_ret ?_
    refine retq ?_ (.two (.agg rfl rfl rfl rfl tA27 rfl rfl (pwB rfl)) (.tmp rfl (Dat.view (.b rfl))))
    have : holdO xs t long = some y := by
      unfold holdO; rw [if_neg (by omega), hy (by omega)]; simp only; rw [if_pos (by omega), if_neg (by omega)]
    rw [this]; rfl

-- series.Hold (function 8)
theorem Hold_ok (den : Int) (xs : List Sample) (t long : Int) : CSpec Try.prog 8 [.agg (seriesL den xs), .int .i64 t, .int .i64 long] (outHoldV (outHold den xs t long)) := by
  refine spec_of (by kernel_rfl) Try.func8 rfl rfl ?_
  intro w0 A
  refine T_keep (kc 0 rfl <| kc 1 rfl <| kc 2 rfl <| kn) rfl ?_
  refine T_seq (T_reg ?_)   -- region 0
  refine R_w _ _ rfl (w_box 0 rfl (ov rfl) tA24 rfl) ?_
  refine R_w _ _ rfl (w_alloc (row := [_, _, _]) 1 rfl tZ27 rfl tZ_27) ?_
  refine R_q _ rfl (v_assign (ov rfl)) ?_
  refine R_q _ rfl (v_assign (ov rfl)) ?_
  refine R_nil ?_
  refine T_seq ?_
  refine T_keep (kc 1 rfl <| kc 2 rfl <| kc 3 rfl <| kc 6 rfl <| kn) rfl ?_
  refine T_seq (T_reg ?_)   -- region 1
  refine R_q _ rfl ((by first | exact v_loadA (ov rfl) rfl rfl rfl tA24 rfl rfl | exact v_loadA_r (ov rfl) tA24 rfl rfl)) ?_
  refine R_q _ rfl (v_call (Check_ok _ _) (.cons (ov rfl) (by first | exact .b rfl | exact .aggB rfl | exact .fn) <| .nil)) ?_
  refine R_q _ rfl (v_assign (ov rfl)) ?_
  refine R_nil ?_
  refine T_keep (kc 1 rfl <| kc 2 rfl <| kc 3 rfl <| kc 6 rfl <| kc 9 rfl <| kn) rfl ?_
  refine T_seq (T_reg ?_)   -- region 2
  refine R_q _ rfl (v_move (ov rfl)) ?_
  refine R_q _ rfl (v_neq (ov rfl) (ov rfl)) ?_
  refine R_nil ?_
  refine T_keep (kc 1 rfl <| kc 2 rfl <| kc 3 rfl <| kc 6 rfl <| kc 9 rfl <| kc 15 rfl <| kn) rfl ?_
  refine T_cond rfl (fun h15 => ?_) (fun h15 => ?_)
  · skip
    try simp at h15
    refine T_keep (kc 6 rfl <| kc 9 rfl <| kn) rfl ?_
    refine T_seq (T_reg ?_)   -- region 3
    refine R_q _ rfl (v_build (ys := [_, _, _]) tPL27 tHA27 tZ27 (.nil) rfl) ?_
    refine R_q _ rfl (v_move (ov rfl)) ?_
    refine R_w _ _ rfl (w_store (ov rfl) (ov rfl) (cells_agg tA27 rfl) rfl rfl rfl (Nat.le_of_ble_eq_true rfl) (cell1_all rfl) rfl) ?_
    refine R_q _ rfl (v_assign (ov rfl)) ?_
    refine R_q _ rfl (v_assign (ov rfl)) ?_
    refine R_nil ?_
    refine T_ret ?_
    refine retq ?_ (.three (.agg rfl rfl rfl rfl tA27 rfl rfl (pwB rfl)) (.tmp rfl (Dat.view (.b rfl))) (.tmp rfl (Dat.view (.b rfl))))
    simp [outHold, outHoldV, h15, constAV, Sample.av, z0]
  · skip
    try simp at h15
    refine T_skip ?_
    refine T_seq ?_
    refine T_keep (kc 1 rfl <| kc 2 rfl <| kc 3 rfl <| kc 6 rfl <| kn) rfl ?_
    refine T_seq (T_reg ?_)   -- region 4
    refine R_q _ rfl (v_move (ov rfl)) ?_
    refine R_q _ rfl (v_call (within_ok _ _ _) (.cons (ov rfl) (by first | exact .b rfl | exact .aggB rfl | exact .fn) <| .cons (ov rfl) (by first | exact .b rfl | exact .aggB rfl | exact .fn) <| .cons (ov rfl) (by first | exact .b rfl | exact .aggB rfl | exact .fn) <| .nil)) ?_
    refine R_q _ rfl (v_not (ov rfl)) ?_
    refine R_q _ rfl (v_move (ov rfl)) ?_
    refine R_q _ rfl (.guarded _ rfl rfl rfl rfl fun h => v_move (ov rfl)) ?_
    refine R_q _ rfl (.guarded _ rfl rfl rfl rfl fun h => v_call (within_ok _ _ _) (.cons (ow rfl h) (by first | exact .b rfl | exact .aggB rfl | exact .fn) <| .cons (ov rfl) (by first | exact .b rfl | exact .aggB rfl | exact .fn) <| .cons (ov rfl) (by first | exact .b rfl | exact .aggB rfl | exact .fn) <| .nil)) ?_
    refine R_q _ rfl (.guarded _ rfl rfl rfl rfl fun h => v_not (ow rfl h)) ?_
    refine R_q _ rfl (v_or (ov rfl) (fun hp => ow rfl (gF hp))) ?_
    refine R_nil ?_
    refine T_keep (kc 1 rfl <| kc 2 rfl <| kc 3 rfl <| kc 6 rfl <| kc 25 rfl <| kn) rfl ?_
    refine T_cond rfl (fun h25 => ?_) (fun h25 => ?_)
    · skip
      have hw : (wi t 0 1099511627776 && wi long 0 1099511627776) = false := by
        have h : (!wi t 0 1099511627776 || !wi long 0 1099511627776) = true := h25
        revert h
        cases wi t 0 1099511627776 <;> cases wi long 0 1099511627776 <;> simp
      refine T_keep (kc 6 rfl <| kn) rfl ?_
      refine T_seq (T_reg ?_)   -- region 5
      refine R_q _ rfl (v_build (ys := [_, _, _]) tPL27 tHA27 tZ27 (.nil) rfl) ?_
      refine R_w _ _ rfl (w_store (ov rfl) (ov rfl) (cells_agg tA27 rfl) rfl rfl rfl (Nat.le_of_ble_eq_true rfl) (cell1_all rfl) rfl) ?_
      refine R_q _ rfl (v_assign (ov rfl)) ?_
      refine R_q _ rfl (v_assign (ov rfl)) ?_
      refine R_nil ?_
      refine T_ret ?_
      refine retq ?_ (.three (.agg rfl rfl rfl rfl tA27 rfl rfl (pwB rfl)) (.tmp rfl (Dat.view (.b rfl))) (.tmp rfl (Dat.view (.b rfl))))
      simp [outHold, outHoldV, h15, hw, constAV, Sample.av, z0]
    · skip
      have hw : (wi t 0 1099511627776 && wi long 0 1099511627776) = true := by
        have h : (!wi t 0 1099511627776 || !wi long 0 1099511627776) = false := h25
        revert h
        cases wi t 0 1099511627776 <;> cases wi long 0 1099511627776 <;> simp
      have htt : 0 ≤ t ∧ t ≤ 1099511627776 := by simp [wi] at hw; omega
      refine T_skip ?_
      refine T_keep (kc 1 rfl <| kc 2 rfl <| kc 3 rfl <| kc 6 rfl <| kn) rfl ?_
      refine T_seq (T_reg ?_)   -- region 6
      refine R_q _ rfl ((by first | exact v_loadA (ov rfl) rfl rfl rfl tA24 rfl rfl | exact v_loadA_r (ov rfl) tA24 rfl rfl)) ?_
      refine R_q _ rfl (v_move (ov rfl)) ?_
      refine R_q _ rfl (v_move (ov rfl)) ?_
      refine R_q _ rfl (v_call (hold_ok den xs t long (chk_good h15).2.1 htt) (.cons (ov rfl) (by first | exact .b rfl | exact .aggB rfl | exact .fn) <| .cons (ov rfl) (by first | exact .b rfl | exact .aggB rfl | exact .fn) <| .cons (ov rfl) (by first | exact .b rfl | exact .aggB rfl | exact .fn) <| .nil)) ?_
      refine R_q _ rfl (v_move (ov rfl)) ?_
      refine R_q _ rfl (v_extract (ov rfl) rfl) ?_
      refine R_q _ rfl (v_extract (ov rfl) rfl) ?_
      refine R_w _ _ rfl (w_alloc (row := [_, _, _]) 2 rfl tZ27 rfl tZ_27) ?_
      refine R_w _ _ rfl (w_store (ov rfl) (ov rfl) (cells_agg tA27 rfl) rfl rfl rfl (Nat.le_of_ble_eq_true rfl) (cell1_all rfl) rfl) ?_
      refine R_q _ rfl (v_assign (ov rfl)) ?_
      refine R_nil ?_
      refine T_keep (kc 6 rfl <| kc 10 rfl <| kc 11 rfl <| kn) rfl ?_
      refine T_seq (T_reg ?_)   -- region 7
      refine R_q _ rfl ((by first | exact v_loadA (ov rfl) rfl rfl rfl tA27 rfl rfl | exact v_loadA_r (ov rfl) tA27 rfl rfl)) ?_
      refine R_q _ rfl (v_move (ov rfl)) ?_
      refine R_w _ _ rfl (w_store (ov rfl) (ov rfl) (cells_agg tA27 rfl) rfl rfl rfl (Nat.le_of_ble_eq_true rfl) (cell1_all rfl) rfl) ?_
      refine R_q _ rfl (v_assign (ov rfl)) ?_
      refine R_q _ rfl (v_assign (ov rfl)) ?_
      refine R_nil ?_
      refine T_ret ?_
      refine retq ?_ (.three (.agg rfl rfl rfl rfl tA27 rfl rfl (pwB rfl)) (.tmp rfl (Dat.view (.b rfl))) (.tmp rfl (Dat.view (.b rfl))))
      simp [outHold, outHoldV, h15, hw, constAV, Sample.av]

-- law5.holds (function 9)
theorem holds_ok  : CSpec Try.prog 9 [] (.bool true) := by
  refine spec_of (by kernel_rfl) Try.func9 rfl rfl ?_
  intro w0 A
  refine T_keep (kn) rfl ?_
  refine T_seq (T_reg ?_)   -- region 0
  refine R_q _ rfl (v_assign (ov rfl)) ?_
  refine R_nil ?_
  refine T_keep (kn) rfl ?_
  refine T_seq (T_reg ?_)   -- region 1
  refine R_q _ rfl (v_build (ys := [_, _, _]) tPL27 tHA27 tZ27 (.cons (cvs (ov rfl) (cell1_b rfl)) <| .cons (cvs (ov rfl) (cell1_b rfl)) <| .cons (cvs (ov rfl) (cell1_b rfl)) <| .nil) rfl) ?_
  refine R_q _ rfl (v_lit tL22 (.cons (cva (ov rfl)) rfl (pwD rfl) <| .nil) rfl rfl) ?_
  refine R_q _ rfl (v_build (ys := [_, _]) tPL24 tHA24 tZ24 (.cons (cvs (ov rfl) (cell1_b rfl)) <| .cons (cvs (ov rfl) (cell1_b rfl)) <| .nil) rfl) ?_
  refine R_q _ rfl (v_call (Hold_ok 1 [⟨5, 7, 4⟩] 9 4) (.cons (ov rfl) (by first | exact .b rfl | exact .aggB rfl | exact .fn) <| .cons (ov rfl) (by first | exact .b rfl | exact .aggB rfl | exact .fn) <| .cons (ov rfl) (by first | exact .b rfl | exact .aggB rfl | exact .fn) <| .nil)) ?_
  refine R_q _ rfl (v_move (ov rfl)) ?_
  refine R_q _ rfl (v_extract (ov rfl) rfl) ?_
  refine R_q _ rfl (v_extract (ov rfl) rfl) ?_
  refine R_q _ rfl (v_extract (ov rfl) rfl) ?_
  refine R_w _ _ rfl (w_alloc (row := [_, _, _]) 0 rfl tZ27 rfl tZ_27) ?_
  refine R_w _ _ rfl (w_store (ov rfl) (ov rfl) (cells_agg tA27 rfl) rfl rfl rfl (Nat.le_of_ble_eq_true rfl) (cell1_all rfl) rfl) ?_
  refine R_q _ rfl (v_assign (ov rfl)) ?_
  refine R_q _ rfl (v_assign (ov rfl)) ?_
  refine R_nil ?_
  refine T_keep (kc 1 rfl <| kc 2 rfl <| kc 3 rfl <| kn) rfl ?_
  refine T_seq (T_reg ?_)   -- region 2
  refine R_q _ rfl (v_move (ov rfl)) ?_
  refine R_q _ rfl (v_move (ov rfl)) ?_
  refine R_q _ rfl (.guarded _ rfl rfl rfl rfl fun h => v_move (ov rfl)) ?_
  refine R_q _ rfl (.guarded _ rfl rfl rfl rfl fun h => v_eql (ow rfl h) (ov rfl)) ?_
  refine R_q _ rfl (v_and (ov rfl) (fun hp => ow rfl (gT hp))) ?_
  refine R_q _ rfl (v_move (ov rfl)) ?_
  refine R_q _ rfl (.guarded _ rfl rfl rfl rfl fun h => (by first | exact v_loadA (ov rfl) rfl rfl rfl tA27 rfl rfl | exact v_loadA_r (ov rfl) tA27 rfl rfl)) ?_
  refine R_q _ rfl (.guarded _ rfl rfl rfl rfl fun h => v_build (ys := [_, _, _]) tPL27 tHA27 tZ27 (.cons (cvs (ov rfl) (cell1_b rfl)) <| .cons (cvs (ov rfl) (cell1_b rfl)) <| .cons (cvs (ov rfl) (cell1_b rfl)) <| .nil) rfl) ?_
  refine R_q _ rfl (.guarded _ rfl rfl rfl rfl fun h => v_eqlS tFS27 (ow rfl h) (ow rfl h) (.aggB rfl) (.aggB rfl) rfl rfl) ?_
  refine R_q _ rfl (v_and (ov rfl) (fun hp => ow rfl (gT hp))) ?_
  refine R_q _ rfl (v_assign (ov rfl)) ?_
  refine R_nil ?_
  refine T_ret ?_
  refine retq ?_ (.one (.tmp rfl (Dat.view (.b rfl))))
  first | rfl | simp_all

-- law5.SeriesHoldKnowsLess (function 3)
theorem law_ok (den : Int) (xs : List Sample) (lost : List Int) (t long : Int) (hll : lost.length < 9223372036854775808) : CSpec Try.prog 3 [.agg (seriesL den xs), .sl 3 (lost.map fun z => [.int .i64 z]), .int .i64 t, .int .i64 long] (.bool true) := by
  refine spec_of (by kernel_rfl) Try.func3 rfl rfl ?_
  intro w0 A
  refine T_keep (kc 0 rfl <| kc 1 rfl <| kc 2 rfl <| kc 3 rfl <| kn) rfl ?_
  refine T_seq (T_reg ?_)   -- region 0
  refine R_w _ _ rfl (w_box 0 rfl (ov rfl) tA24 rfl) ?_
  refine R_q _ rfl (v_assign (ov rfl)) ?_
  refine R_nil ?_
  refine T_keep (kc 1 rfl <| kc 2 rfl <| kc 3 rfl <| kc 4 rfl <| kn) rfl ?_
  refine T_seq (T_reg ?_)   -- region 1
  refine R_q _ rfl ((by first | exact v_loadA (ov rfl) rfl rfl rfl tA24 rfl rfl | exact v_loadA_r (ov rfl) tA24 rfl rfl)) ?_
  refine R_q _ rfl (v_move (ov rfl)) ?_
  refine R_q _ rfl (v_move (ov rfl)) ?_
  refine R_q _ rfl (v_call (Hold_ok den xs t long) (.cons (ov rfl) (by first | exact .b rfl | exact .aggB rfl | exact .fn) <| .cons (ov rfl) (by first | exact .b rfl | exact .aggB rfl | exact .fn) <| .cons (ov rfl) (by first | exact .b rfl | exact .aggB rfl | exact .fn) <| .nil)) ?_
  refine R_q _ rfl (v_move (ov rfl)) ?_
  refine R_q _ rfl (v_extract (ov rfl) rfl) ?_
  refine R_q _ rfl (v_extract (ov rfl) rfl) ?_
  refine R_q _ rfl (v_extract (ov rfl) rfl) ?_
  refine R_w _ _ rfl (w_alloc (row := [_, _, _]) 1 rfl tZ27 rfl tZ_27) ?_
  refine R_w _ _ rfl (w_store (ov rfl) (ov rfl) (cells_agg tA27 rfl) rfl rfl rfl (Nat.le_of_ble_eq_true rfl) (cell1_all rfl) rfl) ?_
  refine R_q _ rfl (v_assign (ov rfl)) ?_
  refine R_q _ rfl (v_assign (ov rfl)) ?_
  refine R_nil ?_
  refine T_seq ?_
  refine T_keep (kc 1 rfl <| kc 2 rfl <| kc 3 rfl <| kc 4 rfl <| kc 9 rfl <| kc 10 rfl <| kc 11 rfl <| kn) rfl ?_
  refine T_seq (T_reg ?_)   -- region 2
  refine R_q _ rfl (v_move (ov rfl)) ?_
  refine R_q _ rfl (v_neq (ov rfl) (ov rfl)) ?_
  refine R_nil ?_
  refine T_keep (kc 1 rfl <| kc 2 rfl <| kc 3 rfl <| kc 4 rfl <| kc 9 rfl <| kc 10 rfl <| kc 27 rfl <| kn) rfl ?_
  refine T_cond rfl (fun h27 => ?_) (fun h27 => ?_)
  · skip
    try simp at h27
    refine T_keep (kn) rfl ?_
    refine T_seq (T_reg ?_)   -- region 3
    refine R_q _ rfl (v_call holds_ok (.nil)) ?_
    refine R_q _ rfl (v_assign (ov rfl)) ?_
    refine R_nil ?_
    refine T_ret ?_
    refine retq ?_ (.one (.tmp rfl (Dat.view (.b rfl))))
    first | rfl | simp_all
  · skip
    have h27 : (outHold den xs t long).2 = 0 := by simpa using h27
    have hfit : fit xs := by
      by_cases hc : (chk den xs).2 = 0
      · exact (chk_good hc).2.1
      · exact absurd h27 (by unfold outHold; rw [if_neg hc]; exact hc)
    have hlen := hfit.1
    refine T_skip ?_
    refine T_keep (kc 1 rfl <| kc 2 rfl <| kc 3 rfl <| kc 4 rfl <| kc 9 rfl <| kc 10 rfl <| kn) rfl ?_
    refine T_join (ι := Unit) (fun _ => True) (fun _ => ⟨[(1, .sl 3 (lost.map fun z => [.int .i64 z])), (2, .int .i64 t), (3, .int .i64 long), (9, .ptr 1 1 0 0), (10, .bool (outHold den xs t long).1.isSome), (12, .ptr 3 1 0 0)], [some ⟨24, [seriesL den xs]⟩, some ⟨27, [((outHold den xs t long).1.getD z0).av]⟩, some ⟨27, xs.map Sample.av⟩, some ⟨24, [[.int .i64 den, .own 2 xs.length]]⟩]⟩) ?_ ?_
    · refine T_draw (cw := false) (by kernel_rfl) ?_
      refine D_read 0 _ rfl (by kernel_rfl) rfl rfl (fun hp' hx => v_fieldP (ov rfl) (hx.2 _ _ rfl) rfl tF24_0) ?_
      refine D_read 1 _ rfl (by kernel_rfl) rfl rfl (fun hp' hx => v_loadS (ov rfl) (hx.2 _ _ rfl) rfl rfl tS3 rfl) ?_
      refine D_read 2 _ rfl (by kernel_rfl) rfl rfl (fun hp' hx => v_fieldP (ov rfl) (hx.2 _ _ rfl) rfl tF24_1) ?_
      refine D_read 3 _ rfl (by kernel_rfl) rfl rfl (fun hp' hx => v_loadS (ov rfl) (hx.2 _ _ rfl) rfl rfl tS22 rfl) ?_
      refine D_two 4 6 rfl rfl (by kernel_rfl) rfl rfl rfl rfl (fun _ => Ext.app) (fun _ => Ext.app) (w_append0 (r := 2) rfl (ov rfl) (slv_sl (ov rfl) rfl) tL22 (m := xs.length) (List.length_map _) (by omega)) (w_alloc (row := [_, _]) 2 rfl tZ24 rfl tZ_24) ?_ ?_
      · refine D_free 5 _ rfl (by kernel_rfl) rfl rfl (fun hp' => v_build (ys := [_, _]) tPL24 tHA24 tZ24 (.cons (cvs (ov rfl) (cell1_b rfl)) <| .cons (cvs (ov rfl) (cell1_b rfl)) <| .nil) rfl) ?_
        refine D_one 6 _ _ rfl (by kernel_rfl) rfl rfl (fun _ => Ext.app) (w_alloc (row := [_, _]) 3 rfl tZ24 rfl tZ_24) ?_
        refine D_one 7 _ _ rfl (by kernel_rfl) rfl rfl (fun h => by cases h) (w_store (ov rfl) (ov rfl) (cells_agg tA24 rfl) rfl rfl rfl (Nat.le_of_ble_eq_true rfl) (cell1_all rfl) rfl) ?_
        refine D_done (by kernel_rfl) ?_
        exact ⟨(), trivial, Ent.keep (ke 1 rfl rfl <| ke 2 rfl rfl <| ke 3 rfl rfl <| ke 9 rfl rfl <| ke 10 rfl rfl <| ke 12 rfl rfl <| kn) rfl⟩
      · refine D_one 4 _ _ rfl (by kernel_rfl) rfl rfl (fun _ => Ext.app) (w_append0 (r := 3) rfl (ov rfl) (slv_sl (ov rfl) rfl) tL22 (m := xs.length) (List.length_map _) (by omega)) ?_
        refine D_oneq 5 _ rfl (by kernel_rfl) rfl rfl (fun hp' => v_build (ys := [_, _]) tPL24 tHA24 tZ24 (.cons (cvs (ov rfl) (cell1_b rfl)) <| .cons (cvs (ov rfl) (cell1_b rfl)) <| .nil) rfl) ?_
        refine D_one 7 _ _ rfl (by kernel_rfl) rfl rfl (fun h => by cases h) (w_store (ov rfl) (ov rfl) (cells_agg tA24 rfl) rfl rfl rfl (Nat.le_of_ble_eq_true rfl) (cell1_all rfl) rfl) ?_
        refine D_done (by kernel_rfl) ?_
        refine ⟨(), trivial, Ent.swap2 (n := 2) (hp := [some ⟨24, [seriesL den xs]⟩, some ⟨27, [((outHold den xs t long).1.getD z0).av]⟩]) (o1 := ⟨24, [[.int .i64 den, .own 3 xs.length]]⟩) (o2 := ⟨27, xs.map Sample.av⟩) rfl
          (.cons rfl (.dat rfl) <| .cons rfl (.dat rfl) <| .cons rfl (.dat rfl) <| .cons rfl (.ptr 1 1 0 0) <| .cons rfl (.dat rfl) <| .cons rfl (.ptr 2 1 0 0) <| .nil) (renO_one tZ_24.symm (renL_cons (.dat rfl) (renL_cons (.own 3 _) renL_nil))) (renO_dat (rowsB tZ_27 xs)) ?_⟩
        intro r o h
        match r, h with
        | 0, h => cases h; exact renO_one tZ_24.symm (renL_dat rfl)
        | 1, h => cases h; exact renO_one tZ_27.symm (renL_dat rfl)
    intro _ _
    refine T_seq ?_
    refine T_keep (kc 1 rfl <| kc 2 rfl <| kc 3 rfl <| kc 9 rfl <| kc 10 rfl <| kc 12 rfl <| kn) rfl ?_
    refine T_seq (T_reg ?_)   -- region 5
    refine R_q _ rfl (v_assign (ov rfl)) ?_
    refine R_nil ?_
    refine T_block ?_   -- block 0
    refine T_loop (ι := Nat × List Sample) (fun p => p.1 ≤ lost.length ∧ Kn xs p.2) (fun p => ⟨[(1, .sl 3 (lost.map fun z => [.int .i64 z])), (2, .int .i64 t), (3, .int .i64 long), (9, .ptr 1 1 0 0), (10, .bool (outHold den xs t long).1.isSome), (12, .ptr 3 1 0 0), (13, .int .i64 p.1)], [some ⟨24, [seriesL den xs]⟩, some ⟨27, [((outHold den xs t long).1.getD z0).av]⟩, some ⟨27, p.2.map Sample.av⟩, some ⟨24, [[.int .i64 den, .own 2 xs.length]]⟩]⟩) (fun p => lost.length - p.1) (0, xs) (⟨by simp, Kn.refl xs⟩) (Ent.keep (kc 1 rfl <| kc 2 rfl <| kc 3 rfl <| kc 9 rfl <| kc 10 rfl <| kc 12 rfl <| kc 13 rfl <| kn) rfl) ?_
    intro ⟨k, ys⟩ hC
    obtain ⟨hk, hkn⟩ := hC
    simp only at hk hkn
    have hyl := hkn.len
    refine T_keep (kc 1 rfl <| kc 2 rfl <| kc 3 rfl <| kc 9 rfl <| kc 10 rfl <| kc 12 rfl <| ke 13 rfl (v' := .int .i64 (k : Int)) rfl <| kn) rfl ?_
    refine T_seq ?_
    refine T_keep (kc 1 rfl <| kc 2 rfl <| kc 3 rfl <| kc 9 rfl <| kc 10 rfl <| kc 12 rfl <| kc 13 rfl <| kn) rfl ?_
    refine T_seq (T_reg ?_)   -- region 6
    refine R_q _ rfl (v_move (ov rfl)) ?_
    refine R_q _ rfl (v_move (ov rfl)) ?_
    refine R_q _ rfl ((by first | exact v_len (slv_sl (ov rfl) rfl) tL25 (len_map _ _) | exact v_len (slv_sl (ov rfl) rfl) tL25 rfl | exact v_len (slv_own (ov rfl) rfl rfl rfl) tL25 rfl)) ?_
    refine R_q _ rfl (v_lss (ov rfl) (ov rfl)) ?_
    refine R_nil ?_
    refine T_keep (kc 1 rfl <| kc 2 rfl <| kc 3 rfl <| kc 9 rfl <| kc 10 rfl <| kc 12 rfl <| kc 13 rfl <| kc 38 rfl <| kn) rfl ?_
    refine T_cond rfl (fun h38 => ?_) (fun h38 => ?_)
    · skip
      simp at h38
      refine T_skip ?_
      refine T_seq ?_
      refine T_block ?_   -- block 1
      refine T_keep (kc 1 rfl <| kc 2 rfl <| kc 3 rfl <| kc 9 rfl <| kc 10 rfl <| kc 12 rfl <| kc 13 rfl <| kn) rfl ?_
      obtain ⟨a, ha⟩ := get_ex (xs := lost) (k := k) (by omega)
      refine T_seq (T_reg ?_)   -- region 8
      refine R_q _ rfl (v_move (ov rfl)) ?_
      refine R_q _ rfl (v_move (ov rfl)) ?_
      refine R_q _ rfl (v_ixS (ov rfl) (ov rfl) tL25 rfl (row_map (f := fun z => [AV.int .i64 z]) ha)) ?_
      refine R_q _ rfl ((by first | exact v_loadS (ov rfl) rfl rfl rfl tS3 rfl | exact v_loadS_r (ov rfl) tS3 rfl)) ?_
      refine R_q _ rfl (v_assign (ov rfl)) ?_
      refine R_nil ?_
      refine T_keep (kc 1 rfl <| kc 2 rfl <| kc 3 rfl <| kc 9 rfl <| kc 10 rfl <| kc 12 rfl <| kc 13 rfl <| kc 14 rfl <| kn) rfl ?_
      refine T_seq (T_reg ?_)   -- region 9
      refine R_q _ rfl (v_move (ov rfl)) ?_
      refine R_q _ rfl (v_geq (ov rfl) (ov rfl)) ?_
      refine R_q _ rfl (v_move (ov rfl)) ?_
      refine R_q _ rfl (.guarded _ rfl rfl rfl rfl fun h => v_move (ov rfl)) ?_
      refine R_q _ rfl (.guarded _ rfl rfl rfl rfl fun h => (by first | exact v_fieldP (ov rfl) rfl rfl tF24_1 | exact v_fieldR (ov rfl) tF24_1)) ?_
      refine R_q _ rfl (.guarded _ rfl rfl rfl rfl fun h => (by first | exact v_loadS (ow rfl h) rfl rfl rfl tS22 rfl | exact v_loadS_r (ow rfl h) tS22 rfl)) ?_
      refine R_q _ rfl (.guarded _ rfl rfl rfl rfl fun h => v_len (slv_own (ow rfl h) rfl (by simpa using hyl) tZ_27) tL22 (z := (xs.length : Int)) (by simp [hyl])) ?_
      refine R_q _ rfl (.guarded _ rfl rfl rfl rfl fun h => v_lss (ow rfl h) (ow rfl h)) ?_
      refine R_q _ rfl (v_and (ov rfl) (fun hp => ow rfl (gT hp))) ?_
      refine R_nil ?_
      refine T_keep (kc 1 rfl <| kc 2 rfl <| kc 3 rfl <| kc 9 rfl <| kc 10 rfl <| kc 12 rfl <| kc 13 rfl <| kc 14 rfl <| kc 53 rfl <| kn) rfl ?_
      refine T_cond rfl (fun h53 => ?_) (fun h53 => ?_)
      · skip
        have hv : 0 ≤ a ∧ a < xs.length := by simpa using h53
        refine T_keep (kc 1 rfl <| kc 2 rfl <| kc 3 rfl <| kc 9 rfl <| kc 10 rfl <| kc 12 rfl <| kc 13 rfl <| kc 14 rfl <| kn) rfl ?_
        obtain ⟨y, hy⟩ := get_ex (xs := ys) (k := a.toNat) (by omega)
        refine T_draw (cw := false) (by kernel_rfl) ?_   -- region 10 draws
        refine D_read 0 _ rfl (by kernel_rfl) rfl rfl (fun hp' hx => (by first | exact v_fieldP (ov rfl) (hx.2 _ _ rfl) rfl tF24_1 | exact v_fieldR (ov rfl) tF24_1)) ?_
        refine D_read 1 _ rfl (by kernel_rfl) rfl rfl (fun hp' hx => (by first | exact v_loadS (ov rfl) (hx.2 _ _ rfl) rfl rfl tS22 rfl | exact v_loadS_r (ov rfl) tS22 rfl)) ?_
        refine D_free 2 _ rfl (by kernel_rfl) rfl rfl (fun hp' => v_move (ov rfl)) ?_
        refine D_read 3 _ rfl (by kernel_rfl) rfl rfl (fun hp' hx => (by first | exact v_fieldP (ov rfl) (hx.2 _ _ rfl) rfl tF24_1 | exact v_fieldR (ov rfl) tF24_1)) ?_
        refine D_read 4 _ rfl (by kernel_rfl) rfl rfl (fun hp' hx => (by first | exact v_loadS (ov rfl) (hx.2 _ _ rfl) rfl rfl tS22 rfl | exact v_loadS_r (ov rfl) tS22 rfl)) ?_
        refine D_oneq 5 _ rfl (by kernel_rfl) rfl rfl (fun hp' => v_move (ov rfl)) ?_
        refine D_oner 6 _ rfl (by kernel_rfl) rfl rfl (fun hp' hx => v_ixO (m := a.toNat) (ov rfl) (ov rfl) tL22 (hx.2 _ _ rfl) (by simpa using hyl) tZ_27 (by omega) (by omega)) ?_
        refine D_oner 7 _ rfl (by kernel_rfl) rfl rfl (fun hp' hx => v_fieldP (ov rfl) (hx.2 _ _ rfl) (by simpa using hyl) tF27_0) ?_
        refine D_oner 8 _ rfl (by kernel_rfl) rfl rfl (fun hp' hx => v_loadS (ov rfl) (hx.2 _ _ rfl) (by simpa using hyl) (row_map hy) tS3 rfl) ?_
        refine D_oneq 9 _ rfl (by kernel_rfl) rfl rfl (fun hp' => v_build (ys := [_, _, _]) tPL27 tHA27 tZ27 (.cons (cvs (ov rfl) (cell1_b rfl)) <| .nil) rfl) ?_
        refine D_oner 10 _ rfl (by kernel_rfl) rfl rfl (fun hp' hx => v_ixO (m := a.toNat) (ov rfl) (ov rfl) tL22 (hx.2 _ _ rfl) (by simpa using hyl) tZ_27 (by omega) (by omega)) ?_
        refine D_one 11 _ _ rfl (by kernel_rfl) rfl rfl (fun h => by cases h) (w_store (ov rfl) (ov rfl) (cells_agg tA27 rfl) rfl (by simpa using hyl) (row_map hy) (Nat.le_of_ble_eq_true rfl) (cell1_all rfl) rfl) ?_
        refine D_done (by kernel_rfl) ?_
        refine T_keep (kc 1 rfl <| kc 2 rfl <| kc 3 rfl <| kc 9 rfl <| kc 10 rfl <| kc 12 rfl <| kc 13 rfl <| kn) rfl ?_
        refine T_reg ?_   -- region 7
        refine R_q _ rfl (v_move (ov rfl)) ?_
        refine R_q _ rfl (v_add (ov rfl) (ov rfl) (w64 (by first | omega | (simp at *; omega) | (simp_all; omega)) (by first | omega | (simp at *; omega) | (simp_all; omega)))) ?_
        refine R_q _ rfl (v_assign (ov rfl)) ?_
        refine R_nil ?_
        exact ⟨(k + 1, ys.set a.toNat ⟨y.t, 0, 0⟩), ⟨by simp only; omega, hkn.set hy⟩, by simp only; omega, Ent.keep (ke 1 rfl rfl <| ke 2 rfl rfl <| ke 3 rfl rfl <| ke 9 rfl rfl <| ke 10 rfl rfl <| ke 12 rfl rfl <| ke 13 rfl (by push_cast; rfl) <| kn) (by show _ = [_, _, some (Own.mk 27 ((ys.set a.toNat (Sample.mk y.t 0 0)).map Sample.av)), _]; rw [List.map_set]; rfl)⟩
      · skip
        refine T_skip ?_
        refine T_keep (kc 1 rfl <| kc 2 rfl <| kc 3 rfl <| kc 9 rfl <| kc 10 rfl <| kc 12 rfl <| kc 13 rfl <| kn) rfl ?_
        refine T_reg ?_   -- region 7
        refine R_q _ rfl (v_move (ov rfl)) ?_
        refine R_q _ rfl (v_add (ov rfl) (ov rfl) (w64 (by first | omega | (simp at *; omega) | (simp_all; omega)) (by first | omega | (simp at *; omega) | (simp_all; omega)))) ?_
        refine R_q _ rfl (v_assign (ov rfl)) ?_
        refine R_nil ?_
        exact ⟨(k + 1, ys), ⟨by simp only; omega, hkn⟩, by simp only; omega, Ent.keep (ke 1 rfl rfl <| ke 2 rfl rfl <| ke 3 rfl rfl <| ke 9 rfl rfl <| ke 10 rfl rfl <| ke 12 rfl rfl <| ke 13 rfl (by push_cast; rfl) <| kn) rfl⟩
    · skip
      simp at h38
      refine T_exit ?_   -- exit 0
      refine T_keep (kc 2 rfl <| kc 3 rfl <| kc 9 rfl <| kc 10 rfl <| kc 12 rfl <| kn) rfl ?_
      refine T_seq (T_reg ?_)   -- region 11
      refine R_q _ rfl ((by first | exact v_loadA (ov rfl) rfl rfl rfl tA24 rfl rfl | exact v_loadA_r (ov rfl) tA24 rfl rfl)) ?_
      refine R_q _ rfl (v_move (ov rfl)) ?_
      refine R_q _ rfl (v_move (ov rfl)) ?_
      refine R_q _ rfl (v_callB (Hold_ok den ys t long) (flat_outHold _) (.cons (ov rfl) (View.aggL (.cons (Dat.view (.b rfl)) (.cons (View.ownB (o := Own.mk 27 (ys.map Sample.av)) rfl (by simpa using hyl) (rowsB tZ_27 ys)) .nil))) <| .cons (ov rfl) (Dat.view (.b rfl)) <| .cons (ov rfl) (Dat.view (.b rfl)) <| .nil)) ?_
      refine R_q _ rfl (v_move (ov rfl)) ?_
      refine R_q _ rfl (v_extract (ov rfl) rfl) ?_
      refine R_q _ rfl (v_extract (ov rfl) rfl) ?_
      refine R_q _ rfl (v_extract (ov rfl) rfl) ?_
      refine R_w _ _ rfl (w_alloc (row := [_, _, _]) 4 rfl tZ27 rfl tZ_27) ?_
      refine R_w _ _ rfl (w_store (ov rfl) (ov rfl) (cells_agg tA27 rfl) rfl rfl rfl (Nat.le_of_ble_eq_true rfl) (cell1_all rfl) rfl) ?_
      refine R_q _ rfl (v_assign (ov rfl)) ?_
      refine R_q _ rfl (v_assign (ov rfl)) ?_
      refine R_nil ?_
      refine T_keep (kc 9 rfl <| kc 10 rfl <| kc 15 rfl <| kc 16 rfl <| kc 17 rfl <| kn) rfl ?_
      refine T_seq (T_reg ?_)   -- region 12
      refine R_q _ rfl (v_move (ov rfl)) ?_
      refine R_q _ rfl (v_eql (ov rfl) (ov rfl)) ?_
      refine R_q _ rfl (v_move (ov rfl)) ?_
      refine R_q _ rfl (.guarded _ rfl rfl rfl rfl fun h => v_move (ov rfl)) ?_
      refine R_q _ rfl (.guarded _ rfl rfl rfl rfl fun h => v_not (ow rfl h)) ?_
      refine R_q _ rfl (.guarded _ rfl rfl rfl rfl fun h => v_move (ow rfl h)) ?_
      refine R_q _ rfl (.guarded2 _ rfl rfl rfl rfl fun h => v_move (ov rfl)) ?_
      refine R_q _ rfl (.guarded2 _ rfl rfl rfl rfl fun h => v_move (ow rfl h)) ?_
      refine R_q _ rfl (.guarded2 _ rfl rfl rfl rfl fun h => (by first | exact v_loadA (ov rfl) rfl rfl rfl tA27 rfl rfl | exact v_loadA_r (ov rfl) tA27 rfl rfl)) ?_
      refine R_q _ rfl (.guarded2 _ rfl rfl rfl rfl fun h => (by first | exact v_loadA (ov rfl) rfl rfl rfl tA27 rfl rfl | exact v_loadA_r (ov rfl) tA27 rfl rfl)) ?_
      refine R_q _ rfl (.guarded2 _ rfl rfl rfl rfl fun h => v_eqlS tFS27 (ow rfl h) (ow rfl h) (.aggB rfl) (.aggB rfl) rfl rfl) ?_
      refine R_q _ rfl (.guarded2 _ rfl rfl rfl rfl fun h => v_and (ow rfl h) (fun hp => ow rfl (gA h (gT hp)))) ?_
      refine R_q _ rfl (.guarded _ rfl rfl rfl rfl fun h => v_or (ow rfl h) (fun hp => ow rfl (gA h (gF hp)))) ?_
      refine R_q _ rfl (v_and (ov rfl) (fun hp => ow rfl (gT hp))) ?_
      refine R_q _ rfl (v_move (ov rfl)) ?_
      refine R_q _ rfl (.guarded _ rfl rfl rfl rfl fun h => v_call holds_ok (.nil)) ?_
      refine R_q _ rfl (v_and (ov rfl) (fun hp => ow rfl (gT hp))) ?_
      refine R_q _ rfl (v_assign (ov rfl)) ?_
      refine R_nil ?_
      refine T_ret ?_
      refine retq ?_ (.one (.tmp rfl (Dat.view (.b rfl))))
      obtain ⟨hl1, hl2⟩ := hkn.law h27 (t := t) (long := long)
      show AV.bool (decide ((outHold den ys t long).2 = 0) && (!(outHold den ys t long).1.isSome || (outHold den xs t long).1.isSome && eqAL ((outHold den xs t long).1.getD z0).av ((outHold den ys t long).1.getD z0).av) && true) = _
      rw [hl1]
      rcases hl2 with h | h
      · rw [h]; simp
      · rw [h]; cases (outHold den xs t long).1 <;> simp [eqAL, eqAV, Sample.av, z0]
end Go.Proofs.Ytecdkapjjhkanaa

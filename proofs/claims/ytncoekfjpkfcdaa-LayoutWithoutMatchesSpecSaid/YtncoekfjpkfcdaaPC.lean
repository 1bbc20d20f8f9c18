/- A text of the proof: a verified executor of the program form, or the contracts of the functions that the law reaches. -/
import Derived.Test.YtncoekfjpkfcdaaPB
import Derived.Test.YtncoekfjpkfcdaaPA
set_option linter.all false
namespace Go.Vx
open Go Go.RowKit
theorem mul_in2 {a b A B : Int} (h0 : 0 ≤ a) (h1 : a ≤ A) (h2 : 0 ≤ b) (h3 : b ≤ B) : 0 ≤ a * b ∧ a * b ≤ A * B :=
  ⟨Int.mul_nonneg h0 h2, Int.mul_le_mul h1 h3 h2 (by omega)⟩
def inside (p : api_Param) (f : Int) : Bool := p.Parts.all fun x => decide (f + x.Frame < 16)
def stL (p : api_Param) : Nat → Int → List Int
  | 0, _ => []
  | n + 1, f => if f < 16 then (if inside p f then f :: stL p n (f + p.Every) else stL p n (f + p.Every)) else []
theorem stL_len (p : api_Param) : ∀ n f, (stL p n f).length ≤ n
  | 0, _ => Nat.le_refl _
  | n + 1, f => by
    have := stL_len p n (f + p.Every)
    unfold stL
    split
    · split
      · simp only [List.length_cons]; omega
      · omega
    · simp
theorem stL_mem {p : api_Param} (h1 : 1 ≤ p.Every) : ∀ n f x, 0 ≤ f → x ∈ stL p n f → 0 ≤ x ∧ x < 16 ∧ inside p x = true
  | 0, _, _, _, hx => by cases hx
  | n + 1, f, x, h0, hx => by
    unfold stL at hx
    split at hx
    · split at hx
      · rcases List.mem_cons.1 hx with rfl | hx
        · exact ⟨h0, by assumption, by assumption⟩
        · exact stL_mem h1 n _ x (by omega) hx
      · exact stL_mem h1 n _ x (by omega) hx
    · cases hx
def placeN (p : api_Param) (f j : Int) (x : api_Part) : api_Place := ⟨f + x.Frame, x.Word + j * p.Step, x.Low, x.Bits⟩
def cellL (number : Int) (p : api_Param) (idx f : Int) (j : Nat) : api_Cell := ⟨number, idx, f, p.Parts.map (placeN p f j)⟩
def rowC (number : Int) (p : api_Param) (out : List api_Cell) (f : Int) : List api_Cell := out ++ (List.range p.Times.toNat).map fun j => cellL number p ((out.length + j : Nat) : Int) f j
def startsN (p : api_Param) : List Int := stL p 17 p.First
def cellsN (number : Int) (p : api_Param) : List api_Cell := (startsN p).foldl (rowC number p) []
structure PartsOK (p : api_Param) : Prop where
  len : lenOK p
  tim : timA p = true
  stp : ∀ x ∈ p.Parts, stepOK p x = true
theorem contPart_s {p : api_Param} (h : PartsOK p) {f : Int} (hf : 0 ≤ f ∧ f < 16) : slices_ContainsFunc_api_Part_api_Part p.Parts (fun z0 => layout_starts_1 z0 f) = some (!inside p f) := by
  have h8 := h.len.1
  have key : loop (t1 (slices_IndexFunc_api_Part_api_Part_L1 p.Parts (fun z0 => layout_starts_1 z0 f))) 0 = some (elimO Sum.inl (Sum.inr ()) (findI (fun k (x : api_Part) => if f + x.Frame < 16 then none else some (k : Int)) 0 p.Parts)) := by
    refine loop_findI (xs := p.Parts) _ _ _ (fun k x hx => ?_) (by simp [slices_IndexFunc_api_Part_api_Part_L1])
    have hlt := lt_of hx
    have hk : i64 ((k : Int) + 1) = (k : Int) + 1 := i64s (by omega) (by omega)
    have hp := part_iff.1 (h.len.2 x (List.mem_of_getElem? hx))
    have hs : i64 (f + x.Frame) = f + x.Frame := i64s (by omega) (by omega)
    simp only [slices_IndexFunc_api_Part_api_Part_L1, layout_starts_1, hlt, decide_true, if_true, idx_of hx, Option.bind_some, hk, hs]
    by_cases h16 : f + x.Frame < 16
    · have : ¬ 16 ≤ f + x.Frame := by omega
      simp [h16, this]
    · have : 16 ≤ f + x.Frame := by omega
      simp [h16, this]
  have fnd : ∀ (k : Nat) (l : List api_Part), ((l.all fun x => decide (f + x.Frame < 16)) = true ∧ findI (fun k (x : api_Part) => if f + x.Frame < 16 then none else some (k : Int)) k l = none) ∨ ((l.all fun x => decide (f + x.Frame < 16)) = false ∧ ∃ j : Nat, findI (fun k (x : api_Part) => if f + x.Frame < 16 then none else some (k : Int)) k l = some (j : Int)) := by
    intro k l
    induction l generalizing k with
    | nil => left; exact ⟨rfl, rfl⟩
    | cons x l ih =>
      by_cases hx : f + x.Frame < 16
      · rcases ih (k + 1) with ⟨h1, h2⟩ | ⟨h1, j, h2⟩
        · left; exact ⟨by simp only [List.all_cons, hx, decide_true, Bool.true_and]; exact h1, by simp only [findI, hx, if_true]; exact h2⟩
        · right; exact ⟨by simp only [List.all_cons, hx, decide_true, Bool.true_and]; exact h1, j, by simp only [findI, hx, if_true]; exact h2⟩
      · right; exact ⟨by simp [hx], k, by simp [findI, hx]⟩
  unfold slices_ContainsFunc_api_Part_api_Part slices_IndexFunc_api_Part_api_Part
  rw [key]
  unfold inside
  rcases fnd 0 p.Parts with ⟨h1, h2⟩ | ⟨h1, j, h2⟩
  · rw [h2, h1]; rfl
  · rw [h2, h1]
    simp [elimO]
theorem starts_loop {p : api_Param} (h : PartsOK p) : ∀ (n : Nat) (out : List Int) (f : Int), 0 ≤ f → f ≤ 32 → out.length + n ≤ 100 → 16 - f < n → loop (t2 (layout_starts_L1 p)) (out, f) = some (out ++ stL p n f)
  | 0, out, f, h0, h1, h2, h3 => by
    have h16 : ¬ f < 16 := by omega
    rw [loop_eq]
    simp [layout_starts_L1, h16, stL]
  | n + 1, out, f, h0, h1, h2, h3 => by
    obtain ⟨hE, _⟩ := timA_iff h.tim
    rw [loop_eq]
    by_cases h16 : f < 16
    · have e : i64 (f + p.Every) = f + p.Every := i64s (by omega) (by omega)
      simp only [t2_mk, layout_starts_L1, h16, decide_true, if_true, contPart_s h ⟨h0, h16⟩, Option.bind_some, Bool.not_not, e]
      cases hi : inside p f
      · simp only [Bool.false_eq_true, if_false, Option.bind_some, t1]
        show loop (t2 (layout_starts_L1 p)) (out, f + p.Every) = _
        rw [starts_loop h n out _ (by omega) (by omega) (by omega) (by omega)]
        simp [stL, h16, hi]
      · simp only [if_true]
        rw [app_of (by simp; omega)]
        simp only [Option.bind_some, t1]
        show loop (t2 (layout_starts_L1 p)) (out ++ [f], f + p.Every) = _
        rw [starts_loop h n _ _ (by omega) (by omega) (by simp; omega) (by omega)]
        simp [stL, h16, hi]
    · simp [layout_starts_L1, h16, stL]
theorem starts_s {p : api_Param} (h : PartsOK p) : layout_starts p = some (startsN p) := by
  obtain ⟨hE, hF, _⟩ := timA_iff h.tim
  unfold layout_starts
  rw [starts_loop h 17 [] p.First (by omega) (by omega) (by simp) (by omega)]
  rfl
theorem places_body {p : api_Param} (h : PartsOK p) {f : Int} (hf : 0 ≤ f ∧ f < 16) {j : Nat} (hj : (j : Int) < p.Times) : loop (t2 (layout_cellsOf_L3 p f j)) ([], 0) = some (p.Parts.map (placeN p f j)) := by
  have h8 := h.len.1
  obtain ⟨_, _, hT, hS, _⟩ := timA_iff h.tim
  refine loop_map (placeN p f j) (fun k x acc hx ha => ?_) (fun acc => by simp [layout_cellsOf_L3])
  have hlt := lt_of hx
  have hk : i64 ((k : Int) + 1) = (k : Int) + 1 := i64s (by omega) (by omega)
  have hp := part_iff.1 (h.len.2 x (List.mem_of_getElem? hx))
  have hst := h.stp x (List.mem_of_getElem? hx)
  simp only [stepOK, Bool.and_eq_true, decide_eq_true_eq] at hst
  have hm := mul_in2 (a := (j : Int)) (b := p.Step) (A := 57) (B := 60) (by omega) (by omega) hS hst.1
  simp only [layout_cellsOf_L3, hlt, decide_true, if_true, idx_of hx, Option.bind_some, layout_placeOf, hk]
  rw [i64s (z := f + x.Frame) (by omega) (by omega), i64s (z := (j : Int) * p.Step) (by omega) (by omega), i64s (z := x.Word + (j : Int) * p.Step) (by omega) (by omega), app_of (by simp; omega)]
  rfl
theorem rplaces_eq (p : api_Param) (f : Int) (j : Int) : ref2_cells_L4 p f j = layout_cellsOf_L3 p f j := by
  funext l i
  simp only [ref2_cells_L4, layout_cellsOf_L3, layout_placeOf, Option.bind_some]
theorem row_loop {number : Int} {p : api_Param} (h : PartsOK p) {f : Int} (hf : 0 ≤ f ∧ f < 16) {body : List api_Cell → Int → Option ((List api_Cell × Int) ⊕ List api_Cell)} (out : List api_Cell) (ho : out.length ≤ 100000)
    (hb : ∀ acc i, body acc i = if decide (i < p.Times) = true then
      ((loop (t2 (layout_cellsOf_L3 p f i)) ([], 0)) : Option (((List api_Place)))).bind (t1 fun (Places : List api_Place) =>
      (app acc ([(api_Cell.mk number (acc.length : Int) f Places)] : List api_Cell)).bind fun l2 =>
      some (.inl (l2, (i64 (i + 1)))))
      else some (.inr acc)) : loop (t2 body) (out, 0) = some (rowC number p out f) := by
  obtain ⟨_, _, hT, _⟩ := timA_iff h.tim
  have hTn : (p.Times.toNat : Int) = p.Times := by omega
  have := loop_to (body := t2 body) (fun s => ∃ k : Nat, s.2 = k ∧ k ≤ p.Times.toNat ∧ s.1 = out ++ (List.range k).map fun j => cellL number p ((out.length + j : Nat) : Int) f j) (fun s => p.Times.toNat - s.2.toNat) (fun _ => rowC number p out f) (by
    rintro ⟨acc, i⟩ ⟨k, hi, hk, ha⟩
    simp only at hi ha
    subst hi
    simp only [t2_mk, hb]
    rcases Nat.lt_or_ge k p.Times.toNat with hlt | hge
    · left
      have h1 : ((k : Nat) : Int) < p.Times := by omega
      have hlen : acc.length = out.length + k := by rw [ha]; simp
      simp only [h1, decide_true, if_true, places_body h hf h1, Option.bind_some, t1]
      rw [app_of (by simp; omega), i64s (by omega) (by omega)]
      refine ⟨_, rfl, ⟨k + 1, by push_cast; rfl, hlt, ?_⟩, by simp only; omega, trivial⟩
      simp only [List.range_succ, List.map_append, List.map_cons, List.map_nil]
      rw [← List.append_assoc, ← ha, hlen]
      rfl
    · have : k = p.Times.toNat := by omega
      subst this
      right
      rw [if_neg (by simp; omega), ha]
      rfl) (out, 0) ⟨0, rfl, Nat.zero_le _, by simp⟩
  exact this
theorem fold_len {number : Int} {p : api_Param} (hT : p.Times ≤ 57) : ∀ (fs : List Int) (out : List api_Cell), (fs.foldl (rowC number p) out).length ≤ out.length + 57 * fs.length
  | [], out => by simp
  | f :: fs, out => by
    have := fold_len (number := number) hT fs (rowC number p out f)
    have h2 : (rowC number p out f).length ≤ out.length + 57 := by unfold rowC; simp; omega
    simp only [List.foldl_cons, List.length_cons]
    omega
theorem cells_s {p : api_Param} (h : PartsOK p) (number : Int) : layout_cellsOf number p = some (cellsN number p) := by
  obtain ⟨hE, hF, hT, _⟩ := timA_iff h.tim
  have hlen : (startsN p).length ≤ 17 := stL_len p 17 _
  unfold layout_cellsOf
  rw [starts_s h, Option.bind_some]
  have key : loop (t2 (layout_cellsOf_L1 number p (startsN p))) ([], 0) = some (cellsN number p) := by
    have := loop_ix2 (xs := startsN p) (body := layout_cellsOf_L1 number p (startsN p)) (I := fun acc k => acc.length ≤ 57 * k) (F := fun acc k => ((startsN p).drop k).foldl (rowC number p) acc)
      (fun acc k f hI hx => by
        have hlt := lt_of hx
        have hf := stL_mem (p := p) (by omega) 17 p.First f hF.1 (List.mem_of_getElem? hx)
        left
        refine ⟨rowC number p acc f, ?_, ?_, by rw [drop_cons hx]; rfl⟩
        · simp only [layout_cellsOf_L1, hlt, decide_true, if_true, idx_of hx, Option.bind_some]
          rw [row_loop (number := number) (body := layout_cellsOf_L2 number p f) h ⟨hf.1, hf.2.1⟩ acc (by omega) (fun acc i => rfl), i64s (by omega) (by omega)]
          rfl
        · unfold rowC; simp; omega)
      (fun acc hI => by simp [layout_cellsOf_L1]) (a0 := []) (by simp)
    exact this
  rw [key]
  rfl
theorem inside_loop {p : api_Param} (h : PartsOK p) {f : Int} (hf : 0 ≤ f ∧ f < 16) : loop (t2 (ref2_cells_L2 p f)) (true, 0) = some (inside p f) := by
  have h8 := h.len.1
  have := loop_ix2 (xs := p.Parts) (body := ref2_cells_L2 p f) (I := fun _ _ => True) (F := fun b k => b && ((p.Parts.drop k).all fun x => decide (f + x.Frame < 16)))
    (fun b k x _ hx => by
      have hlt := lt_of hx
      have hp := part_iff.1 (h.len.2 x (List.mem_of_getElem? hx))
      left
      refine ⟨b && decide (f + x.Frame < 16), ?_, trivial, by rw [drop_cons hx, List.all_cons, Bool.and_assoc]⟩
      simp only [ref2_cells_L2, hlt, decide_true, if_true, idx_of hx, Option.bind_some]
      rw [i64s (z := f + x.Frame) (by omega) (by omega), i64s (by omega) (by omega)])
    (fun b _ => by simp [ref2_cells_L2]) (a0 := true) trivial
  rw [this]
  simp [inside]
theorem rcells_loop {p : api_Param} (h : PartsOK p) (number : Int) : ∀ (n : Nat) (out : List api_Cell) (f : Int), 0 ≤ f → f ≤ 32 → out.length + 57 * n ≤ 10000 → 16 - f < n → loop (t2 (ref2_cells_L1 p number)) (out, f) = some ((stL p n f).foldl (rowC number p) out)
  | 0, out, f, h0, h1, h2, h3 => by
    have h16 : ¬ f < 16 := by omega
    rw [loop_eq]
    simp [ref2_cells_L1, h16, stL]
  | n + 1, out, f, h0, h1, h2, h3 => by
    obtain ⟨hE, _, hT, _⟩ := timA_iff h.tim
    rw [loop_eq]
    by_cases h16 : f < 16
    · have e : i64 (f + p.Every) = f + p.Every := i64s (by omega) (by omega)
      simp only [t2_mk, ref2_cells_L1, h16, decide_true, if_true, inside_loop h ⟨h0, h16⟩, Option.bind_some, t1, e]
      cases hi : inside p f
      · have hL : loop (t2 (ref2_cells_L3 p number f false)) (out, 0) = some out := by
          rw [loop_eq]; simp [ref2_cells_L3]
        rw [hL]
        show loop (t2 (ref2_cells_L1 p number)) (out, f + p.Every) = _
        rw [rcells_loop h number n out _ (by omega) (by omega) (by omega) (by omega)]
        simp [stL, h16, hi]
      · rw [row_loop (number := number) h ⟨h0, h16⟩ (body := ref2_cells_L3 p number f true) out (by omega) (fun acc i => by
          simp only [ref2_cells_L3, Bool.and_true, rplaces_eq])]
        show loop (t2 (ref2_cells_L1 p number)) (rowC number p out f, f + p.Every) = _
        have h2' : (rowC number p out f).length ≤ out.length + 57 := by unfold rowC; simp; omega
        rw [rcells_loop h number n _ _ (by omega) (by omega) (by omega) (by omega)]
        simp [stL, h16, hi]
    · simp [ref2_cells_L1, h16, stL]
theorem rcells_s {p : api_Param} (h : PartsOK p) (number : Int) : ref2_cells p number = some (cellsN number p) := by
  obtain ⟨hE, hF, _⟩ := timA_iff h.tim
  unfold ref2_cells
  rw [rcells_loop h number 17 [] p.First (by omega) (by omega) (by simp) (by omega)]
  rfl
end Go.Vx

namespace Go.Vx
open Go Go.RowKit
theorem kqB_iff (a b : layout_bit) : kq_layout_bit a b = true ↔ a = b := by
  cases a; cases b; simp [kq_layout_bit]
instance : DecidableEq layout_bit := fun a b => decidable_of_iff (kq_layout_bit a b = true) (kqB_iff a b)
def bitsP (x : api_Place) : List layout_bit := (List.range x.Bits.toNat).map fun (i : Nat) => ⟨x.Frame, x.Word, x.Low + i⟩
def bitsL (l : List api_Place) : List layout_bit := l.flatMap bitsP
def okB : List layout_bit → List layout_bit → Bool
  | _, [] => true
  | K, b :: bs => if b ∈ K then false else okB (K ++ [b]) bs
theorem okB_app : ∀ (K a b : List layout_bit), okB K (a ++ b) = (okB K a && okB (K ++ a) b)
  | K, [], b => by simp [okB]
  | K, x :: a, b => by
    simp only [List.cons_append, okB]
    split
    · rfl
    · rw [okB_app (K ++ [x]) a b]; simp
def placeOK (x : api_Place) : Prop := 0 ≤ x.Low ∧ x.Low ≤ 10 ∧ 0 ≤ x.Bits ∧ x.Bits ≤ 11
theorem bitsAt_s {x : api_Place} (h : placeOK x) : layout_bitsAt x = some (bitsP x) := by
  obtain ⟨h1, h2, h3, h4⟩ := h
  have hn : (x.Bits.toNat : Int) = x.Bits := by omega
  have := loop_build (body := layout_bitsAt_L1 x) x.Bits.toNat (fun i => (⟨x.Frame, x.Word, x.Low + i⟩ : layout_bit)) (fun k acc hk ha => by
    have h5 : ((k : Nat) : Int) < x.Bits := by omega
    simp only [layout_bitsAt_L1, h5, decide_true, if_true]
    rw [i64s (by omega) (by omega), app_of (by simp; omega), i64s (by omega) (by omega)]
    rfl) (fun acc => by simp [layout_bitsAt_L1, hn])
  unfold layout_bitsAt
  rw [this]; rfl
theorem keys_app {K V : Type} {o : List (K × V)} {b : K} {v : V} : mkeys (o ++ [(b, v)]) = mkeys o ++ [b] := by simp [mkeys]
theorem take2_s {y : List layout_bit} (owner : Int) (hy : y.length ≤ 1000) (o : List (layout_bit × Int)) : ∃ q, loop (t2 (layout_take_L2 owner y)) (o, 0) = some (cond (okB (mkeys o) y) (.inr (o ++ y.map fun b => (b, owner))) (.inl (false, q))) := by
  have key : ∀ (n k : Nat) (o : List (layout_bit × Int)), k + n = y.length → ∃ q, loop (t2 (layout_take_L2 owner y)) (o, (k : Int)) = some (cond (okB (mkeys o) (y.drop k)) (.inr (o ++ (y.drop k).map fun b => (b, owner))) (.inl (false, q))) := by
    intro n
    induction n with
    | zero =>
      intro k o hk
      have : k = y.length := by omega
      subst this
      refine ⟨[], ?_⟩
      rw [loop_eq]
      simp [layout_take_L2, okB]
    | succ n ih =>
      intro k o hk
      obtain ⟨x, hx⟩ := get_ex (xs := y) (k := k) (by omega)
      have hlt := lt_of hx
      rw [drop_cons hx, loop_eq]
      simp only [t2_mk, layout_take_L2, hlt, decide_true, if_true, idx_of hx, Option.bind_some, okB]
      by_cases hm : x ∈ mkeys o
      · refine ⟨o, ?_⟩
        rw [if_pos ((mget_some kqB_iff).2 hm), if_pos hm]
        rfl
      · have hg : (mget kq_layout_bit o x).isSome = false := by rw [mget_none kqB_iff hm]; rfl
        rw [hg, mput_new kqB_iff hm, if_neg hm, i64s (by omega) (by omega)]
        obtain ⟨q, h2⟩ := ih (k + 1) (o ++ [(x, owner)]) (by omega)
        refine ⟨q, ?_⟩
        simp only [Bool.false_eq_true, if_false]
        have e : ((k : Nat) : Int) + 1 = ((k + 1 : Nat) : Int) := by push_cast; rfl
        rw [e]
        rw [keys_app] at h2
        show loop (t2 (layout_take_L2 owner y)) (o ++ [(x, owner)], ((k + 1 : Nat) : Int)) = _
        rw [h2]
        simp
  exact key y.length 0 o (by omega)
theorem bitsP_len {x : api_Place} (h : placeOK x) : (bitsP x).length ≤ 11 := by
  obtain ⟨_, _, h3, h4⟩ := h
  simp [bitsP]; omega
theorem take_s {l : List api_Place} (owner : Int) (hl : l.length ≤ 1000000) (hp : ∀ x ∈ l, placeOK x) (o : List (layout_bit × Int)) :
    ∃ q, layout_take o owner l = some (okB (mkeys o) (bitsL l), q) ∧ (okB (mkeys o) (bitsL l) = true → q = o ++ (bitsL l).map fun b => (b, owner)) := by
  have key : ∀ (n k : Nat) (o : List (layout_bit × Int)), k + n = l.length → ∃ q, loop (t2 (layout_take_L1 owner l)) (o, (k : Int)) = some (cond (okB (mkeys o) (bitsL (l.drop k))) (.inr (o ++ (bitsL (l.drop k)).map fun b => (b, owner))) (.inl (false, q))) := by
    intro n
    induction n with
    | zero =>
      intro k o hk
      have : k = l.length := by omega
      subst this
      refine ⟨[], ?_⟩
      rw [loop_eq]
      simp [layout_take_L1, okB, bitsL]
    | succ n ih =>
      intro k o hk
      obtain ⟨x, hx⟩ := get_ex (xs := l) (k := k) (by omega)
      have hlt := lt_of hx
      have hpx := hp x (List.mem_of_getElem? hx)
      obtain ⟨q, h2⟩ := take2_s owner (y := bitsP x) (by have := bitsP_len hpx; omega) o
      have e : bitsL (l.drop k) = bitsP x ++ bitsL (l.drop (k + 1)) := by rw [drop_cons hx]; simp [bitsL]
      rw [e, okB_app, loop_eq]
      simp only [t2_mk, layout_take_L1, hlt, decide_true, if_true, idx_of hx, Option.bind_some, bitsAt_s hpx, h2]
      by_cases hm : okB (mkeys o) (bitsP x) = true
      · obtain ⟨q', h3⟩ := ih (k + 1) (o ++ (bitsP x).map fun b => (b, owner)) (by omega)
        refine ⟨q', ?_⟩
        rw [hm, Bool.true_and, i64s (by omega) (by omega)]
        have e2 : ((k : Nat) : Int) + 1 = ((k + 1 : Nat) : Int) := by push_cast; rfl
        rw [e2]
        show loop (t2 (layout_take_L1 owner l)) (o ++ (bitsP x).map (fun b => (b, owner)), ((k + 1 : Nat) : Int)) = _
        rw [h3]
        have e3 : mkeys (o ++ (bitsP x).map fun b => (b, owner)) = mkeys o ++ bitsP x := by simp [mkeys, Function.comp_def]
        rw [e3]
        simp
      · refine ⟨q, ?_⟩
        have hm' : okB (mkeys o) (bitsP x) = false := by simpa using hm
        rw [hm']
        rfl
  obtain ⟨q, h⟩ := key l.length 0 o (by omega)
  unfold layout_take
  have h' : loop (t2 (layout_take_L1 owner l)) (o, 0) = _ := h
  rw [h']
  rw [List.drop_zero]
  by_cases hm : okB (mkeys o) (bitsL l) = true
  · rw [hm]; exact ⟨_, rfl, fun _ => rfl⟩
  · have hm' : okB (mkeys o) (bitsL l) = false := by simpa using hm
    rw [hm']
    refine ⟨q, rfl, ?_⟩
    intro h; cases h
def trB (b : layout_bit) : Vector Int 3 := #v[b.frame, b.word, b.bit]
theorem trB_inj {a b : layout_bit} (h : trB a = trB b) : a = b := by
  cases a; cases b
  simp only [trB] at h
  have h0 := congrArg (fun v : Vector Int 3 => v[0]) h
  have h1 := congrArg (fun v : Vector Int 3 => v[1]) h
  have h2 := congrArg (fun v : Vector Int 3 => v[2]) h
  simp at h0 h1 h2
  subst h0 h1 h2
  rfl
abbrev RT := List (Vector Int 3 × Bool)
structure RK (o : RT) (K : List layout_bit) : Prop where
  keys : mkeys o = K.map trB
  vals : ∀ p ∈ o, p.2 = true
theorem RK.get {o : RT} {K : List layout_bit} (h : RK o K) (b : layout_bit) : (mget kqV o (trB b)).getD false = decide (b ∈ K) := by
  by_cases hb : b ∈ K
  · have hm : trB b ∈ mkeys o := by rw [h.keys]; exact List.mem_map.2 ⟨b, hb, rfl⟩
    obtain ⟨v, hv⟩ := Option.isSome_iff_exists.1 ((mget_some kqV_iff).2 hm)
    have : v = true := by
      unfold mget at hv
      obtain ⟨p, hp, rfl⟩ := Option.map_eq_some_iff.1 hv
      exact h.vals p (List.mem_of_find?_eq_some hp)
    rw [hv, this]; simp [hb]
  · have hm : trB b ∉ mkeys o := by
      rw [h.keys]
      intro hm
      obtain ⟨c, hc, he⟩ := List.mem_map.1 hm
      rw [trB_inj he] at hc
      exact hb hc
    rw [mget_none kqV_iff hm]; simp [hb]
theorem RK.put {o : RT} {K : List layout_bit} (h : RK o K) {b : layout_bit} (hb : b ∉ K) : RK (mput kqV o (trB b) true) (K ++ [b]) := by
  have hm : trB b ∉ mkeys o := by
    rw [h.keys]
    intro hm
    obtain ⟨c, hc, he⟩ := List.mem_map.1 hm
    rw [trB_inj he] at hc
    exact hb hc
  rw [mput_new kqV_iff hm]
  refine ⟨by rw [keys_app, h.keys]; simp, fun p hp => ?_⟩
  rcases List.mem_append.1 hp with hp | hp
  · exact h.vals p hp
  · simp at hp; rw [hp]
theorem rtake2_s {x : api_Place} (hx : placeOK x) (o : RT) (ok : Bool) :
    ∃ o' ok', loop (t3 (ref2_taken_take_L2 x)) (o, ok, x.Low) = some (o', ok') ∧ (ok = false → ok' = false) ∧ ∀ K, ok = true → RK o K → ok' = okB K (bitsP x) ∧ (ok' = true → RK o' (K ++ bitsP x)) := by
  obtain ⟨h1, h2, h3, h4⟩ := hx
  have hs : i64 (x.Low + x.Bits) = x.Low + x.Bits := i64s (by omega) (by omega)
  have key : ∀ (n k : Nat) (o : RT) (ok : Bool), k + n = x.Bits.toNat → ∃ o' ok', loop (t3 (ref2_taken_take_L2 x)) (o, ok, x.Low + k) = some (o', ok') ∧ (ok = false → ok' = false) ∧
      ∀ K, ok = true → RK o K → ok' = okB K ((bitsP x).drop k) ∧ (ok' = true → RK o' (K ++ (bitsP x).drop k)) := by
    intro n
    induction n with
    | zero =>
      intro k o ok hk
      have hge : ¬ (x.Low + (k : Int) < x.Low + x.Bits) := by omega
      refine ⟨o, ok, ?_, fun h => h, fun K h hK => ?_⟩
      · rw [loop_eq]
        simp only [t3_mk, ref2_taken_take_L2, hs, hge, decide_false, Bool.false_eq_true, if_false]
        rfl
      · have : (bitsP x).drop k = [] := List.drop_eq_nil_of_le (by simp [bitsP]; omega)
        rw [this]
        exact ⟨by simp [okB, h], fun _ => by simpa using hK⟩
    | succ n ih =>
      intro k o ok hk
      have hlt : (x.Low + (k : Int) < x.Low + x.Bits) := by omega
      have hb : (bitsP x)[k]? = some ⟨x.Frame, x.Word, x.Low + k⟩ := by
        simp only [bitsP, List.getElem?_map]
        rw [List.getElem?_range (by omega)]
        rfl
      have he : (#v[x.Frame, x.Word, x.Low + (k : Int)] : Vector Int 3) = trB ⟨x.Frame, x.Word, x.Low + k⟩ := rfl
      have e1 : x.Low + ((k : Nat) : Int) + 1 = x.Low + ((k + 1 : Nat) : Int) := by push_cast; omega
      have hi : i64 (x.Low + (k : Int) + 1) = x.Low + ((k + 1 : Nat) : Int) := by rw [i64s (by omega) (by omega), e1]
      rw [loop_eq]
      simp only [t3_mk, ref2_taken_take_L2, hs, hlt, decide_true, if_true, hi, he]
      cases ok with
      | false =>
        obtain ⟨o', ok', g1, g2, _⟩ := ih (k + 1) (mput kqV o (trB ⟨x.Frame, x.Word, x.Low + k⟩) true) false (by omega)
        exact ⟨o', ok', g1, fun _ => g2 rfl, fun K h => by cases h⟩
      | true =>
        simp only [gd_tt, Option.bind_some, Bool.true_and]
        obtain ⟨o', ok', g1, g2, g3⟩ := ih (k + 1) (mput kqV o (trB ⟨x.Frame, x.Word, x.Low + k⟩) true) (!(mget kqV o (trB ⟨x.Frame, x.Word, x.Low + k⟩)).getD false) (by omega)
        refine ⟨o', ok', g1, (fun h => by cases h), fun K _ hK => ?_⟩
        rw [drop_cons hb]
        simp only [okB]
        rw [hK.get] at g2 g3
        by_cases hm : (⟨x.Frame, x.Word, x.Low + k⟩ : layout_bit) ∈ K
        · rw [if_pos hm]
          have hf := g2 (by simp [hm])
          exact ⟨hf, fun h => by rw [hf] at h; cases h⟩
        · rw [if_neg hm]
          obtain ⟨a1, a2⟩ := g3 (K ++ [⟨x.Frame, x.Word, x.Low + k⟩]) (by simp [hm]) (hK.put hm)
          refine ⟨a1, fun h => ?_⟩
          have := a2 h
          simpa using this
  have := key x.Bits.toNat 0 o ok (by omega)
  simpa using this
theorem rtake_s {l : List api_Place} (hl : l.length ≤ 1000000) (hp : ∀ x ∈ l, placeOK x) (o : RT) :
    ∃ o' ok', ref2_taken_take o l = some (ok', o') ∧ ∀ K, RK o K → ok' = okB K (bitsL l) ∧ (ok' = true → RK o' (K ++ bitsL l)) := by
  have key : ∀ (n k : Nat) (o : RT) (ok : Bool), k + n = l.length → ∃ o' ok', loop (t3 (ref2_taken_take_L1 l)) (o, ok, (k : Int)) = some (o', ok') ∧ (ok = false → ok' = false) ∧
      ∀ K, ok = true → RK o K → ok' = okB K (bitsL (l.drop k)) ∧ (ok' = true → RK o' (K ++ bitsL (l.drop k))) := by
    intro n
    induction n with
    | zero =>
      intro k o ok hk
      have : k = l.length := by omega
      subst this
      refine ⟨o, ok, ?_, fun h => h, fun K h hK => ?_⟩
      · rw [loop_eq]
        simp [ref2_taken_take_L1]
      · simp [bitsL, okB, h, hK]
    | succ n ih =>
      intro k o ok hk
      obtain ⟨x, hx⟩ := get_ex (xs := l) (k := k) (by omega)
      have hlt := lt_of hx
      have hpx := hp x (List.mem_of_getElem? hx)
      obtain ⟨o1, ok1, h1, h2, h3⟩ := rtake2_s hpx o ok
      obtain ⟨o2, ok2, g1, g2, g3⟩ := ih (k + 1) o1 ok1 (by omega)
      have e : bitsL (l.drop k) = bitsP x ++ bitsL (l.drop (k + 1)) := by rw [drop_cons hx]; simp [bitsL]
      have e2 : ((k : Nat) : Int) + 1 = ((k + 1 : Nat) : Int) := by push_cast; rfl
      refine ⟨o2, ok2, ?_, fun h => g2 (h2 h), fun K h hK => ?_⟩
      · rw [loop_eq]
        simp only [t3_mk, ref2_taken_take_L1, hlt, decide_true, if_true, idx_of hx, Option.bind_some, h1, t2_mk]
        rw [i64s (by omega) (by omega), e2]
        exact g1
      · rw [e, okB_app]
        obtain ⟨a1, a2⟩ := h3 K h hK
        cases hok : ok1 with
        | false =>
          rw [← a1, hok, Bool.false_and]
          have := g2 hok
          exact ⟨this, fun h => by rw [this] at h; cases h⟩
        | true =>
          rw [← a1, hok, Bool.true_and]
          obtain ⟨b1, b2⟩ := g3 _ hok (a2 hok)
          exact ⟨b1, fun h => by have := b2 h; simpa using this⟩
  obtain ⟨o', ok', h1, _, h3⟩ := key l.length 0 o true (by omega)
  unfold ref2_taken_take
  have h1' : loop (t3 (ref2_taken_take_L1 l)) (o, true, 0) = _ := h1
  rw [h1']
  exact ⟨o', ok', rfl, fun K hK => by simpa using h3 K rfl hK⟩
def bitsC (l : List api_Cell) : List layout_bit := l.flatMap fun c => bitsL c.Places
def cellsOK (l : List api_Cell) : Prop := l.length ≤ 1000000 ∧ ∀ c ∈ l, c.Places.length ≤ 1000000 ∧ ∀ x ∈ c.Places, placeOK x
theorem rtakeAll_s {l : List api_Cell} (hl : cellsOK l) (o : RT) :
    ∃ o' ok', ref2_taken_takeAll o l = some (ok', o') ∧ ∀ K, RK o K → ok' = okB K (bitsC l) ∧ (ok' = true → RK o' (K ++ bitsC l)) := by
  have hl0 := hl.1
  have key : ∀ (n k : Nat) (o : RT) (ok : Bool), k + n = l.length → ∃ o' ok', loop (t3 (ref2_taken_takeAll_L1 l)) (o, ok, (k : Int)) = some (o', ok') ∧ (ok = false → ok' = false) ∧
      ∀ K, ok = true → RK o K → ok' = okB K (bitsC (l.drop k)) ∧ (ok' = true → RK o' (K ++ bitsC (l.drop k))) := by
    intro n
    induction n with
    | zero =>
      intro k o ok hk
      have : k = l.length := by omega
      subst this
      refine ⟨o, ok, ?_, fun h => h, fun K h hK => ?_⟩
      · rw [loop_eq]
        simp [ref2_taken_takeAll_L1]
      · simp [bitsC, okB, h, hK]
    | succ n ih =>
      intro k o ok hk
      obtain ⟨c, hc⟩ := get_ex (xs := l) (k := k) (by omega)
      have hlt := lt_of hc
      obtain ⟨hp1, hp2⟩ := hl.2 c (List.mem_of_getElem? hc)
      obtain ⟨o1, ok1, h1, h3⟩ := rtake_s hp1 hp2 o
      obtain ⟨o2, ok2, g1, g2, g3⟩ := ih (k + 1) o1 (if ok1 = true then ok else false) (by omega)
      have e : bitsC (l.drop k) = bitsL c.Places ++ bitsC (l.drop (k + 1)) := by rw [drop_cons hc]; simp [bitsC]
      have e2 : ((k : Nat) : Int) + 1 = ((k + 1 : Nat) : Int) := by push_cast; rfl
      refine ⟨o2, ok2, ?_, fun h => g2 (by simp [h]), fun K h hK => ?_⟩
      · rw [loop_eq]
        simp only [t3_mk, ref2_taken_takeAll_L1, hlt, decide_true, if_true, idx_of hc, Option.bind_some, h1]
        rw [i64s (by omega) (by omega), e2]
        cases ok1 <;> exact g1
      · rw [e, okB_app]
        obtain ⟨a1, a2⟩ := h3 K hK
        cases hok : ok1 with
        | false =>
          rw [← a1, hok, Bool.false_and]
          have := g2 (by simp [hok])
          exact ⟨this, fun h => by rw [this] at h; cases h⟩
        | true =>
          rw [← a1, hok, Bool.true_and]
          obtain ⟨b1, b2⟩ := g3 _ (by simp [hok, h]) (a2 hok)
          exact ⟨b1, fun h => by have := b2 h; simpa using this⟩
  obtain ⟨o', ok', h1, _, h3⟩ := key l.length 0 o true (by omega)
  unfold ref2_taken_takeAll
  have h1' : loop (t3 (ref2_taken_takeAll_L1 l)) (o, true, 0) = _ := h1
  rw [h1']
  exact ⟨o', ok', rfl, fun K hK => by simpa using h3 K rfl hK⟩
end Go.Vx

namespace Go.Vx
open Go Go.RowKit
theorem PartsOK.of {p : api_Param} (h1 : chkF p = 0) (h2 : chkT p = 0) : PartsOK p := by
  obtain ⟨hl, _, _⟩ := lenOK_of0 h1
  unfold chkT at h2
  split at h2
  · split at h2
    · rename_i ha hb
      exact ⟨hl, ha, fun x hx => List.all_eq_true.1 hb x hx⟩
    · cases h2
  · cases h2
theorem rowC_mem {number : Int} {p : api_Param} {out : List api_Cell} {f : Int} {c : api_Cell} (h : c ∈ rowC number p out f) : c ∈ out ∨ ∃ (i : Int) (j : Nat), j < p.Times.toNat ∧ c = cellL number p i f j := by
  unfold rowC at h
  rcases List.mem_append.1 h with h | h
  · exact .inl h
  · obtain ⟨j, hj, rfl⟩ := List.mem_map.1 h
    exact .inr ⟨_, j, by simpa using hj, rfl⟩
theorem fold_mem {number : Int} {p : api_Param} {c : api_Cell} : ∀ (fs : List Int) (out : List api_Cell), c ∈ fs.foldl (rowC number p) out → c ∈ out ∨ ∃ (i f : Int) (j : Nat), f ∈ fs ∧ j < p.Times.toNat ∧ c = cellL number p i f j
  | [], out, h => .inl h
  | f :: fs, out, h => by
    rcases fold_mem fs _ h with h | ⟨i, g, j, h1, h2, h3⟩
    · rcases rowC_mem h with h | ⟨i, j, h1, h2⟩
      · exact .inl h
      · exact .inr ⟨i, f, j, List.mem_cons_self, h1, h2⟩
    · exact .inr ⟨i, g, j, List.mem_cons_of_mem _ h1, h2, h3⟩
theorem cellsN_mem {number : Int} {p : api_Param} {c : api_Cell} (h : c ∈ cellsN number p) : ∃ (i f : Int) (j : Nat), f ∈ startsN p ∧ j < p.Times.toNat ∧ c = cellL number p i f j := by
  rcases fold_mem _ _ h with h | h
  · cases h
  · exact h
theorem cellsN_len {number : Int} {p : api_Param} (h : PartsOK p) : (cellsN number p).length ≤ 969 := by
  obtain ⟨_, _, hT, _⟩ := timA_iff h.tim
  have h1 := fold_len (number := number) (p := p) hT.2 (startsN p) []
  have h2 : (startsN p).length ≤ 17 := stL_len p 17 _
  unfold cellsN
  simp only [List.length_nil] at h1
  omega
theorem placeN_ok {p : api_Param} (h : PartsOK p) {x : api_Part} (hx : x ∈ p.Parts) (f j : Int) : placeOK (placeN p f j x) := by
  have := part_iff.1 (h.len.2 x hx)
  unfold placeOK placeN
  simp only
  omega
theorem cellsN_ok {number : Int} {p : api_Param} (h : PartsOK p) : cellsOK (cellsN number p) := by
  have h0 := cellsN_len (number := number) h
  refine ⟨by omega, fun c hc => ?_⟩
  obtain ⟨i, f, j, _, _, rfl⟩ := cellsN_mem hc
  have h8 := h.len.1
  refine ⟨by simp [cellL]; omega, fun x hx => ?_⟩
  obtain ⟨y, hy, rfl⟩ := List.mem_map.1 hx
  exact placeN_ok h hy _ _
theorem chk_loop {l : List api_Cell} (hl : cellsOK l) : loop (t2 (layout_CheckParam_L1 l)) (([] : List (layout_bit × Int)), 0) = some (cond (okB [] (bitsC l)) (.inr ()) (.inl 5)) := by
  have hl0 := hl.1
  have key : ∀ (n k : Nat) (o : List (layout_bit × Int)), k + n = l.length → loop (t2 (layout_CheckParam_L1 l)) (o, (k : Int)) = some (cond (okB (mkeys o) (bitsC (l.drop k))) (.inr ()) (.inl 5)) := by
    intro n
    induction n with
    | zero =>
      intro k o hk
      have : k = l.length := by omega
      subst this
      rw [loop_eq]
      simp [layout_CheckParam_L1, okB, bitsC]
    | succ n ih =>
      intro k o hk
      obtain ⟨c, hc⟩ := get_ex (xs := l) (k := k) (by omega)
      have hlt := lt_of hc
      obtain ⟨hp1, hp2⟩ := hl.2 c (List.mem_of_getElem? hc)
      obtain ⟨q, h1, h2⟩ := take_s 0 hp1 hp2 o
      have e : bitsC (l.drop k) = bitsL c.Places ++ bitsC (l.drop (k + 1)) := by rw [drop_cons hc]; simp [bitsC]
      have e2 : ((k : Nat) : Int) + 1 = ((k + 1 : Nat) : Int) := by push_cast; rfl
      rw [e, okB_app, loop_eq]
      simp only [t2_mk, layout_CheckParam_L1, hlt, decide_true, if_true, idx_of hc, Option.bind_some, h1]
      rw [i64s (by omega) (by omega), e2]
      cases hok : okB (mkeys o) (bitsL c.Places) with
      | false => rfl
      | true =>
        have h3 := h2 hok
        have := ih (k + 1) q (by omega)
        have e3 : mkeys q = mkeys o ++ bitsL c.Places := by rw [h3]; simp [mkeys, Function.comp_def]
        rw [e3] at this
        exact this
  have := key l.length 0 [] (by omega)
  exact this
def chkQ (p : api_Param) : Int := if nmL p.Name = true then (if wi p.Kind 1 6 = true then (if chkF p = 0 then (if chkT p = 0 then (if chkN p = 0 then (if okB [] (bitsC (cellsN 0 p)) = true then (if (cellsN 0 p).length = 0 then 13 else 0) else 5) else chkN p) else chkT p) else chkF p) else 7) else 8
theorem CheckParam_s (p : api_Param) : layout_CheckParam p = some (chkQ p) := by
  unfold layout_CheckParam chkQ
  rw [isName_s, Option.bind_some]
  cases h1 : nmL p.Name
  · rfl
  simp only [Bool.not_true, Bool.false_eq_true, if_false, if_true, within_s, Option.bind_some]
  cases h2 : wi p.Kind 1 6
  · rfl
  simp only [Bool.not_true, Bool.false_eq_true, if_false, if_true, parts_s, Option.bind_some]
  by_cases h3 : chkF p = 0
  · by_cases h4 : chkT p = 0
    · simp only [h3, h4, if_true, decide_true, Bool.not_true, Bool.false_eq_true, if_false, names_s h3, Option.bind_some]
      by_cases h5 : chkN p = 0
      · have hP := PartsOK.of h3 h4
        simp only [h5, if_true, decide_true, Bool.not_true, Bool.false_eq_true, if_false, cells_s hP, Option.bind_some, chk_loop (cellsN_ok hP)]
        cases okB [] (bitsC (cellsN 0 p))
        · rfl
        · by_cases h6 : (cellsN 0 p).length = 0
          · simp [h6]
          · have : ¬ (((cellsN 0 p).length : Nat) : Int) = 0 := by omega
            simp only [if_true, if_neg h6, Option.bind_some, cond_true, Sum.elim_inr, t0, this, decide_false, Bool.false_eq_true, if_false]
      · simp [h5]
    · simp [h3, h4]
  · simp [h3]
theorem rCheckParam_s (p : api_Param) (hs : wf_api_Param p) : ref2_CheckParam p = some (chkQ p) := by
  obtain ⟨w1, _, _, _, _, _, _, w2, _⟩ := hs
  unfold ref2_CheckParam chkQ
  rw [rName_s _ w1, Option.bind_some]
  cases h1 : nmL p.Name
  · rfl
  simp only [Bool.not_true, Bool.false_eq_true, if_false, if_true, outside_s, Option.bind_some]
  cases h2 : wi p.Kind 1 6
  · rfl
  simp only [Bool.not_true, Bool.false_eq_true, if_false, if_true, rParts_s, Option.bind_some]
  by_cases h3 : chkF p = 0
  · simp only [h3, if_true, decide_true, Bool.not_true, Bool.false_eq_true, if_false, rTimes_s h3, Option.bind_some]
    by_cases h4 : chkT p = 0
    · simp only [h4, if_true, decide_true, Bool.not_true, Bool.false_eq_true, if_false, rkind_s h3 (fun x hx => w2.2 x hx), Option.bind_some]
      by_cases h5 : chkN p = 0
      · have hP := PartsOK.of h3 h4
        obtain ⟨o', ok', g1, g2⟩ := rtakeAll_s (cellsN_ok (number := 0) hP) []
        obtain ⟨g3, _⟩ := g2 [] ⟨rfl, fun p hp => by cases hp⟩
        simp only [h5, if_true, decide_true, Bool.not_true, Bool.false_eq_true, if_false, rcells_s hP, Option.bind_some, g1, g3]
        cases okB [] (bitsC (cellsN 0 p))
        · rfl
        · by_cases h6 : (cellsN 0 p).length = 0
          · simp [h6]
          · have : ¬ (((cellsN 0 p).length : Nat) : Int) = 0 := by omega
            simp only [if_true, if_neg h6, this, decide_false, Bool.false_eq_true, if_false, Bool.not_true]
      · simp [h5]
    · simp [h4]
  · simp [h3]
structure ParOK (p : api_Param) : Prop extends PartsOK p where
  kind : 1 ≤ p.Kind ∧ p.Kind ≤ 6
  bits : 1 ≤ bitsN p ∧ bitsN p ≤ 40
  k4 : p.Kind = 4 → (bitsN p).tmod 4 = 0
  k5 : p.Kind = 5 → bitsN p = 1
  k23 : p.Kind = 2 ∨ p.Kind = 3 → 2 ≤ bitsN p
  k6 : p.Kind = 6 → 1 ≤ p.Names.length ∧ p.Names.length ≤ 64 ∧ (p.Names.length : Int) ≤ 2 ^ (bitsN p).toNat
  uniq : okB [] (bitsC (cellsN 0 p)) = true
theorem par_ok {p : api_Param} (h : chkQ p = 0) : ParOK p := by
  unfold chkQ at h
  by_cases h1 : nmL p.Name = true
  case neg => rw [if_neg h1] at h; cases h
  rw [if_pos h1] at h
  by_cases h2 : wi p.Kind 1 6 = true
  case neg => rw [if_neg h2] at h; cases h
  rw [if_pos h2] at h
  by_cases h3 : chkF p = 0
  case neg => rw [if_neg h3] at h; exact absurd h h3
  rw [if_pos h3] at h
  by_cases h4 : chkT p = 0
  case neg => rw [if_neg h4] at h; exact absurd h h4
  rw [if_pos h4] at h
  by_cases h5 : chkN p = 0
  case neg => rw [if_neg h5] at h; exact absurd h h5
  rw [if_pos h5] at h
  by_cases h6 : okB [] (bitsC (cellsN 0 p)) = true
  case neg => rw [if_neg h6] at h; cases h
  obtain ⟨hl, hl1, hl40⟩ := lenOK_of0 h3
  have hb1 : 1 ≤ bitsN p := by
    have := (sum_bd hl.2).1
    unfold bitsN; omega
  have h5' := h5
  unfold chkN at h5'
  have hk : kindBad p = false := by
    cases hk : kindBad p
    · rfl
    · rw [hk] at h5'; cases h5'
  rw [hk] at h5'
  simp only [kindBad, Bool.or_eq_false_iff, Bool.and_eq_false_iff] at hk
  refine { toPartsOK := PartsOK.of h3 h4, kind := wi_iff.1 h2, bits := ⟨hb1, hl40⟩, k4 := ?_, k5 := ?_, k23 := ?_, k6 := ?_, uniq := h6 }
  · intro e; simp [e] at hk; exact hk
  · intro e; simp [e] at hk; exact hk
  · intro e
    have : bitsN p ≠ 1 := by
      intro eb
      rcases e with e | e <;> simp [e, eb] at hk
    omega
  · intro e
    simp only [e, Bool.false_eq_true, if_false, if_true] at h5'
    split at h5'
    · cases h5'
    · split at h5'
      · cases h5'
      · rename_i a b
        simp only [Bool.or_eq_true, decide_eq_true_eq, not_or] at b
        exact ⟨by omega, by omega, by omega⟩
end Go.Vx
